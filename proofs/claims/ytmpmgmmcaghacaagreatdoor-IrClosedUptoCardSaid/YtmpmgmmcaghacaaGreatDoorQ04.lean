/- IrClosed returns true and changes nothing, for arguments of bulk at most 1048576 (the card of the second form; conditions: those of the given row). Names are shortened by a program, for the claim's bound. Part 4. -/
import Derived.Test.YtmpmgmmcaghacaaGreatDoorProg
import Derived.KernelRfl
import Derived.Ground.NamesProg
import Derived.Shelf.Strings.OnBuilder
import Derived.Shelf.SlMaps.Clone
import Derived.Shelf.SlicesE.Clone
import Derived.Shelf.SlicesE.Delete
import Derived.Ground.Names2Prog
import Derived.Shelf.Lays2
import Derived.Shelf.Slices.SearchI
import Derived.Shelf.Spec.SlicesInsert
import Derived.Shelf.Spec.SlicesInsertGrow
import Derived.Test.YtmpmgmmcaghacaaGreatDoorQ03
set_option linter.unusedVariables false
set_option linter.unusedSimpArgs false
set_option maxRecDepth 100000
set_option maxHeartbeats 4000000
namespace Go.Proofs.YtmpmgmmcaghacaaGreatDoor
open Go.Tp
abbrev ZB:TI:=⟨.struct [(0,3),(1,3),(2,23),(3,24)],4,64,.agg #[.int .i64 0,.int .i64 0,.slice none 0 0,.slice none 0 0]⟩
abbrev ZA:TI:=⟨.struct [(0,3),(1,9),(2,3),(3,38)],4,56,.agg #[.int .i64 0,.string ⟨#[]⟩,.int .i64 0,.slice none 0 0]⟩
abbrev Zz:TI:=⟨.struct [(0,3),(1,2),(2,9),(3,41)],4,56,.agg #[.int .i64 0,.int .i64 0,.string ⟨#[]⟩,.slice none 0 0]⟩
abbrev Zy:TI:=⟨.struct [(0,3),(1,3),(2,3),(3,3),(4,3),(5,9),(6,22),(7,40),(11,43)],15,192,.agg #[.int .i64 0,.int .i64 0,.int .i64 0,.int .i64 0,.int .i64 0,.string ⟨#[]⟩,.slice none 0 0,.int .i64 0,.string ⟨#[]⟩,.int .i64 0,.slice none 0 0,.int .i64 0,.int .i64 0,.string ⟨#[]⟩,.slice none 0 0]⟩
abbrev Zx:TI:=⟨.struct [(0,9),(1,3),(2,40),(6,4),(7,49)],8,112,.agg #[.string ⟨#[]⟩,.int .i64 0,.int .i64 0,.string ⟨#[]⟩,.int .i64 0,.slice none 0 0,.bool false,.slice none 0 0]⟩
abbrev Zw:TI:=⟨.struct [(0,3),(1,51),(9,9),(10,40),(14,3),(15,26),(19,9)],20,280,.agg #[.int .i64 0,.string ⟨#[]⟩,.int .i64 0,.int .i64 0,.string ⟨#[]⟩,.int .i64 0,.slice none 0 0,.bool false,.slice none 0 0,.string ⟨#[]⟩,.int .i64 0,.string ⟨#[]⟩,.int .i64 0,.slice none 0 0,.int .i64 0,.int .i64 0,.int .i64 0,.slice none 0 0,.slice none 0 0,.string ⟨#[]⟩]⟩
abbrev Zv:TI:=⟨.struct [(0,22),(1,3)],2,32,.agg #[.slice none 0 0,.int .i64 0]⟩
abbrev Zu:TI:=⟨.struct [(0,74),(1,75)],2,32,.agg #[.pointer none,.slice none 0 0]⟩
abbrev Ui:TI:=⟨.struct [(0,9),(1,4),(2,4),(3,4),(4,4),(5,4),(6,4),(7,4),(8,4),(9,4),(10,4),(11,4)],12,32,.agg #[.string ⟨#[]⟩,.bool false,.bool false,.bool false,.bool false,.bool false,.bool false,.bool false,.bool false,.bool false,.bool false,.bool false]⟩
abbrev Uh:TI:=⟨.struct [(0,4),(1,4),(2,4),(3,4),(4,4),(5,4),(6,4),(7,4)],8,8,.agg #[.bool false,.bool false,.bool false,.bool false,.bool false,.bool false,.bool false,.bool false]⟩
abbrev Ug:TI:=⟨.array 23 101,276,736,.agg #[.string ⟨#[]⟩,.bool false,.bool false,.bool false,.bool false,.bool false,.bool false,.bool false,.bool false,.bool false,.bool false,.bool false,.string ⟨#[]⟩,.bool false,.bool false,.bool false,.bool false,.bool false,.bool false,.bool false,.bool false,.bool false,.bool false,.bool false,.string ⟨#[]⟩,.bool false,.bool false,.bool false,.bool false,.bool false,.bool false,.bool false,.bool false,.bool false,.bool false,.bool false,.string ⟨#[]⟩,.bool false,.bool false,.bool false,.bool false,.bool false,.bool false,.bool false,.bool false,.bool false,.bool false,.bool false,.string ⟨#[]⟩,.bool false,.bool false,.bool false,.bool false,.bool false,.bool false,.bool false,.bool false,.bool false,.bool false,.bool false,.string ⟨#[]⟩,.bool false,.bool false,.bool false,.bool false,.bool false,.bool false,.bool false,.bool false,.bool false,.bool false,.bool false,.string ⟨#[]⟩,.bool false,.bool false,.bool false,.bool false,.bool false,.bool false,.bool false,.bool false,.bool false,.bool false,.bool false,.string ⟨#[]⟩,.bool false,.bool false,.bool false,.bool false,.bool false,.bool false,.bool false,.bool false,.bool false,.bool false,.bool false,.string ⟨#[]⟩,.bool false,.bool false,.bool false,.bool false,.bool false,.bool false,.bool false,.bool false,.bool false,.bool false,.bool false,.string ⟨#[]⟩,.bool false,.bool false,.bool false,.bool false,.bool false,.bool false,.bool false,.bool false,.bool false,.bool false,.bool false,.string ⟨#[]⟩,.bool false,.bool false,.bool false,.bool false,.bool false,.bool false,.bool false,.bool false,.bool false,.bool false,.bool false,.string ⟨#[]⟩,.bool false,.bool false,.bool false,.bool false,.bool false,.bool false,.bool false,.bool false,.bool false,.bool false,.bool false,.string ⟨#[]⟩,.bool false,.bool false,.bool false,.bool false,.bool false,.bool false,.bool false,.bool false,.bool false,.bool false,.bool false,.string ⟨#[]⟩,.bool false,.bool false,.bool false,.bool false,.bool false,.bool false,.bool false,.bool false,.bool false,.bool false,.bool false,.string ⟨#[]⟩,.bool false,.bool false,.bool false,.bool false,.bool false,.bool false,.bool false,.bool false,.bool false,.bool false,.bool false,.string ⟨#[]⟩,.bool false,.bool false,.bool false,.bool false,.bool false,.bool false,.bool false,.bool false,.bool false,.bool false,.bool false,.string ⟨#[]⟩,.bool false,.bool false,.bool false,.bool false,.bool false,.bool false,.bool false,.bool false,.bool false,.bool false,.bool false,.string ⟨#[]⟩,.bool false,.bool false,.bool false,.bool false,.bool false,.bool false,.bool false,.bool false,.bool false,.bool false,.bool false,.string ⟨#[]⟩,.bool false,.bool false,.bool false,.bool false,.bool false,.bool false,.bool false,.bool false,.bool false,.bool false,.bool false,.string ⟨#[]⟩,.bool false,.bool false,.bool false,.bool false,.bool false,.bool false,.bool false,.bool false,.bool false,.bool false,.bool false,.string ⟨#[]⟩,.bool false,.bool false,.bool false,.bool false,.bool false,.bool false,.bool false,.bool false,.bool false,.bool false,.bool false,.string ⟨#[]⟩,.bool false,.bool false,.bool false,.bool false,.bool false,.bool false,.bool false,.bool false,.bool false,.bool false,.bool false,.string ⟨#[]⟩,.bool false,.bool false,.bool false,.bool false,.bool false,.bool false,.bool false,.bool false,.bool false,.bool false,.bool false]⟩
abbrev Uf:TI:=⟨.struct [(0,9),(1,40)],5,72,.agg #[.string ⟨#[]⟩,.int .i64 0,.string ⟨#[]⟩,.int .i64 0,.slice none 0 0]⟩
abbrev Ue:TI:=⟨.struct [(0,3),(1,3)],2,16,.agg #[.int .i64 0,.int .i64 0]⟩
abbrev Ud:TI:=⟨.array 24 5,24,24,.agg #[.int .u8 0,.int .u8 0,.int .u8 0,.int .u8 0,.int .u8 0,.int .u8 0,.int .u8 0,.int .u8 0,.int .u8 0,.int .u8 0,.int .u8 0,.int .u8 0,.int .u8 0,.int .u8 0,.int .u8 0,.int .u8 0,.int .u8 0,.int .u8 0,.int .u8 0,.int .u8 0,.int .u8 0,.int .u8 0,.int .u8 0,.int .u8 0]⟩
theorem acD:TI.ok Tryz.prog 2 ⟨.int .i64,1,8,.int .i64 0⟩:=⟨⟨Tryz.t2,by kernel_rfl,rfl,rfl,rfl,rfl⟩,Tryz.underlying2⟩
theorem acC:TI.ok Tryz.prog 3 ⟨.int .i64,1,8,.int .i64 0⟩:=⟨⟨Tryz.t3,by kernel_rfl,rfl,rfl,rfl,rfl⟩,Tryz.underlying3⟩
theorem acB:TI.ok Tryz.prog 4 ⟨.bool,1,1,.bool false⟩:=⟨⟨Tryz.t4,by kernel_rfl,rfl,rfl,rfl,rfl⟩,Tryz.underlying4⟩
theorem acA:TI.ok Tryz.prog 5 ⟨.int .u8,1,1,.int .u8 0⟩:=⟨⟨Tryz.t5,by kernel_rfl,rfl,rfl,rfl,rfl⟩,Tryz.underlying5⟩
theorem acz:TI.ok Tryz.prog 9 ⟨.string,1,16,.string ⟨#[]⟩⟩:=⟨⟨Tryz.t9,by kernel_rfl,rfl,rfl,rfl,rfl⟩,Tryz.underlying9⟩
theorem Zr:TI.ok Tryz.prog 22 ⟨.slice 3,1,24,.slice none 0 0⟩:=⟨⟨Tryz.t22,by kernel_rfl,rfl,rfl,rfl,rfl⟩,Tryz.underlying22⟩
theorem Zq:TI.ok Tryz.prog 23 ⟨.slice 45,1,24,.slice none 0 0⟩:=⟨⟨Tryz.t23,by kernel_rfl,rfl,rfl,rfl,rfl⟩,Tryz.underlying23⟩
theorem Zp:TI.ok Tryz.prog 24 ⟨.slice 54,1,24,.slice none 0 0⟩:=⟨⟨Tryz.t24,by kernel_rfl,rfl,rfl,rfl,rfl⟩,Tryz.underlying24⟩
theorem Zo:TI.ok Tryz.prog 26 ZB:=⟨⟨Tryz.t26,by kernel_rfl,rfl,rfl,rfl,rfl⟩,⟨_,Tryz.underlying26,rfl,[(0,1),(1,1),(2,1),(3,1)],by kernel_rfl⟩⟩
theorem Zn:TI.ok Tryz.prog 28 ⟨.pointer,1,8,.pointer none⟩:=⟨⟨Tryz.t28,by kernel_rfl,rfl,rfl,rfl,rfl⟩,⟨_,Tryz.underlying28⟩⟩
theorem Zm:TI.ok Tryz.prog 32 ⟨.int .i64,1,8,.int .i64 0⟩:=⟨⟨Tryz.t32,by kernel_rfl,rfl,rfl,rfl,rfl⟩,Tryz.underlying32⟩
theorem Zl:TI.ok Tryz.prog 35 ⟨.slice 4,1,24,.slice none 0 0⟩:=⟨⟨Tryz.t35,by kernel_rfl,rfl,rfl,rfl,rfl⟩,Tryz.underlying35⟩
theorem Zk:TI.ok Tryz.prog 38 ⟨.slice 40,1,24,.slice none 0 0⟩:=⟨⟨Tryz.t38,by kernel_rfl,rfl,rfl,rfl,rfl⟩,Tryz.underlying38⟩
theorem Zj:TI.ok Tryz.prog 40 ZA:=⟨⟨Tryz.t40,by kernel_rfl,rfl,rfl,rfl,rfl⟩,⟨_,Tryz.underlying40,rfl,[(0,1),(1,1),(2,1),(3,1)],by kernel_rfl⟩⟩
theorem Zi:TI.ok Tryz.prog 41 ⟨.slice 43,1,24,.slice none 0 0⟩:=⟨⟨Tryz.t41,by kernel_rfl,rfl,rfl,rfl,rfl⟩,Tryz.underlying41⟩
theorem Zh:TI.ok Tryz.prog 43 Zz:=⟨⟨Tryz.t43,by kernel_rfl,rfl,rfl,rfl,rfl⟩,⟨_,Tryz.underlying43,rfl,[(0,1),(1,1),(2,1),(3,1)],by kernel_rfl⟩⟩
theorem Zg:TI.ok Tryz.prog 45 Zy:=⟨⟨Tryz.t45,by kernel_rfl,rfl,rfl,rfl,rfl⟩,⟨_,Tryz.underlying45,rfl,[(0,1),(1,1),(2,1),(3,1),(4,1),(5,1),(6,1),(7,4),(11,4)],by kernel_rfl⟩⟩
theorem Zf:TI.ok Tryz.prog 49 ⟨.slice 139,1,24,.slice none 0 0⟩:=⟨⟨Tryz.t49,by kernel_rfl,rfl,rfl,rfl,rfl⟩,Tryz.underlying49⟩
theorem Ze:TI.ok Tryz.prog 51 Zx:=⟨⟨Tryz.t51,by kernel_rfl,rfl,rfl,rfl,rfl⟩,⟨_,Tryz.underlying51,rfl,[(0,1),(1,1),(2,4),(6,1),(7,1)],by kernel_rfl⟩⟩
theorem Zd:TI.ok Tryz.prog 53 Zw:=⟨⟨Tryz.t53,by kernel_rfl,rfl,rfl,rfl,rfl⟩,⟨_,Tryz.underlying53,rfl,[(0,1),(1,8),(9,1),(10,4),(14,1),(15,4),(19,1)],by kernel_rfl⟩⟩
theorem Zc:TI.ok Tryz.prog 54 ⟨.slice 53,1,24,.slice none 0 0⟩:=⟨⟨Tryz.t54,by kernel_rfl,rfl,rfl,rfl,rfl⟩,Tryz.underlying54⟩
theorem Zb:TI.ok Tryz.prog 67 Zv:=⟨⟨Tryz.t67,by kernel_rfl,rfl,rfl,rfl,rfl⟩,⟨_,Tryz.underlying67,rfl,[(0,1),(1,1)],by kernel_rfl⟩⟩
theorem Za:TI.ok Tryz.prog 70 ⟨.slice 9,1,24,.slice none 0 0⟩:=⟨⟨Tryz.t70,by kernel_rfl,rfl,rfl,rfl,rfl⟩,Tryz.underlying70⟩
theorem Y9:TI.ok Tryz.prog 74 ⟨.pointer,1,8,.pointer none⟩:=⟨⟨Tryz.t74,by kernel_rfl,rfl,rfl,rfl,rfl⟩,⟨_,Tryz.underlying74⟩⟩
theorem Y8:TI.ok Tryz.prog 75 ⟨.slice 5,1,24,.slice none 0 0⟩:=⟨⟨Tryz.t75,by kernel_rfl,rfl,rfl,rfl,rfl⟩,Tryz.underlying75⟩
theorem Y7:TI.ok Tryz.prog 77 Zu:=⟨⟨Tryz.t77,by kernel_rfl,rfl,rfl,rfl,rfl⟩,⟨_,Tryz.underlying77,rfl,[(0,1),(1,1)],by kernel_rfl⟩⟩
theorem Vp:TI.ok Tryz.prog 101 Ui:=⟨⟨Tryz.t101,by kernel_rfl,rfl,rfl,rfl,rfl⟩,⟨_,Tryz.underlying101,rfl,[(0,1),(1,1),(2,1),(3,1),(4,1),(5,1),(6,1),(7,1),(8,1),(9,1),(10,1),(11,1)],by kernel_rfl⟩⟩
theorem Vo:TI.ok Tryz.prog 108 Uh:=⟨⟨Tryz.t108,by kernel_rfl,rfl,rfl,rfl,rfl⟩,⟨_,Tryz.underlying108,rfl,[(0,1),(1,1),(2,1),(3,1),(4,1),(5,1),(6,1),(7,1)],by kernel_rfl⟩⟩
theorem Vn:TI.ok Tryz.prog 112 ⟨.slice 51,1,24,.slice none 0 0⟩:=⟨⟨Tryz.t112,by kernel_rfl,rfl,rfl,rfl,rfl⟩,Tryz.underlying112⟩
theorem Vm:TI.ok Tryz.prog 122 ⟨.pointer,1,8,.pointer none⟩:=⟨⟨Tryz.t122,by kernel_rfl,rfl,rfl,rfl,rfl⟩,⟨_,Tryz.underlying122⟩⟩
theorem Vl:TI.ok Tryz.prog 131 Ug:=⟨⟨Tryz.t131,by kernel_rfl,rfl,rfl,rfl,rfl⟩,Tryz.underlying131⟩
theorem Vk:TI.ok Tryz.prog 134 ⟨.int .u64,1,8,.int .u64 0⟩:=⟨⟨Tryz.t134,by kernel_rfl,rfl,rfl,rfl,rfl⟩,Tryz.underlying134⟩
theorem Vj:TI.ok Tryz.prog 139 Uf:=⟨⟨Tryz.t139,by kernel_rfl,rfl,rfl,rfl,rfl⟩,⟨_,Tryz.underlying139,rfl,[(0,1),(1,4)],by kernel_rfl⟩⟩
theorem Vi:TI.ok Tryz.prog 142 ⟨.func,1,8,.nilFunc⟩:=⟨⟨Tryz.t142,by kernel_rfl,rfl,rfl,rfl,rfl⟩,⟨_,_,_,Tryz.underlying142⟩⟩
theorem Vh:TI.ok Tryz.prog 145 Ue:=⟨⟨Tryz.t145,by kernel_rfl,rfl,rfl,rfl,rfl⟩,⟨_,Tryz.underlying145,rfl,[(0,1),(1,1)],by kernel_rfl⟩⟩
theorem Vg:TI.ok Tryz.prog 146 ⟨.slice 145,1,24,.slice none 0 0⟩:=⟨⟨Tryz.t146,by kernel_rfl,rfl,rfl,rfl,rfl⟩,Tryz.underlying146⟩
theorem Vf:TI.ok Tryz.prog 162 ⟨.int .u64,1,8,.int .u64 0⟩:=⟨⟨Tryz.t162,by kernel_rfl,rfl,rfl,rfl,rfl⟩,Tryz.underlying162⟩
theorem Ve:TI.ok Tryz.prog 170 ⟨.int .i64,1,8,.int .i64 0⟩:=⟨⟨Tryz.t170,by kernel_rfl,rfl,rfl,rfl,rfl⟩,Tryz.underlying170⟩
theorem Vd:TI.ok Tryz.prog 178 ⟨.int .u32,1,4,.int .u32 0⟩:=⟨⟨Tryz.t178,by kernel_rfl,rfl,rfl,rfl,rfl⟩,Tryz.underlying178⟩
theorem Vc:TI.ok Tryz.prog 182 ⟨.func,1,8,.nilFunc⟩:=⟨⟨Tryz.t182,by kernel_rfl,rfl,rfl,rfl,rfl⟩,⟨_,_,_,Tryz.underlying182⟩⟩
theorem Vb:TI.ok Tryz.prog 186 Ud:=⟨⟨Tryz.t186,by kernel_rfl,rfl,rfl,rfl,rfl⟩,Tryz.underlying186⟩
theorem Va:TI.ok Tryz.prog 195 ⟨.int .u64,1,8,.int .u64 0⟩:=⟨⟨Tryz.t195,by kernel_rfl,rfl,rfl,rfl,rfl⟩,Tryz.underlying195⟩
theorem U9:TI.ok Tryz.prog 199 ⟨.pointer,1,8,.pointer none⟩:=⟨⟨Tryz.t199,by kernel_rfl,rfl,rfl,rfl,rfl⟩,⟨_,Tryz.underlying199⟩⟩
theorem U8:TI.ok Tryz.prog 202 ⟨.struct [(0,22)],1,24,.agg #[.slice none 0 0]⟩:=⟨⟨Tryz.t202,by kernel_rfl,rfl,rfl,rfl,rfl⟩,⟨_,Tryz.underlying202,rfl,[(0,1)],by kernel_rfl⟩⟩
theorem U7:TI.ok Tryz.prog 204 ⟨.pointer,1,8,.pointer none⟩:=⟨⟨Tryz.t204,by kernel_rfl,rfl,rfl,rfl,rfl⟩,⟨_,Tryz.underlying204⟩⟩
def Ub:Tr:=(.node (.node (.node (.node (.node (.node .nil 2 ⟨.int .i64,1,8,.int .i64 0⟩ .nil) 3 ⟨.int .i64,1,8,.int .i64 0⟩ .nil) 4 ⟨.bool,1,1,.bool false⟩ (.node (.node .nil 5 ⟨.int .u8,1,1,.int .u8 0⟩ .nil) 9 ⟨.string,1,16,.string ⟨#[]⟩⟩ .nil)) 22 ⟨.slice 3,1,24,.slice none 0 0⟩ (.node (.node (.node .nil 23 ⟨.slice 45,1,24,.slice none 0 0⟩ .nil) 24 ⟨.slice 54,1,24,.slice none 0 0⟩ .nil) 26 ZB (.node (.node .nil 28 ⟨.pointer,1,8,.pointer none⟩ .nil) 32 ⟨.int .i64,1,8,.int .i64 0⟩ .nil))) 35 ⟨.slice 4,1,24,.slice none 0 0⟩ (.node (.node (.node (.node .nil 38 ⟨.slice 40,1,24,.slice none 0 0⟩ .nil) 40 ZA .nil) 41 ⟨.slice 43,1,24,.slice none 0 0⟩ (.node (.node .nil 43 Zz .nil) 45 Zy .nil)) 49 ⟨.slice 139,1,24,.slice none 0 0⟩ (.node (.node (.node .nil 51 Zx .nil) 53 Zw .nil) 54 ⟨.slice 53,1,24,.slice none 0 0⟩ (.node .nil 67 Zv .nil)))) 70 ⟨.slice 9,1,24,.slice none 0 0⟩ (.node (.node (.node (.node (.node .nil 74 ⟨.pointer,1,8,.pointer none⟩ .nil) 75 ⟨.slice 5,1,24,.slice none 0 0⟩ .nil) 77 Zu (.node (.node .nil 101 Ui .nil) 108 Uh .nil)) 112 ⟨.slice 51,1,24,.slice none 0 0⟩ (.node (.node (.node .nil 122 ⟨.pointer,1,8,.pointer none⟩ .nil) 131 Ug .nil) 134 ⟨.int .u64,1,8,.int .u64 0⟩ (.node (.node .nil 139 Uf .nil) 142 ⟨.func,1,8,.nilFunc⟩ .nil))) 145 Ue (.node (.node (.node (.node .nil 146 ⟨.slice 145,1,24,.slice none 0 0⟩ .nil) 162 ⟨.int .u64,1,8,.int .u64 0⟩ .nil) 170 ⟨.int .i64,1,8,.int .i64 0⟩ (.node (.node .nil 178 ⟨.int .u32,1,4,.int .u32 0⟩ .nil) 182 ⟨.func,1,8,.nilFunc⟩ .nil)) 186 Ud (.node (.node (.node .nil 195 ⟨.int .u64,1,8,.int .u64 0⟩ .nil) 199 ⟨.pointer,1,8,.pointer none⟩ .nil) 202 ⟨.struct [(0,22)],1,24,.agg #[.slice none 0 0]⟩ (.node .nil 204 ⟨.pointer,1,8,.pointer none⟩ .nil)))))
theorem MM:Ub.GI Tryz.prog:=(Tr.ag (Tr.ag (Tr.ag (Tr.ag (Tr.ag (Tr.ag Tr.all_nil acD Tr.all_nil) acC Tr.all_nil) acB (Tr.ag (Tr.ag Tr.all_nil acA Tr.all_nil) acz Tr.all_nil)) Zr (Tr.ag (Tr.ag (Tr.ag Tr.all_nil Zq Tr.all_nil) Zp Tr.all_nil) Zo (Tr.ag (Tr.ag Tr.all_nil Zn Tr.all_nil) Zm Tr.all_nil))) Zl (Tr.ag (Tr.ag (Tr.ag (Tr.ag Tr.all_nil Zk Tr.all_nil) Zj Tr.all_nil) Zi (Tr.ag (Tr.ag Tr.all_nil Zh Tr.all_nil) Zg Tr.all_nil)) Zf (Tr.ag (Tr.ag (Tr.ag Tr.all_nil Ze Tr.all_nil) Zd Tr.all_nil) Zc (Tr.ag Tr.all_nil Zb Tr.all_nil)))) Za (Tr.ag (Tr.ag (Tr.ag (Tr.ag (Tr.ag Tr.all_nil Y9 Tr.all_nil) Y8 Tr.all_nil) Y7 (Tr.ag (Tr.ag Tr.all_nil Vp Tr.all_nil) Vo Tr.all_nil)) Vn (Tr.ag (Tr.ag (Tr.ag Tr.all_nil Vm Tr.all_nil) Vl Tr.all_nil) Vk (Tr.ag (Tr.ag Tr.all_nil Vj Tr.all_nil) Vi Tr.all_nil))) Vh (Tr.ag (Tr.ag (Tr.ag (Tr.ag Tr.all_nil Vg Tr.all_nil) Vf Tr.all_nil) Ve (Tr.ag (Tr.ag Tr.all_nil Vd Tr.all_nil) Vc Tr.all_nil)) Vb (Tr.ag (Tr.ag (Tr.ag Tr.all_nil Va Tr.all_nil) U9 Tr.all_nil) U8 (Tr.ag Tr.all_nil U7 Tr.all_nil)))))
def efn (f:Nat):Bool:=Nat.ble 0 f&&Nat.ble f 215&&!(match f with|0=>true|1=>true|111=>true|189=>true|212=>true|_=>false)
def ety (t:Nat):Option TI:=match t with
  | 0=>none
  | t=>Ub.find t
def env (pr:ak):bu:=⟨ety,efn,pr⟩
theorem Yb:(List.range 216).all (fun k=>!(efn (0+k))||Yc Tryz.prog (0+k))=true:=by kernel_rfl
theorem Md (f:Nat) (h:efn f=true):0≤f∧f≤215:=by
  unfold efn at h;simp only[Bool.and_eq_true,Nat.ble_eq] at h;exact h.1
theorem abQ (f:Nat) (h:efn f=true):Yc Tryz.prog f=true:=by
  have hb:=Md f h;have h1:=List.all_eq_true.1 Yb (f - 0) (List.mem_range.2 (by omega));rw[show 0+(f - 0)=f by omega] at h1;rw[h,Bool.not_true,Bool.false_or] at h1;exact h1
theorem Yk:(env ak.mD).Ok Tryz.prog where
  ty t i h:=by
    have h:ety t=some i:=h;unfold ety at h
    split at h
    · simp at h
    · exact Tr.Dz MM h
  fn f h:=by
    have h1:=abQ f h;unfold Yc at h1
    split at h1
    · rename_i g hg;simp at h1;exact⟨g,hg,by simp[h1.1],by simpa using h1.2⟩
    · simp at h1
  mixed:=by kernel_rfl
  mD:=rfl
def bS:FuncId→Bool:=fun f=>match f with|207=>true|_=>false
def bg:FuncId→Bool:=fun f=>match f with|4000000=>true|1000011=>true|1000015=>true|1000021=>true|1000024=>true|1000026=>true|1000027=>true|1000040=>true|1000068=>true|1000071=>true|1000195=>true|2000042=>true|2000075=>true|2000076=>true|2000086=>true|2000104=>true|2000113=>true|2000114=>true|_=>false
def qQ (n:Nat):Nat×Bool:=(n,false)
def lL (n:Nat):Nat×Bool:=(n,true)
def lv (l:List Nat) (n:Nat):Nat:=(l[n]?).getD 0
abbrev Fk (k:FuncId) (f:Func) (o:Nat→au):Prop:=Kz Tryz.prog bS bg k f o
def OE:Nat→au:=fun _=>default
def sQ:Nat→Nat:=lv [1,8,16392,4,24,17179869208,4,56,549755813944,56,120,248,36893488147419103352,4,376,590295810358705652088,376,2535301200456458802993406411128,4,4]
theorem ac3:Fk 4 Tryz.f4 OE:=ao Tryz.func4 (by kernel_rfl)
def Ss:Nat→au:=fun n=>match n with|2=>⟨[qQ 0,qQ 1,qQ 2,qQ 3,lL 4,qQ 5,qQ 6],none,[],[7]⟩|6=>⟨[qQ 0,qQ 1,qQ 2,qQ 3,qQ 4,lL 5,qQ 6,qQ 7,lL 8,qQ 9],none,[1],[10]⟩|11=>⟨[qQ 0,qQ 1,qQ 2,qQ 3,qQ 4,qQ 5,qQ 6,qQ 7,qQ 8,lL 9,qQ 10,lL 11,qQ 12],none,[1],[13]⟩|_=>default
def BV:Nat→Nat:=lv [19,51,51,115,67108979,115,115,177,433,35184372089265,433,433,561,295147905179352826416,560,48,16]
theorem ac2:Fk 9 Tryz.f9 Ss:=ao Tryz.func9 (by kernel_rfl)
def Pd:Nat→au:=fun _=>default
def PM:Nat→Nat:=lv [1,4]
theorem abP:Fk 10 Tryz.f10 Pd:=ao Tryz.func10 (by kernel_rfl)
def UJ:Nat→au:=fun _=>default
def WD:Nat→Nat:=lv [0,2,1]
theorem abO:Fk 12 Tryz.f12 UJ:=ao Tryz.func12 (by kernel_rfl)
def O6:Nat→au:=fun _=>default
def PL:Nat→Nat:=lv [2,4]
theorem abN:Fk 13 Tryz.f13 O6:=ao Tryz.func13 (by kernel_rfl)
def OZ:Nat→au:=fun _=>default
def PK:Nat→Nat:=lv [2,4]
theorem abM:Fk 14 Tryz.f14 OZ:=ao Tryz.func14 (by kernel_rfl)
def JS:Nat→au:=fun _=>default
def zn:Nat→Nat:=lv [2,258,4,10,3003985155588732199796526688696546394759520156960453239137000527188219477890032393218253457679569925924375796190031217328064022610195266780015311018451388619587046881535751518620430918911416746246474582040338723879268502297038139168674565801559891834818872678886531680431482806531909912547606498917344861775251053622572223492003708271461890400503675736519910229796223469276395832797993219483244832799186800706307630662532338056406841955603174568849425029593259262136099158541339648527000661814266311674212224237782346531503153103773220118148349728485644924095540437765812697125600108724097871101369757013578503227263083833854571630074040265436095081840953359259122542508421585256506267190031596543711460359770475719876211410983875607636170808760382917392976326497924015426176552469556791425154620801219003881225526074981501851552675507400618626134902489575625898118059110240271784129047750213892216551831392337463081291070135188136690380221113729732448403642082429591810611684336275349333433153581985561691354936881199780929194305207448398540130416979827317738117997128356836937501879778555196804092411489810606822959379347974314495937741593815822397085955012792325809300523801527512035035544980574238360245822875643912711158680426150137392945124700895950971323415849095007711380800546028109811220189588112633293304613515429193502075010016044484871746321103952458504661188350855044795685779899812426528576834239435315794685219338790155515032023767383344305480181659912175634872958315477952980167486603065951964292301689451622313784074322313242,65562,58,58,4294967354,58,26,4]
theorem abL:Fk 15 Tryz.f15 JS:=ao Tryz.func15 (by kernel_rfl)
def OR:Nat→au:=fun _=>default
def PJ:Nat→Nat:=lv [6,8198,16,16]
theorem abK:Fk 16 Tryz.f16 OR:=ao Tryz.func16 (by kernel_rfl)
def UI:Nat→au:=fun n=>match n with|4=>⟨[qQ 0,qQ 1,qQ 5,qQ 6,lL 2,qQ 3,qQ 4,lL 7,qQ 8,qQ 9],none,[],[10]⟩|8=>⟨[qQ 0,qQ 3,lL 1,qQ 2,lL 4,qQ 5,qQ 6],none,[],[7]⟩|_=>default
def WC:Nat→Nat:=lv [2,258,4,10,10,14680072,31457288,14680120,14680072,14680072,4]
theorem abJ:Fk 17 Tryz.f17 UI:=ao Tryz.func17 (by kernel_rfl)
def yU:Nat→au:=fun n=>match n with|6=>⟨[qQ 0,qQ 1,qQ 2,qQ 3,qQ 4,qQ 5,qQ 6,qQ 7,qQ 8,qQ 9],none,[],[10,11]⟩|11=>⟨[qQ 0,qQ 1,qQ 2,qQ 3,qQ 4,qQ 5,qQ 6,qQ 7,qQ 8,qQ 9],none,[],[10,11]⟩|_=>default
def iO:Nat→Nat:=lv [12,68719476748,16,44,2199023255596,44,36028797018964012,16,76,1152921504606847052,76,18889465931478580854860,16,16]
theorem abI:Fk 20 Tryz.f20 yU:=ao Tryz.func20 (by kernel_rfl)
def OH:Nat→au:=fun _=>default
def PI:Nat→Nat:=lv [3,3,515,1,16]
theorem abH:Fk 28 Tryz.f28 OH:=ao Tryz.func28 (by kernel_rfl)
def OG:Nat→au:=fun _=>default
def PH:Nat→Nat:=lv [6,32774,16,38,102,4194406,12583014,16,272629862,272629862,16,2147483750,38,4398046511138,32,16]
theorem abG:Fk 29 Tryz.f29 OG:=ao Tryz.func29 (by kernel_rfl)
def OF:Nat→au:=fun n=>match n with|1=>⟨[qQ 0,qQ 1,qQ 2,qQ 3,qQ 4,qQ 5,qQ 6,qQ 7,qQ 8,qQ 9],none,[],[]⟩|4=>⟨[qQ 0,qQ 1,qQ 2,qQ 3,qQ 4,qQ 5,qQ 6,qQ 7,qQ 8,qQ 9,qQ 10,qQ 11],none,[],[12,13]⟩|_=>default
def PG:Nat→Nat:=lv [3,16387,16,3,16]
theorem abF:Fk 32 Tryz.f32 OF:=ao Tryz.func32 (by kernel_rfl)
def sG:Nat→au:=fun n=>match n with|6=>⟨[qQ 0,qQ 1,qQ 2,qQ 3,qQ 7,lL 4,qQ 5,qQ 6,qQ 8],none,[],[9]⟩|11=>⟨[qQ 0,qQ 1,qQ 2,qQ 3,qQ 7,qQ 8,qQ 9,qQ 10,lL 4,qQ 5,qQ 6,qQ 11],none,[],[12]⟩|16=>⟨[qQ 0,qQ 1,qQ 2,lL 3,lL 4,qQ 5,lL 6,qQ 7],none,[1],[8]⟩|17=>⟨[qQ 0,qQ 1,qQ 2,qQ 3,qQ 7,qQ 8,qQ 9,qQ 10,lL 4,qQ 5,qQ 6,qQ 11],none,[],[12]⟩|_=>default
def nt:Nat→Nat:=lv [19,51,32819,98355,16,16810035,16,34359738419,16,113,2251799813685361,16,209,465,295147905179352826321,465,465,16]
theorem abE:Fk 33 Tryz.f33 sG:=ao Tryz.func33 (by kernel_rfl)
def fG:Nat→au:=fun n=>match n with|15=>⟨[qQ 0,qQ 1,qQ 2,qQ 3,qQ 4,qQ 5,qQ 9,lL 6,lL 7,lL 8,lL 10,lL 11,lL 12],none,[],[2000000,13,14]⟩|17=>⟨[qQ 0,qQ 1,qQ 2,qQ 3,qQ 4,qQ 5,qQ 9,lL 6,lL 7,lL 8,lL 10,lL 11,lL 12],none,[],[2000000,13,14]⟩|26=>⟨[qQ 0,qQ 1,qQ 2,qQ 3,qQ 4,qQ 8,qQ 9,qQ 10,qQ 13,lL 5,lL 6,lL 7,lL 11,lL 12,lL 14],none,[],[2000000,15,16,17,18]⟩|_=>default
def dZ:Nat→Nat:=lv [271,783,7951,134225679,402661135,768,34493964047,768,2199157481231,4864,9007199254745856,768,72057594172153615,768,1180591620717545529103,768,19342813113834066929524495,768,316912650057057350374310022927,768,324518553658426726783156154797839,768,166153499473114484112975882669264655,768,170141183460469231731687303716018327311,170141183460469231731687303716018327311,768,89202980794122492566142873090593446158143247,768,5708990770823839524233143877797980545665208079,768,1461501637330902918203684832716283019656066764555,1461501637330902918203684832716283019656066764555,1461501637330902918203684832716283019656066764555,768,93536104789177786765035829293842113257979816969995,748288838313422294120286634350736906063837462004489,256,768,47890485652059026823698344598447161988085597702457091,768,3064991081731777716716694054300618367237478244367206147,768,256]
theorem abD:Fk 34 Tryz.f34 fG:=ao Tryz.func34 (by kernel_rfl)
def JR:Nat→au:=fun _=>default
def De:Nat→Nat:=lv [7,135,391,2439,391,391,64]
theorem abC:Fk 36 Tryz.f36 JR:=ao Tryz.func36 (by kernel_rfl)
def yR:Nat→au:=fun _=>default
def kK:Nat→Nat:=lv [6,16390,16,17179869190,16,1008806316530991110,2161727821137838086,1008806316530991174,74795782611369197574,16,1008806316530991110,134,154742504910672534362390534,16,4332790137498830962146934786,9284550294640352061743431682,4332790137498830962146935810,281631358937424012539550760962,598544008994481362913726562306,281631358937424012539550765058,281631358937424012539550769154,40846450566240764860434053341186,16,281631358937424012539550760962,4332790137498830962146934786,16]
theorem abB:Fk 38 Tryz.f38 yR:=ao Tryz.func38 (by kernel_rfl)
def yQ:Nat→au:=fun n=>match n with|9=>⟨[qQ 0,qQ 1,qQ 2,qQ 3,qQ 4,qQ 5],none,[],[6,7]⟩|_=>default
def jH:Nat→Nat:=lv [6,1073741830,16,38,4503599627370534,16,102,36028797018964070,102,36893488147419103334,16,134,77371252455336267181195270,16,262,2475880078570760549798248710,262,774,2535301200456458802993406411526,774,1798,20769187434139310514121985316882182,2822,2658455991569831745807614120560691974,16,174224571863520493293247799005065324266246,16,16]
theorem abA:Fk 39 Tryz.f39 yQ:=ao Tryz.func39 (by kernel_rfl)
def OD:Nat→au:=fun _=>default
def PF:Nat→Nat:=lv [6,38,102,358,1073742178,352,4398046511392,256,256,16]
theorem abz:Fk 40 Tryz.f40 OD:=ao Tryz.func40 (by kernel_rfl)
def UH:Nat→au:=fun _=>default
def WB:Nat→Nat:=lv [3,3,2,48]
theorem aby:Fk 41 Tryz.f41 UH:=ao Tryz.func41 (by kernel_rfl)
def UG:Nat→au:=fun _=>default
def WA:Nat→Nat:=lv [1,4]
theorem abx:Fk 42 Tryz.f42 UG:=ao Tryz.func42 (by kernel_rfl)
def UF:Nat→au:=fun n=>match n with|7=>⟨[qQ 0,qQ 1,qQ 2,qQ 3,qQ 4,qQ 5,qQ 6,lL 7],none,[0],[8]⟩|14=>⟨[qQ 0,qQ 1,qQ 2,lL 3,qQ 4,lL 5],none,[0],[6]⟩|16=>⟨[qQ 0,qQ 1,qQ 2,lL 3,qQ 4,lL 5],none,[0],[6]⟩|18=>⟨[qQ 0,qQ 1,qQ 2,lL 3,qQ 4,lL 5],none,[0],[6]⟩|_=>default
def Wz:Nat→Nat:=lv [2,10,42,106,106,234,268435690,106,234,234,140737488355562,234,106,590295810358705651818,106,151115727451828646838378,106,38685626227668133590597730,98,69324642199981295394350956640,148552804714245632987894906976,69324642199981295394350957152,69324642199981295394350956640,69324642199981295394350956640,4]
theorem abw:Fk 43 Tryz.f43 UF:=ao Tryz.func43 (by kernel_rfl)
def UE:Nat→au:=fun n=>match n with|1=>⟨[],none,[],[1000000]⟩|_=>default
def Wy:Nat→Nat:=lv [1,4]
theorem abv:Fk 44 Tryz.f44 UE:=ao Tryz.func44 (by kernel_rfl)
def JQ:Nat→au:=fun _=>default
def Ii:Nat→Nat:=lv [5,21,8589934613,12,12]
theorem abu:Fk 58 Tryz.f58 JQ:=ao Tryz.func58 (by kernel_rfl)
def UD:Nat→au:=fun _=>default
def Wx:Nat→Nat:=lv [5,0]
theorem abt:Fk 59 Tryz.f59 UD:=ao Tryz.func59 (by kernel_rfl)
def OC:Nat→au:=fun n=>match n with|6=>⟨[qQ 0,qQ 1,qQ 2,qQ 3,qQ 4,qQ 5,qQ 6,qQ 7,qQ 8,qQ 9],none,[],[]⟩|11=>⟨[qQ 0,qQ 1,qQ 2,qQ 3,qQ 4,qQ 5,qQ 6,qQ 7,qQ 8,qQ 9],none,[],[]⟩|_=>default
def PE:Nat→Nat:=lv [1,257,4,9,8201,9,33554441,25,57,4294967353,57,17592186044473,57,57,9,4,4]
theorem abr:Fk 60 Tryz.f60 OC:=ao Tryz.func60 (by kernel_rfl)
def E6:Nat→au:=fun n=>match n with|6=>⟨[qQ 0,qQ 1,qQ 2,qQ 3,qQ 5,qQ 6,qQ 8,qQ 9,qQ 10,lL 4,lL 7],none,[],[2000000,11,12]⟩|_=>default
def zm:Nat→Nat:=lv [3,35,131107,35,2147483683,16,16]
theorem abq:Fk 61 Tryz.f61 E6:=ao Tryz.func61 (by kernel_rfl)
def OB:Nat→au:=fun _=>default
def PD:Nat→Nat:=lv [5,12,28,4,140,4,1036,4,8204,4,65548,4,524300,4,4194316,4,33554444,4,268435468,4,2147483660,2147483660,4,34359738380,34359738380,34359738380,4,1099511627788,4,8796093022220,8796093022220,8796093022220,4,281474976710660,4,4]
theorem abp:Fk 62 Tryz.f62 OB:=ao Tryz.func62 (by kernel_rfl)
def OA:Nat→au:=fun _=>default
def PC:Nat→Nat:=lv [5,4]
theorem abo:Fk 63 Tryz.f63 OA:=ao Tryz.func63 (by kernel_rfl)
def Oz:Nat→au:=fun _=>default
def PB:Nat→Nat:=lv [19,16]
theorem abn:Fk 64 Tryz.f64 Oz:=ao Tryz.func64 (by kernel_rfl)
def UC:Nat→au:=fun n=>match n with|2=>⟨[qQ 0,qQ 1,qQ 2,qQ 4,qQ 5,qQ 6,qQ 15,qQ 23,qQ 24,qQ 29,qQ 30,qQ 34,qQ 35,lL 3,qQ 7,lL 8,qQ 9,lL 10,lL 11,qQ 12,qQ 13,qQ 14,lL 16,qQ 17,lL 18,lL 19,qQ 20,qQ 21,qQ 22,lL 25,qQ 26,qQ 27,qQ 28,lL 31,qQ 32,lL 33,lL 36,qQ 37,qQ 38,qQ 39,qQ 40],none,[],[41]⟩|_=>default
def Ww:Nat→Nat:=lv [0,2,1]
theorem abm:Fk 65 Tryz.f65 UC:=ao Tryz.func65 (by kernel_rfl)
def BO:Nat→au:=fun n=>match n with|7=>⟨[qQ 0,qQ 1,qQ 2,qQ 3,lL 4,qQ 5,qQ 6,qQ 7],none,[],[8]⟩|_=>default
def zl:Nat→Nat:=lv [5,21,53,4,277,4,8197,4,4]
theorem abl:Fk 66 Tryz.f66 BO:=ao Tryz.func66 (by kernel_rfl)
def BN:Nat→au:=fun _=>default
def zk:Nat→Nat:=lv [12,108,8232,16,536870952,16,281474976710696,16,16]
theorem abk:Fk 67 Tryz.f67 BN:=ao Tryz.func67 (by kernel_rfl)
def JP:Nat→au:=fun n=>match n with|8=>⟨[qQ 0,qQ 1,qQ 2,qQ 3,qQ 4,qQ 5,qQ 6,qQ 7,qQ 8,qQ 13,lL 9,qQ 10,qQ 11,qQ 12],some 13,[],[14,15]⟩|13=>⟨[qQ 0,qQ 1,qQ 2,qQ 3,qQ 4],none,[],[5,6]⟩|_=>default
def rH:Nat→Nat:=lv [2,10,393226,917514,393242,6007970311177464399593053377393092789519040313920906478274001054376438955780064786436506915359139851848751592380062434656128045220390533560030622036902777239174093763071503037240861837822833492492949164080677447758537004594076278337349131603119783669637745357773063360862965613063819825095212997834689723550502107245144446984007416542923780801007351473039820459592446938552791665595986438966489665598373601412615261325064676112813683911206349137698850059186518524272198317082679297054001323628532623348424448475564693063006306207546440236296699456971289848191080875531625394251200217448195742202739514027157006454526167667709143260148080530872190163681906718518245085016843170513012534380063193087422920719540951439752422821967751215272341617520765834785952652995848030852353104939113582850309241602438007762451052149963003703105351014801237252269804979151251796236118220480543568258095500427784433103662784674926162582140270376273380760442227459464896807284164859183621223368672550698666866307163971123382709873762399561858388610414896797080260833959654635476235994256713673875003759557110393608184822979621213645918758695948628991875483187631644794171910025584651618601047603055024070071089961148476720491645751287825422317360852300274785890249401791901942646831698190015422761601092056219622440379176225266586609227030858387004150020032088969743492642207904917009322376701710089591371559799624853057153668478870631589370438677580311030064047534766688610960363319824351269745916630955905960334973206131903928584603378903244627568148645019690,67502122,393322,393450,9223372036855169130,393258,393258,393322,393834,9903520314283042199193387626,393258,393258,394346,394282,10633823966279326983230456482243150890,4,340282366920938463463374607431768605738,393258,393226,4]
theorem abj:Fk 68 Tryz.f68 JP:=ao Tryz.func68 (by kernel_rfl)
def Oy:Nat→au:=fun _=>default
def PA:Nat→Nat:=lv [6,38,16,16390,16,16777222,16,16]
theorem abi:Fk 69 Tryz.f69 Oy:=ao Tryz.func69 (by kernel_rfl)
def cq:Nat→au:=fun n=>match n with|4=>⟨[qQ 0,qQ 1,qQ 2,qQ 3,qQ 4,qQ 5,qQ 6,qQ 7,qQ 8,qQ 9,qQ 10,qQ 11,qQ 12,qQ 13,qQ 14,qQ 15,qQ 16,qQ 17,qQ 18,qQ 19,qQ 20,qQ 21,qQ 22,qQ 23,qQ 24,qQ 25,qQ 26,qQ 27,qQ 28,qQ 29,qQ 30,qQ 31,qQ 32,qQ 33,qQ 34,qQ 35,qQ 36,qQ 37,qQ 38,qQ 39,qQ 40,qQ 41,qQ 42,qQ 43,qQ 44,qQ 45,qQ 46,qQ 47,qQ 48,qQ 49,qQ 50,qQ 51,qQ 52,qQ 53,qQ 54,qQ 55,qQ 56,qQ 57,qQ 58,qQ 59,qQ 60,qQ 61,qQ 62,qQ 63,qQ 64,qQ 65,lL 66,lL 67,qQ 68,qQ 69,qQ 70,qQ 71,qQ 72,qQ 73,qQ 74,qQ 75,qQ 76,qQ 77,qQ 78],none,[],[79,80,81,82]⟩|11=>⟨[qQ 0,qQ 1,qQ 2,qQ 3,qQ 4,qQ 5],none,[],[6,7]⟩|_=>default
def bp:Nat→Nat:=lv [12,44,131116,16,1267650600228229401496703205420,16,174224571863520493293247799005065324265516,16,108,5575186299632655785383929568162090376495212,108,5708990770823839524233143877797980545530986604,16,98079714615416886934934209737619787751599303819750539276,16,392318858461667547739736838950479151006397215279002157068,1176956575385002643219210516851437453019191645837006471180,1176956575385002643219210516851437453019191645837006471180,16,12855896672930383871883436475568251299328630347477621684568076,16,13479973333967638755795175091249552175769051362276683455830807281676,16,13803492693581519893727973392101790641741168423491779507540327449755660,16,113078212145816597485649898509214332752695808350518764326180012161729822728,113078212145816597093331040047546785012958969400039613319782796882727665672,16,16]
theorem abh:Fk 70 Tryz.f70 cq:=ao Tryz.func70 (by kernel_rfl)
def JO:Nat→au:=fun _=>default
def jG:Nat→Nat:=lv [2,10,26,16394,26,58,1048634,58,122,250,506,536871418,506,506,122,576460752303423546,58,520,73786976294838206984,520,9444732965739290427912,4,4]
theorem abg:Fk 71 Tryz.f71 JO:=ao Tryz.func71 (by kernel_rfl)
def UB:Nat→au:=fun _=>default
def Wv:Nat→Nat:=lv [65,0,524288]
theorem abf:Fk 72 Tryz.f72 UB:=ao Tryz.func72 (by kernel_rfl)
def UA:Nat→au:=fun _=>default
def Wu:Nat→Nat:=lv [1,4]
theorem abe:Fk 73 Tryz.f73 UA:=ao Tryz.func73 (by kernel_rfl)
def Uz:Nat→au:=fun n=>match n with|1=>⟨[qQ 0,qQ 1,lL 2,qQ 3,qQ 4,lL 5],none,[0],[6]⟩|_=>default
def Wt:Nat→Nat:=lv [38,0]
theorem abd:Fk 74 Tryz.f74 Uz:=ao Tryz.func74 (by kernel_rfl)
def Uy:Nat→au:=fun _=>default
def Ws:Nat→Nat:=lv [3,4099,12291,16,32771,16,35,4194339,536870947,35,35,3848290697251,8246337208355,3848290697379,566798244118691,3848290697379,3848290697251,3848290697251,291,259,259,64563604257983430914,138350580552821637378,64563604257983431938,64563604257983431938,64563604257983430914,64563604257983430914,16]
theorem abc:Fk 77 Tryz.f77 Uy:=ao Tryz.func77 (by kernel_rfl)
def Ox:Nat→au:=fun _=>default
def Pz:Nat→Nat:=lv [12,16]
theorem abb:Fk 82 Tryz.f82 Ox:=ao Tryz.func82 (by kernel_rfl)
def Ow:Nat→au:=fun _=>default
def Py:Nat→Nat:=lv [12,16]
theorem aba:Fk 86 Tryz.f86 Ow:=ao Tryz.func86 (by kernel_rfl)
def JN:Nat→au:=fun n=>match n with|6=>⟨[qQ 0,qQ 1,qQ 2,qQ 3,qQ 4,qQ 5,qQ 6,qQ 7,qQ 8,qQ 9],none,[],[10,11]⟩|_=>default
def Ih:Nat→Nat:=lv [12,8589934604,16,44,274877906988,44,4503599627370540,16,16]
theorem aa9:Fk 87 Tryz.f87 JN:=ao Tryz.func87 (by kernel_rfl)
def Ux:Nat→au:=fun n=>match n with|17=>⟨[qQ 0,qQ 1,qQ 2,qQ 3,qQ 4,qQ 5,qQ 6,qQ 7,qQ 8,qQ 9,qQ 10,qQ 11],none,[],[12,13,14]⟩|_=>default
def Wr:Nat→Nat:=lv [271,783,1807,8390415,0,536872719,0,34359740175,1807,1807,7951,1125899906850575,3855,3855,7951,295147905179352829711,4722366482869645217551,154742504910672534362394383,8973,783,50191,17935,214543,475663,10384593717069655257060992658915855,17167,17165,783,17167,17163,783]
theorem aa8:Fk 92 Tryz.f92 Ux:=ao Tryz.func92 (by kernel_rfl)
def Uw:Nat→au:=fun _=>default
def Wq:Nat→Nat:=lv [1,4,4]
theorem aa7:Fk 93 Tryz.f93 Uw:=ao Tryz.func93 (by kernel_rfl)
def fQ:Nat→au:=fun n=>match n with|7=>⟨[qQ 0,qQ 1,lL 2,qQ 3,qQ 4],none,[],[5,6]⟩|29=>⟨[qQ 0,qQ 1,qQ 2,qQ 3,qQ 4,qQ 5,qQ 6,lL 7,qQ 8,lL 9,qQ 10],none,[1],[11]⟩|35=>⟨[qQ 0,qQ 1,qQ 2,qQ 3,qQ 4,qQ 5,qQ 6,lL 7],none,[],[8,9]⟩|_=>default
def dY:Nat→Nat:=lv [271,783,2097935,783,4194575,12583183,12583183,256,4299161871,256,34363932943,34363932943,549755814159,256,256,562949957615887,562949957615887,562949957615887,256,288230376155906319,288230376155906319,256,37778931862957165904143,37778931862957165904143,1295,3343,7439,9671406556917033397656847,7439,7439,256,316912650057057350374175801615,8463,10141204801825835211973625651471,8463,256,332306998946228968225951765070086400,256,256]
theorem aa6:Fk 94 Tryz.f94 fQ:=ao Tryz.func94 (by kernel_rfl)
def Ov:Nat→au:=fun _=>default
def Px:Nat→Nat:=lv [5,4]
theorem aa5:Fk 95 Tryz.f95 Ov:=ao Tryz.func95 (by kernel_rfl)
def JM:Nat→au:=fun _=>default
def Ig:Nat→Nat:=lv [19,16]
theorem aa4:Fk 96 Tryz.f96 JM:=ao Tryz.func96 (by kernel_rfl)
def E5:Nat→au:=fun _=>default
def rG:Nat→Nat:=lv [56,176,57520,123056,58032,16834736,64,57520,1200,64]
theorem aa3:Fk 97 Tryz.f97 E5:=ao Tryz.func97 (by kernel_rfl)
def wb:Nat→au:=fun _=>default
def rF:Nat→Nat:=lv [12,76,204,204,16,2097228,16,2147483724,16,2199023255628,16,18014398509482056,18014398509481992,16,16]
theorem aa2:Fk 98 Tryz.f98 wb:=ao Tryz.func98 (by kernel_rfl)
def Ou:Nat→au:=fun _=>default
def Pw:Nat→Nat:=lv [1,4]
theorem aa1:Fk 99 Tryz.f99 Ou:=ao Tryz.func99 (by kernel_rfl)
def C9:Nat→au:=fun _=>default
def Di:Nat→Nat:=lv [2,4]
theorem X9:Fk 100 Tryz.f100 C9:=ao Tryz.func100 (by kernel_rfl)
def HZ:Nat→au:=fun _=>default
def Ko:Nat→Nat:=lv [2,4]
theorem X8:Fk 101 Tryz.f101 HZ:=ao Tryz.func101 (by kernel_rfl)
def za:Nat→au:=fun _=>default
def sZ:Nat→Nat:=lv [2,131074,4,524290,1572866,4,34078722,4,134742018,4,137438953474,10,8796093022218,10,2251799813685258,4,4,4]
theorem X7:Fk 102 Tryz.f102 za:=ao Tryz.func102 (by kernel_rfl)
def uM:Nat→au:=fun _=>default
def sY:Nat→Nat:=lv [2,4]
theorem X6:Fk 103 Tryz.f103 uM:=ao Tryz.func103 (by kernel_rfl)
def C8:Nat→au:=fun _=>default
def Dh:Nat→Nat:=lv [1,1]
theorem X5:Fk 104 Tryz.f104 C8:=ao Tryz.func104 (by kernel_rfl)
def HY:Nat→au:=fun _=>default
def Kn:Nat→Nat:=lv [6,16]
theorem X4:Fk 105 Tryz.f105 HY:=ao Tryz.func105 (by kernel_rfl)
def yZ:Nat→au:=fun _=>default
def sX:Nat→Nat:=lv [1,131073,4,9,2097161,9,17179869193,4,4]
theorem X3:Fk 106 Tryz.f106 yZ:=ao Tryz.func106 (by kernel_rfl)
def HX:Nat→au:=fun _=>default
def Km:Nat→Nat:=lv [2,10,4,4096,4,4]
theorem X2:Fk 107 Tryz.f107 HX:=ao Tryz.func107 (by kernel_rfl)
def HW:Nat→au:=fun _=>default
def Kl:Nat→Nat:=lv [2,4]
theorem X1:Fk 108 Tryz.f108 HW:=ao Tryz.func108 (by kernel_rfl)
def yY:Nat→au:=fun _=>default
def sW:Nat→Nat:=lv [2,4294967298,4,10,137438953482,10,2251799813685258,4,9007199254740994,27021597764222978,27021597764222978,4,153122387330596866,4,147573952589676412930,4,4]
theorem X0:Fk 109 Tryz.f109 yY:=ao Tryz.func109 (by kernel_rfl)
def HV:Nat→au:=fun _=>default
def Kk:Nat→Nat:=lv [1,4]
theorem XZ:Fk 110 Tryz.f110 HV:=ao Tryz.func110 (by kernel_rfl)
def Pc:Nat→au:=fun _=>default
def S7:Nat→Nat:=lv [3,2051,131073,16,33,97,8388705,97,225,161,17179869344,160,16,16,512,16]
theorem XY:Fk 112 Tryz.f112 Pc:=ao Tryz.func112 (by kernel_rfl)
def C7:Nat→au:=fun n=>match n with|1=>⟨[qQ 0,qQ 1,qQ 2,qQ 3,qQ 5,qQ 6,qQ 7,qQ 8,qQ 10,qQ 11,qQ 12,qQ 13,qQ 15,qQ 16,qQ 17,qQ 18,qQ 19,qQ 20,lL 4,lL 9,lL 14],none,[],[21,22,23,24]⟩|5=>⟨[qQ 0,qQ 1,qQ 2,qQ 3,qQ 4,qQ 5,qQ 6,qQ 7,qQ 8,qQ 9],none,[],[10,11]⟩|_=>default
def nB:Nat→Nat:=lv [12,44,108,549755813996,108,108,16]
theorem XX:Fk 119 Tryz.f119 C7:=ao Tryz.func119 (by kernel_rfl)
def oW:Nat→au:=fun n=>match n with|12=>⟨[qQ 0,qQ 1,qQ 2,qQ 3,qQ 4,qQ 5,qQ 6,qQ 7,qQ 8,qQ 9],none,[],[10,11]⟩|_=>default
def jU:Nat→Nat:=lv [12,140,16,524300,16,2147483660,16,8796093022220,16,44,9223372036854775852,44,108,302231454903657293676652,16,16]
theorem XW:Fk 123 Tryz.f123 oW:=ao Tryz.func123 (by kernel_rfl)
def Pb:Nat→au:=fun n=>match n with|4=>⟨[qQ 0,qQ 1,qQ 2,qQ 3,qQ 4,qQ 5,qQ 6,qQ 7,qQ 8,qQ 9,qQ 10,qQ 11,qQ 12],none,[],[13,14]⟩|6=>⟨[],some 999999,[],[]⟩|_=>default
def S6:Nat→Nat:=lv [71,4167,71,199,1073742023,199,199]
theorem XV:Fk 126 Tryz.f126 Pb:=ao Tryz.func126 (by kernel_rfl)
def O9:Nat→au:=fun n=>match n with|10=>⟨[],some 999999,[],[]⟩|_=>default
def S5:Nat→Nat:=lv [71,199,449,961,525249,961,961,1217,1073743041,1217,1217,1217]
theorem XU:Fk 127 Tryz.f127 O9:=ao Tryz.func127 (by kernel_rfl)
def O8:Nat→au:=fun n=>match n with|10=>⟨[],some 999999,[],[]⟩|_=>default
def S4:Nat→Nat:=lv [67,32835,195,451,963,8589935555,963,1987,8796093024195,1987,963]
theorem XT:Fk 128 Tryz.f128 O8:=ao Tryz.func128 (by kernel_rfl)
def O7:Nat→au:=fun _=>default
def S3:Nat→Nat:=lv [7,259,771,1795,3843,7937,4294975233,17179876865,7681,7681,7681,2560,562949953423360,192,2814749767108608,192,18014398509484032,192]
theorem XS:Fk 129 Tryz.f129 O7:=ao Tryz.func129 (by kernel_rfl)
def O5:Nat→au:=fun n=>match n with|3=>⟨[qQ 0,qQ 1,qQ 2,qQ 3,qQ 4,qQ 5,qQ 6,qQ 7,qQ 8,qQ 9,qQ 10,qQ 11,qQ 12,lL 13,qQ 14,lL 15],none,[],[]⟩|_=>default
def S2:Nat→Nat:=lv [69,193,8385,193,193,193]
theorem XR:Fk 130 Tryz.f130 O5:=ao Tryz.func130 (by kernel_rfl)
def O4:Nat→au:=fun n=>match n with|5=>⟨[qQ 0,qQ 1,qQ 2,qQ 3,qQ 4,qQ 5,qQ 6,qQ 7,qQ 8,qQ 9,qQ 10,qQ 11,qQ 12],none,[],[13,14,15]⟩|11=>⟨[],some 999999,[],[]⟩|16=>⟨[qQ 0,qQ 1,qQ 2,qQ 3,qQ 4,qQ 5,qQ 6,qQ 7,qQ 8],none,[],[9,10]⟩|17=>⟨[],some 999999,[],[]⟩|22=>⟨[qQ 0,qQ 1,qQ 2,qQ 3,qQ 4,qQ 5,qQ 6,qQ 7,qQ 8],none,[],[9,10]⟩|23=>⟨[],some 999999,[],[]⟩|_=>default
def S1:Nat→Nat:=lv [7,135,391,16775,391,4294967687,391,137438953863,64,2199023255943,64,391,2305843009213694343,903,36893488147419104135,903,302231454903657293677447,903,316912650057057350374175801735,1415,10141204801825835211973625644423,1415,83076749736557242056487941267522951,1415,64]
theorem XP:Fk 131 Tryz.f131 O4:=ao Tryz.func131 (by kernel_rfl)
def O3:Nat→au:=fun _=>default
def S0:Nat→Nat:=lv [3,16]
theorem XO:Fk 132 Tryz.f132 O3:=ao Tryz.func132 (by kernel_rfl)
def O2:Nat→au:=fun n=>match n with|1=>⟨[qQ 0,qQ 1,qQ 2,qQ 3,qQ 4,qQ 5,qQ 6,qQ 7,qQ 8,qQ 9,qQ 10,qQ 11,qQ 12,lL 13,qQ 14,lL 15],none,[],[]⟩|3=>⟨[qQ 0,qQ 1,qQ 2,qQ 3,qQ 4,qQ 5,qQ 6,qQ 7,qQ 8,qQ 9,qQ 10,qQ 11],none,[],[12,13,14]⟩|5=>⟨[qQ 0,qQ 1,qQ 2,qQ 3,qQ 4,qQ 5,qQ 6,qQ 7,qQ 8,qQ 9,qQ 10,qQ 11],none,[],[12,13]⟩|8=>⟨[qQ 0,qQ 1,qQ 2,qQ 3,qQ 4,qQ 5,qQ 6,qQ 7,qQ 8,qQ 9,qQ 10,qQ 11,qQ 12,lL 13,qQ 14,lL 15],none,[],[]⟩|_=>default
def SZ:Nat→Nat:=lv [15,7,1539,8796093023747,1539,576460752303425027,1539,18446744073709553155,1539,1539,1539,256]
theorem XN:Fk 133 Tryz.f133 O2:=ao Tryz.func133 (by kernel_rfl)
def O1:Nat→au:=fun n=>match n with|1=>⟨[qQ 0,qQ 1,qQ 2,qQ 3,qQ 4,qQ 5,qQ 6,qQ 7,qQ 8,qQ 9,qQ 10,qQ 11,qQ 12,lL 13,qQ 14,lL 15],none,[],[]⟩|3=>⟨[qQ 0,qQ 1,qQ 2,qQ 3,qQ 4,qQ 5,qQ 6,qQ 7,qQ 8,qQ 9,qQ 10,qQ 11],none,[],[12,13]⟩|5=>⟨[qQ 0,qQ 1,qQ 2,qQ 3,qQ 4,qQ 5,qQ 6,qQ 7,qQ 8,qQ 9,qQ 10,qQ 11],none,[],[12,13,14]⟩|8=>⟨[qQ 0,qQ 1,qQ 2,qQ 3,qQ 4,qQ 5,qQ 6,qQ 7,qQ 8,qQ 9,qQ 10,qQ 11,qQ 12,lL 13,qQ 14,lL 15],none,[],[]⟩|10=>⟨[qQ 0,qQ 1,qQ 2,qQ 3,qQ 4,qQ 5,qQ 6,qQ 7,qQ 8,qQ 9,qQ 10,qQ 11,qQ 12,lL 13,qQ 14,lL 15],none,[],[]⟩|13=>⟨[qQ 0,qQ 1,qQ 2,qQ 3,qQ 4,qQ 5,qQ 6,qQ 7,qQ 8,qQ 9,qQ 10,qQ 11],none,[],[12,13]⟩|15=>⟨[qQ 0,qQ 1,qQ 2,qQ 3,qQ 4,qQ 5,qQ 6,qQ 7,qQ 8,qQ 9,qQ 10,qQ 11],none,[],[12,13,14]⟩|18=>⟨[qQ 0,qQ 1,qQ 2,qQ 3,qQ 4,qQ 5,qQ 6,qQ 7,qQ 8,qQ 9,qQ 10,qQ 11,qQ 12,lL 13,qQ 14,lL 15],none,[],[]⟩|21=>⟨[qQ 0,qQ 1,qQ 2,qQ 3,qQ 4,qQ 5,qQ 6,qQ 7,qQ 8,qQ 9,qQ 10,qQ 11,qQ 12,lL 13,qQ 14,lL 15],none,[],[]⟩|_=>default
def SY:Nat→Nat:=lv [15,7,3075,8796093025283,3075,1152921504606850051,3075,36893488147419106307,2048,768,3075,3075,3075,5192296858534827628530496329223171,3075,680564733841876926926749214863536425987,3075,21778071482940061661655974875633165536259,3075,3075,3075,2048,768]
theorem XM:Fk 134 Tryz.f134 O1:=ao Tryz.func134 (by kernel_rfl)
def O0:Nat→au:=fun _=>default
def SX:Nat→Nat:=lv [5,21,1,5,261,5,5,16389,5,5,4]
theorem XL:Fk 136 Tryz.f136 O0:=ao Tryz.func136 (by kernel_rfl)
def yX:Nat→au:=fun n=>match n with|9=>⟨[qQ 0,qQ 1,qQ 2,qQ 3,qQ 4,qQ 5,qQ 6,lL 7,qQ 8,lL 9,qQ 10],none,[1],[11]⟩|_=>default
def sV:Nat→Nat:=lv [271,783,525071,256,1295,3343,7439,68719484175,7439,7439,256]
theorem XK:Fk 137 Tryz.f137 yX:=ao Tryz.func137 (by kernel_rfl)
def HU:Nat→au:=fun _=>default
def Kj:Nat→Nat:=lv [5,4]
theorem XJ:Fk 138 Tryz.f138 HU:=ao Tryz.func138 (by kernel_rfl)
def HT:Nat→au:=fun _=>default
def Ki:Nat→Nat:=lv [28,16]
theorem XI:Fk 139 Tryz.f139 HT:=ao Tryz.func139 (by kernel_rfl)
def HS:Nat→au:=fun _=>default
def Kh:Nat→Nat:=lv [1,1]
theorem XH:Fk 140 Tryz.f140 HS:=ao Tryz.func140 (by kernel_rfl)
def HR:Nat→au:=fun _=>default
def Kg:Nat→Nat:=lv [7,32]
theorem XG:Fk 141 Tryz.f141 HR:=ao Tryz.func141 (by kernel_rfl)
def OY:Nat→au:=fun _=>default
def SW:Nat→Nat:=lv [1,4]
theorem XF:Fk 142 Tryz.f142 OY:=ao Tryz.func142 (by kernel_rfl)
def C6:Nat→au:=fun _=>default
def xp:Nat→Nat:=lv [3,35,547,35,131107,16,16]
theorem XE:Fk 143 Tryz.f143 C6:=ao Tryz.func143 (by kernel_rfl)
def OX:Nat→au:=fun _=>default
def SV:Nat→Nat:=lv [1,4]
theorem XD:Fk 144 Tryz.f144 OX:=ao Tryz.func144 (by kernel_rfl)
def OW:Nat→au:=fun _=>default
def SU:Nat→Nat:=lv [1,4]
theorem XC:Fk 145 Tryz.f145 OW:=ao Tryz.func145 (by kernel_rfl)
def HQ:Nat→au:=fun _=>default
def Kf:Nat→Nat:=lv [2,10,4,4096,4,4]
theorem XB:Fk 146 Tryz.f146 HQ:=ao Tryz.func146 (by kernel_rfl)
def C5:Nat→au:=fun _=>default
def Dg:Nat→Nat:=lv [2,10,8,4]
theorem XA:Fk 147 Tryz.f147 C5:=ao Tryz.func147 (by kernel_rfl)
def OV:Nat→au:=fun _=>default
def SS:Nat→Nat:=lv [1,4]
theorem Xz:Fk 148 Tryz.f148 OV:=ao Tryz.func148 (by kernel_rfl)
def OU:Nat→au:=fun _=>default
def SR:Nat→Nat:=lv [1,4]
theorem Xy:Fk 149 Tryz.f149 OU:=ao Tryz.func149 (by kernel_rfl)
def OT:Nat→au:=fun _=>default
def SQ:Nat→Nat:=lv [1,4]
theorem Xx:Fk 150 Tryz.f150 OT:=ao Tryz.func150 (by kernel_rfl)
def C4:Nat→au:=fun _=>default
def sU:Nat→Nat:=lv [2,10,26,538,26,26,4]
theorem Xw:Fk 151 Tryz.f151 C4:=ao Tryz.func151 (by kernel_rfl)
def C3:Nat→au:=fun _=>default
def sT:Nat→Nat:=lv [2,10,26,538,26,26,4]
theorem Xv:Fk 152 Tryz.f152 C3:=ao Tryz.func152 (by kernel_rfl)
def fA:Nat→au:=fun _=>default
def du:Nat→Nat:=lv [2,10,67108874,4,268435466,4,805306378,805306378,4,17448304650,4,281475245146122,4611686018427387914,4,26,36893488147419103258,26,18889465931478580854810,4,37778931862957430145034,302231454903657293676554,4,604462909807314855788554,4835703278458516698824714,4,9671406556917033397649418,19807040628566084398385987594,4,42,158456325028528675187087900714,42,81129638414606681695789005144106,4,4]
theorem Xu:Fk 153 Tryz.f153 fA:=ao Tryz.func153 (by kernel_rfl)
def HP:Nat→au:=fun _=>default
def Ke:Nat→Nat:=lv [2,4]
theorem Xt:Fk 154 Tryz.f154 HP:=ao Tryz.func154 (by kernel_rfl)
def OS:Nat→au:=fun _=>default
def SP:Nat→Nat:=lv [1,17,4,4]
theorem Xs:Fk 155 Tryz.f155 OS:=ao Tryz.func155 (by kernel_rfl)
def C2:Nat→au:=fun _=>default
def nA:Nat→Nat:=lv [1,9,456,968,488,16872,4,456,4]
theorem Xr:Fk 163 Tryz.f163 C2:=ao Tryz.func163 (by kernel_rfl)
def HO:Nat→au:=fun _=>default
def Kd:Nat→Nat:=lv [3,35,99,2115,4096,16,16,8195,16,65539,16,524288,16,16]
theorem Xq:Fk 164 Tryz.f164 HO:=ao Tryz.func164 (by kernel_rfl)
def HN:Nat→au:=fun _=>default
def Kc:Nat→Nat:=lv [3,35,99,2115,4096,16,16,8195,16,65539,16,524288,16,16]
theorem Xp:Fk 165 Tryz.f165 HN:=ao Tryz.func165 (by kernel_rfl)
def OQ:Nat→au:=fun _=>default
def SO:Nat→Nat:=lv [1,8,4,4]
theorem Xo:Fk 166 Tryz.f166 OQ:=ao Tryz.func166 (by kernel_rfl)
def OP:Nat→au:=fun n=>match n with|3=>⟨[qQ 0,qQ 1,qQ 2,qQ 3,qQ 4,qQ 5,qQ 6,qQ 7,qQ 8,qQ 9,qQ 10,qQ 11,qQ 12,qQ 13,qQ 14,qQ 15,qQ 16,qQ 17],none,[],[18,19]⟩|5=>⟨[qQ 0,qQ 1,qQ 2,qQ 3,qQ 4,qQ 5,qQ 6,qQ 7,qQ 8,qQ 9,qQ 10,qQ 11],none,[],[12,13]⟩|6=>⟨[],some 999999,[],[]⟩|_=>default
def SN:Nat→Nat:=lv [269,781,66317,68719477517,781,4503599627371277,525,269]
theorem Xn:Fk 167 Tryz.f167 OP:=ao Tryz.func167 (by kernel_rfl)
def OO:Nat→au:=fun _=>default
def SM:Nat→Nat:=lv [7,64]
theorem Xm:Fk 170 Tryz.f170 OO:=ao Tryz.func170 (by kernel_rfl)
def ON:Nat→au:=fun _=>default
def SL:Nat→Nat:=lv [31,31,23,4,1024]
theorem Xl:Fk 171 Tryz.f171 ON:=ao Tryz.func171 (by kernel_rfl)
def HM:Nat→au:=fun _=>default
def Kb:Nat→Nat:=lv [1,4]
theorem Xk:Fk 172 Tryz.f172 HM:=ao Tryz.func172 (by kernel_rfl)
def oV:Nat→au:=fun n=>match n with|5=>⟨[qQ 0,qQ 1,lL 2,qQ 3,qQ 4],none,[],[5,6]⟩|_=>default
def ny:Nat→Nat:=lv [271,783,4879,256,8389391,256,4294967567,256,256]
theorem Xj:Fk 173 Tryz.f173 oV:=ao Tryz.func173 (by kernel_rfl)
def OM:Nat→au:=fun _=>default
def SK:Nat→Nat:=lv [1,4]
theorem Xi:Fk 174 Tryz.f174 OM:=ao Tryz.func174 (by kernel_rfl)
def C1:Nat→au:=fun _=>default
def xo:Nat→Nat:=lv [2,10,904,1928,936,904,904,4]
theorem Xh:Fk 175 Tryz.f175 C1:=ao Tryz.func175 (by kernel_rfl)
def C0:Nat→au:=fun _=>default
def xn:Nat→Nat:=lv [2,10,904,1928,936,904,904,4]
theorem Xg:Fk 176 Tryz.f176 C0:=ao Tryz.func176 (by kernel_rfl)
def HL:Nat→au:=fun _=>default
def Ka:Nat→Nat:=lv [2,4]
theorem Xf:Fk 177 Tryz.f177 HL:=ao Tryz.func177 (by kernel_rfl)
def uL:Nat→au:=fun n=>match n with|6=>⟨[qQ 0,qQ 1,qQ 2,qQ 3,qQ 6,lL 4,qQ 5],none,[],[7]⟩|_=>default
def qf:Nat→Nat:=lv [14,65550,14,117440526,251658254,117440718,117440526,117440526]
theorem Xe:Fk 178 Tryz.f178 uL:=ao Tryz.func178 (by kernel_rfl)
def OL:Nat→au:=fun _=>default
def SJ:Nat→Nat:=lv [1,4]
theorem Xd:Fk 179 Tryz.f179 OL:=ao Tryz.func179 (by kernel_rfl)
def HK:Nat→au:=fun _=>default
def J9:Nat→Nat:=lv [1,4]
theorem Xc:Fk 180 Tryz.f180 HK:=ao Tryz.func180 (by kernel_rfl)
def CZ:Nat→au:=fun _=>default
def sS:Nat→Nat:=lv [2,1026,4,10,32778,10,16777226,4,4]
theorem Xb:Fk 181 Tryz.f181 CZ:=ao Tryz.func181 (by kernel_rfl)
def uK:Nat→au:=fun n=>match n with|6=>⟨[qQ 0,qQ 1,qQ 2,qQ 3,qQ 4,qQ 5,qQ 6,qQ 7,qQ 10,lL 8,qQ 9],none,[],[11,12]⟩|_=>default
def nv:Nat→Nat:=lv [14,65550,14,142,134217870,142,142,64]
theorem Xa:Fk 182 Tryz.f182 uK:=ao Tryz.func182 (by kernel_rfl)
def HJ:Nat→au:=fun _=>default
def J8:Nat→Nat:=lv [1,4]
theorem W9:Fk 190 Tryz.f190 HJ:=ao Tryz.func190 (by kernel_rfl)
def OK:Nat→au:=fun n=>match n with|1=>⟨[qQ 0,qQ 1,qQ 2,qQ 3,qQ 4,qQ 5,qQ 6,qQ 7],none,[],[8]⟩|_=>default
def SI:Nat→Nat:=lv [15,262158,6,768,768]
theorem W8:Fk 191 Tryz.f191 OK:=ao Tryz.func191 (by kernel_rfl)
def HI:Nat→au:=fun _=>default
def J7:Nat→Nat:=lv [2,1048578,4,4194306,12582914,12582914,4,1077936130,4,4503599631564802,4,288230376155906050,4,18446744073713745922,4,1208925819614629174706178,4,4]
theorem W7:Fk 192 Tryz.f192 HI:=ao Tryz.func192 (by kernel_rfl)
def CY:Nat→au:=fun _=>default
def Df:Nat→Nat:=lv [3,16]
theorem W6:Fk 193 Tryz.f193 CY:=ao Tryz.func193 (by kernel_rfl)
def HH:Nat→au:=fun _=>default
def J6:Nat→Nat:=lv [2,4]
theorem W5:Fk 194 Tryz.f194 HH:=ao Tryz.func194 (by kernel_rfl)
def yW:Nat→au:=fun _=>default
def xm:Nat→Nat:=lv [51,65555,0]
theorem W4:Fk 195 Tryz.f195 yW:=ao Tryz.func195 (by kernel_rfl)
def HG:Nat→au:=fun _=>default
def J5:Nat→Nat:=lv [6,2048,16,16]
theorem W3:Fk 196 Tryz.f196 HG:=ao Tryz.func196 (by kernel_rfl)
def yV:Nat→au:=fun n=>match n with|6=>⟨[qQ 0,qQ 1,qQ 2,qQ 3,qQ 5,qQ 6,qQ 8,qQ 9,qQ 10,lL 4,lL 7],none,[],[2000000,11,12]⟩|_=>default
def sR:Nat→Nat:=lv [3,35,131107,35,2147483683,16,16]
theorem W2:Fk 197 Tryz.f197 yV:=ao Tryz.func197 (by kernel_rfl)
def HF:Nat→au:=fun _=>default
def J4:Nat→Nat:=lv [6,2048,16,16]
theorem W1:Fk 198 Tryz.f198 HF:=ao Tryz.func198 (by kernel_rfl)
def HE:Nat→au:=fun _=>default
def J3:Nat→Nat:=lv [3,16]
theorem W0:Fk 202 Tryz.f202 HE:=ao Tryz.func202 (by kernel_rfl)
def HD:Nat→au:=fun _=>default
def J2:Nat→Nat:=lv [2,4]
theorem WZ:Fk 203 Tryz.f203 HD:=ao Tryz.func203 (by kernel_rfl)
def yT:Nat→au:=fun n=>match n with|6=>⟨[qQ 0,qQ 1,qQ 2,qQ 3,lL 4,qQ 5],none,[],[6,7]⟩|_=>default
def qe:Nat→Nat:=lv [6,32774,16,917510,1966086,917606,2148401158,16,917510,16]
theorem WY:Fk 204 Tryz.f204 yT:=ao Tryz.func204 (by kernel_rfl)
def yS:Nat→au:=fun _=>default
def nu:Nat→Nat:=lv [3,387,899,419,65955,16,387,16]
theorem WX:Fk 205 Tryz.f205 yS:=ao Tryz.func205 (by kernel_rfl)
def OJ:Nat→au:=fun _=>default
def SH:Nat→Nat:=lv [3,67,451,33219,963,134218691,451,451,48]
theorem WW:Fk 206 Tryz.f206 OJ:=ao Tryz.func206 (by kernel_rfl)
def CX:Nat→au:=fun _=>default
def lE:Nat→Nat:=lv [3,387,899,419,65955,16,387,16]
theorem WV:Fk 208 Tryz.f208 CX:=ao Tryz.func208 (by kernel_rfl)
def HC:Nat→au:=fun _=>default
def J1:Nat→Nat:=lv [2,4]
theorem WU:Fk 209 Tryz.f209 HC:=ao Tryz.func209 (by kernel_rfl)
def HB:Nat→au:=fun _=>default
def J0:Nat→Nat:=lv [2,4]
theorem WT:Fk 210 Tryz.f210 HB:=ao Tryz.func210 (by kernel_rfl)
def OI:Nat→au:=fun _=>default
def SG:Nat→Nat:=lv [1,4]
theorem WS:Fk 211 Tryz.f211 OI:=ao Tryz.func211 (by kernel_rfl)
noncomputable def L1:aU:=(.node (.node (.node (.node (.node (.node (.node (.node .nil 4 Tryz.f4 OE sQ .nil) 9 Tryz.f9 Ss BV .nil) 10 Tryz.f10 Pd PM (.node .nil 12 Tryz.f12 UJ WD .nil)) 13 Tryz.f13 O6 PL (.node (.node .nil 14 Tryz.f14 OZ PK .nil) 15 Tryz.f15 JS zn (.node .nil 16 Tryz.f16 OR PJ .nil))) 17 Tryz.f17 UI WC (.node (.node (.node .nil 20 Tryz.f20 yU iO .nil) 28 Tryz.f28 OH PI (.node .nil 29 Tryz.f29 OG PH .nil)) 32 Tryz.f32 OF PG (.node (.node .nil 33 Tryz.f33 sG nt .nil) 34 Tryz.f34 fG dZ (.node .nil 36 Tryz.f36 JR De .nil)))) 38 Tryz.f38 yR kK (.node (.node (.node (.node .nil 39 Tryz.f39 yQ jH .nil) 40 Tryz.f40 OD PF (.node .nil 41 Tryz.f41 UH WB .nil)) 42 Tryz.f42 UG WA (.node (.node .nil 43 Tryz.f43 UF Wz .nil) 44 Tryz.f44 UE Wy (.node .nil 58 Tryz.f58 JQ Ii .nil))) 59 Tryz.f59 UD Wx (.node (.node (.node .nil 60 Tryz.f60 OC PE .nil) 61 Tryz.f61 E6 zm (.node .nil 62 Tryz.f62 OB PD .nil)) 63 Tryz.f63 OA PC (.node (.node .nil 64 Tryz.f64 Oz PB .nil) 65 Tryz.f65 UC Ww (.node .nil 66 Tryz.f66 BO zl .nil))))) 67 Tryz.f67 BN zk (.node (.node (.node (.node (.node (.node .nil 68 Tryz.f68 JP rH .nil) 69 Tryz.f69 Oy PA .nil) 70 Tryz.f70 cq bp (.node .nil 71 Tryz.f71 JO jG .nil)) 72 Tryz.f72 UB Wv (.node (.node .nil 73 Tryz.f73 UA Wu .nil) 74 Tryz.f74 Uz Wt (.node .nil 77 Tryz.f77 Uy Ws .nil))) 82 Tryz.f82 Ox Pz (.node (.node (.node .nil 86 Tryz.f86 Ow Py .nil) 87 Tryz.f87 JN Ih (.node .nil 92 Tryz.f92 Ux Wr .nil)) 93 Tryz.f93 Uw Wq (.node (.node .nil 94 Tryz.f94 fQ dY .nil) 95 Tryz.f95 Ov Px (.node .nil 96 Tryz.f96 JM Ig .nil)))) 97 Tryz.f97 E5 rG (.node (.node (.node (.node .nil 98 Tryz.f98 wb rF .nil) 99 Tryz.f99 Ou Pw (.node .nil 100 Tryz.f100 C9 Di .nil)) 101 Tryz.f101 HZ Ko (.node (.node .nil 102 Tryz.f102 za sZ .nil) 103 Tryz.f103 uM sY (.node .nil 104 Tryz.f104 C8 Dh .nil))) 105 Tryz.f105 HY Kn (.node (.node (.node .nil 106 Tryz.f106 yZ sX .nil) 107 Tryz.f107 HX Km (.node .nil 108 Tryz.f108 HW Kl .nil)) 109 Tryz.f109 yY sW (.node (.node .nil 110 Tryz.f110 HV Kk .nil) 112 Tryz.f112 Pc S7 (.node .nil 119 Tryz.f119 C7 nB .nil)))))) 123 Tryz.f123 oW jU (.node (.node (.node (.node (.node (.node (.node .nil 126 Tryz.f126 Pb S6 .nil) 127 Tryz.f127 O9 S5 .nil) 128 Tryz.f128 O8 S4 (.node .nil 129 Tryz.f129 O7 S3 .nil)) 130 Tryz.f130 O5 S2 (.node (.node .nil 131 Tryz.f131 O4 S1 .nil) 132 Tryz.f132 O3 S0 (.node .nil 133 Tryz.f133 O2 SZ .nil))) 134 Tryz.f134 O1 SY (.node (.node (.node .nil 136 Tryz.f136 O0 SX .nil) 137 Tryz.f137 yX sV (.node .nil 138 Tryz.f138 HU Kj .nil)) 139 Tryz.f139 HT Ki (.node (.node .nil 140 Tryz.f140 HS Kh .nil) 141 Tryz.f141 HR Kg (.node .nil 142 Tryz.f142 OY SW .nil)))) 143 Tryz.f143 C6 xp (.node (.node (.node (.node .nil 144 Tryz.f144 OX SV .nil) 145 Tryz.f145 OW SU (.node .nil 146 Tryz.f146 HQ Kf .nil)) 147 Tryz.f147 C5 Dg (.node (.node .nil 148 Tryz.f148 OV SS .nil) 149 Tryz.f149 OU SR (.node .nil 150 Tryz.f150 OT SQ .nil))) 151 Tryz.f151 C4 sU (.node (.node (.node .nil 152 Tryz.f152 C3 sT .nil) 153 Tryz.f153 fA du (.node .nil 154 Tryz.f154 HP Ke .nil)) 155 Tryz.f155 OS SP (.node (.node .nil 163 Tryz.f163 C2 nA .nil) 164 Tryz.f164 HO Kd (.node .nil 165 Tryz.f165 HN Kc .nil))))) 166 Tryz.f166 OQ SO (.node (.node (.node (.node (.node (.node .nil 167 Tryz.f167 OP SN .nil) 170 Tryz.f170 OO SM .nil) 171 Tryz.f171 ON SL (.node .nil 172 Tryz.f172 HM Kb .nil)) 173 Tryz.f173 oV ny (.node (.node .nil 174 Tryz.f174 OM SK .nil) 175 Tryz.f175 C1 xo (.node .nil 176 Tryz.f176 C0 xn .nil))) 177 Tryz.f177 HL Ka (.node (.node (.node .nil 178 Tryz.f178 uL qf .nil) 179 Tryz.f179 OL SJ (.node .nil 180 Tryz.f180 HK J9 .nil)) 181 Tryz.f181 CZ sS (.node (.node .nil 182 Tryz.f182 uK nv .nil) 190 Tryz.f190 HJ J8 (.node .nil 191 Tryz.f191 OK SI .nil)))) 192 Tryz.f192 HI J7 (.node (.node (.node (.node .nil 193 Tryz.f193 CY Df .nil) 194 Tryz.f194 HH J6 (.node .nil 195 Tryz.f195 yW xm .nil)) 196 Tryz.f196 HG J5 (.node (.node .nil 197 Tryz.f197 yV sR .nil) 198 Tryz.f198 HF J4 (.node .nil 202 Tryz.f202 HE J3 .nil))) 203 Tryz.f203 HD J2 (.node (.node (.node .nil 204 Tryz.f204 yT qe .nil) 205 Tryz.f205 yS nu (.node .nil 206 Tryz.f206 OJ SH .nil)) 208 Tryz.f208 CX lE (.node (.node .nil 209 Tryz.f209 HC J1 .nil) 210 Tryz.f210 HB J0 (.node .nil 211 Tryz.f211 OI SG .nil)))))))
theorem xx:FOk Tryz.prog bS bg L1.find:=aU.ok (aU.ag (aU.ag (aU.ag (aU.ag (aU.ag (aU.ag (aU.ag (aU.ag aU.all_nil ac3 aU.all_nil) ac2 aU.all_nil) abP (aU.ag aU.all_nil abO aU.all_nil)) abN (aU.ag (aU.ag aU.all_nil abM aU.all_nil) abL (aU.ag aU.all_nil abK aU.all_nil))) abJ (aU.ag (aU.ag (aU.ag aU.all_nil abI aU.all_nil) abH (aU.ag aU.all_nil abG aU.all_nil)) abF (aU.ag (aU.ag aU.all_nil abE aU.all_nil) abD (aU.ag aU.all_nil abC aU.all_nil)))) abB (aU.ag (aU.ag (aU.ag (aU.ag aU.all_nil abA aU.all_nil) abz (aU.ag aU.all_nil aby aU.all_nil)) abx (aU.ag (aU.ag aU.all_nil abw aU.all_nil) abv (aU.ag aU.all_nil abu aU.all_nil))) abt (aU.ag (aU.ag (aU.ag aU.all_nil abr aU.all_nil) abq (aU.ag aU.all_nil abp aU.all_nil)) abo (aU.ag (aU.ag aU.all_nil abn aU.all_nil) abm (aU.ag aU.all_nil abl aU.all_nil))))) abk (aU.ag (aU.ag (aU.ag (aU.ag (aU.ag (aU.ag aU.all_nil abj aU.all_nil) abi aU.all_nil) abh (aU.ag aU.all_nil abg aU.all_nil)) abf (aU.ag (aU.ag aU.all_nil abe aU.all_nil) abd (aU.ag aU.all_nil abc aU.all_nil))) abb (aU.ag (aU.ag (aU.ag aU.all_nil aba aU.all_nil) aa9 (aU.ag aU.all_nil aa8 aU.all_nil)) aa7 (aU.ag (aU.ag aU.all_nil aa6 aU.all_nil) aa5 (aU.ag aU.all_nil aa4 aU.all_nil)))) aa3 (aU.ag (aU.ag (aU.ag (aU.ag aU.all_nil aa2 aU.all_nil) aa1 (aU.ag aU.all_nil X9 aU.all_nil)) X8 (aU.ag (aU.ag aU.all_nil X7 aU.all_nil) X6 (aU.ag aU.all_nil X5 aU.all_nil))) X4 (aU.ag (aU.ag (aU.ag aU.all_nil X3 aU.all_nil) X2 (aU.ag aU.all_nil X1 aU.all_nil)) X0 (aU.ag (aU.ag aU.all_nil XZ aU.all_nil) XY (aU.ag aU.all_nil XX aU.all_nil)))))) XW (aU.ag (aU.ag (aU.ag (aU.ag (aU.ag (aU.ag (aU.ag aU.all_nil XV aU.all_nil) XU aU.all_nil) XT (aU.ag aU.all_nil XS aU.all_nil)) XR (aU.ag (aU.ag aU.all_nil XP aU.all_nil) XO (aU.ag aU.all_nil XN aU.all_nil))) XM (aU.ag (aU.ag (aU.ag aU.all_nil XL aU.all_nil) XK (aU.ag aU.all_nil XJ aU.all_nil)) XI (aU.ag (aU.ag aU.all_nil XH aU.all_nil) XG (aU.ag aU.all_nil XF aU.all_nil)))) XE (aU.ag (aU.ag (aU.ag (aU.ag aU.all_nil XD aU.all_nil) XC (aU.ag aU.all_nil XB aU.all_nil)) XA (aU.ag (aU.ag aU.all_nil Xz aU.all_nil) Xy (aU.ag aU.all_nil Xx aU.all_nil))) Xw (aU.ag (aU.ag (aU.ag aU.all_nil Xv aU.all_nil) Xu (aU.ag aU.all_nil Xt aU.all_nil)) Xs (aU.ag (aU.ag aU.all_nil Xr aU.all_nil) Xq (aU.ag aU.all_nil Xp aU.all_nil))))) Xo (aU.ag (aU.ag (aU.ag (aU.ag (aU.ag (aU.ag aU.all_nil Xn aU.all_nil) Xm aU.all_nil) Xl (aU.ag aU.all_nil Xk aU.all_nil)) Xj (aU.ag (aU.ag aU.all_nil Xi aU.all_nil) Xh (aU.ag aU.all_nil Xg aU.all_nil))) Xf (aU.ag (aU.ag (aU.ag aU.all_nil Xe aU.all_nil) Xd (aU.ag aU.all_nil Xc aU.all_nil)) Xb (aU.ag (aU.ag aU.all_nil Xa aU.all_nil) W9 (aU.ag aU.all_nil W8 aU.all_nil)))) W7 (aU.ag (aU.ag (aU.ag (aU.ag aU.all_nil W6 aU.all_nil) W5 (aU.ag aU.all_nil W4 aU.all_nil)) W3 (aU.ag (aU.ag aU.all_nil W2 aU.all_nil) W1 (aU.ag aU.all_nil W0 aU.all_nil))) WZ (aU.ag (aU.ag (aU.ag aU.all_nil WY aU.all_nil) WX (aU.ag aU.all_nil WW aU.all_nil)) WV (aU.ag (aU.ag aU.all_nil WU aU.all_nil) WT (aU.ag aU.all_nil WS aU.all_nil)))))))
end Go.Proofs.YtmpmgmmcaghacaaGreatDoor
namespace Go.Proofs
open Go.Shelf
def Tryz.po:Go.Shelf.Ren:=⟨fun|169=>44|n=>n,fun|70=>74|9=>9|0=>0|72=>77|37=>75|127=>122|3=>3|5=>5|n=>n,fun|n=>n⟩
theorem Tryz.Tb:Go.Proofs.Lays.n169 Tryz.prog Tryz.po:={
 mixed:=by kernel_rfl
 f169:=Tryz.func44.trans (congrArg some (by kernel_rfl))
 t0:=Tryz.underlying0
 a0:=Tryz.isAgg0
 z0:=Tryz.sizeOf0
 v0:=Tryz.zeroValue0
 t3:=Tryz.underlying3
 a3:=Tryz.isAgg3
 z3:=Tryz.sizeOf3
 v3:=Tryz.zeroValue3
 t9:=Tryz.underlying9
 a9:=Tryz.isAgg9
 z9:=Tryz.sizeOf9
 v9:=Tryz.zeroValue9
 t37:=Tryz.underlying75
 a37:=Tryz.isAgg75
 z37:=Tryz.sizeOf75
 v37:=Tryz.zeroValue75
 t70:=Tryz.underlying74
 a70:=Tryz.isAgg74
 z70:=Tryz.sizeOf74
 v70:=Tryz.zeroValue74
 t72:=Tryz.underlying77
 a72:=Tryz.isAgg77
 z72:=Tryz.sizeOf77
 v72:=Tryz.zeroValue77
 t127:=Tryz.underlying122
 a127:=Tryz.isAgg122
 z127:=Tryz.sizeOf122
 v127:=Tryz.zeroValue122 }
theorem Tryz.tX:Builder.Extra Tryz.prog Tryz.po:={
 sizeBuilder:=by kernel_rfl
 liesBuilder:=by kernel_rfl
 t5:=Tryz.underlying5
 a5:=Tryz.isAgg5
 z5:=Tryz.sizeOf5
 v5:=Tryz.zeroValue5
 infoByte:=by kernel_rfl
 cellsByte:=by kernel_rfl
 sizeByte:=by kernel_rfl
 neB5:=by decide }
def Tryz.jn:Go.Shelf.Ren:=⟨fun|156=>77|165=>116|166=>41|169=>44|240=>72|241=>162|276=>111|277=>189|n=>n,fun|31=>70|9=>9|3=>3|4=>4|0=>0|20=>20|72=>77|76=>80|70=>74|37=>75|75=>79|127=>122|164=>151|5=>5|80=>84|n=>n,fun|n=>n⟩
theorem Tryz.bY:Go.Proofs.Lays.n156 Tryz.prog Tryz.jn:={
 mixed:=by kernel_rfl
 f156:=Tryz.func77.trans (congrArg some (by kernel_rfl))
 f165:=Tryz.func116.trans (congrArg some (by kernel_rfl))
 f166:=Tryz.func41.trans (congrArg some (by kernel_rfl))
 f169:=Tryz.func44.trans (congrArg some (by kernel_rfl))
 f240:=Tryz.func72.trans (congrArg some (by kernel_rfl))
 f241:=Tryz.func162.trans (congrArg some (by kernel_rfl))
 f276:=Tryz.func111.trans (congrArg some (by kernel_rfl))
 f277:=Tryz.func189.trans (congrArg some (by kernel_rfl))
 t0:=Tryz.underlying0
 a0:=Tryz.isAgg0
 z0:=Tryz.sizeOf0
 v0:=Tryz.zeroValue0
 t3:=Tryz.underlying3
 a3:=Tryz.isAgg3
 z3:=Tryz.sizeOf3
 v3:=Tryz.zeroValue3
 t4:=Tryz.underlying4
 a4:=Tryz.isAgg4
 z4:=Tryz.sizeOf4
 v4:=Tryz.zeroValue4
 t9:=Tryz.underlying9
 a9:=Tryz.isAgg9
 z9:=Tryz.sizeOf9
 v9:=Tryz.zeroValue9
 t20:=Tryz.underlying20
 a20:=Tryz.isAgg20
 z20:=Tryz.sizeOf20
 v20:=Tryz.zeroValue20
 t31:=Tryz.underlying70
 a31:=Tryz.isAgg70
 z31:=Tryz.sizeOf70
 v31:=Tryz.zeroValue70
 t37:=Tryz.underlying75
 a37:=Tryz.isAgg75
 z37:=Tryz.sizeOf75
 v37:=Tryz.zeroValue75
 t70:=Tryz.underlying74
 a70:=Tryz.isAgg74
 z70:=Tryz.sizeOf74
 v70:=Tryz.zeroValue74
 t72:=Tryz.underlying77
 a72:=Tryz.isAgg77
 z72:=Tryz.sizeOf77
 v72:=Tryz.zeroValue77
 t75:=Tryz.underlying79
 a75:=Tryz.isAgg79
 z75:=Tryz.sizeOf79
 v75:=Tryz.zeroValue79
 t76:=Tryz.underlying80
 a76:=Tryz.isAgg80
 z76:=Tryz.sizeOf80
 v76:=Tryz.zeroValue80
 t127:=Tryz.underlying122
 a127:=Tryz.isAgg122
 z127:=Tryz.sizeOf122
 v127:=Tryz.zeroValue122
 t164:=Tryz.underlying151
 a164:=Tryz.isAgg151
 z164:=Tryz.sizeOf151
 v164:=Tryz.zeroValue151 }
theorem Tryz.lQ:Builder.Extra Tryz.prog Tryz.jn:={
 sizeBuilder:=by kernel_rfl
 liesBuilder:=by kernel_rfl
 t5:=Tryz.underlying5
 a5:=Tryz.isAgg5
 z5:=Tryz.sizeOf5
 v5:=Tryz.zeroValue5
 infoByte:=by kernel_rfl
 cellsByte:=by kernel_rfl
 sizeByte:=by kernel_rfl
 neB5:=by decide }
end Go.Proofs
namespace Go.Tp
open Go.Proofs Go.Shelf Go.RowKit Go.Maps
section
variable {P:Program} {ρ:Ren} {G:bw}
theorem EC {N:Name->Option Nat} {next b:Nat} (hnx:∀o b,N (.out o)=some b->o < next):∀m c,N m=some c->bV N (.out next) b m=some c:=fun m c hm=>by
 have hne:m≠.out next:=by
  rintro rfl
  have:=hnx next c hm
  omega
 simp[bV,hne,hm]
theorem E4 {N N':Name->Option Nat} (h:∀m c,N m=some c->N' m=some c):∀m c,outs N m=some c->outs N' m=some c:=fun m c hm=>by
 cases m with
 | loc i=>simp[outs] at hm
 | out o=>exact h _ _ hm
end
end Go.Tp
namespace Go.Tp
open Go.Proofs Go.Shelf Go.RowKit
section
variable {P:Program} {ρ:Ren} {G:bw}
def QL (args:List ac) (heap:Heap) (next:Nat):Option eW:=
 match args with
 | [.ptr (.out k) 0]=>(match pO (.out k) heap with
  | some (.cells [.dat (.flat (.pointer none)),q])=>(match DY q with|true=>some ⟨.tup [],pL (.out k) (.cells [.ptr (.out k) 0,q]) heap,next⟩|false=>none)
  | some (.cells [.ptr (.out m) 0,q])=>(match Nat.beq m k&&DY q with|true=>some ⟨.tup [],heap,next⟩|false=>none)
  | _=>none)
 | _=>none
theorem qs {w:World} {R:Own} {N:Name->Option Nat} {p q:ac} {b:Nat} {b1:List Nat} (h:aK w R N (.cells [p,q]) b b1) (hp:xr p=true) (hq:DY q=true) :
  ∃v0 v1 c0 c1,w.heap[b]?=some (.cells #[v0,v1] qZ (0,0))/\b1=c0++c1/\ai w R N p v0 c0/\ai w R N q v1 c1/\∀j,j < 2->R b j:=by
 obtain⟨vs,elem,sp,hblk,hr,hR,hsh⟩:=h;obtain⟨rfl,rfl⟩:=hsh (gv.2 ⟨p,_,rfl,hp,hq⟩);simp only[List.replicate_zero,List.append_nil] at hr;obtain⟨v0,r1,c0,d1,e1,rfl,h0,hr1⟩:=aw hr;obtain⟨v1,r2,c1,d2,rfl,rfl,h1,hr2⟩:=aw hr1;obtain⟨rfl,rfl⟩:=aQ hr2;have hvs:vs=#[v0,v1]:=by apply Array.toList_inj.1;rw[e1]
 subst hvs;exact⟨v0,v1,c0,c1,hblk,by simp,h0,h1,fun j hj=>hR j (by simpa using hj)⟩
theorem JU {w:World} {R:Own} {N:Name->Option Nat} {k:Nat} {cargs:List Value} {bs:List Nat} (h:ah w R (outs N) [.ptr (.out k) 0] cargs bs) :
  ∃b,N (.out k)=some b/\cargs=[.pointer (some ⟨b,0,none⟩)]/\bs=[]:=by
 obtain⟨v,vs',b1,b2,rfl,rfl,h1,h2⟩:=aw h;obtain⟨rfl,rfl⟩:=aQ h2;simp only[ai] at h1;obtain⟨rfl,b,hb,rfl⟩:=h1;exact⟨b,by simpa [outs] using hb,rfl,rfl⟩
theorem YE (L:Lays.n240 P ρ) (X:Builder.X72 P ρ) (hT:ρ.t 72=qZ) {args:List ac} {heap:Heap} {next:Nat} {r:eW} (h:QL args heap next=some r):aD P G (ρ.f 240) args heap next (XQ r):=by
 unfold QL at h
 split at h
 rotate_left
 ·simp at h
 rename_i k;rw[jA] at h;intro w R N cargs bsA bsH bsF hargs hheap hnd hnx hglob hF;obtain⟨b,hb,rfl,rfl⟩:=JU hargs
 split at h
 ·rename_i q hget
  split at h
  rotate_left
  ·simp at h
  rename_i hq;simp only[Option.some.injEq] at h;subst h;obtain⟨pre,b',b1,post,rfl,hb',hobj,hset⟩:=aj.split hheap hget
  have:b'=b:=by simp only[outs] at hb';rw[hb] at hb';simpa using hb'.symm
  subst this;obtain⟨v0,v1,c0,c1,hblk,rfl,h0,h1,hR⟩:=qs hobj rfl hq;obtain⟨rfl,rfl,_⟩:=aE h0;have hcell:w.cell? ⟨b',0,none⟩=some (.pointer none):=by simp[World.cell?,hblk]
  have hshape:w.shape? b'=some ((ρ.t 72),2):=by simp[World.shape?,hblk,hT]
  have hfz:w.frozen? ⟨b',0,none⟩=false:=by simp[World.frozen?,hblk]
  refine (Any.Builder_copyCheck_fresh L X b' w hcell hshape hfz).mono ?_;rintro e w' ⟨rfl,rfl⟩;rw[setCell_eq_setRow w b' 0 _ _ _ _ hblk];have hnd2:=hnd;simp only[List.nil_append] at hnd2;have hbn:∀c∈c1++(pre++(post++bsF)),c≠b':=by
   intro c hc e;subst e;have hp:((pre++(c::([]++c1))++post)++bsF).Perm (c::(c1++(pre++(post++bsF)))):=by
    rw[List.perm_iff_count];intro q;simp only[List.count_append,List.count_cons,List.count_nil];omega
   exact (List.nodup_cons.1 (hp.nodup_iff.1 hnd2)).1 hc
  have hk:∀bs:List Nat,b'∉bs->bm w R (w.setRow b' ((#[Value.pointer none,v1]).setIfInBounds 0 (.pointer (some ⟨b',0,none⟩)))) R bs:=fun bs hbs=>
   ji hblk _ (by simp) (fun _ _ h=>h) (fun _ _ _ h=>h) (fun off hnR=>by
    have:¬off < 2:=fun hlt=>hnR (hR off hlt)
    rw[Array.getElem?_eq_none (by simp;omega),Array.getElem?_eq_none (by simp;omega)]) ⟨0,hR 0 (by omega)⟩ bs hbs
  have hobj':aK (w.setRow b' ((#[Value.pointer none,v1]).setIfInBounds 0 (.pointer (some ⟨b',0,none⟩)))) R (outs N) (.cells [.ptr (.out k) 0,q]) b' ([]++c1):=by
   refine⟨_,qZ,0,setRow_heap w b' _ _ _ _ hblk,?_,fun j hj=>hR j (by simpa using hj),fun _=>⟨rfl,rfl⟩⟩;have q1:ai (w.setRow b' ((#[Value.pointer none,v1]).setIfInBounds 0 (.pointer (some ⟨b',0,none⟩)))) R (outs N) (.ptr (.out k) 0) (.pointer (some ⟨b',0,none⟩)) []:=by
    simp only[ai];exact⟨trivial,b',by simpa [outs] using hb,rfl⟩
   have q2:ai (w.setRow b' ((#[Value.pointer none,v1]).setIfInBounds 0 (.pointer (some ⟨b',0,none⟩)))) R (outs N) q v1 c1:=by
    exact h1.keep (hk c1 (fun hc=>hbn b' (by simp[hc]) rfl))
   simpa using aF q1 (aF q2 aR)
  have hH:=hset _ R _ ([]++c1) (hk (pre++post) (fun hc=>hbn b' (by simp at hc ⊢;rcases hc with h|h <;> simp[h]) rfl)) hobj';refine⟨.tup [],.tuple #[],_,next,R,N,[],_,rfl,⟨rfl,rfl,rfl⟩,by simp[ai,ah],by rw[mU];exact hH,by simpa using hnd,hnx,hk bsF (fun hc=>hbn b' (by simp[hc]) rfl),fun _ _ h=>h⟩
 ·rename_i m q hget
  split at h
  ·rename_i hm0;simp only[Bool.and_eq_true] at hm0;obtain⟨hm,hq⟩:=hm0;simp only[Option.some.injEq] at h;subst h;have hmk:m=k:=Nat.eq_of_beq_eq_true hm;subst hmk;obtain⟨pre,b',b1,post,rfl,hb',hobj,hset⟩:=aj.split hheap hget
   have:b'=b:=by simp only[outs] at hb';rw[hb] at hb';simpa using hb'.symm
   subst this;obtain⟨v0,v1,c0,c1,hblk,rfl,h0,h1,hR⟩:=qs hobj rfl hq;simp only[ai] at h0;obtain⟨rfl,b2,hb2,rfl⟩:=h0
   have:b2=b':=by simp only[outs] at hb2;rw[hb] at hb2;simpa using hb2.symm
   subst this;have hcell:w.cell? ⟨b2,0,none⟩=some (.pointer (some ⟨b2,0,none⟩)):=by simp[World.cell?,hblk]
   refine (Any.Builder_copyCheck_used L X b2 w hcell).mono ?_;rintro e w' ⟨rfl,rfl⟩;exact⟨.tup [],.tuple #[],_,next,R,N,[],_,rfl,⟨rfl,rfl,rfl⟩,by simp[ai,ah],hheap,by simpa using hnd,hnx,aY _,fun _ _ h=>h⟩
  simp at h
 simp at h
def vy:List al->Option (List UInt8)
 | []=>some []
 | .flat (.int .u8 (.ofNat n))::r=>(match vy r with|some l=>some (UInt8.ofNat n::l)|none=>none)
 | _=>none
def Vu (args:List ac) (heap:Heap) (next:Nat):Option eW:=
 match args with
 | [.ptr (.out k) 0]=>(match pO (.out k) heap with
  | some (.cells [p,.own (e::es)])=>(match xr p,vy (e::es) with
   | true,some l=>some ⟨.dat (.flat (.string ⟨⟨l⟩⟩)),pL (.out k) (.cells [p,.dat (.slice (e::es))]) heap,next⟩
   | _,_=>none)
  | some (.cells [p,.dat (.flat (.slice none 0 0))])=>(match xr p with
   | true=>some ⟨.dat (.flat (.string .empty)),heap,next⟩
   | false=>none)
  | _=>none)
 | _=>none
theorem wD:∀{es:List al} {l:List UInt8},vy es=some l->l.length=es.length/\∀(j:Nat) x,l[j]?=some x->∃n:Nat,es[j]?=some (.flat (.int .u8 (.ofNat n)))/\x=UInt8.ofNat n
 | [],l,h=>by simp[vy] at h;subst h;exact⟨rfl,fun j x hj=>by simp at hj⟩
 | d::r,l,h=>by
  unfold vy at h
  split at h
  ·simp at *
  ·rename_i n r' heq;simp at heq;obtain⟨rfl,rfl⟩:=heq
   split at h
   ·rename_i l' hl';simp at h;subst h;obtain⟨h1,h2⟩:=wD hl';refine⟨by simp[h1],fun j x hj=>?_⟩
    cases j with
    | zero=>simp at hj;exact⟨n,rfl,hj.symm⟩
    | succ j=>simpa using h2 j x (by simpa using hj)
   simp at h
  simp at h
theorem RJ {n:Nat} (h:bH (.int .u8 (Int.ofNat n))=true):((UInt8.ofNat n).toNat:Int)=Int.ofNat n:=by
 simp only[bH,Bool.and_eq_true,decide_eq_true_eq] at h;have h2:IntKind.u8.max=255:=by decide
 rw[h2] at h
 have:n < 256:=by have:=h.2;simp at this;omega
 simp[Nat.mod_eq_of_lt this]
set_option maxHeartbeats 2000000 in
set_option maxRecDepth 100000 in
theorem CA (L:Lays.n169 P ρ) (X:Builder.Extra P ρ) (T:TypeId) (b g cap:Nat) (p:Value) (cur:Array Value) (l:List UInt8) (w:World) (h0:l≠[]) (hbk:w.heap[b]?=some (.cells #[p,.slice (some ⟨g,0,none⟩) l.length cap] T (0,0)))
  (hg:w.heap[g]?=some (.cells cur (ρ.t 5) (0,0))) (hcap:l.length<=cap) (hlc:l.length<=cur.size) (hmax:l.length<=maxLen) (hby:∀(j:Nat) x,l[j]?=some x->w.cell? ⟨g,j,none⟩=some (.int .u8 x.toNat)) :
  Calls P (ρ.f 169) #[.pointer (some ⟨b,0,none⟩)] w fun e w'=>e=.returned (.string ⟨l.toArray⟩)/\w'=w.drew.freeze ⟨g,0,none⟩ l.length:=by
 have hl0:l.length≠0:=by simpa using h0
 have c1:w.drew.cell? ⟨b,1,none⟩=some (.slice (some ⟨g,0,none⟩) l.length cap):=by
  have:w.drew.heap[b]?=some (.cells #[p,.slice (some ⟨g,0,none⟩) l.length cap] T (0,0)):=hbk
  rw[Lib.cell_of_heap this];rfl
 have hSD:(Builtin.unsafeSliceData_ #[(ρ.t 37)] (ρ.t 127) #[.slice (some ⟨g,0,none⟩) l.length cap]).run P w.drew=.ok (.pointer (some ⟨g,0,none⟩)) w.drew:=
  Lib.run_unsafeSliceData_row _ _ _ _ _ _ (by omega)
 have hUS:(Builtin.unsafeString_ #[(ρ.t 127),(ρ.t 3)] (ρ.t 9) #[.pointer (some ⟨g,0,none⟩),.int .i64 l.length]).run P w.drew=.ok (.string ⟨l.toArray⟩) (w.drew.freeze ⟨g,0,none⟩ l.length):=by
  refine Lib.run_unsafeString_row w.drew (ρ.t 127) (ρ.t 3) (ρ.t 9) (ρ.t 5) L.t127 X.cellsByte g cur.size (by have hg':w.drew.heap[g]?=some (.cells cur (ρ.t 5) (0,0)):=hg;simp[World.shape?,hg']) l h0 (by omega) (by unfold maxLen at hmax;omega) ?_;intro j x hx;rw[add_plain,Nat.zero_add];exact hby j x hx
 have mixed:=L.mixed;have t72:=L.t72;have a72:=L.a72;have z72:=L.z72;have v72:=L.v72;have u72:=run_underlying L.t72;have t70:=L.t70;have a70:=L.a70;have z70:=L.z70;have v70:=L.v70;have u70:=run_underlying L.t70;have t37:=L.t37;have a37:=L.a37;have z37:=L.z37;have v37:=L.v37;have u37:=run_underlying L.t37;have t127:=L.t127;have a127:=L.a127;have z127:=L.z127;have v127:=L.v127;have u127:=run_underlying L.t127;have t3:=L.t3;have a3:=L.a3;have z3:=L.z3;have v3:=L.v3;have u3:=run_underlying L.t3;have t9:=L.t9;have a9:=L.a9;have z9:=L.z9;have v9:=L.v9;have u9:=run_underlying L.t9;have t5:=X.t5;have a5:=X.a5;have z5:=X.z5;have v5:=X.v5;have u5:=run_underlying X.t5
 go_enter L.f169,Body.n169_ntmps ρ
 go_wp2
 go_region_o
 all_goals (go_wp2;go_ret;exact⟨rfl,rfl⟩)
set_option maxHeartbeats 2000000 in
set_option maxRecDepth 100000 in
theorem GW (L:Lays.n169 P ρ) (X:Builder.Extra P ρ) (T:TypeId) (b:Nat) (p:Value) (w:World) (hbk:w.heap[b]?=some (.cells #[p,.slice none 0 0] T (0,0))) :
  Calls P (ρ.f 169) #[.pointer (some ⟨b,0,none⟩)] w fun e w'=>e=.returned (.string .empty)/\w'=w.drew:=by
 have c1:w.drew.cell? ⟨b,1,none⟩=some (.slice none 0 0):=by
  have:w.drew.heap[b]?=some (.cells #[p,.slice none 0 0] T (0,0)):=hbk
  rw[Lib.cell_of_heap this];rfl
 have hSD:(Builtin.unsafeSliceData_ #[(ρ.t 37)] (ρ.t 127) #[.slice none 0 0]).run P w.drew=.ok (.pointer none) w.drew:=rfl;have hUS:(Builtin.unsafeString_ #[(ρ.t 127),(ρ.t 3)] (ρ.t 9) #[.pointer none,.int .i64 0]).run P w.drew=.ok (.string .empty) w.drew:=
  Lib.run_unsafeString_none (w:=w.drew) (ρ.t 127) (ρ.t 3) (ρ.t 9) none
 have mixed:=L.mixed;have t72:=L.t72;have a72:=L.a72;have z72:=L.z72;have v72:=L.v72;have u72:=run_underlying L.t72;have t70:=L.t70;have a70:=L.a70;have z70:=L.z70;have v70:=L.v70;have u70:=run_underlying L.t70;have t37:=L.t37;have a37:=L.a37;have z37:=L.z37;have v37:=L.v37;have u37:=run_underlying L.t37;have t127:=L.t127;have a127:=L.a127;have z127:=L.z127;have v127:=L.v127;have u127:=run_underlying L.t127;have t3:=L.t3;have a3:=L.a3;have z3:=L.z3;have v3:=L.v3;have u3:=run_underlying L.t3;have t9:=L.t9;have a9:=L.a9;have z9:=L.z9;have v9:=L.v9;have u9:=run_underlying L.t9;have t5:=X.t5;have a5:=X.a5;have z5:=X.z5;have v5:=X.v5;have u5:=run_underlying X.t5
 go_enter L.f169,Body.n169_ntmps ρ
 go_wp2
 go_region_o
 all_goals (go_wp2;go_ret;exact⟨rfl,rfl⟩)
theorem lG {w:World} {g n c:Nat} (h:c≠g):(w.freeze ⟨g,0,none⟩ n).heap[c]?=w.heap[c]?:=by
 unfold World.freeze
 split
 ·rfl
 simp only[Array.getElem?_modify];rw[if_neg (fun e=>h e.symm)]
theorem vj {w:World} {g n:Nat} {cs:Array Value} {t:TypeId} (h:w.heap[g]?=some (.cells cs t (0,0))):∃fr,(w.freeze ⟨g,0,none⟩ n).heap[g]?=some (.cells cs t fr):=by
 unfold World.freeze
 split
 ·exact⟨_,h⟩
 refine⟨(0,0+n),?_⟩;simp only[Array.getElem?_modify,if_pos,h,Option.map_some];simp
theorem Io {w:World} {R:Own} (bs:List Nat):bm w R w.drew R bs:=
 ⟨⟨rfl,rfl,rfl,Nat.le_refl _,fun _ _ h=>⟨rfl,h⟩,fun _ _ _ h=>⟨h,rfl⟩,fun _ _=>rfl⟩,fun _ _ _=>⟨rfl,fun _ h=>h⟩⟩
theorem FN {w:World} {g n:Nat}:(w.freeze ⟨g,0,none⟩ n).heap.size=w.heap.size:=by
 unfold World.freeze
 split <;> simp
theorem FO {w:World} {g n:Nat}:(w.freeze ⟨g,0,none⟩ n).os=w.os/\(w.freeze ⟨g,0,none⟩ n).tape=w.tape/\(w.freeze ⟨g,0,none⟩ n).output=w.output:=by
 unfold World.freeze
 split <;> simp
theorem Fw {w:World} {R:Own} {g n:Nat} {cs:Array Value} {t:TypeId} (hg:w.heap[g]?=some (.cells cs t (0,0))) (hR:∃off,R g off) (bs:List Nat) (hb:g∉bs):bm w R (w.drew.freeze ⟨g,0,none⟩ n) R bs:=by
 have hg':w.drew.heap[g]?=some (.cells cs t (0,0)):=hg;obtain⟨fr,hfr⟩:=vj (n:=n) hg';obtain⟨e1,e2,e3⟩:=FO (w:=w.drew) (g:=g) (n:=n);have hoth:∀c,c≠g->(w.drew.freeze ⟨g,0,none⟩ n).heap[c]?=w.heap[c]?:=fun c hc=>lG hc
 refine⟨⟨e1,e2,e3,?_,?_,?_,?_⟩,?_⟩
 ·rw[FN];exact Nat.le_refl _
 ·intro c _ hno;obtain⟨off,ho⟩:=hR;exact⟨hoth c (fun e=>hno off (e ▸ ho)),hno⟩
 ·intro c off _ hno;refine⟨hno,?_⟩
  by_cases hc:c=g
  ·subst hc;simp only[World.cell?,hg,hfr]
  exact World.cell?_of_block (a:=⟨c,off,none⟩) (hoth c hc)
 ·intro c _
  by_cases hc:c=g
  ·subst hc;simp only[dX,hg,hfr]
  exact eK (hoth c hc)
 intro c hc _;exact⟨hoth c (fun e=>hb (e ▸ hc)),fun _ h=>h⟩
theorem M0 (L:Lays.n169 P ρ) (X:Builder.Extra P ρ) (hB:ρ.t 5=mn) {w:World} {R:Own} {N:Name->Option Nat} {heap:Heap} {next k b:Nat} {p:ac} {d:al} {es:List al} {l:List UInt8} {bsH bsF:List Nat}
  (hb:N (.out k)=some b) (hheap:aj w R (outs N) heap bsH) (hnd:([]++(bsH++bsF)).Nodup) (hnx:∀o b,N (.out o)=some b->o < next)
  (hget:dV (.out k) heap=some (.cells [p,.own (d::es)])) (hp:xr p=true) (hl:vy (d::es)=some l) :
  Calls P (ρ.f 169) #[.pointer (some ⟨b,0,none⟩)] w fun e w'=>∃v cv heap' next' R' N' bsV bsH',e=.returned cv/\XQ ⟨.dat (.flat (.string ⟨⟨l⟩⟩)),pL (.out k) (.cells [p,.dat (.slice (d::es))]) heap,next⟩ v heap' next'/\ai w' R' (outs N') v cv bsV/\aj w' R' (outs N') heap' bsH' ∧
   (bsV++(bsH'++bsF)).Nodup/\(∀o b,N' (.out o)=some b->o < next')/\bm w R w' R' bsF/\(∀o b,N (.out o)=some b->N' (.out o)=some b):=by
 obtain⟨pre,b',b1,post,rfl,hb',hobj,hset⟩:=aj.split hheap hget
 have:b'=b:=by simp only[outs] at hb';rw[hb] at hb';simpa using hb'.symm
 subst this;obtain⟨v0,v1,c0,c1,hblk,rfl,h0,h1,hR⟩:=qs hobj hp rfl;replace h1:=cd h1;obtain⟨hll,hle⟩:=wD hl
 rcases kE h1 with⟨_,he,_⟩|⟨g,cap,s,cur,t,rfl,rfl,hg,hs0,hs,hcap,_,hin,hrep,hsp,hty⟩
 ·simp at he
 have hd:∃n:Nat,d=.flat (.int .u8 (.ofNat n)):=by
  cases l with
  | nil=>simp at hll
  | cons x l=>obtain⟨n,hn,_⟩:=hle 0 x rfl;simp at hn;exact⟨n,hn⟩
 obtain⟨n0,rfl⟩:=hd;have hs1:s=1:=by have:=hs _ (List.mem_cons_self ..);simpa [al.cells] using this.symm
 subst hs1;have htb:t=mn:=(hty rfl).1;have hfr:=(hty rfl).2;subst htb;obtain⟨g',off',cap',cells,hv,_,hcs,hcell⟩:=kn hrep (by simp) hs;simp at hv;obtain⟨⟨rfl,rfl⟩,rfl⟩:=hv;have hfl:(al.flat (.int .u8 (.ofNat n0))::es).flatMap al.cells=al.flat (.int .u8 (.ofNat n0))::es:=by
  have key:∀es':List al,(∀e∈es',∃n:Nat,e=.flat (.int .u8 (.ofNat n)))->es'.flatMap al.cells=es':=by
   intro es'
   induction es' with
   | nil=>intro _;rfl
   | cons e es' ih=>
    intro hall;obtain⟨n,rfl⟩:=hall e (by simp);simp only[List.flatMap_cons,al.cells,List.singleton_append];rw[ih (fun e he=>hall e (by simp[he]))]
  refine key _ (fun e he=>?_);obtain⟨j,hj⟩:=List.getElem?_of_mem he;have hjl:j < l.length:=by
   rw[hll]
   rcases Nat.lt_or_ge j (al.flat (.int .u8 (.ofNat n0))::es).length with h'|h'
   ·exact h'
   rw[List.getElem?_eq_none h'] at hj;simp at hj
  obtain⟨n,hn,_⟩:=hle j l[j] (by simp);rw[hj] at hn;simp at hn;exact⟨n,hn⟩
 rw[hfl] at hcs;have hby:∀(j:Nat) x,l[j]?=some x->w.cell? ⟨g,j,none⟩=some (.int .u8 x.toNat):=by
  intro j x hx;obtain⟨n,hn,rfl⟩:=hle j x hx;obtain⟨v,hv,hrv⟩:=qb hcs hn;have hc:=(hcell j v hv).1
  cases hrv with
  | flat hfv=>
   rw[Nat.zero_add] at hc;rw[hc,RJ hfv]
 have hlen:(al.flat (.int .u8 (.ofNat n0))::es).length=l.length:=hll.symm;have hlim:=(eF.oG hrep);simp only[wZ] at hlim;rw[hlen] at hblk hcap hlim hsp;have hnd2:=hnd;simp only[List.nil_append] at hnd2;have hperm:((pre++(b'::(c0++[g]))++post)++bsF).Perm (g::(b'::(c0++(pre++(post++bsF))))):=by
  rw[List.perm_iff_count];intro q;simp only[List.count_append,List.count_cons,List.count_nil];omega
 have hnd3:=hperm.nodup_iff.1 hnd2;have hgn:∀c∈b'::(c0++(pre++(post++bsF))),c≠g:=fun c hc e=>(List.nodup_cons.1 hnd3).1 (e ▸ hc)
 have hlc:l.length<=cur.size:=by have:l.length*1<=cap*1:=Nat.mul_le_mul_right _ hcap;omega
 refine (CA L X qZ b' g cap v0 cur l w (by intro e;rw[e] at hll;simp at hll) hblk (by rw[hB];exact hg) hcap hlc (by unfold maxLen;have:=hlim.1;unfold lim at this;omega) hby).mono ?_;rintro e w' ⟨rfl,rfl⟩;have hRg:∃off,R g off:=⟨cur.size,hfr _ (Nat.le_refl _)⟩;have hk:∀bs:List Nat,g∉bs->bm w R (w.drew.freeze ⟨g,0,none⟩ l.length) R bs:=fun bs hbs=>Fw hg hRg bs hbs
 have hblk':(w.drew.freeze ⟨g,0,none⟩ l.length).heap[b']?=some (.cells #[v0,.slice (some ⟨g,0,none⟩) l.length cap] qZ (0,0)):=by
  rw[lG (hgn b' (by simp))];exact hblk
 have hobj':aK (w.drew.freeze ⟨g,0,none⟩ l.length) R (outs N) (.cells [p,.dat (.slice (.flat (.int .u8 (.ofNat n0))::es))]) b' (c0++[]):=by
  refine⟨_,qZ,0,hblk',?_,fun j hj=>hR j (by simpa using hj),fun _=>⟨rfl,rfl⟩⟩;have q1:=h0.keep (hk c0 (fun hc=>hgn g (by simp[hc]) rfl));have q2:ai (w.drew.freeze ⟨g,0,none⟩ l.length) R (outs N) (.dat (.slice (.flat (.int .u8 (.ofNat n0))::es))) (.slice (some ⟨g,0,none⟩) l.length cap) []:=by
   have:=hrep.step (hk [] (by simp)).step
   rw[hlen] at this;exact bR (d:=.slice _) this
  simpa using aF q1 (aF q2 aR)
 have hH:=hset _ R _ (c0++[]) (hk (pre++post) (fun hc=>hgn g (by simp at hc ⊢;rcases hc with h|h <;> simp[h]) rfl)) hobj';refine⟨_,.string ⟨l.toArray⟩,_,next,R,N,[],_,rfl,⟨rfl,rfl,rfl⟩,?_,by rw[mU];exact hH,?_,hnx,hk bsF (fun hc=>hgn g (by simp[hc]) rfl),fun _ _ h=>h⟩
 ·refine bz ?_;simp only[bH,decide_eq_true_eq];have h2:=hlim.1;unfold lim at h2
  have:(ByteArray.mk ⟨l⟩).size=l.length:=rfl
  rw[this];omega
 simp only[List.nil_append,List.append_nil];have hp2:(b'::(c0++(pre++(post++bsF)))).Perm ((pre++(b'::c0)++post)++bsF):=by
  rw[List.perm_iff_count];intro q;simp only[List.count_append,List.count_cons];omega
 exact hp2.nodup_iff.1 (List.nodup_cons.1 hnd3).2
theorem ab7 (L:Lays.n169 P ρ) (X:Builder.Extra P ρ) (hB:ρ.t 5=mn) {args:List ac} {heap:Heap} {next:Nat} {r:eW} (h:Vu args heap next=some r):aD P G (ρ.f 169) args heap next (XQ r):=by
 unfold Vu at h
 split at h
 rotate_left
 ·simp at h
 rename_i k;rw[jA] at h;intro w R N cargs bsA bsH bsF hargs hheap hnd hnx hglob hF;obtain⟨b,hb,rfl,rfl⟩:=JU hargs
 split at h
 ·rename_i p d es hget;revert h;intro h
  split at h
  rotate_left
  ·simp at h
  rename_i l hp hl;simp only[Option.some.injEq] at h;subst h;exact M0 L X hB hb hheap hnd hnx hget hp hl
 ·rename_i p hget
  split at h
  rotate_left
  ·simp at h
  rename_i hp;simp only[Option.some.injEq] at h;subst h;obtain⟨pre,b',b1,post,rfl,hb',hobj,hset⟩:=aj.split hheap hget
  have:b'=b:=by simp only[outs] at hb';rw[hb] at hb';simpa using hb'.symm
  subst this;obtain⟨v0,v1,c0,c1,hblk,rfl,h0,h1,hR⟩:=qs hobj hp rfl;obtain⟨_,rfl,_⟩:=aE h1;refine (GW L X qZ b' v0 w hblk).mono ?_;rintro e w' ⟨rfl,rfl⟩;have hk:∀bs:List Nat,bm w R w.drew R bs:=fun bs=>Io bs
  exact⟨_,_,_,next,R,N,[],_,rfl,⟨rfl,rfl,rfl⟩,bz rfl,hheap.keep (hk _),by simpa using hnd,hnx,hk bsF,fun _ _ h=>h⟩
 simp at h
def xR:List al->Option (List ByteArray)
 | []=>some []
 | .flat (.string s)::r=>(match xR r with|some l=>some (s::l)|none=>none)
 | _=>none
def tb (sep:List UInt8):List ByteArray->List UInt8
 | []=>[]
 | [x]=>x.data.toList
 | x::r=>x.data.toList++(sep++tb sep r)
theorem zw (sep:List UInt8):∀xs:List ByteArray,tb sep xs=Lib.join (xs.map (·.data.toList)) sep
 | []=>rfl
 | [x]=>by simp only[tb,List.map_cons,List.map_nil];rw[Lib.join_one]
 | x::y::r=>by
  have ih:=zw sep (y::r);simp only[tb,List.map_cons] at ih ⊢;rw[Lib.join_cons] at ih ⊢;rw[ih];simp[Lib.joinTail]
def PX (args:List ac) (heap:Heap) (next:Nat):Option eW:=
 match args with
 | [a,.dat (.flat (.string sep))]=>(match nz a with
  | .dat (.slice es)=>(match xR es with
   | some xs=>(match Nat.ble (tb sep.data.toList xs).length 140737488355328&&Nat.ble xs.length 140737488355328 with
    | true=>some ⟨.dat (.flat (.string ⟨⟨tb sep.data.toList xs⟩⟩)),heap,next⟩
    | false=>none)
   | none=>none)
  | _=>none)
 | _=>none
theorem vQ:∀{es:List al} {xs:List ByteArray},xR es=some xs->xs.length=es.length/\∀(j:Nat) x,xs[j]?=some x->es[j]?=some (.flat (.string x))
 | [],l,h=>by simp[xR] at h;subst h;exact⟨rfl,fun j x hj=>by simp at hj⟩
 | d::r,l,h=>by
  unfold xR at h
  split at h
  ·simp at *
  ·rename_i s r' heq;simp at heq;obtain⟨rfl,rfl⟩:=heq
   split at h
   ·rename_i l' hl';simp at h;subst h;obtain⟨h1,h2⟩:=vQ hl';refine⟨by simp[h1],fun j x hj=>?_⟩
    cases j with
    | zero=>simp at hj;simp[hj]
    | succ j=>simpa using h2 j x (by simpa using hj)
   simp at h
  simp at h
theorem zt {w w':World} {R:Own} (h:Below w.heap.size w w') (bs:List Nat):bm w R w' (fun b off=>b < w.heap.size/\R b off) bs:=
 ⟨⟨h.os,h.tape,h.output,h.size,fun b hb hno=>⟨h.block b hb,fun off hr=>hno off hr.2⟩,fun b off hb hno=>⟨fun hr=>hno hr.2,World.cell?_of_block (a:=⟨b,off,none⟩) (h.block b hb)⟩,fun b hb=>eK (h.block b hb)⟩,
  fun b _ hb=>⟨h.block b hb,fun off hr=>⟨hb,hr⟩⟩⟩
theorem YC (L:Lays.n156 P ρ) (X:Builder.Extra P ρ) {args:List ac} {heap:Heap} {next:Nat} {r:eW} (h:PX args heap next=some r):aD P G (ρ.f 156) args heap next (XQ r):=by
 unfold PX at h
 split at h
 rotate_left
 ·simp at h
 rename_i a sep
 split at h
 rotate_left
 ·simp at h
 rename_i es hnz
 split at h
 rotate_left
 ·simp at h
 rename_i xs hxs
 split at h
 rotate_left
 ·simp at h
 rename_i hc;simp only[Bool.and_eq_true,Nat.ble_eq] at hc;simp only[Option.some.injEq] at h;subst h;intro w R N cargs bsA bsH bsF hargs hheap hnd hnx hglob hF;obtain⟨v0,r1,c0,d1,rfl,rfl,h0,hr1⟩:=aw hargs;obtain⟨v1,r2,c1,d2,rfl,rfl,h1,hr2⟩:=aw hr1;obtain⟨rfl,rfl⟩:=aQ hr2;replace h0:=jN h0;rw[hnz] at h0;obtain⟨rfl,hxr⟩:=dr h0;obtain⟨rfl,rfl,_⟩:=aE h1;obtain⟨hxl,hxe⟩:=vQ hxs;have fin:∀{w':World},Below w.heap.size w w'->∃v cv heap' next' R' N' bsV bsH',Ending.returned (.string ⟨(Lib.join (xs.map (·.data.toList)) sep.data.toList).toArray⟩)=.returned cv/\XQ ⟨.dat (.flat (.string ⟨⟨tb sep.data.toList xs⟩⟩)),heap,next⟩ v heap' next'/\ai w' R' (outs N') v cv bsV/\aj w' R' (outs N') heap' bsH' ∧
   (bsV++(bsH'++bsF)).Nodup/\(∀o b,N' (.out o)=some b->o < next')/\bm w R w' R' bsF/\(∀o b,N (.out o)=some b->N' (.out o)=some b):=by
  intro w' hb;refine⟨_,_,_,next,_,N,[],bsH,rfl,⟨rfl,rfl,rfl⟩,?_,hheap.keep (zt hb bsH),by simpa using hnd,hnx,zt hb bsF,fun _ _ h=>h⟩;rw[←zw];refine bz ?_;simp only[bH,decide_eq_true_eq]
  have:(ByteArray.mk ⟨tb sep.data.toList xs⟩).size=(tb sep.data.toList xs).length:=rfl
  rw[this];omega
 by_cases hne:es=[]
 ·subst hne;have hx0:xs=[]:=by simpa using hxl
  subst hx0;have hv:∃a c,v0=.slice a 0 c:=by cases hxr with|nil a c=>exact⟨a,c,rfl⟩|slice b off cap s es vs=>exact⟨_,_,rfl⟩
  obtain⟨a,c,rfl⟩:=hv;refine (Any.strings_Join_none L X a c sep w).mono ?_;rintro e w' ⟨rfl,rfl⟩;exact fin (Below.refl _ _)
 have hs1:∀d∈es,d.cells.length=1:=by
  intro d hd;obtain⟨j,hj⟩:=List.getElem?_of_mem hd;have hjl:j < xs.length:=by
   rw[hxl]
   rcases Nat.lt_or_ge j es.length with h'|h'
   ·exact h'
   rw[List.getElem?_eq_none h'] at hj;simp at hj
  have:=hxe j xs[j] (by simp)
  rw[hj] at this;simp at this;rw[this];rfl
 obtain⟨bk,off,cap,cells,rfl,hcap,hcs,hcell⟩:=kn hxr hne hs1;have hfl:es.flatMap al.cells=es:=by
  have key:∀(es':List al),(∀e∈es',∃s,e=al.flat (.string s))->es'.flatMap al.cells=es':=by
   intro es'
   induction es' with
   | nil=>intro _;rfl
   | cons e es' ih=>
    intro hall;obtain⟨s,rfl⟩:=hall e (by simp);simp only[List.flatMap_cons,al.cells,List.singleton_append];rw[ih (fun e he=>hall e (by simp[he]))]
  refine key _ (fun e he=>?_);obtain⟨j,hj⟩:=List.getElem?_of_mem he;have hjl:j < xs.length:=by
   rw[hxl]
   rcases Nat.lt_or_ge j es.length with h'|h'
   ·exact h'
   rw[List.getElem?_eq_none h'] at hj;simp at hj
  have:=hxe j xs[j] (by simp)
  rw[hj] at this;simp at this;exact⟨_,this⟩
 rw[hfl] at hcs;have hcells:∀(j:Nat) x,xs[j]?=some x->w.cell? ⟨bk,off+j,none⟩=some (.string x):=by
  intro j x hx;obtain⟨v,hv,hrv⟩:=qb hcs (hxe j x hx);have hc:=(hcell j v hv).1
  cases hrv with
  | flat _=>exact hc
 have hpos:0 < xs.length:=by
  rcases Nat.eq_zero_or_pos xs.length with h'|h'
  ·rw[hxl] at h';exact absurd (List.eq_nil_of_length_eq_zero h') hne
  exact h'
 have hbk:bk < w.heap.size:=by
  have:=hcells 0 xs[0] (by simp)
  exact block_lt_of_cell this
 rw[←hxl];refine (Any.strings_Join L X bk off cap xs sep w hcells hbk hc.2 (by rw[hxl];exact hcap) (by rw[←zw];exact hc.1)).mono ?_;rintro e w' ⟨rfl,hb⟩;exact fin hb
end
end Go.Tp
namespace Go.Proofs.YtmpmgmmcaghacaaGreatDoor
open Go.Tp Go.Shelf
def encS (l:List (List UInt8)):List al:=l.map fun b=>.flat (.string ⟨⟨b⟩⟩)
def Yi:List (List UInt8):=[[88,97],[88,98],[88,99],[88,100]]
def adB:List (List UInt8):=[[66,111,120],[73,110,116],[80,97,105,114],[65],[120,95,49],[],[116,117,112,108,101],[65,110,121],[49,120],[97,45,98],[97,98,99,100,101,102,103,104,105,106,107,108,109,110,111,112,113,114,115,116,117,118,119,120,121]]
def M1:List (List UInt8):=[[],[97,32,98],[113,117,111,116,101,32,34,32,97,110,100,32,92],[126],[40,110,111,116,32,97,32,108,105,115,116,41],[59,32,110,111,32,99,111,109,109,101,110,116]]
def zJ:List (List UInt8):=[[102],[103],[104]]
def IG:List (List UInt8):=[[105,116,101,109],[114,97,100,105,117,115],[102,105,114,115,116],[105,110,110,101,114],[112,97,114,116],[110,111,110,101]]
def Oq:List (List UInt8):=[[],[97,100,100],[115,117,98],[109,117,108],[108,101,115,115],[110,111,116],[99,111,110,99,97,116],[115,97,109,101]]
def kM:List (List UInt8):=[[73,110,116],[66,111,111,108],[83,116,114,105,110,103],[78,105,108]]
def sq:List (List UInt8):=[[65,110,121],[78,101,118,101,114],[116,117,112,108,101],[117,110,105,111,110],[101,120,105,115,116,115]]
def bZ:bw:=fun g=>match g with|1=>some [.slice (encS M1)]|2=>some [.slice (encS zJ)]|3=>some [.slice (encS IG)]|4=>some [.slice (encS Oq)]|5=>some [.slice (encS kM)]|8=>some [.slice (encS sq)]|_=>none
theorem Ma:(env ak.aC).Ok Tryz.prog:=by rw[Qp];exact Yk
def S9:ld:=fun g args heap next=>
 match g with
 | 72=>QL args heap next
 | 44=>Vu args heap next
 | 77=>PX args heap next
 | _=>none
theorem PR:Lays.n240 Tryz.prog Tryz.jn:=
 {mixed:=Tryz.bY.mixed,f240:=Tryz.bY.f240,f276:=Tryz.bY.f276,
  t0:=Tryz.bY.t0,a0:=Tryz.bY.a0,z0:=Tryz.bY.z0,v0:=Tryz.bY.v0,
  t4:=Tryz.bY.t4,a4:=Tryz.bY.a4,z4:=Tryz.bY.z4,v4:=Tryz.bY.v4,
  t9:=Tryz.bY.t9,a9:=Tryz.bY.a9,z9:=Tryz.bY.z9,v9:=Tryz.bY.v9,
  t20:=Tryz.bY.t20,a20:=Tryz.bY.a20,z20:=Tryz.bY.z20,v20:=Tryz.bY.v20,
  t70:=Tryz.bY.t70,a70:=Tryz.bY.a70,z70:=Tryz.bY.z70,v70:=Tryz.bY.v70,
  t72:=Tryz.bY.t72,a72:=Tryz.bY.a72,z72:=Tryz.bY.z72,v72:=Tryz.bY.v72,
  t164:=Tryz.bY.t164,a164:=Tryz.bY.a164,z164:=Tryz.bY.z164,v164:=Tryz.bY.v164 }
theorem S8:Jd Tryz.prog bZ S9:=by
 intro f args heap next r h;unfold S9 at h
 split at h
 ·exact YE (ρ:=Tryz.jn) PR Tryz.lQ.toX72 rfl h
 ·exact ab7 (ρ:=Tryz.po) Tryz.Tb Tryz.tX rfl h
 ·exact YC (ρ:=Tryz.jn) Tryz.bY Tryz.lQ h
 simp at h
noncomputable def X:ld:=B5 (env ak.aC) bZ bS bg L1.find S9 3000 60
theorem dm:Jd Tryz.prog bZ X:=fun f args heap next r h=>wx 3000 Ma xx (M:=S9) S8 60 f args heap next r h
theorem TS (ls bs:List Nat) {g:FuncId} {x:rP} (hx:L1.find g=some x) {args:List ac} {heap:Heap} {next:Nat} {r:eW} (h:(Oh (Rv ls) (Rv bs) (env ak.aC) bZ bS bg x g args heap next).Ok Tryz.prog bZ (fun y=>y=r)) :
  aD Tryz.prog bZ g args heap next (XQ r):=Cq (JI Ma xx hx (fun _ _=>h))
abbrev KD:=cD Tryz.prog bZ
abbrev KC:=aD Tryz.prog bZ
theorem co (ls bs:List Nat) {g:FuncId} {x:rP} {args:List ac} {heap:Heap} {next:Nat} {r:eW} (h:(Oh (Rv ls) (Rv bs) (env ak.aC) bZ bS bg x g args heap next).Ok Tryz.prog bZ (fun y=>y=r)) (hx:L1.find g=some x:=by kernel_rfl):aD Tryz.prog bZ g args heap next (XQ r):=TS ls bs hx h
theorem ay (ls bs:List Nat) {H:Hints} {n:Nat} {live:Nat->Nat} {c:Code} (hc:cP H c=true) {f:ab} {T:Exit->aa->Prop}
  (h:(sC (Rv ls) (Rv bs) (env ak.aC) bZ H n live c f (fun r=>.fin r)).Ok Tryz.prog bZ (fun r=>T r.1 (r.2.an n))):cD Tryz.prog bZ c T (f.an n):=Ls Ma live hc h
theorem aam {α:Type} {T:α->Prop} {q:Qy α} {c b:Bool} (hc:c=b) (e:q.As=some (!c)) (h:(q.YQ (!b)).Ok Tryz.prog bZ T):q.Ok Tryz.prog bZ T:=bi (by rw[hc]) e h
abbrev ae (g:FuncId) (args:List ac) (v:ac):Prop:=aD Tryz.prog bZ g args [] 0 (XQ ⟨v,[],0⟩)
def i64 (n:Int):al:=.flat (.int .i64 n)
def sb (b:List UInt8):al:=.flat (.string ⟨⟨b⟩⟩)
def nl:al:=.flat (.slice none 0 0)
def sl:List al->al
 | []=>nl
 | d::r=>.slice (d::r)
inductive Ty where
 |mk (k:Int) (nm:List UInt8) (ix:Int) (args:List Ty)
mutual
def Ty.cells:Ty->List al
 | .mk k nm ix args=>[i64 k,sb nm,i64 ix,sl (ax args)]
def ax:List Ty->List al
 | []=>[]
 | t::r=>.agg t.cells::ax r
end
def Ty.enc (t:Ty):al:=.agg t.cells
theorem pD:∀l:List Ty,ax l=l.map Ty.enc
 | []=>by simp[ax]
 | t::r=>by simp[ax,pD r,Ty.enc]
theorem aJ (l:List Ty):(ax l).length=l.length:=by simp[pD]
theorem Qz {l:List Ty} {i:Nat} {t:Ty} (h:l[i]?=some t):(ax l)[i]?=some t.enc:=by simp[pD,h]
mutual
def Ty.size:Ty->Nat
 | .mk _ _ _ args=>aT args+1
def aT:List Ty->Nat
 | []=>0
 | t::r=>t.size+aT r
end
theorem kC {l:List Ty} {i:Nat} {t:Ty} (h:l[i]?=some t):aT (l.take (i+1))=aT (l.take i)+t.size:=by
 induction l generalizing i with
 | nil=>simp at h
 | cons x r ih=>
  cases i with
  | zero=>simp at h;subst h;simp[aT]
  | succ i=>
   simp at h;simp only[List.take_succ_cons,aT];rw[ih h];omega
theorem se {l:List Ty} (i:Nat):aT (l.take i)<=aT l:=by
 induction l generalizing i with
 | nil=>simp[aT]
 | cons x r ih=>
  cases i with
  | zero=>simp[aT]
  | succ i=>simp only[List.take_succ_cons,aT];have:=ih i;omega
theorem wrap_add {n m:Nat} (h:n+m < 9223372036854775808):ap .i64 (Int.ofNat n+Int.ofNat m)=Int.ofNat (n+m):=by
 rw[cF];exact wrap_i64 (by simp;omega) (by simp;omega)
noncomputable def Zs:TI:=match Go.Tp.elemOf (env ak.aC) 38 with|some t=>t|none=>default
theorem MS:Go.Tp.elemOf (env ak.aC) 38=some Zs:=by kernel_rfl
theorem xM:Zs.size=4:=by kernel_rfl
theorem oF {l:List Ty} {i:Nat} {t:Ty} (h:l[i]?=some t):aq (env ak.aC) 38 [.dat (.slice (ax l)),.dat (.flat (.int .i64 (Int.ofNat i)))]=some ⟨.ref t.cells,.keep⟩:=
 lO MS rfl (Qz h) (by rw[xM];cases t;rfl) (by rw[xM];decide)
theorem get_mem {l:List Ty} {i:Nat} (h:i < (ax l).length):∃t,l[i]?=some t/\t∈l:=by
 rw[aJ] at h;exact⟨l[i],List.getElem?_eq_getElem h,List.getElem_mem h⟩
noncomputable def UT:Hints:=⟨bS,C1,bg,rowsOf bg 175⟩
def lR (l:List Ty) (i n:Int):ab:=⟨[(9,iv i),(8,iv (Int.ofNat (ax l).length)),(7,.dat (.slice (ax l))),(3,iv n)],[],[],0⟩
def pZ (l:List Ty) (n:Int):ab:=⟨[(10,bv false),(9,iv (Int.ofNat (ax l).length)),(8,iv (Int.ofNat (ax l).length)),(7,.dat (.slice (ax l))),(3,iv n)],[],[],0⟩
theorem RX {k:Int} {nm:List UInt8} {ix:Int} {l:List Ty} (ih:∀t∈l,ae 175 [.dat t.enc] (iv (Int.ofNat t.size))) (hb:aT l < 1000000000) :
  ae 175 [.dat (.agg [i64 k,sb nm,i64 ix,.slice (ax l)])] (iv (Int.ofNat (aT l+1))):=by
 have hlen:l.length<=aT l:=by
  clear ih hb
  induction l with
  | nil=>simp[aT]
  | cons t r ih=>cases t;simp only[List.length_cons,aT,Ty.size];omega
 refine co [] [] (x:=.of Tryz.f175 C1 xo) ?_;refine hY (n:=Tryz.f175.ntmps) (c:=roundOf Tryz.f175 0) (f:=lR l (Int.ofNat 0) (Int.ofNat (1+aT (l.take 0)))) (L:=fun e s=>e=.exit 0/\s=(pZ l (Int.ofNat (1+aT l))).an Tryz.f175.ntmps) (by kernel_rfl) (by kernel_rfl) ?_ ?_
 ·refine aZ (St:=fun i=>(lR l (Int.ofNat i) (Int.ofNat (1+aT (l.take i)))).an Tryz.f175.ntmps) (ax l).length ?_ ?_ (i:=0) (Nat.zero_le _)
  ·intro i hi;obtain⟨t,ht,hm⟩:=get_mem hi;have hs:=kC ht;have hle:=se (l:=l) (i+1);rw[aJ] at hi;have hi':i < (ax l).length:=by rw[aJ];exact hi
   have e:sj (fun s=>s=(lR l (Int.ofNat (i+1)) (Int.ofNat (1+aT (l.take (i+1))))).an Tryz.f175.ntmps) (fun e s=>e=.exit 0/\s=(pZ l (Int.ofNat (1+aT l))).an Tryz.f175.ntmps) .normal
     ((lR l (ap .i64 (Int.ofNat i+1)) (ap .i64 (Int.ofNat (1+aT (l.take i))+Int.ofNat t.size))).an Tryz.f175.ntmps):=by
    rw[ba (by omega),wrap_add (by omega),hs];show _=_;rw[Nat.add_assoc]
   have hc:=ih t hm;clear hs hle ih hb hlen;obtain⟨k2,nm2,ix2,a2⟩:=t
   rcases a2 with _|⟨b,c⟩ <;>
   ·refine ay [10] [11] (H:=UT) (live:=xo) (by kernel_rfl) ?_;refine bi (b:=true) (bc hi') (by kernel_rfl) ?_;refine oo (oF ht) ?_;refine on hc ?_;exact bO (ex:=.normal) (lR l (ap .i64 (Int.ofNat i+1)) (ap .i64 (Int.ofNat (1+aT (l.take i))+Int.ofNat (Ty.size _)))) (by kernel_rfl) (by kernel_rfl) e
  refine ay [10] [11] (H:=UT) (live:=xo) (by kernel_rfl) ?_;refine bi (b:=false) (bW (i:=(ax l).length) (L:=(ax l).length) (by omega)) (by kernel_rfl) ?_;refine bO (ex:=.exit 0) (pZ l (Int.ofNat (1+aT (l.take (ax l).length)))) (by kernel_rfl) (by kernel_rfl) ⟨rfl,?_⟩;rw[aJ,List.take_length]
 rintro e s ⟨rfl,rfl⟩;refine⟨_,rfl,fL (a:=⟨iv (Int.ofNat (1+aT l)),[],0⟩) (by kernel_rfl) ?_⟩;rw[Nat.add_comm]
theorem Nr {k:Int} {nm:List UInt8} {ix:Int}:ae 175 [.dat (.agg [i64 k,sb nm,i64 ix,nl])] (iv (Int.ofNat 1)):=dm _ _ _ _ _ (by kernel_rfl)
mutual
theorem QX:∀t:Ty,t.size < 1000000000->ae 175 [.dat t.enc] (iv (Int.ofNat t.size))
 | .mk k nm ix [],_=>Nr
 | .mk k nm ix (t::r),h=>by
  have h2:aT (t::r) < 1000000000:=by simp only[Ty.size] at h;omega
  have:=@RX k nm ix (t::r) (KG (t::r) h2) h2
  exact this
theorem KG:∀l:List Ty,aT l < 1000000000->∀t∈l,ae 175 [.dat t.enc] (iv (Int.ofNat t.size))
 | [],_,t,ht=>by simp at ht
 | u::r,h,t,ht=>by
  simp only[aT] at h
  rcases List.mem_cons.1 ht with h1|ht
  ·rw[h1];exact QX u (by omega)
  exact KG r (by omega) t ht
end
mutual
def Ty.depth:Ty->Nat
 | .mk _ _ _ args=>cK args+1
def cK:List Ty->Nat
 | []=>0
 | t::r=>max t.depth (cK r)
end
theorem wA {l:List Ty} {i:Nat} {t:Ty} (h:l[i]?=some t):cK (l.take (i+1))=max (cK (l.take i)) t.depth:=by
 induction l generalizing i with
 | nil=>simp at h
 | cons x r ih=>
  cases i with
  | zero=>simp at h;subst h;simp[cK]
  | succ i=>
   simp at h;simp only[List.take_succ_cons,cK];rw[ih h,Nat.max_assoc]
mutual
theorem nS:∀t:Ty,t.depth<=t.size
 | .mk _ _ _ args=>by simp only[Ty.depth,Ty.size];have:=jy args;omega
theorem jy:∀l:List Ty,cK l<=aT l
 | []=>by simp[cK,aT]
 | t::r=>by simp only[cK,aT];have:=nS t;have:=jy r;omega
end
theorem aaq {n m:Nat}:ak.aC.mx (Int.ofNat n) (Int.ofNat m)=Int.ofNat (max n m):=by
 show (match aH (Int.ofNat n) (Int.ofNat m) with|true=>Int.ofNat m|false=>Int.ofNat n)=_;rw[gI]
 by_cases h:n < m
 ·rw[decide_eq_true h];simp;omega
 rw[decide_eq_false h];simp;omega
theorem gf (l:List Ty):l.length<=aT l:=by
 induction l with
 | nil=>simp[aT]
 | cons t r ih=>cases t;simp only[List.length_cons,aT,Ty.size];omega
noncomputable def P8:Hints:=⟨bS,C0,bg,rowsOf bg 176⟩
theorem QE {k:Int} {nm:List UInt8} {ix:Int} {l:List Ty} (ih:∀t∈l,ae 176 [.dat t.enc] (iv (Int.ofNat t.depth))) (hb:aT l < 1000000000) :
  ae 176 [.dat (.agg [i64 k,sb nm,i64 ix,.slice (ax l)])] (iv (Int.ofNat (cK l+1))):=by
 have hlen:=gf l;have hdl:=jy l;rw[←ba (by omega)];refine co [] [] (x:=.of Tryz.f176 C0 xn) ?_;refine hY (n:=Tryz.f176.ntmps) (c:=roundOf Tryz.f176 0) (f:=lR l (Int.ofNat 0) (Int.ofNat (cK (l.take 0)))) (L:=fun e s=>e=.exit 0/\s=(pZ l (Int.ofNat (cK l))).an Tryz.f176.ntmps) (by kernel_rfl) (by kernel_rfl) ?_ ?_
 ·refine aZ (St:=fun i=>(lR l (Int.ofNat i) (Int.ofNat (cK (l.take i)))).an Tryz.f176.ntmps) (ax l).length ?_ ?_ (i:=0) (Nat.zero_le _)
  ·intro i hi;obtain⟨t,ht,hm⟩:=get_mem hi;have e:sj (fun s=>s=(lR l (Int.ofNat (i+1)) (Int.ofNat (cK (l.take (i+1))))).an Tryz.f176.ntmps) (fun e s=>e=.exit 0/\s=(pZ l (Int.ofNat (cK l))).an Tryz.f176.ntmps) .normal
     ((lR l (ap .i64 (Int.ofNat i+1)) (ak.aC.mx (Int.ofNat (cK (l.take i))) (Int.ofNat t.depth))).an Tryz.f176.ntmps):=by
    rw[aJ] at hi;rw[ba (by omega),aaq,wA ht];rfl
   have hc:=ih t hm;clear ih hb hlen hdl;obtain⟨k2,nm2,ix2,a2⟩:=t
   rcases a2 with _|⟨b,c⟩ <;>
   ·refine ay [10] [11] (H:=P8) (live:=xn) (by kernel_rfl) ?_;refine bi (b:=true) (bc hi) (by kernel_rfl) ?_;refine oo (oF ht) ?_;refine on hc ?_;exact bO (ex:=.normal) (lR l (ap .i64 (Int.ofNat i+1)) (ak.aC.mx (Int.ofNat (cK (l.take i))) (Int.ofNat (Ty.depth _)))) (by kernel_rfl) (by kernel_rfl) e
  refine ay [10] [11] (H:=P8) (live:=xn) (by kernel_rfl) ?_;refine bi (b:=false) (bW (i:=(ax l).length) (L:=(ax l).length) (by omega)) (by kernel_rfl) ?_;refine bO (ex:=.exit 0) (pZ l (Int.ofNat (cK (l.take (ax l).length)))) (by kernel_rfl) (by kernel_rfl) ⟨rfl,?_⟩;rw[aJ,List.take_length]
 rintro e s ⟨rfl,rfl⟩;exact⟨_,rfl,fL (by kernel_rfl) rfl⟩
theorem Me {k:Int} {nm:List UInt8} {ix:Int}:ae 176 [.dat (.agg [i64 k,sb nm,i64 ix,nl])] (iv (Int.ofNat 1)):=dm _ _ _ _ _ (by kernel_rfl)
mutual
theorem KI:∀t:Ty,t.size < 1000000000->ae 176 [.dat t.enc] (iv (Int.ofNat t.depth))
 | .mk k nm ix [],_=>Me
 | .mk k nm ix (t::r),h=>by
  have h2:aT (t::r) < 1000000000:=by simp only[Ty.size] at h;omega
  have:=@QE k nm ix (t::r) (Gp (t::r) h2) h2
  exact this
theorem Gp:∀l:List Ty,aT l < 1000000000->∀t∈l,ae 176 [.dat t.enc] (iv (Int.ofNat t.depth))
 | [],_,t,ht=>by simp at ht
 | u::r,h,t,ht=>by
  simp only[aT] at h
  rcases List.mem_cons.1 ht with h1|ht
  ·rw[h1];exact KI u (by omega)
  exact Gp r (by omega) t ht
end
def dU (k:Int) (i:Nat):Nat:=if aB k 6=true/\i=1 then 1 else 0
mutual
def Ty.closed:Ty->Nat->Bool
 | .mk k _ ix args,u=>!(aB k 5&&!aH ix (Int.ofNat u))&&fb k 0 args u
def fb (k:Int):Nat->List Ty->Nat->Bool
 | _,[],_=>true
 | i,t::r,u=>t.closed (u+dU k i)&&fb k (i+1) r u
end
theorem Ci (k:Int) (nm:List UInt8) (ix:Int) (a:al) (ha:a=nl∨∃es,a=.slice es) (i:Nat):ae 196 [.dat (.agg [i64 k,sb nm,i64 ix,a]),iv (Int.ofNat i)] (iv (Int.ofNat (dU k i))):=by
 rcases ha with rfl|⟨es,rfl⟩ <;>
 ·refine co [7,10] [] (x:=.of Tryz.f196 HG J5) ?_;refine Fb (c:=aB k 6) (by kernel_rfl) (fun h6=>?_) (fun h6=>?_)
  ·refine Fb (c:=aB (Int.ofNat i) (Int.ofNat 1)) (by kernel_rfl) (fun h1=>?_) (fun h1=>?_)
   ·rw[zT,decide_eq_true_eq] at h1
    have:dU k i=1:=by unfold dU;rw[if_pos ⟨h6,h1⟩]
    rw[this];exact fi
   rw[zT,decide_eq_false_iff_not] at h1
   have:dU k i=0:=by unfold dU;rw[if_neg (fun h=>h1 h.2)]
   rw[this];exact fi
  have:dU k i=0:=by unfold dU;rw[if_neg (fun h=>by rw[h6] at h;simp at h)]
  rw[this];exact fi
noncomputable def Dp:Hints:=⟨bS,yT,bg,rowsOf bg 204⟩
def aav (k:Int) (nm:List UInt8) (ix:Int) (l:List Ty):Heap:=[(.loc 2,.cells [iv k,.dat (sb nm),iv ix,.dat (.slice (ax l))])]
def RU (k:Int) (nm:List UInt8) (ix:Int) (l:List Ty) (u:Nat) (i:Int):ab:=⟨[(19,iv i),(18,iv (Int.ofNat (ax l).length)),(17,.dat (.slice (ax l))),(2,.ptr (.loc 2) 0),(1,iv (Int.ofNat u))],aav k nm ix l,[],0⟩
def Nk (k:Int) (nm:List UInt8) (ix:Int) (l:List Ty) (u:Nat):ab:=⟨[(20,bv false),(19,iv (Int.ofNat (ax l).length)),(18,iv (Int.ofNat (ax l).length)),(17,.dat (.slice (ax l))),(2,.ptr (.loc 2) 0),(1,iv (Int.ofNat u))],aav k nm ix l,[],0⟩
def Nl:ab:=⟨[(4,bv false)],[],[],0⟩
theorem iq {l:List Ty} {i:Nat} {t:Ty} (h:l[i]?=some t):l.drop i=t::l.drop (i+1):=by
 obtain⟨hi,rfl⟩:=List.getElem?_eq_some_iff.1 h;exact List.drop_eq_getElem_cons hi
theorem Gi {k:Int} {nm:List UInt8} {ix:Int} {l:List Ty} {u:Nat} (ih:∀t∈l,∀v,v<=u+1->ae 204 [.dat t.enc,iv (Int.ofNat v)] (bv (t.closed v))) (hb:aT l < 1000000000) (hu:u < 2000000000) :
  KD (.loop (roundOf Tryz.f204 0)) (fun e s=>(e=.exit 0/\fb k 0 l u=true/\s=(Nk k nm ix l u).an Tryz.f204.ntmps)∨(e=.ret/\fb k 0 l u=false/\s=Nl.an Tryz.f204.ntmps)) ((RU k nm ix l u (Int.ofNat 0)).an Tryz.f204.ntmps):=by
 have hlen:=gf l;refine cH (St:=fun i=>(RU k nm ix l u (Int.ofNat i)).an Tryz.f204.ntmps) (fun i=>fb k 0 l u=fb k i (l.drop i) u) (ax l).length ?_ ?_ (i:=0) (Nat.zero_le _) rfl
 ·intro i hi hI;obtain⟨t,ht,hm⟩:=get_mem hi;have hcl:fb k i (l.drop i) u=(t.closed (u+dU k i)&&fb k (i+1) (l.drop (i+1)) u):=by rw[iq ht];rfl
  have hbn:dU k i<=1:=by unfold dU;split <;> omega
  have hc:ae 204 [.dat t.enc,iv (ap .i64 (Int.ofNat u+Int.ofNat (dU k i)))] (bv (t.closed (u+dU k i))):=by
   rw[wrap_add (by omega)];exact ih t hm _ (by omega)
  have hw:ap .i64 (Int.ofNat i+1)=Int.ofNat (i+1):=ba (by rw[aJ] at hi;omega);have hbi:=Ci k nm ix (.slice (ax l)) (.inr ⟨_,rfl⟩) i;generalize ht2:t.closed (u+dU k i)=tc at hc hcl;clear ih hb hlen hu hbn ht2;obtain⟨k2,nm2,ix2,a2⟩:=t
  rcases a2 with _|⟨b,c⟩ <;> cases tc <;>
  ·refine ay [20] [22] (H:=Dp) (live:=qe) (by kernel_rfl) ?_;refine bi (b:=true) (bc hi) (by kernel_rfl) ?_;refine oo (oF ht) ?_;refine on hbi ?_;refine on hc ?_
   first
    |exact bO (ex:=.normal) (RU k nm ix l u (ap .i64 (Int.ofNat i+1))) (by kernel_rfl) (by kernel_rfl) ⟨by rw[hw],by rw[hI,hcl];rfl⟩
    |exact bO (ex:=.ret) Nl (by kernel_rfl) (by kernel_rfl) (.inr ⟨rfl,by rw[hI,hcl];rfl,rfl⟩)
 intro hI;have h1:fb k 0 l u=true:=by
  rw[hI,aJ,List.drop_length];rfl
 refine ay [20] [22] (H:=Dp) (live:=qe) (by kernel_rfl) ?_;refine bi (b:=false) (bW (i:=(ax l).length) (L:=(ax l).length) (by omega)) (by kernel_rfl) ?_;exact bO (ex:=.exit 0) (Nk k nm ix l u) (by kernel_rfl) (by kernel_rfl) (.inl ⟨rfl,h1,rfl⟩)
theorem Ba (k:Int) (nm:List UInt8) (ix:Int) (l:List Ty) (u:Nat):(Ty.mk k nm ix l).closed u=(!(aB k 5&&!aH ix (Int.ofNat u))&&fb k 0 l u):=by rw[Ty.closed]
theorem Mm {k:Int} {nm:List UInt8} {ix:Int} {l:List Ty} {u:Nat} (ih:∀t∈l,∀v,v<=u+1->ae 204 [.dat t.enc,iv (Int.ofNat v)] (bv (t.closed v))) (hb:aT l < 1000000000) (hu:u < 2000000000) :
  ae 204 [.dat (.agg [i64 k,sb nm,i64 ix,.slice (ax l)]),iv (Int.ofNat u)] (bv ((Ty.mk k nm ix l).closed u)):=by
 have hl:=@Gi k nm ix _ _ ih hb hu;rw[Ba];clear ih hb hu;have key:∀c5:Bool,c5=aB k 5->∀cu:Bool,cu=!aH ix (Int.ofNat u)->ae 204 [.dat (.agg [i64 k,sb nm,i64 ix,.slice (ax l)]),iv (Int.ofNat u)] (bv (!(c5&&cu)&&fb k 0 l u)):=by
  intro c5 h5 cu hcu;refine co [9,14] [] (x:=.of Tryz.f204 yT qe) ?_;refine bi (b:=c5) h5.symm (by kernel_rfl) ?_;have go:∀{q:Qy eW} (hs:q.Fs.an Tryz.f204.ntmps=(RU k nm ix l u (Int.ofNat 0)).an Tryz.f204.ntmps) (e:q.BS=some (Tryz.f204.ntmps,roundOf Tryz.f204 0))
    (e1:(q.ofL (.exit 0,Nk k nm ix l u)).IH=some ⟨bv true,[],0⟩) (e2:(q.ofL (.ret,Nl)).IH=some ⟨bv false,[],0⟩),q.Ok Tryz.prog bZ (fun y=>y=⟨bv (fb k 0 l u),[],0⟩):=by
   intro q hs e e1 e2;refine hY (n:=Tryz.f204.ntmps) e hs hl ?_;rintro ex s (⟨rfl,hc,rfl⟩|⟨rfl,hc,rfl⟩)
   ·rw[hc];exact⟨_,rfl,fL e1 rfl⟩
   rw[hc];exact⟨_,rfl,fL e2 rfl⟩
  cases c5 with
  | false=>exact go (by kernel_rfl) (by kernel_rfl) (by kernel_rfl) (by kernel_rfl)
  | true=>
   refine bi (b:=cu) hcu.symm (by kernel_rfl) ?_
   cases cu
   ·exact go (by kernel_rfl) (by kernel_rfl) (by kernel_rfl) (by kernel_rfl)
   exact fi
 exact key _ rfl _ rfl
def Us (k:Int) (nm:List UInt8) (ix:Int) (u:Nat):ab:=⟨[(19,iv 0),(18,iv 0),(17,.dat nl),(2,.ptr (.loc 2) 0),(1,iv (Int.ofNat u))],[(.loc 2,.cells [iv k,.dat (sb nm),iv ix,.dat nl])],[],0⟩
def Nn (k:Int) (nm:List UInt8) (ix:Int) (u:Nat):ab:=⟨[(20,bv false),(19,iv 0),(18,iv 0),(17,.dat nl),(2,.ptr (.loc 2) 0),(1,iv (Int.ofNat u))],[(.loc 2,.cells [iv k,.dat (sb nm),iv ix,.dat nl])],[],0⟩
theorem Gh (k:Int) (nm:List UInt8) (ix:Int) (u:Nat):il X (env ak.aC) bZ Dp Tryz.f204.ntmps qe 3000 (.loop (roundOf Tryz.f204 0)) (Us k nm ix u)=some (.exit 0,Nn k nm ix u):=by kernel_rfl
theorem IV (k:Int) (nm:List UInt8) (ix:Int) (u:Nat):ae 204 [.dat (.agg [i64 k,sb nm,i64 ix,nl]),iv (Int.ofNat u)] (bv ((Ty.mk k nm ix []).closed u)):=by
 rw[Ba];have key:∀c5:Bool,c5=aB k 5->∀cu:Bool,cu=!aH ix (Int.ofNat u)->ae 204 [.dat (.agg [i64 k,sb nm,i64 ix,nl]),iv (Int.ofNat u)] (bv (!(c5&&cu)&&fb k 0 [] u)):=by
  intro c5 h5 cu hcu;refine co [9,14] [] (x:=.of Tryz.f204 yT qe) ?_;refine bi (b:=c5) h5.symm (by kernel_rfl) ?_;have go:∀{q:Qy eW} (hs:q.Fs.an Tryz.f204.ntmps=(Us k nm ix u).an Tryz.f204.ntmps) (e:q.BS=some (Tryz.f204.ntmps,roundOf Tryz.f204 0))
    (e1:(q.ofL (.exit 0,Nn k nm ix u)).IH=some ⟨bv true,[],0⟩),q.Ok Tryz.prog bZ (fun y=>y=⟨bv true,[],0⟩):=by
   intro q hs e e1;refine hY (n:=Tryz.f204.ntmps) e hs (QT Ma dm 3000 (by kernel_rfl) (Gh k nm ix u)) ?_;rintro ex s ⟨rfl,rfl⟩;exact⟨_,rfl,fL e1 rfl⟩
  cases c5 with
  | false=>exact go (by kernel_rfl) (by kernel_rfl) (by kernel_rfl)
  | true=>
   refine bi (b:=cu) hcu.symm (by kernel_rfl) ?_
   cases cu
   ·exact go (by kernel_rfl) (by kernel_rfl) (by kernel_rfl)
   exact fi
 exact key _ rfl _ rfl
mutual
theorem Gs:∀(t:Ty) (u:Nat),t.size < 1000000000->u+t.depth < 2000000000->ae 204 [.dat t.enc,iv (Int.ofNat u)] (bv (t.closed u))
 | .mk k nm ix [],u,_,_=>IV k nm ix u
 | .mk k nm ix (t::r),u,h,hu=>by
  have h2:aT (t::r) < 1000000000:=by simp only[Ty.size] at h;omega
  have h3:u+1+cK (t::r) < 2000000000:=by simp only[Ty.depth] at hu;omega
  exact Mm (l:=t::r) (fun x hx v hv=>vx (t::r) v h2 (by omega) x hx) h2 (by omega)
theorem vx:∀(l:List Ty) (u:Nat),aT l < 1000000000->u+cK l < 2000000000->∀t∈l,ae 204 [.dat t.enc,iv (Int.ofNat u)] (bv (t.closed u))
 | [],_,_,_,t,ht=>by simp at ht
 | x::r,u,h,hu,t,ht=>by
  simp only[aT] at h;simp only[cK] at hu
  rcases List.mem_cons.1 ht with h1|ht
  ·rw[h1];exact Gs x u (by omega) (by omega)
  exact vx r u (by omega) (by omega) t ht
end
mutual
def Ty.thin:Ty->Prop
 | .mk _ _ _ l=>l.length < 1000000000/\rW l
def rW:List Ty->Prop
 | []=>True
 | t::r=>t.thin/\rW r
end
mutual
theorem Cz:∀t:Ty,t.size < 1000000000->t.thin
 | .mk _ _ _ l,h=>by
  simp only[Ty.size] at h
  have:=gf l
  simp only[Ty.thin];exact⟨by omega,Ea l (by omega)⟩
theorem Ea:∀l:List Ty,aT l < 1000000000->rW l
 | [],_=>by simp[rW]
 | t::r,h=>by
  simp only[aT] at h;simp only[rW];exact⟨Cz t (by omega),Ea r (by omega)⟩
end
theorem Al (ls bs:List Nat) {g:FuncId} {x:rP} (hx:L1.find g=some x) {args:List ac} {heap:Heap} {next:Nat} {T:eW->Prop} (h:(Oh (Rv ls) (Rv bs) (env ak.aC) bZ bS bg x g args heap next).Ok Tryz.prog bZ T) :
  KC g args heap next (fun v h m=>T ⟨v,h,m⟩):=JI Ma xx hx (fun _ _=>h)
def oc (b:Bool) (v:ac):Prop:=∃j:Int,v=iv j/\aH j (Int.ofNat 0)=!b
theorem Gy {l:List Ty} {p:Ty->Bool} {i:Nat} {t:Ty} (h:l[i]?=some t):(l.drop i).any p=(p t||(l.drop (i+1)).any p):=by rw[iq h];rfl
noncomputable def xw:Hints:=⟨bS,yS,bg,rowsOf bg 205⟩
def ik:ac:=.fn (.func 209) [] []
def iW (l:List Ty) (i:Int):ab:=⟨[(8,iv i),(7,iv (Int.ofNat (ax l).length)),(0,.dat (.slice (ax l))),(1,ik)],[],[],0⟩
def oJ (l:List Ty):ab:=⟨[(9,bv false),(8,iv (Int.ofNat (ax l).length)),(7,iv (Int.ofNat (ax l).length)),(0,.dat (.slice (ax l))),(1,ik)],[],[],0⟩
def oK (i:Nat):ab:=⟨[(4,iv (Int.ofNat i))],[],[],0⟩
theorem wW {l:List Ty} {p:Ty->Bool} (hp:∀t∈l,ae 209 [.dat t.enc] (bv (p t))) (hb:l.length < 1000000000) :
  KC 205 [.dat (.slice (ax l)),ik] [] 0 (fun v h m=>oc (l.any p) v/\h=[]/\m=0):=by
 have hl:KD (.loop (roundOf Tryz.f205 0)) (fun e s=>(e=.exit 0/\l.any p=false/\s=(oJ l).an Tryz.f205.ntmps)∨(e=.ret/\l.any p=true/\∃i:Nat,s=(oK i).an Tryz.f205.ntmps)) ((iW l (Int.ofNat 0)).an Tryz.f205.ntmps):=by
  refine cH (St:=fun i=>(iW l (Int.ofNat i)).an Tryz.f205.ntmps) (fun i=>l.any p=(l.drop i).any p) (ax l).length ?_ ?_ (i:=0) (Nat.zero_le _) rfl
  ·intro i hi hI;obtain⟨t,ht,hm⟩:=get_mem hi;have ha:=Gy (p:=p) ht;have hw:ap .i64 (Int.ofNat i+1)=Int.ofNat (i+1):=ba (by rw[aJ] at hi;omega);have hc:=hp t hm;generalize ht2:p t=tc at hc ha;clear hp hb ht2;obtain⟨k2,nm2,ix2,a2⟩:=t
   rcases a2 with _|⟨b,c⟩ <;> cases tc <;>
   ·refine ay [9] [14] (H:=xw) (live:=nu) (by kernel_rfl) ?_;refine bi (b:=true) (bc hi) (by kernel_rfl) ?_;refine oo (oF ht) ?_;refine on hc ?_
    first
     |exact bO (ex:=.normal) (iW l (ap .i64 (Int.ofNat i+1))) (by kernel_rfl) (by kernel_rfl) ⟨by rw[hw],by rw[hI,ha];rfl⟩
     |exact bO (ex:=.ret) (oK i) (by kernel_rfl) (by kernel_rfl) (.inr ⟨rfl,by rw[hI,ha];rfl,i,rfl⟩)
  intro hI;have h1:l.any p=false:=by rw[hI,aJ,List.drop_length];rfl
  refine ay [9] [14] (H:=xw) (live:=nu) (by kernel_rfl) ?_;refine bi (b:=false) (bW (i:=(ax l).length) (L:=(ax l).length) (by omega)) (by kernel_rfl) ?_;exact bO (ex:=.exit 0) (oJ l) (by kernel_rfl) (by kernel_rfl) (.inl ⟨rfl,h1,rfl⟩)
 clear hp hb;refine Al [] [] (x:=rP.of Tryz.f205 yS nu) (T:=fun r=>oc (l.any p) r.val/\r.heap=[]/\r.next=0) (by kernel_rfl) ?_;refine hY (n:=Tryz.f205.ntmps) (c:=roundOf Tryz.f205 0) (f:=iW l (Int.ofNat 0)) (by kernel_rfl) (by kernel_rfl) hl ?_;rintro ex s (⟨rfl,hc,rfl⟩|⟨rfl,hc,i,rfl⟩)
 ·rw[hc];exact⟨_,rfl,fL (a:=⟨iv (-1),[],0⟩) (by kernel_rfl) ⟨⟨_,rfl,rfl⟩,rfl,rfl⟩⟩
 rw[hc];exact⟨_,rfl,fL (a:=⟨iv (Int.ofNat i),[],0⟩) (by kernel_rfl) ⟨⟨_,rfl,bW (by omega)⟩,rfl,rfl⟩⟩
theorem A4 {l:List Ty} {p:Ty->Bool} (hp:∀t∈l,ae 209 [.dat t.enc] (bv (p t))) (hb:l.length < 1000000000) :
  ae 193 [.dat (sl (ax l)),ik] (bv (l.any p)):=by
 cases l with
 | nil=>exact dm _ _ _ _ _ (by kernel_rfl)
 | cons t r=>
  have h:=wW hp hb;generalize (t::r).any p=c at h;show ae 193 [.dat (.slice (ax (t::r))),ik] (bv c);refine co [8] [] (x:=.of Tryz.f193 CY Df) ?_;refine H4 (Q:=oc c) h (by kernel_rfl) (by kernel_rfl) (by rintro v ⟨j,rfl,_⟩;rfl) ?_;rintro v ⟨j,rfl,hj⟩ _;refine bi (b:=c) (c:=!aH j (Int.ofNat 0)) (by rw[hj];simp) (by kernel_rfl) ?_;exact fL (a:=⟨bv c,[],0⟩) (by cases c <;> kernel_rfl) rfl
def gA:ac:=.fn (.func 194) [] []
def gW (l:List Ty) (i:Int):ab:=⟨[(8,iv i),(7,iv (Int.ofNat (ax l).length)),(0,.dat (.slice (ax l))),(1,gA)],[],[],0⟩
def og (l:List Ty):ab:=⟨[(9,bv false),(8,iv (Int.ofNat (ax l).length)),(7,iv (Int.ofNat (ax l).length)),(0,.dat (.slice (ax l))),(1,gA)],[],[],0⟩
def om (i:Nat):ab:=⟨[(4,iv (Int.ofNat i))],[],[],0⟩
theorem uW {l:List Ty} {p:Ty->Bool} (hp:∀t∈l,ae 194 [.dat t.enc] (bv (p t))) (hb:l.length < 1000000000) :
  KC 205 [.dat (.slice (ax l)),gA] [] 0 (fun v h m=>oc (l.any p) v/\h=[]/\m=0):=by
 have hl:KD (.loop (roundOf Tryz.f205 0)) (fun e s=>(e=.exit 0/\l.any p=false/\s=(og l).an Tryz.f205.ntmps)∨(e=.ret/\l.any p=true/\∃i:Nat,s=(om i).an Tryz.f205.ntmps)) ((gW l (Int.ofNat 0)).an Tryz.f205.ntmps):=by
  refine cH (St:=fun i=>(gW l (Int.ofNat i)).an Tryz.f205.ntmps) (fun i=>l.any p=(l.drop i).any p) (ax l).length ?_ ?_ (i:=0) (Nat.zero_le _) rfl
  ·intro i hi hI;obtain⟨t,ht,hm⟩:=get_mem hi;have ha:=Gy (p:=p) ht;have hw:ap .i64 (Int.ofNat i+1)=Int.ofNat (i+1):=ba (by rw[aJ] at hi;omega);have hc:=hp t hm;generalize ht2:p t=tc at hc ha;clear hp hb ht2;obtain⟨k2,nm2,ix2,a2⟩:=t
   rcases a2 with _|⟨b,c⟩ <;> cases tc <;>
   ·refine ay [9] [14] (H:=xw) (live:=nu) (by kernel_rfl) ?_;refine bi (b:=true) (bc hi) (by kernel_rfl) ?_;refine oo (oF ht) ?_;refine on hc ?_
    first
     |exact bO (ex:=.normal) (gW l (ap .i64 (Int.ofNat i+1))) (by kernel_rfl) (by kernel_rfl) ⟨by rw[hw],by rw[hI,ha];rfl⟩
     |exact bO (ex:=.ret) (om i) (by kernel_rfl) (by kernel_rfl) (.inr ⟨rfl,by rw[hI,ha];rfl,i,rfl⟩)
  intro hI;have h1:l.any p=false:=by rw[hI,aJ,List.drop_length];rfl
  refine ay [9] [14] (H:=xw) (live:=nu) (by kernel_rfl) ?_;refine bi (b:=false) (bW (i:=(ax l).length) (L:=(ax l).length) (by omega)) (by kernel_rfl) ?_;exact bO (ex:=.exit 0) (og l) (by kernel_rfl) (by kernel_rfl) (.inl ⟨rfl,h1,rfl⟩)
 clear hp hb;refine Al [] [] (x:=rP.of Tryz.f205 yS nu) (T:=fun r=>oc (l.any p) r.val/\r.heap=[]/\r.next=0) (by kernel_rfl) ?_;refine hY (n:=Tryz.f205.ntmps) (c:=roundOf Tryz.f205 0) (f:=gW l (Int.ofNat 0)) (by kernel_rfl) (by kernel_rfl) hl ?_;rintro ex s (⟨rfl,hc,rfl⟩|⟨rfl,hc,i,rfl⟩)
 ·rw[hc];exact⟨_,rfl,fL (a:=⟨iv (-1),[],0⟩) (by kernel_rfl) ⟨⟨_,rfl,rfl⟩,rfl,rfl⟩⟩
 rw[hc];exact⟨_,rfl,fL (a:=⟨iv (Int.ofNat i),[],0⟩) (by kernel_rfl) ⟨⟨_,rfl,bW (by omega)⟩,rfl,rfl⟩⟩
theorem Az {l:List Ty} {p:Ty->Bool} (hp:∀t∈l,ae 194 [.dat t.enc] (bv (p t))) (hb:l.length < 1000000000) :
  ae 193 [.dat (sl (ax l)),gA] (bv (l.any p)):=by
 cases l with
 | nil=>exact dm _ _ _ _ _ (by kernel_rfl)
 | cons t r=>
  have h:=uW hp hb;generalize (t::r).any p=c at h;show ae 193 [.dat (.slice (ax (t::r))),gA] (bv c);refine co [8] [] (x:=.of Tryz.f193 CY Df) ?_;refine H4 (Q:=oc c) h (by kernel_rfl) (by kernel_rfl) (by rintro v ⟨j,rfl,_⟩;rfl) ?_;rintro v ⟨j,rfl,hj⟩ _;refine bi (b:=c) (c:=!aH j (Int.ofNat 0)) (by rw[hj];simp) (by kernel_rfl) ?_;exact fL (a:=⟨bv c,[],0⟩) (by cases c <;> kernel_rfl) rfl
mutual
def Ty.plain:Ty->Bool
 | .mk k nm ix args=>aB k 5||(Ty.mk k nm ix args).closed 0||(aB k 2&&!gE args)
def gE:List Ty->Bool
 | []=>false
 | t::r=>!t.plain||gE r
end
theorem Co:∀l:List Ty,gE l=l.any (fun t=>!t.plain)
 | []=>by simp[gE]
 | t::r=>by simp[gE,Co r]
theorem wB {k:Int} {nm:List UInt8} {ix:Int} {l:List Ty} (hp:∀t∈l,ae 210 [.dat t.enc] (bv t.plain)) (hb:l.length < 1000000000):ae 203 [.dat (Ty.mk k nm ix l).enc] (bv (!gE l)):=by
 have h1:∀t∈l,ae 209 [.dat t.enc] (bv (!t.plain)):=by
  intro t ht;have hc:=hp t ht;generalize t.plain=c at hc;obtain⟨k2,nm2,ix2,a2⟩:=t
  rcases a2 with _|⟨b,d⟩ <;> cases c <;>
  ·refine co [] [] (x:=.of Tryz.f209 HC J1) ?_;refine on hc ?_;exact fi
 have h2:=A4 h1 hb;rw[Co];generalize l.any (fun t=>!t.plain)=c at h2
 rcases l with _|⟨b,d⟩ <;> cases c <;>
 ·refine co [] [] (x:=.of Tryz.f203 HD J2) ?_;refine on h2 ?_;exact fi
theorem HA {k:Int} {nm:List UInt8} {ix:Int} {l:List Ty} (hp:∀t∈l,ae 210 [.dat t.enc] (bv t.plain)) (hs:(Ty.mk k nm ix l).size < 1000000000):ae 210 [.dat (Ty.mk k nm ix l).enc] (bv (Ty.mk k nm ix l).plain):=by
 have hb:l.length < 1000000000:=by have:=gf l;simp only[Ty.size] at hs;omega
 have h1:=Gs (Ty.mk k nm ix l) 0 hs (by have:=nS (Ty.mk k nm ix l);omega);have h2:=@wB k nm ix _ hp hb;have e:(Ty.mk k nm ix l).plain=(aB k 5||(Ty.mk k nm ix l).closed 0||(aB k 2&&!gE l)):=by rw[Ty.plain]
 rw[e];clear e hp hs hb;generalize (Ty.mk k nm ix l).closed 0=cc at h1;generalize (!gE l)=ca at h2;generalize h5:aB k 5=c5;generalize h6:aB k 2=c2
 rcases l with _|⟨b,d⟩ <;>
 ·refine co [5,13] [] (x:=.of Tryz.f210 HB J0) ?_;refine ob h5 ?_
  cases c5
  ·refine on h1 ?_
   cases cc
   ·refine ob h6 ?_
    cases c2 with
    | false=>exact fi
    | true=>
     refine on h2 ?_
     cases ca <;> exact fi
   exact fi
  exact fi
mutual
theorem TU:∀t:Ty,t.size < 1000000000->ae 210 [.dat t.enc] (bv t.plain)
 | .mk k nm ix l,h=>HA (An l (by simp only[Ty.size] at h;omega)) h
theorem An:∀l:List Ty,aT l < 1000000000->∀t∈l,ae 210 [.dat t.enc] (bv t.plain)
 | [],_,t,ht=>by simp at ht
 | x::r,h,t,ht=>by
  simp only[aT] at h
  rcases List.mem_cons.1 ht with h1|ht
  ·rw[h1];exact TU x (by omega)
  exact An r (by omega) t ht
end
def iZ (n:Nat):Bool:=(Nat.ble 97 n&&Nat.ble n 122)||(Nat.ble 65 n&&Nat.ble n 90)
def A9 (n:Nat):Bool:=iZ n||(Nat.ble 48 n&&Nat.ble n 57)||Nat.beq n 95||Nat.beq n 45
def dQ (n:Nat):Bool:=!Nat.beq n 45&&A9 n
def isIdent:List UInt8->Bool
 | []=>false
 | c::r=>Nat.ble (r.length+1) 24&&iZ c.toNat&&(c::r).all (fun c=>dQ c.toNat)
def Fx (n:Nat):ac:=.dat (.flat (.int .u8 (Int.ofNat n)))
def Gz (p:Nat->Bool):Nat->Bool
 | 0=>true
 | k+1=>p k&&Gz p k
theorem qv {p:Nat->Bool}:∀{k:Nat},Gz p k=true->∀i,i < k->p i=true
 | 0,_,i,hi=>by omega
 | k+1,h,i,hi=>by
  simp only[Gz,Bool.and_eq_true] at h
  rcases Nat.lt_or_ge i k with h1|h1
  ·exact qv h.2 i h1
  have:i=k:=by omega
  subst this;exact h.1
def Aq (c:Bool):Option eW->Bool
 | some ⟨.dat (.flat (.bool b)),[],0⟩=>match b with|true=>c|false=>!c
 | _=>false
theorem pI {c:Bool} {r:Option eW} (h:Aq c r=true):r=some ⟨bv c,[],0⟩:=by
 unfold Aq at h
 split at h
 ·rename_i b
  cases b <;> simp at h <;> subst h <;> rfl
 simp at h
theorem Ij:Gz (fun n=>Aq (iZ n) (X 142 [Fx n] [] 0)) 256=true:=by kernel_rfl
theorem I0 (c:UInt8):ae 142 [Fx c.toNat] (bv (iZ c.toNat)):=dm _ _ _ _ _ (pI (qv Ij _ c.toNat_lt))
theorem LR:Gz (fun n=>Aq (dQ n) (X 144 [Fx n] [] 0)) 256=true:=by kernel_rfl
theorem Q3 (c:UInt8):ae 144 [Fx c.toNat] (bv (dQ c.toNat)):=dm _ _ _ _ _ (pI (qv LR _ c.toNat_lt))
theorem abV:(env ak.aC).desc 9=some .string:=by kernel_rfl
theorem mW {b:List UInt8} {i:Nat} {c:UInt8} (h:b[i]?=some c):pV (env ak.aC) 9 [.dat (sb b),.dat (.flat (.int .i64 (Int.ofNat i)))]=some ⟨Fx c.toNat,.keep⟩:=by
 have hg:ak.aC.byte ⟨⟨b⟩⟩ (Int.ofNat i)=some c:=Tm h;have hp:(env ak.aC).pr=ak.aC:=rfl;simp only[pV,sb,abV,hp,hg];rfl
def fnI:ac:=.fn (.func 144) [] []
noncomputable def P7:Hints:=⟨bS,C6,bg,rowsOf bg 143⟩
def RT (b:List UInt8) (i:Int):ab:=⟨[(5,iv i),(0,.dat (sb b)),(1,fnI)],[],[],0⟩
def Uq (b:List UInt8):ab:=⟨[(9,bv false),(5,iv (Int.ofNat b.length)),(0,.dat (sb b)),(1,fnI)],[],[],0⟩
def Ur:ab:=⟨[(4,bv false)],[],[],0⟩
theorem TV {b:List UInt8} (hb:b.length < 1000000000):ae 143 [.dat (sb b),fnI] (bv (b.all (fun c=>dQ c.toNat))):=by
 have hl:KD (.loop (roundOf Tryz.f143 0)) (fun e s=>(e=.exit 0/\b.all (fun c=>dQ c.toNat)=true/\s=(Uq b).an Tryz.f143.ntmps)∨(e=.ret/\b.all (fun c=>dQ c.toNat)=false/\s=Ur.an Tryz.f143.ntmps)) ((RT b (Int.ofNat 0)).an Tryz.f143.ntmps):=by
  refine cH (St:=fun i=>(RT b (Int.ofNat i)).an Tryz.f143.ntmps) (fun i=>b.all (fun c=>dQ c.toNat)=(b.drop i).all (fun c=>dQ c.toNat)) b.length ?_ ?_ (i:=0) (Nat.zero_le _) rfl
  ·intro i hi hI;have hg:b[i]?=some b[i]:=List.getElem?_eq_getElem hi;have hd:(b.drop i).all (fun c=>dQ c.toNat)=(dQ b[i].toNat&&(b.drop (i+1)).all (fun c=>dQ c.toNat)):=by rw[List.drop_eq_getElem_cons hi];rfl
   have hw:ap .i64 (Int.ofNat i+1)=Int.ofNat (i+1):=ba (by omega);have hc:=Q3 b[i];generalize b[i]=c at hg hd hc;generalize dQ c.toNat=tc at hd hc;refine ay [9] [15] (H:=P7) (live:=xp) (by kernel_rfl) ?_;refine bi (b:=true) (bc hi) (by kernel_rfl) ?_;refine oo (mW hg) ?_;refine on hc ?_
   cases tc
   ·exact bO (ex:=.ret) Ur (by kernel_rfl) (by kernel_rfl) (.inr ⟨rfl,by rw[hI,hd];rfl,rfl⟩)
   exact bO (ex:=.normal) (RT b (ap .i64 (Int.ofNat i+1))) (by kernel_rfl) (by kernel_rfl) ⟨by rw[hw],by rw[hI,hd];rfl⟩
  intro hI;have h1:b.all (fun c=>dQ c.toNat)=true:=by rw[hI,List.drop_length];rfl
  refine ay [9] [15] (H:=P7) (live:=xp) (by kernel_rfl) ?_;refine bi (b:=false) (bW (i:=b.length) (L:=b.length) (by omega)) (by kernel_rfl) ?_;exact bO (ex:=.exit 0) (Uq b) (by kernel_rfl) (by kernel_rfl) (.inl ⟨rfl,h1,rfl⟩)
 generalize b.all (fun c=>dQ c.toNat)=c at hl;refine co [] [] (x:=.of Tryz.f143 C6 xp) ?_;refine hY (n:=Tryz.f143.ntmps) (c:=roundOf Tryz.f143 0) (f:=RT b (Int.ofNat 0)) (by kernel_rfl) (by kernel_rfl) hl ?_;rintro ex s (⟨rfl,rfl,rfl⟩|⟨rfl,rfl,rfl⟩) <;>
 ·exact⟨_,rfl,fL (by kernel_rfl) rfl⟩
theorem Cg (b:List UInt8):ae 99 [.dat (sb b)] (bv (isIdent b)):=by
 cases b with
 | nil=>exact dm _ _ _ _ _ (by kernel_rfl)
 | cons c r=>
  have hev:Nat.ble (r.length+1) 24=true->ae 143 [.dat (sb (c::r)),fnI] (bv ((c::r).all (fun c=>dQ c.toNat))):=fun h=>TV (by have:=fM h;simp;omega)
  have hle:=I0 c;have e:isIdent (c::r)=(Nat.ble (r.length+1) 24&&iZ c.toNat&&(c::r).all (fun c=>dQ c.toNat)):=rfl;rw[e];generalize (c::r).all (fun c=>dQ c.toNat)=ca at hev;generalize iZ c.toNat=cl at hle;have hlt:aH (Int.ofNat 24) (Int.ofNat (r.length+1))=!Nat.ble (r.length+1) 24:=by
   rw[gI]
   by_cases h:24 < r.length+1
   ·rw[decide_eq_true h,show Nat.ble (r.length+1) 24=false from by rw[Bool.eq_false_iff];intro e;have:=fM e;omega];rfl
   rw[decide_eq_false h,gm (by omega)];rfl
  generalize Nat.ble (r.length+1) 24=cb at hlt hev;refine co [8] [12] (x:=.of Tryz.f99 Ou Pw) ?_;refine bi (b:=cb) (c:=!aH (Int.ofNat 24) (Int.ofNat (r.length+1))) (by rw[hlt];simp) (by kernel_rfl) ?_
  cases cb with
  | false=>exact fi
  | true=>
   refine oo (mW (b:=c::r) (i:=0) rfl) ?_;refine on hle ?_
   cases cl with
   | false=>exact fi
   | true=>
    refine on (hev rfl) ?_
    cases ca <;> exact fi
def gK (b:List UInt8):Bool:=sq.any (fun r=>ju b r)
noncomputable def qi:Hints:=⟨bS,CX,bg,rowsOf bg 208⟩
def Ek (b:List UInt8) (i:Int):ab:=⟨[(8,iv i),(7,iv 5),(0,.dat (.slice (encS sq))),(1,.dat (sb b))],[],[],0⟩
def Uo (b:List UInt8):ab:=⟨[(9,bv false),(8,iv 5),(7,iv 5),(0,.dat (.slice (encS sq))),(1,.dat (sb b))],[],[],0⟩
def Br (i:Nat):ab:=⟨[(4,iv (Int.ofNat i))],[],[],0⟩
theorem Q2 (b:List UInt8):KC 208 [.dat (.slice (encS sq)),.dat (sb b)] [] 0 (fun v h m=>oc (gK b) v/\h=[]/\m=0):=by
 have hl:KD (.loop (roundOf Tryz.f208 0)) (fun e s=>(e=.exit 0/\gK b=false/\s=(Uo b).an Tryz.f208.ntmps)∨(e=.ret/\gK b=true/\∃i:Nat,s=(Br i).an Tryz.f208.ntmps)) ((Ek b (Int.ofNat 0)).an Tryz.f208.ntmps):=by
  refine cH (St:=fun i=>(Ek b (Int.ofNat i)).an Tryz.f208.ntmps) (fun i=>gK b=(sq.drop i).any (fun r=>ju b r)) 5 ?_ ?_ (i:=0) (Nat.zero_le _) rfl
  ·intro i hi hI;have hcases:i=0∨i=1∨i=2∨i=3∨i=4:=by omega
   have hd:(sq.drop i).any (fun r=>ju b r)=(ju b (sq.getD i [])||(sq.drop (i+1)).any (fun r=>ju b r)):=by rcases hcases with rfl|rfl|rfl|rfl|rfl <;> rfl
   rw[hd] at hI;clear hd;generalize hcw:ju b (sq.getD i [])=cw at hI
   rcases hcases with rfl|rfl|rfl|rfl|rfl
   ·refine ay [16] [] (H:=qi) (live:=lE) (by kernel_rfl) ?_;refine ob hcw ?_
    cases cw
    ·exact bO (ex:=.normal) (Ek b (Int.ofNat (0+1))) (by kernel_rfl) (by kernel_rfl) ⟨rfl,hI⟩
    exact bO (ex:=.ret) (Br 0) (by kernel_rfl) (by kernel_rfl) (.inr ⟨rfl,hI,0,rfl⟩)
   ·refine ay [16] [] (H:=qi) (live:=lE) (by kernel_rfl) ?_;refine ob hcw ?_
    cases cw
    ·exact bO (ex:=.normal) (Ek b (Int.ofNat (1+1))) (by kernel_rfl) (by kernel_rfl) ⟨rfl,hI⟩
    exact bO (ex:=.ret) (Br 1) (by kernel_rfl) (by kernel_rfl) (.inr ⟨rfl,hI,1,rfl⟩)
   ·refine ay [16] [] (H:=qi) (live:=lE) (by kernel_rfl) ?_;refine ob hcw ?_
    cases cw
    ·exact bO (ex:=.normal) (Ek b (Int.ofNat (2+1))) (by kernel_rfl) (by kernel_rfl) ⟨rfl,hI⟩
    exact bO (ex:=.ret) (Br 2) (by kernel_rfl) (by kernel_rfl) (.inr ⟨rfl,hI,2,rfl⟩)
   ·refine ay [16] [] (H:=qi) (live:=lE) (by kernel_rfl) ?_;refine ob hcw ?_
    cases cw
    ·exact bO (ex:=.normal) (Ek b (Int.ofNat (3+1))) (by kernel_rfl) (by kernel_rfl) ⟨rfl,hI⟩
    exact bO (ex:=.ret) (Br 3) (by kernel_rfl) (by kernel_rfl) (.inr ⟨rfl,hI,3,rfl⟩)
   refine ay [16] [] (H:=qi) (live:=lE) (by kernel_rfl) ?_;refine ob hcw ?_
   cases cw
   ·exact bO (ex:=.normal) (Ek b (Int.ofNat (4+1))) (by kernel_rfl) (by kernel_rfl) ⟨rfl,hI⟩
   exact bO (ex:=.ret) (Br 4) (by kernel_rfl) (by kernel_rfl) (.inr ⟨rfl,hI,4,rfl⟩)
  intro hI;have h1:gK b=false:=by rw[hI];rfl
  refine ay [16] [] (H:=qi) (live:=lE) (by kernel_rfl) ?_;exact bO (ex:=.exit 0) (Uo b) (by kernel_rfl) (by kernel_rfl) (.inl ⟨rfl,h1,rfl⟩)
 generalize gK b=c at hl;refine Al [] [] (x:=rP.of Tryz.f208 CX lE) (T:=fun r=>oc c r.val/\r.heap=[]/\r.next=0) (by kernel_rfl) ?_;refine hY (n:=Tryz.f208.ntmps) (c:=roundOf Tryz.f208 0) (f:=Ek b (Int.ofNat 0)) (by kernel_rfl) (by kernel_rfl) hl ?_;rintro ex s (⟨rfl,rfl,rfl⟩|⟨rfl,rfl,i,rfl⟩)
 ·exact⟨_,rfl,fL (a:=⟨iv (-1),[],0⟩) (by kernel_rfl) ⟨⟨_,rfl,rfl⟩,rfl,rfl⟩⟩
 exact⟨_,rfl,fL (a:=⟨iv (Int.ofNat i),[],0⟩) (by kernel_rfl) ⟨⟨_,rfl,bW (by omega)⟩,rfl,rfl⟩⟩
theorem Gq (b:List UInt8):ae 202 [.dat (.slice (encS sq)),.dat (sb b)] (bv (gK b)):=by
 have h:=Q2 b;generalize gK b=c at h;refine co [8] [] (x:=.of Tryz.f202 HE J3) ?_;refine H4 (Q:=oc c) h (by kernel_rfl) (by kernel_rfl) (by rintro v ⟨j,rfl,_⟩;rfl) ?_;rintro v ⟨j,rfl,hj⟩ _;refine bi (b:=c) (c:=!aH j (Int.ofNat 0)) (by rw[hj];simp) (by kernel_rfl) ?_
 cases c <;> exact fi
def fC (x y:Int):Int:=match aH x y with|true=>-1|false=>(match aH y x with|true=>1|false=>0)
def pF (x y:List UInt8):Int:=match LG x y with|true=>-1|false=>(match !(LG x y||ju x y) with|true=>1|false=>0)
def AL:List Int->Int
 | []=>0
 | x::r=>match aB x 0 with|true=>AL r|false=>x
theorem eB (x:Int):aB x x=true:=by rw[ct];simp
theorem zV (x:List UInt8):ju x x=true:=by rw[vr];simp
theorem Q6 (x:Int):ae 172 [iv x] (bv false):=by
 refine co [5] [] (x:=.of Tryz.f172 HM Kb) ?_;refine bi (b:=false) (c:=!aB x x) (by rw[eB];rfl) (by kernel_rfl) ?_;exact fi
theorem Q5 (x:List UInt8):ae 190 [.dat (sb x)] (bv false):=by
 refine co [5] [] (x:=.of Tryz.f190 HJ J8) ?_;refine bi (b:=false) (c:=!ju x x) (by rw[zV];rfl) (by kernel_rfl) ?_;exact fi
theorem I1 (x y:Int):ae 164 [iv x,iv y] (iv (fC x y)):=by
 unfold fC;generalize h1:aH x y=a;generalize h2:aH y x=b;refine co [16,19] [] (x:=.of Tryz.f164 HO Kd) ?_;refine on (Q6 x) ?_;refine on (Q6 y) ?_;refine ob h1 ?_
 cases a
 ·refine ob h2 ?_
  cases b <;> exact fi
 exact fi
theorem YF (x y:List UInt8):ae 165 [.dat (sb x),.dat (sb y)] (iv (pF x y)):=by
 unfold pF;generalize h2:(!(LG x y||ju x y))=b;generalize h1:LG x y=a;refine co [16,19] [] (x:=.of Tryz.f165 HN Kc) ?_;refine on (Q5 x) ?_;refine on (Q5 y) ?_;refine ob h1 ?_
 cases a
 ·refine ob h2 ?_
  cases b <;> exact fi
 exact fi
noncomputable def hOr:Hints:=⟨bS,C2,bg,rowsOf bg 163⟩
def G9 (a b c d:Int) (i:Int):ab:=⟨[(8,iv i),(7,iv 4),(6,.dat (.slice [i64 a,i64 b,i64 c,i64 d])),(3,iv 0)],[],[],0⟩
def Uk (a b c d:Int):ab:=⟨[(9,bv false),(8,iv 4),(7,iv 4),(6,.dat (.slice [i64 a,i64 b,i64 c,i64 d])),(3,iv 0)],[],[],0⟩
def Eh (a:Int):ab:=⟨[(2,iv a)],[],[],0⟩
theorem adg (a b c d:Int):ae 163 [.dat (.slice [i64 a,i64 b,i64 c,i64 d])] (iv (AL [a,b,c,d])):=by
 have hl:KD (.loop (roundOf Tryz.f163 0)) (fun e s=>(e=.exit 0/\AL [a,b,c,d]=0/\s=(Uk a b c d).an Tryz.f163.ntmps)∨(e=.ret/\s=(Eh (AL [a,b,c,d])).an Tryz.f163.ntmps)) ((G9 a b c d (Int.ofNat 0)).an Tryz.f163.ntmps):=by
  refine cH (St:=fun i=>(G9 a b c d (Int.ofNat i)).an Tryz.f163.ntmps) (fun i=>AL [a,b,c,d]=AL ([a,b,c,d].drop i)) 4 ?_ ?_ (i:=0) (Nat.zero_le _) rfl
  ·intro i hi hI;have hcases:i=0∨i=1∨i=2∨i=3:=by omega
   have hd:AL ([a,b,c,d].drop i)=(match aB ([a,b,c,d].getD i 0) 0 with|true=>AL ([a,b,c,d].drop (i+1))|false=>[a,b,c,d].getD i 0):=by rcases hcases with rfl|rfl|rfl|rfl <;> rfl
   rw[hd] at hI;clear hd;generalize hcw:aB ([a,b,c,d].getD i 0) 0=cw at hI
   rcases hcases with rfl|rfl|rfl|rfl
   ·refine ay [14] [] (H:=hOr) (live:=nA) (by kernel_rfl) ?_;refine bi (b:=!cw) (c:=!aB ([a,b,c,d].getD 0 0) 0) (by rw[hcw]) (by kernel_rfl) ?_
    cases cw with
    | false=>exact bO (ex:=.ret) (Eh ([a,b,c,d].getD 0 0)) (by kernel_rfl) (by kernel_rfl) (.inr ⟨rfl,by rw[hI]⟩)
    | true=>exact bO (ex:=.normal) (G9 a b c d (Int.ofNat (0+1))) (by kernel_rfl) (by kernel_rfl) ⟨rfl,hI⟩
   ·refine ay [14] [] (H:=hOr) (live:=nA) (by kernel_rfl) ?_;refine bi (b:=!cw) (c:=!aB ([a,b,c,d].getD 1 0) 0) (by rw[hcw]) (by kernel_rfl) ?_
    cases cw with
    | false=>exact bO (ex:=.ret) (Eh ([a,b,c,d].getD 1 0)) (by kernel_rfl) (by kernel_rfl) (.inr ⟨rfl,by rw[hI]⟩)
    | true=>exact bO (ex:=.normal) (G9 a b c d (Int.ofNat (1+1))) (by kernel_rfl) (by kernel_rfl) ⟨rfl,hI⟩
   ·refine ay [14] [] (H:=hOr) (live:=nA) (by kernel_rfl) ?_;refine bi (b:=!cw) (c:=!aB ([a,b,c,d].getD 2 0) 0) (by rw[hcw]) (by kernel_rfl) ?_
    cases cw with
    | false=>exact bO (ex:=.ret) (Eh ([a,b,c,d].getD 2 0)) (by kernel_rfl) (by kernel_rfl) (.inr ⟨rfl,by rw[hI]⟩)
    | true=>exact bO (ex:=.normal) (G9 a b c d (Int.ofNat (2+1))) (by kernel_rfl) (by kernel_rfl) ⟨rfl,hI⟩
   refine ay [14] [] (H:=hOr) (live:=nA) (by kernel_rfl) ?_;refine bi (b:=!cw) (c:=!aB ([a,b,c,d].getD 3 0) 0) (by rw[hcw]) (by kernel_rfl) ?_
   cases cw with
   | false=>exact bO (ex:=.ret) (Eh ([a,b,c,d].getD 3 0)) (by kernel_rfl) (by kernel_rfl) (.inr ⟨rfl,by rw[hI]⟩)
   | true=>exact bO (ex:=.normal) (G9 a b c d (Int.ofNat (3+1))) (by kernel_rfl) (by kernel_rfl) ⟨rfl,hI⟩
  intro hI;have h1:AL [a,b,c,d]=0:=by rw[hI];rfl
  refine ay [14] [] (H:=hOr) (live:=nA) (by kernel_rfl) ?_;exact bO (ex:=.exit 0) (Uk a b c d) (by kernel_rfl) (by kernel_rfl) (.inl ⟨rfl,h1,rfl⟩)
 generalize AL [a,b,c,d]=r at hl;refine co [] [] (x:=.of Tryz.f163 C2 nA) ?_;refine hY (n:=Tryz.f163.ntmps) (c:=roundOf Tryz.f163 0) (f:=G9 a b c d (Int.ofNat 0)) (by kernel_rfl) (by kernel_rfl) hl ?_;rintro ex s (⟨rfl,rfl,rfl⟩|⟨rfl,rfl⟩)
 ·exact⟨_,rfl,fL (by kernel_rfl) rfl⟩
 exact⟨_,rfl,fL (by kernel_rfl) rfl⟩
mutual
def nT:Ty->Ty->Int
 | .mk k nm ix l,.mk k2 nm2 ix2 l2=>match aB (AL [fC k k2,pF nm nm2,fC ix ix2,fC (Int.ofNat (ax l).length) (Int.ofNat (ax l2).length)]) 0 with
  | true=>qD l l2
  | false=>AL [fC k k2,pF nm nm2,fC ix ix2,fC (Int.ofNat (ax l).length) (Int.ofNat (ax l2).length)]
def qD:List Ty->List Ty->Int
 | t::r,u::v=>match aB (nT t u) 0 with|true=>qD r v|false=>nT t u
 | _,_=>0
end
def aaF (k:Int) (nm:List UInt8) (ix:Int) (l:List Ty) (k2:Int) (nm2:List UInt8) (ix2:Int) (l2:List Ty):Int:=AL [fC k k2,pF nm nm2,fC ix ix2,fC (Int.ofNat (ax l).length) (Int.ofNat (ax l2).length)]
theorem pC {x:Int} (h:aB x 0=true):x=0:=by rw[ct] at h;simpa using h
theorem zb:∀{l:List Int},AL l=0->∀x∈l,x=0
 | [],_,x,hx=>by simp at hx
 | y::r,h,x,hx=>by
  unfold AL at h
  split at h
  ·rename_i hy
   rcases List.mem_cons.1 hx with h1|hx
   ·rw[h1];exact pC hy
   exact zb h x hx
  rename_i hy;subst h;rw[eB] at hy;simp at hy
theorem vu {x y:Int} (h:fC x y=0):x=y:=by
 unfold fC at h
 cases h1:aH x y with
 | true=>rw[h1] at h;simp at h
 | false=>
  rw[h1] at h
  cases h2:aH y x with
  | true=>rw[h2] at h;simp at h
  | false=>
   rw[cW] at h1 h2;simp at h1 h2;omega
theorem zF {k:Int} {nm:List UInt8} {ix:Int} {l:List Ty} {k2:Int} {nm2:List UInt8} {ix2:Int} {l2:List Ty} (h:aB (aaF k nm ix l k2 nm2 ix2 l2) 0=true):l.length=l2.length:=by
 have h1:=zb (pC h) (fC (Int.ofNat (ax l).length) (Int.ofNat (ax l2).length)) (by simp);have h2:=vu h1;rw[aJ,aJ] at h2;exact Int.ofNat.inj h2
def mR (l l2:List Ty) (c0:Int):Nat->Int
 | 0=>c0
 | i+1=>match l[i]?,l2[i]? with|some t,some u=>nT t u|_,_=>0
noncomputable def pt:Hints:=⟨bS,C7,bg,rowsOf bg 119⟩
def qP (k:Int) (nm:List UInt8) (ix:Int) (l:List Ty) (k2:Int) (nm2:List UInt8) (ix2:Int) (l2:List Ty):Heap:=[(.loc 3,.cells [iv k2,.dat (sb nm2),iv ix2,.dat (.slice (ax l2))]),(.loc 2,.cells [iv k,.dat (sb nm),iv ix,.dat (.slice (ax l))])]
def oM (lo:Heap) (i c:Int):ab:=⟨[(6,iv i),(5,iv c),(3,.ptr (.loc 3) 0),(2,.ptr (.loc 2) 0)],lo,[],0⟩
def kB (lo:Heap) (i c:Int):ab:=⟨[(39,bv false),(6,iv i),(5,iv c),(3,.ptr (.loc 3) 0),(2,.ptr (.loc 2) 0)],lo,[],0⟩
theorem QU {k:Int} {nm:List UInt8} {ix:Int} {l:List Ty} {k2:Int} {nm2:List UInt8} {ix2:Int} {l2:List Ty} {c0:Int} (hlen:aB c0 0=true->l.length=l2.length)
  (ih:∀t∈l,∀u∈l2,ae 119 [.dat t.enc,.dat u.enc] (iv (nT t u))) (hb:l.length < 1000000000) :
  KD (.loop (roundOf Tryz.f119 0)) (fun e s=>e=.exit 0/\∃i:Nat,s=(kB (qP k nm ix l k2 nm2 ix2 l2) (Int.ofNat i) (match aB c0 0 with|true=>qD l l2|false=>c0)).an Tryz.f119.ntmps) ((oM (qP k nm ix l k2 nm2 ix2 l2) (Int.ofNat 0) c0).an Tryz.f119.ntmps):=by
 generalize hfin:(match aB c0 0 with|true=>qD l l2|false=>c0)=fin;refine cH (St:=fun i=>(oM (qP k nm ix l k2 nm2 ix2 l2) (Int.ofNat i) (mR l l2 c0 i)).an Tryz.f119.ntmps) (fun i=>(0 < i->aB c0 0=true)/\fin=(match aB (mR l l2 c0 i) 0 with|true=>qD (l.drop i) (l2.drop i)|false=>mR l l2 c0 i)) (ax l).length ?_ ?_ (i:=0) (Nat.zero_le _) ⟨fun h=>absurd h (Nat.lt_irrefl 0),hfin.symm⟩
 ·rintro i hi ⟨hz,hI⟩;have hz2:aB (mR l l2 c0 i) 0=true->aB c0 0=true:=by
   intro h
   cases i with
   | zero=>exact h
   | succ i=>exact hz (Nat.succ_pos i)
  obtain⟨t,ht,hm⟩:=get_mem hi;have hi2:=hi;rw[aJ] at hi2;have hw:ap .i64 (Int.ofNat i+1)=Int.ofNat (i+1):=ba (by omega);generalize hca:mR l l2 c0 i=ca at hI hz2;generalize hcz:aB ca 0=cz at hI hz2
  cases cz with
  | false=>
   refine ay [32,38] [45,50] (H:=pt) (live:=nB) (by kernel_rfl) ?_;refine ob hcz ?_;refine bO (ex:=.exit 0) (kB (qP k nm ix l k2 nm2 ix2 l2) (Int.ofNat i) ca) (by kernel_rfl) (by kernel_rfl) ⟨rfl,i,?_⟩;rw[hI]
  | true=>
   have hle:=hlen (hz2 rfl);have hu:l2[i]?=some l2[i]:=List.getElem?_eq_getElem (by omega);have hmu:l2[i]∈l2:=List.getElem_mem _;generalize l2[i]=u at hu hmu;have hc:=ih t hm u hmu;have hat:mR l l2 c0 (i+1)=nT t u:=by simp only[mR,ht,hu]
   have hnew:fin=(match aB (mR l l2 c0 (i+1)) 0 with|true=>qD (l.drop (i+1)) (l2.drop (i+1))|false=>mR l l2 c0 (i+1)):=by
    rw[hI,hat];show qD (l.drop i) (l2.drop i)=_;rw[iq ht,iq hu,qD]
   have hz3:=hz2 rfl;rw[hat] at hnew;have e:sj (fun s=>s=(oM (qP k nm ix l k2 nm2 ix2 l2) (Int.ofNat (i+1)) (mR l l2 c0 (i+1))).an Tryz.f119.ntmps/\(0 < i+1->aB c0 0=true)/\fin=(match aB (mR l l2 c0 (i+1)) 0 with|true=>qD (l.drop (i+1)) (l2.drop (i+1))|false=>mR l l2 c0 (i+1)))
     (fun e s=>e=.exit 0/\∃i:Nat,s=(kB (qP k nm ix l k2 nm2 ix2 l2) (Int.ofNat i) fin).an Tryz.f119.ntmps) .normal ((oM (qP k nm ix l k2 nm2 ix2 l2) (ap .i64 (Int.ofNat i+1)) (nT t u)).an Tryz.f119.ntmps):=by
    rw[hw,hat];exact⟨rfl,fun _=>hz3,hnew⟩
   generalize nT t u=cc at hc e;have hx1:=oF ht;have hx2:=oF hu;clear ih hlen hI hat hnew hz hz2 hu hmu ht hm;obtain⟨k3,nm3,ix3,a3⟩:=t;obtain⟨k4,nm4,ix4,a4⟩:=u
   rcases a3 with _|⟨b3,d3⟩ <;> rcases a4 with _|⟨b4,d4⟩ <;>
   ·refine ay [32,38] [45,50] (H:=pt) (live:=nB) (by kernel_rfl) ?_;refine ob hcz ?_;refine bi (b:=true) (bc hi) (by kernel_rfl) ?_;refine oo hx1 ?_;refine oo hx2 ?_;refine on hc ?_;exact bO (ex:=.normal) (oM (qP k nm ix l k2 nm2 ix2 l2) (ap .i64 (Int.ofNat i+1)) cc) (by kernel_rfl) (by kernel_rfl) e
 rintro⟨hz,hI⟩;generalize hca:mR l l2 c0 (ax l).length=ca at hI;generalize hcz:aB ca 0=cz at hI;refine ay [32,38] [45,50] (H:=pt) (live:=nB) (by kernel_rfl) ?_;refine ob hcz ?_
 cases cz with
 | false=>
  refine bO (ex:=.exit 0) (kB (qP k nm ix l k2 nm2 ix2 l2) (Int.ofNat (ax l).length) ca) (by kernel_rfl) (by kernel_rfl) ⟨rfl,(ax l).length,?_⟩;rw[hI]
 | true=>
  have h0:ca=fin:=by
   rw[hI,aJ,List.drop_length];exact pC hcz
  refine bi (b:=false) (bW (i:=(ax l).length) (L:=(ax l).length) (by omega)) (by kernel_rfl) ?_;refine bO (ex:=.exit 0) (kB (qP k nm ix l k2 nm2 ix2 l2) (Int.ofNat (ax l).length) ca) (by kernel_rfl) (by kernel_rfl) ⟨rfl,(ax l).length,?_⟩;rw[h0]
def jF (k:Int) (nm:List UInt8) (ix:Int) (a:al) (k2:Int) (nm2:List UInt8) (ix2:Int) (a2:al):Heap:=[(.loc 3,.cells [iv k2,.dat (sb nm2),iv ix2,.dat a2]),(.loc 2,.cells [iv k,.dat (sb nm),iv ix,.dat a])]
theorem KB (k:Int) (nm:List UInt8) (ix:Int) (k2:Int) (nm2:List UInt8) (ix2:Int) (a2:al) (ha:a2=nl∨∃es,a2=.slice es) (c0:Int) :
  KD (.loop (roundOf Tryz.f119 0)) (fun e s=>e=.exit 0/\∃i:Nat,s=(kB (jF k nm ix nl k2 nm2 ix2 a2) (Int.ofNat i) c0).an Tryz.f119.ntmps) ((oM (jF k nm ix nl k2 nm2 ix2 a2) (Int.ofNat 0) c0).an Tryz.f119.ntmps):=by
 refine aZ (St:=fun _=>(oM (jF k nm ix nl k2 nm2 ix2 a2) (Int.ofNat 0) c0).an Tryz.f119.ntmps) 0 (fun i hi=>absurd hi (Nat.not_lt_zero i)) ?_ (i:=0) (Nat.le_refl _);generalize hcz:aB c0 0=cz
 rcases ha with rfl|⟨es,rfl⟩ <;>
 ·refine ay [32,38] [45,50] (H:=pt) (live:=nB) (by kernel_rfl) ?_;refine ob hcz ?_
  cases cz with
  | false=>exact bO (ex:=.exit 0) (kB (jF k nm ix nl k2 nm2 ix2 _) (Int.ofNat 0) c0) (by kernel_rfl) (by kernel_rfl) ⟨rfl,0,rfl⟩
  | true=>
   refine bi (b:=false) (c:=aH (Int.ofNat 0) (Int.ofNat 0)) rfl (by kernel_rfl) ?_;exact bO (ex:=.exit 0) (kB (jF k nm ix nl k2 nm2 ix2 _) (Int.ofNat 0) c0) (by kernel_rfl) (by kernel_rfl) ⟨rfl,0,rfl⟩
theorem TR (k:Int) (nm:List UInt8) (ix:Int) (es:List al) (k2:Int) (nm2:List UInt8) (ix2:Int) (c0:Int) (hcz:aB c0 0=false) :
  KD (.loop (roundOf Tryz.f119 0)) (fun e s=>e=.exit 0/\∃i:Nat,s=(kB (jF k nm ix (.slice es) k2 nm2 ix2 nl) (Int.ofNat i) c0).an Tryz.f119.ntmps) ((oM (jF k nm ix (.slice es) k2 nm2 ix2 nl) (Int.ofNat 0) c0).an Tryz.f119.ntmps):=by
 refine aZ (St:=fun _=>(oM (jF k nm ix (.slice es) k2 nm2 ix2 nl) (Int.ofNat 0) c0).an Tryz.f119.ntmps) 0 (fun i hi=>absurd hi (Nat.not_lt_zero i)) ?_ (i:=0) (Nat.le_refl _);refine ay [32,38] [45,50] (H:=pt) (live:=nB) (by kernel_rfl) ?_;refine ob hcz ?_;exact bO (ex:=.exit 0) (kB (jF k nm ix (.slice es) k2 nm2 ix2 nl) (Int.ofNat 0) c0) (by kernel_rfl) (by kernel_rfl) ⟨rfl,0,rfl⟩
theorem DG {k:Int} {nm:List UInt8} {ix:Int} {a:al} {k2:Int} {nm2:List UInt8} {ix2:Int} {a2:al} (ha:a=nl∨∃es,a=.slice es) (ha2:a2=nl∨∃es,a2=.slice es) {n m:Nat} {r:Int}
  (hn:a=nl/\n=0∨∃es,a=.slice es/\n=es.length) (hm:a2=nl/\m=0∨∃es,a2=.slice es/\m=es.length)
  (hl:KD (.loop (roundOf Tryz.f119 0)) (fun e s=>e=.exit 0/\∃i:Nat,s=(kB (jF k nm ix a k2 nm2 ix2 a2) (Int.ofNat i) r).an Tryz.f119.ntmps)
   ((oM (jF k nm ix a k2 nm2 ix2 a2) (Int.ofNat 0) (AL [fC k k2,pF nm nm2,fC ix ix2,fC (Int.ofNat n) (Int.ofNat m)])).an Tryz.f119.ntmps)) :
  ae 119 [.dat (.agg [i64 k,sb nm,i64 ix,a]),.dat (.agg [i64 k2,sb nm2,i64 ix2,a2])] (iv r):=by
 have h1:=I1 k k2;have h2:=YF nm nm2;have h3:=I1 ix ix2;have h4:=I1 (Int.ofNat n) (Int.ofNat m);generalize fC k k2=x1 at h1 hl;generalize pF nm nm2=x2 at h2 hl;generalize fC ix ix2=x3 at h3 hl;generalize fC (Int.ofNat n) (Int.ofNat m)=x4 at h4 hl;have h5:=adg x1 x2 x3 x4;generalize AL [x1,x2,x3,x4]=c0 at h5 hl;clear ha ha2
 rcases hn with⟨rfl,rfl⟩|⟨es,rfl,rfl⟩ <;> rcases hm with⟨rfl,rfl⟩|⟨es2,rfl,rfl⟩ <;>
 ·refine co [] [] (x:=.of Tryz.f119 C7 nB) ?_;refine on h1 ?_;refine on h2 ?_;refine on h3 ?_;refine on h4 ?_;refine on h5 ?_;refine hY (n:=Tryz.f119.ntmps) (c:=roundOf Tryz.f119 0) (f:=oM (jF k nm ix _ k2 nm2 ix2 _) (Int.ofNat 0) c0) (by kernel_rfl) (by kernel_rfl) hl ?_;rintro ex s ⟨rfl,i,rfl⟩;exact⟨_,rfl,fL (by kernel_rfl) rfl⟩
theorem DF {k:Int} {nm:List UInt8} {ix:Int} {l:List Ty} {k2:Int} {nm2:List UInt8} {ix2:Int} {l2:List Ty} (ih:∀t∈l,∀u∈l2,ae 119 [.dat t.enc,.dat u.enc] (iv (nT t u))) (hb:l.length < 1000000000) :
  ae 119 [.dat (Ty.mk k nm ix l).enc,.dat (Ty.mk k2 nm2 ix2 l2).enc] (iv (nT (.mk k nm ix l) (.mk k2 nm2 ix2 l2))):=by
 rw[nT]
 cases l with
 | nil=>
  have hr:(match aB (AL [fC k k2,pF nm nm2,fC ix ix2,fC (Int.ofNat (ax []).length) (Int.ofNat (ax l2).length)]) 0 with|true=>qD [] l2|false=>AL [fC k k2,pF nm nm2,fC ix ix2,fC (Int.ofNat (ax []).length) (Int.ofNat (ax l2).length)])=AL [fC k k2,pF nm nm2,fC ix ix2,fC (Int.ofNat (ax []).length) (Int.ofNat (ax l2).length)]:=by
   split
   ·rename_i h;rw[pC h,qD];simp
   rfl
  rw[hr]
  cases l2 with
  | nil=>exact @DG _ _ _ nl _ _ _ nl (.inl rfl) (.inl rfl) 0 0 _ (.inl ⟨rfl,rfl⟩) (.inl ⟨rfl,rfl⟩) (KB k nm ix k2 nm2 ix2 nl (.inl rfl) _)
  | cons u v=>exact @DG _ _ _ nl _ _ _ (.slice (ax (u::v))) (.inl rfl) (.inr ⟨_,rfl⟩) 0 ((ax (u::v)).length) _ (.inl ⟨rfl,rfl⟩) (.inr ⟨_,rfl,rfl⟩) (KB k nm ix k2 nm2 ix2 _ (.inr ⟨_,rfl⟩) _)
 | cons t r=>
  cases l2 with
  | nil=>
   have hcz:aB (AL [fC k k2,pF nm nm2,fC ix ix2,fC (Int.ofNat (ax (t::r)).length) (Int.ofNat (ax []).length)]) 0=false:=by
    rw[Bool.eq_false_iff];intro h
    have:=zF (l:=t::r) (l2:=[]) h
    simp at this
   rw[hcz];exact @DG _ _ _ (.slice (ax (t::r))) _ _ _ nl (.inr ⟨_,rfl⟩) (.inl rfl) ((ax (t::r)).length) 0 _ (.inr ⟨_,rfl,rfl⟩) (.inl ⟨rfl,rfl⟩) (TR k nm ix _ k2 nm2 ix2 _ hcz)
  | cons u v=>
   exact @DG _ _ _ (.slice (ax (t::r))) _ _ _ (.slice (ax (u::v))) (.inr ⟨_,rfl⟩) (.inr ⟨_,rfl⟩) ((ax (t::r)).length) ((ax (u::v)).length) _ (.inr ⟨_,rfl,rfl⟩) (.inr ⟨_,rfl,rfl⟩)
    (QU (l:=t::r) (l2:=u::v) (fun h=>zF (l:=t::r) (l2:=u::v) h) ih hb)
mutual
theorem Ao:∀(t u:Ty),t.thin->ae 119 [.dat t.enc,.dat u.enc] (iv (nT t u))
 | .mk k nm ix l,.mk k2 nm2 ix2 l2,h=>by
  simp only[Ty.thin] at h;exact DF (fun t ht u _=>wC l h.2 t ht u) h.1
theorem wC:∀(l:List Ty),rW l->∀t∈l,∀u:Ty,ae 119 [.dat t.enc,.dat u.enc] (iv (nT t u))
 | [],_,t,ht,_=>by simp at ht
 | x::r,h,t,ht,u=>by
  simp only[rW] at h
  rcases List.mem_cons.1 ht with h1|ht
  ·rw[h1];exact Ao x u h.1
  exact wC r h.2 t ht u
end
def MC (t u:Ty):Bool:=aB (nT t u) 0
theorem Q4 (t u:Ty) (h:t.thin):ae 82 [.dat t.enc,.dat u.enc] (bv (MC t u)):=by
 have hc:=Ao t u h;unfold MC;generalize nT t u=c at hc;generalize hcz:aB c 0=cz;clear h;obtain⟨k3,nm3,ix3,a3⟩:=t;obtain⟨k4,nm4,ix4,a4⟩:=u
 rcases a3 with _|⟨b3,d3⟩ <;> rcases a4 with _|⟨b4,d4⟩ <;>
 ·refine co [8] [] (x:=.of Tryz.f82 Ox Pz) ?_;refine on hc ?_;refine ob hcz ?_
  cases cz <;> exact fi
theorem TW (t u:Ty) (h:t.size < 1000000000):ae 82 [.dat t.enc,.dat u.enc] (bv (MC t u)):=Q4 t u (Cz t h)
def aak:List Ty->ac
 | []=>.dat nl
 | t::r=>.own (ax (t::r))
theorem Qw {l:List Ty} {d:al} (h:d∈ax l):∃t,d=Ty.enc t:=by
 rw[pD] at h;obtain⟨t,_,rfl⟩:=List.mem_map.1 h;exact⟨t,rfl⟩
theorem zY (a b:List Ty):ax (a++b)=ax a++ax b:=by simp[pD]
theorem Mb (t:Ty):t.enc.cells.length=4:=by cases t;rfl
theorem zX (l:List Ty):sizedB 4 (ax l)=true:=kj (fun d hd=>by obtain⟨t,rfl⟩:=Qw hd;exact Mb t)
theorem IP (l:List Ty):eZ (ax l)=false:=by
 cases l with
 | nil=>rfl
 | cons t r=>cases t;rfl
theorem YL {pre:List Ty} {t:Ty} (hl:pre.length < 1000000000):bU (env ak.aC) false 38 [.own (ax pre),.dat (.slice [t.enc])] none=some ⟨.own (ax (pre++[t])),.keep⟩:=by
 rw[zY];refine xB (i:=Zs) (ds:=[t.enc]) (k:=3) MS rfl xM ?_ ?_ (by kernel_rfl) ?_ ?_ ?_ (by simp)
 ·exact zX [t]
 ·exact zX pre
 ·have h1:Zs.bytes<=1000:=fM (by kernel_rfl);rw[aJ]
  calc (pre.length+1)*Zs.bytes<=1000000000*1000:=Nat.mul_le_mul (by omega) h1
   _<=140737488355328:=by decide
 ·rw[aJ];simp[lim];omega
 unfold jI;rw[show ax pre++[t.enc]=ax (pre++[t]) by rw[zY];rfl,IP]
theorem Ec {α:Type} {l:List α} {i:Nat} {t:α} (h:l[i]?=some t):l.take (i+1)=l.take i++[t]:=by rw[List.take_add_one,h];rfl
mutual
def Ty.gJ:Ty->Prop
 | .mk k _ ix args=>(aB k 5=true->aH ix 9223372036854775808=true)/\eO args
def eO:List Ty->Prop
 | []=>True
 | t::r=>t.gJ/\eO r
end
structure YV where
 nm:List UInt8
 ty:Ty
structure tW where
 nm:List UInt8
 ar:Int
 sup:Ty
 con:Bool
 fl:List YV
def bl (b:Bool):al:=.flat (.bool b)
def YV.cells (f:YV):List al:=sb f.nm::f.ty.cells
def YV.enc (f:YV):al:=.agg f.cells
def DD:List YV->List al
 | []=>[]
 | f::r=>f.enc::DD r
def tW.cells (d:tW):List al:=sb d.nm::i64 d.ar::(d.sup.cells++[bl d.con,sl (DD d.fl)])
def tW.enc (d:tW):al:=.agg d.cells
def av (l:List al):List ac:=l.map .dat
def Z6:List tW->List al
 | []=>[]
 | d::r=>d.cells++Z6 r
def ent (d:tW) (i:Nat):Go.Value×al:=(.string ⟨⟨d.nm⟩⟩,i64 (Int.ofNat i))
def aaE:List tW->Nat->List (Go.Value×al)
 | [],_=>[]
 | d::r,i=>ent d i::aaE r (i+1)
def hP:ac:=.ptr (.out 1) 0
def hG (r:Nat) (cs:List ac) (es:List (Go.Value×al)) (n:Nat):Heap:=[(.out r,.cells cs),(.out 1,.cells [.win (.out r) 8 0 n,.map (.out 0)]),(.out 0,.map es)]
def ac9 (nm:List UInt8) (ar k:Int) (nm2:List UInt8) (ix:Int) (la:List al) (con:Bool) (lb:List al):al:=.agg [sb nm,i64 ar,i64 k,sb nm2,i64 ix,sl la,bl con,sl lb]
theorem xu {r n k:Nat} (h:k < n):aq (env ak.aC) 112 [.win (.out r) 8 0 n,iv (Int.ofNat k)]=some ⟨.ptr (.out r) (0+k*8),.keep⟩:=by
 have h1:aq (env ak.aC) 112 [.win (.out r) 8 0 n,iv (Int.ofNat k)]=(if (Nat.blt k n&&Nat.beq 8 8)=true then some ⟨.ptr (.out r) (0+k*8),.keep⟩ else none):=by kernel_rfl
 rw[h1,if_pos];simp[Nat.blt_eq,h]
def DY {α:Type} (o:Option α):Bool:=match o with|some _=>true|none=>false
def hH (r:Nat) (ds:List tW) (tl:List al):Heap:=hG r (av (Z6 ds++tl)) (aaE ds 0) ds.length
def box:Name×aM:=(.out 3,.cells [hP])
def hB (cs:List al) (es:List (Go.Value×al)) (n:Nat):Heap:=box::hG 2 (av cs) es n
theorem ku {α:Type} {l:List α} {i:Nat} {t:α} (h:l[i]?=some t):l.drop i=t::l.drop (i+1):=by
 obtain⟨hi,rfl⟩:=List.getElem?_eq_some_iff.1 h;exact List.drop_eq_getElem_cons hi
def Ty.gO (t:Ty):Prop:=t.size < 100000000/\t.gJ
def tW.gO (d:tW):Prop:=d.sup.gO/\(∀f∈d.fl,f.ty.gO)/\d.fl.length < 1000000000
end Go.Proofs.YtmpmgmmcaghacaaGreatDoor
namespace Go.Proofs
open Go.Shelf
def Tryz.LP:Go.Shelf.Ren:=⟨fun|21=>207|27=>212|28=>213|35=>214|39=>215|n=>n,fun|22=>22|3=>3|4=>4|0=>0|n=>n,fun|n=>n⟩
theorem Tryz.UN:Go.Proofs.Lays2.n21 Tryz.prog Tryz.LP:={
 mixed:=by kernel_rfl
 f21:=Tryz.func207.trans (congrArg some (by kernel_rfl))
 f27:=Tryz.func212.trans (congrArg some (by kernel_rfl))
 f28:=Tryz.func213.trans (congrArg some (by kernel_rfl))
 f35:=Tryz.func214.trans (congrArg some (by kernel_rfl))
 f39:=Tryz.func215.trans (congrArg some (by kernel_rfl))
 t0:=Tryz.underlying0
 a0:=Tryz.isAgg0
 z0:=Tryz.sizeOf0
 v0:=Tryz.zeroValue0
 t3:=Tryz.underlying3
 a3:=Tryz.isAgg3
 z3:=Tryz.sizeOf3
 v3:=Tryz.zeroValue3
 t4:=Tryz.underlying4
 a4:=Tryz.isAgg4
 z4:=Tryz.sizeOf4
 v4:=Tryz.zeroValue4
 t22:=Tryz.underlying22
 a22:=Tryz.isAgg22
 z22:=Tryz.sizeOf22
 v22:=Tryz.zeroValue22
 i3:=by kernel_rfl }
def Tryz.Q8:Go.Shelf.Ren:=⟨fun|25=>206|31=>132|32=>211|37=>172|n=>n,fun|22=>22|3=>3|4=>4|40=>134|0=>0|n=>n,fun|n=>n⟩
theorem Tryz.adh:Go.Proofs.Lays2.n25 Tryz.prog Tryz.Q8:={
 mixed:=by kernel_rfl
 f25:=Tryz.func206.trans (congrArg some (by kernel_rfl))
 f31:=Tryz.func132.trans (congrArg some (by kernel_rfl))
 f32:=Tryz.func211.trans (congrArg some (by kernel_rfl))
 f37:=Tryz.func172.trans (congrArg some (by kernel_rfl))
 t0:=Tryz.underlying0
 a0:=Tryz.isAgg0
 z0:=Tryz.sizeOf0
 v0:=Tryz.zeroValue0
 t3:=Tryz.underlying3
 a3:=Tryz.isAgg3
 z3:=Tryz.sizeOf3
 v3:=Tryz.zeroValue3
 t4:=Tryz.underlying4
 a4:=Tryz.isAgg4
 z4:=Tryz.sizeOf4
 v4:=Tryz.zeroValue4
 t22:=Tryz.underlying22
 a22:=Tryz.isAgg22
 z22:=Tryz.sizeOf22
 v22:=Tryz.zeroValue22
 t40:=Tryz.underlying134
 a40:=Tryz.isAgg134
 z40:=Tryz.sizeOf134
 v40:=Tryz.zeroValue134 }
end Go.Proofs
namespace Go.Tp
open Go.Proofs Go.Shelf Go.RowKit
def bB (l:List Int):List ac:=l.map iv
def ints (l:List Int):List Value:=l.map (Value.int .i64)
section
variable {w:World} {R:Own} {N:Name->Option Nat}
theorem nD:∀{l:List Int} {us:List Value} {bs:List Nat},ah w R N (bB l) us bs->us=ints l/\bs=[]/\∀x∈l,bH (.int .i64 x)=true
 | [],us,bs,h=>by obtain⟨rfl,rfl⟩:=aQ h;simp[ints]
 | x::l,us,bs,h=>by
  have h:ah w R N (iv x::bB l) us bs:=h;obtain⟨v,vs',b1,b2,rfl,rfl,h1,h2⟩:=aw h;obtain⟨rfl,rfl,h3⟩:=nD h2;simp only[ai] at h1;obtain⟨rfl,h1⟩:=h1;have h1:eF w R v (.flat (.int .i64 x)):=h1
  cases h1 with
  | flat hf=>exact⟨rfl,rfl,by rintro y hy;rcases List.mem_cons.1 hy with rfl|hy;exact hf;exact h3 y hy⟩
theorem Dk:∀{l:List Int},(∀x∈l,bH (.int .i64 x)=true)->ah w R N (bB l) (ints l) []
 | [],_=>aR
 | x::l,h=>by
  have h1:ai w R N (iv x) (.int .i64 x) []:=by
   simp only[ai];exact⟨trivial,.flat (h x (by simp))⟩
  exact aF (b1:=[]) (b2:=[]) h1 (Dk (l:=l) (fun y hy=>h y (by simp[hy])))
theorem tg {l:List Int}:∀v∈ints l,v.oneCell'=true:=by
 intro v hv;obtain⟨x,_,rfl⟩:=List.mem_map.1 hv;rfl
theorem aaC {l:List Int} {j:Nat} {v:Value} (h:(ints l)[j]?=some v):∃x,l[j]?=some x/\v=.int .i64 x:=by
 simp only[ints,List.getElem?_map,Option.map_eq_some_iff] at h;obtain⟨x,h1,h2⟩:=h;exact⟨x,h1,h2.symm⟩
theorem kV {b off:Nat} {vs:Array Value} {e:TypeId} {fr:Nat×Nat} (hb:w.heap[b]?=some (.cells vs e fr)) {v:Value} (h:vs.toList[off]?=some v):w.cell? ⟨b,off,none⟩=some v:=by
 rw[Array.getElem?_toList] at h;simp[World.cell?,hb,h]
theorem gZ (b o:Nat) (e:TypeId) (news:List Value) (cur:Array Value) (hg:w.heap[b]?=some (.cells cur e (0,0))) (hfit:o+news.length<=cur.size) (h1:∀u∈news,u.oneCell'=true) :
  w.setCells b o news=w.setRow b (cur.toList.take o++news++cur.toList.drop (o+news.length)).toArray:=by
 have hc:∀j,j < news.length->(w.cell? ⟨b,o+0+j,none⟩).isSome=true:=by
  intro j hj;rw[kV hg (v:=cur.toList[o+0+j]'(by simp;omega)) (by simp)];rfl
 have hf:∀j,j < news.length->w.frozen? ⟨b,o+0+j,none⟩=false:=by
  intro j _;simp[World.frozen?,hg]
 have a1:=run_storeCells_cells (P:=default) b o news 0 w hc hf h1;have a2:=run_storeCells_at default b o e news 0 cur w hg (by simpa using hfit) h1;rw[a1] at a2;simp only[Nat.add_zero,Result.ok.injEq] at a2;exact a2.2
end
section
variable {P:Program} {ρ:Ren} {G:bw}
theorem pq {w:World} {R:Own} {g:Nat} {cur:Array Value} {t:TypeId} (hg:w.heap[g]?=some (.cells cur t (0,0))) (arr:Array Value) (hsz:arr.size=cur.size) (hRv:∀j,j < cur.size->R g j) (hpos:0 < cur.size) (bs:List Nat) (hb:g∉bs):bm w R (w.setRow g arr) R bs:=
 ji hg arr hsz (fun _ _ h=>h) (fun _ _ _ h=>h) (fun off hno=>by
  rw[Array.getElem?_eq_none (by
   rcases Nat.lt_or_ge off cur.size with h'|h'
   ·exact (hno (hRv off h')).elim
   ·omega),Array.getElem?_eq_none (by
   rcases Nat.lt_or_ge off cur.size with h'|h'
   ·exact (hno (hRv off h')).elim
   omega)]) ⟨0,hRv 0 hpos⟩ bs hb
theorem uS {w w':World} {R R':Own} {bs:List Nat} (k:bm w.drew R w' R' bs):bm w R w' R' bs:=
 ⟨⟨k.step.os,k.step.tape,k.step.output,k.step.size,k.step.block,k.step.cell,k.step.sizes⟩,k.same⟩
theorem Im {w:World} {R:Own} (q:Nat) (bs:List Nat):bm w R (w.drewN q) R bs:=
 ⟨⟨rfl,rfl,rfl,Nat.le_refl _,fun b _ h=>⟨rfl,h⟩,fun b off _ h=>⟨h,rfl⟩,fun b _=>rfl⟩,fun b _ _=>⟨rfl,fun _ h=>h⟩⟩
theorem QY (L:Lays2.n25 P ρ) {l:List Int} {x:Int} (hs:l.Pairwise (·<=·)) (hn:l.length < 1000000000) :
  aD P G (ρ.f 25) [.win (.out 0) 1 0 l.length,iv x] [(.out 0,.cells (bB l))] 1 (XQ ⟨.tup [iv (Int.ofNat (l.countP (· < x))),bv (l.contains x)],[(.out 0,.cells (bB l))],1⟩):=by
 intro w R N cargs bsA bsH bsF hargs hheap hnd hnx hglob hF;obtain⟨v0,r1,c0,d1,rfl,rfl,h0,hr1⟩:=aw hargs;obtain⟨v1,r2,c1,d2,rfl,rfl,h1,hr2⟩:=aw hr1;obtain⟨rfl,rfl⟩:=aQ hr2;have hheap0:=hheap;obtain⟨b,b1,b2,rfl,hb,hobj,hrest⟩:=hheap;have hrest:b2=[]:=hrest;subst hrest;obtain⟨vs,elem,sp,hblk,hrv,hRv,_⟩:=hobj;simp only[ai] at h0 h1;obtain⟨rfl,b',cap,hb',rfl,hcap,_,hblt,hrow⟩:=h0
 have:b'=b:=by rw[hb] at hb';simpa using hb'.symm
 subst this;obtain⟨rfl,h1⟩:=h1;have h1:eF w R v1 (.flat (.int .i64 x)):=h1;have e1:v1=.int .i64 x:=by cases h1 with|flat _=>rfl
 have hfx:bH (.int .i64 x)=true:=by cases h1 with|flat h=>exact h
 subst e1;obtain⟨us1,us2,q1,q2,hus,rfl,hr1,_⟩:=eM hrv;obtain⟨rfl,rfl,hfl⟩:=nD hr1;have hcell:∀j,j < l.length->w.cell? ⟨b',0+j,none⟩=some (.int .i64 (l.getD j 0)):=by
  intro j hj;refine kV hblk ?_;rw[hus,Nat.zero_add,List.getElem?_append_left (by simp[ints];exact hj)];simp[ints,hj]
 refine (Any.slices_BinarySearch_int L b' 0 l.length cap l x w (Nat.le_refl _) (by omega) hcell (by rw[List.take_length];exact hs)).mono ?_;rintro e w' ⟨rfl,q,rfl⟩;rw[List.take_length];have hk:∀bs,bm w R (w.drewN q) R bs:=Im q;refine⟨_,_,_,1,R,N,[],_,rfl,⟨rfl,rfl,rfl⟩,?_,hheap0.keep (hk _),by simpa using hnd,hnx,hk _,fun _ _ h=>h⟩;have hi:∀n:Nat,n < 9223372036854775808->bH (.int .i64 (Int.ofNat n))=true:=by
  intro n hn;simp[bH,IntKind.min,IntKind.max,IntKind.signed,IntKind.bits];omega
 have hcnt:l.countP (· < x)<=l.length:=List.countP_le_length;simp only[ai];refine⟨[.int .i64 (Int.ofNat (l.countP (· < x))),.bool (l.contains x)],rfl,?_⟩;refine aF (b1:=[]) (b2:=[]) ?_ (aF (b1:=[]) (b2:=[]) ?_ aR)
 ·simp only[ai];exact⟨trivial,.flat (hi _ (by omega))⟩
 simp only[ai];exact⟨trivial,.flat rfl⟩
def eY (l:List Int) (i:Nat) (x:Int):List Int:=l.take i++x::l.drop i
theorem th {l:List Int} {i:Nat} {x:Int} (h:i<=l.length):(eY l i x).length=l.length+1:=by simp[eY];omega
theorem nG {l:List Int} {i:Nat} {x:Int}:ints (eY l i x)=(ints l).take i++.int .i64 x::(ints l).drop i:=by simp[eY,ints,List.map_take,List.map_drop]
theorem Iw {l:List Int} {i:Nat} {x:Int} (h:∀y∈l,bH (.int .i64 y)=true) (hx:bH (.int .i64 x)=true):∀y∈eY l i x,bH (.int .i64 y)=true:=by
 intro y hy;simp only[eY,List.mem_append,List.mem_cons] at hy
 rcases hy with hy|rfl|hy
 ·exact h y (List.mem_of_mem_take hy)
 ·exact hx
 exact h y (List.mem_of_mem_drop hy)
theorem Kq (l:List Int):cy (bB l)=false:=by
 rcases l with _|⟨a,_|⟨b,_|⟨c,r⟩⟩⟩ <;> rfl
theorem mA {w:World} {R:Own} {N:Name->Option Nat}:∀{n:Nat} {us:List Value} {bs:List Nat},ah w R N (List.replicate n .undef) us bs->bs=[]/\us.length=n
 | 0,us,bs,h=>by obtain⟨rfl,rfl⟩:=aQ h;exact⟨rfl,rfl⟩
 | n+1,us,bs,h=>by
  have h:ah w R N (.undef::List.replicate n .undef) us bs:=h;obtain⟨v,vs',b1,b2,rfl,rfl,h1,h2⟩:=aw h;obtain⟨rfl,h3⟩:=mA h2;simp only[ai] at h1;subst h1;exact⟨rfl,by simp[h3]⟩
theorem xt {w w':World} {R R':Own} {N:Name->Option Nat} {vb g cap:Nat} {elem:TypeId} {arr rest:List Value} {l2:List Int} {x:Int} {bsF:List Nat}
  (hnx:∀o b,N (.out o)=some b->o < 2) (hk:∀bs,g∉bs->bm w R w' R' bs) (hgF:g∉bsF) (hgv:g≠vb) (hnd:(vb::bsF).Nodup)
  (hg:w'.heap[g]?=some (.cells arr.toArray elem (0,0))) (harr:arr=ints l2++rest) (hfl:∀y∈l2,bH (.int .i64 y)=true) (hR':∀j,j < arr.length->R' g j) (hcap:arr.length=cap) (hcm:cap<=iS) (hl2:l2.length<=cap)
  (hv:aj w R (outs N) [(.out 1,.cells [iv x])] [vb]) (cv:Value) (hcv:cv=.slice (some ⟨g,0,none⟩) l2.length cap) :
  ∃v cv' heap' next' R2 N' bsV bsH',Ending.returned cv=.returned cv'/\XQ ⟨.win (.out 2) 1 0 l2.length,[(.out 2,.cells (bB l2)),(.out 1,.cells [iv x])],3⟩ v heap' next'/\ai w' R2 (outs N') v cv' bsV/\aj w' R2 (outs N') heap' bsH' ∧
   (bsV++(bsH'++bsF)).Nodup/\(∀o b,N' (.out o)=some b->o < next')/\bm w R w' R2 bsF/\(∀o b,N (.out o)=some b->N' (.out o)=some b):=by
 have hext:=EC (N:=N) (b:=g) hnx;have hlt:g < w'.heap.size:=bL hg;refine⟨_,cv,_,3,R',bV N (.out 2) g,[],[g,vb],rfl,⟨rfl,rfl,rfl⟩,?_,?_,?_,?_,hk bsF hgF,fun o b h=>hext _ _ h⟩
 ·simp only[ai];refine⟨trivial,g,cap,by simp[outs,bV],hcv,hl2,⟨by decide,hcm⟩,hlt,?_⟩;rw[dq hg];simp[hcap]
 ·refine⟨g,[],[vb],rfl,by simp[outs,bV],?_,(hv.keep (hk _ (by simpa using hgv))).ext (E4 hext)⟩;refine⟨arr.toArray,elem,rest.length,hg,?_,fun j hj=>hR' j (by simpa using hj),fun h=>by rw[Kq] at h;simp at h⟩;have h1:ah w' R' (outs (bV N (.out 2) g)) (bB l2) (ints l2) []:=Dk hfl;have h2:=fx (w:=w') (R:=R') (N:=outs (bV N (.out 2) g)) rest;simpa [harr] using cB h1 h2
 ·simp only[List.nil_append,List.cons_append];refine List.nodup_cons.2 ⟨?_,hnd⟩;simp only[List.mem_cons,not_or];exact⟨hgv,hgF⟩
 intro o c ho
 by_cases hne:o=2
 ·omega
 have:N (.out o)=some c:=by simpa [bV,hne] using ho
 have:=hnx o c this
 omega
theorem Tj (B z1 z2:List Value) (x zz:Value) (i:Nat) (h:B.length=i):(B++zz::z1++z2).take i++[x]++(B++zz::z1++z2).drop (i+1)=B++x::(z1++z2):=by
 subst h;have e1:(B++zz::z1++z2).take B.length=B:=by simp
 have e2:(B++zz::z1++z2).drop (B.length+1)=z1++z2:=by
  rw[List.append_assoc,List.drop_length_add_append];rfl
 rw[e1,e2];simp
theorem LO (A:List Value) (u0 x:Value) (us3:List Value) (i:Nat) (h:i<=A.length) :
  ((A++u0::us3).take (i+1)++A.drop i++(A++u0::us3).drop (i+1+(A.drop i).length)).take i++[x]++((A++u0::us3).take (i+1)++A.drop i++(A++u0::us3).drop (i+1+(A.drop i).length)).drop (i+1)=A.take i++x::A.drop i++us3:=by
 obtain⟨A1,A2,rfl,h1⟩:∃A1 A2,A=A1++A2/\A1.length=i:=⟨A.take i,A.drop i,(List.take_append_drop i A).symm,by simp;omega⟩;subst h1;have e1:(A1++A2).drop A1.length=A2:=by simp
 have e2:(A1++A2).take A1.length=A1:=by simp
 rw[e1,e2];obtain⟨y,t,ht⟩:∃y t,A2++u0::us3=y::t:=by cases A2 with|nil=>exact⟨_,_,rfl⟩|cons a r=>exact⟨_,_,rfl⟩
 have e3:(A1++A2++u0::us3).take (A1.length+1)=A1++[y]:=by rw[List.append_assoc,ht];simp[List.take_append];exact List.take_of_length_le (by omega)
 have e4:(A1++A2++u0::us3).drop (A1.length+1+A2.length)=us3:=by
  have:A1.length+1+A2.length=(A1++A2).length+1:=by simp;omega
  rw[this,List.drop_length_add_append];rfl
 rw[e3,e4];simp[List.take_append,List.drop_append]
theorem Q1 (L:Lays2.n21 P ρ) {l:List Int} {x:Int} {i:Nat} (hi:i<=l.length) (hn:l.length < 1000000000) :
  aD P G (ρ.f 21) [.win (.out 0) 1 0 l.length,iv (Int.ofNat i),.win (.out 1) 1 0 1] [(.out 0,.cells (bB l)),(.out 1,.cells [iv x])] 2
   (XQ ⟨.win (.out 2) 1 0 (eY l i x).length,[(.out 2,.cells (bB (eY l i x))),(.out 1,.cells [iv x])],3⟩):=by
 intro w R N cargs bsA bsH bsF hargs hheap hnd hnx hglob hF;obtain⟨v0,r1,c0,d1,rfl,rfl,h0,hr1⟩:=aw hargs;obtain⟨v1,r2,c1,d2,rfl,rfl,h1,hr2⟩:=aw hr1;obtain⟨v2,r3,c2,d3,rfl,rfl,h2,hr3⟩:=aw hr2;obtain⟨rfl,rfl⟩:=aQ hr3;obtain⟨b,b1,b2,rfl,hb,hobj,hrest⟩:=hheap;have hrest0:=hrest;obtain⟨vb,b3,b4,rfl,hvb,hobjv,hrest⟩:=hrest;have hrest:b4=[]:=hrest;subst hrest;obtain⟨vs,elem,sp,hblk,hrv,hRv,_⟩:=hobj;obtain⟨vs2,elem2,sp2,hblk2,hrv2,hRv2,_⟩:=hobjv;simp only[ai] at h0 h1 h2;obtain⟨rfl,b',cap,hb',rfl,hcap,⟨_,hcm⟩,hblt,hrow⟩:=h0
 have:b'=b:=by rw[hb] at hb';simpa using hb'.symm
 subst this;obtain⟨rfl,vb',vc,hvb',rfl,hvc,_,hvlt,hvrow⟩:=h2
 have:vb'=vb:=by rw[hvb] at hvb';simpa using hvb'.symm
 subst this;obtain⟨rfl,h1⟩:=h1;have h1:eF w R v1 (.flat (.int .i64 (Int.ofNat i))):=h1;have e1:v1=.int .i64 (Int.ofNat i):=by cases h1 with|flat _=>rfl
 subst e1;obtain⟨us1,us2,q1,q2,hus,rfl,hr1,hq2⟩:=eM hrv;obtain⟨rfl,rfl,hfl⟩:=nD hr1;obtain⟨ws1,ws2,q3,q4,hws,rfl,hr2,hq4⟩:=eM hrv2;obtain⟨rfl,rfl,hfx⟩:=nD (l:=[x]) hr2;have hfx:=hfx x (by simp);obtain⟨rfl,_⟩:=mA hq2;obtain⟨rfl,_⟩:=mA hq4;simp only[List.nil_append,List.append_nil,List.cons_append] at hnd;have hvb0:b'≠vb':=by
  have:=(List.nodup_cons.1 hnd).1
  simp only[List.mem_cons,not_or] at this;exact this.1
 have hbF:b'∉bsF:=by
  have:=(List.nodup_cons.1 hnd).1
  simp only[List.mem_cons,not_or] at this;exact this.2
 have hnd2:(vb'::bsF).Nodup:=(List.nodup_cons.1 hnd).2;have hsz:vs.size=cap:=by rw[dq hblk] at hrow;omega
 have hlen:(ints l).length=l.length:=by simp[ints]
 have hl2:(eY l i x).length=l.length+1:=th hi;have hfl2:=Iw (i:=i) hfl hfx;have hvs:∀j v,[Value.int .i64 x][j]?=some v->w.cell? ⟨vb',0+j,none⟩=some v:=by
  intro j v hj;refine kV hblk2 ?_;rw[hws]
  cases j with
  | zero=>simpa [ints] using hj
  | succ j=>simp at hj
 have hcs:∀j v,(ints l)[j]?=some v->w.cell? ⟨b',0+j,none⟩=some v:=by
  intro j v hj;refine kV hblk ?_
  have:j < (ints l).length:=(List.getElem?_eq_some_iff.1 hj).1
  rw[hus,Nat.zero_add,List.getElem?_append_left this];exact hj
 have h1v:∀v∈[Value.int .i64 x],v.oneCell'=true:=by intro v hv;simp at hv;subst hv;rfl
 have hsome:∀j,j < cap->(w.cell? ⟨b',0+j,none⟩).isSome=true:=by
  intro j hj;have hj2:j < vs.toList.length:=by simp;omega
  rw[kV hblk (v:=vs.toList[j]) (by rw[Nat.zero_add];exact List.getElem?_eq_getElem hj2)];rfl
 have hfroz:∀j,w.frozen? ⟨b',j,none⟩=false:=by intro j;simp[World.frozen?,hblk]
 have hus2:us2.length=cap - l.length:=by
  have:=congrArg List.length hus
  simp[hlen] at this;omega
 by_cases hroom:l.length+1<=cap
 ·
  obtain⟨u0,us3,rfl⟩:∃u0 us3,us2=u0::us3:=by
   cases us2 with
   | nil=>simp at hus2;omega
   | cons a r=>exact⟨a,r,rfl⟩
  rcases Nat.lt_or_ge i l.length with hlt|hge
  ·refine (Any2.slices_Insert_int_shift L b' 0 l.length cap i vb' 0 1 vc (ints l) [.int .i64 x] w hlt (by decide) hroom ?_ (Ne.symm hvb0) hlen rfl hcs (fun j hj=>hsome j (by omega)) (fun j _=>hfroz _) hvs tg h1v elem2 elem vs2.size vs.size ?_ ?_ ?_ ?_ ?_).mono ?_
   ·exact hcm
   ·simp[World.shape?,hblk2]
   ·simp[World.shape?,hblk]
   ·omega
   ·simp[World.frozen?,hblk2]
   ·simp[World.frozen?,hblk2]
   rintro e w' ⟨rfl,rfl⟩;have hg1:(w.drew).heap[b']?=some (.cells vs elem (0,0)):=hblk;have hd:((ints l).drop i).length=l.length - i:=by simp[hlen]
   rw[gZ (w:=w.drew) b' (0+(i+1)) elem ((ints l).drop i) vs hg1 (by rw[hd];omega) (fun u hu=>tg u (List.mem_of_mem_drop hu))];obtain⟨ar1,har1⟩:∃ar1,ar1=vs.toList.take (0+(i+1))++(ints l).drop i++vs.toList.drop (0+(i+1)+((ints l).drop i).length):=⟨_,rfl⟩;rw[←har1];have hl1:ar1.length=cap:=by
    rw[har1];simp[hlen];omega
   have hg2:=setRow_heap w.drew b' vs ar1.toArray elem (0,0) hg1;rw[gZ (w:=w.drew.setRow b' ar1.toArray) b' (0+i) elem [.int .i64 x] ar1.toArray hg2 (by simp[hl1];omega) h1v];obtain⟨ar2,har2⟩:∃ar2,ar2=ar1.toArray.toList.take (0+i)++[.int .i64 x]++ar1.toArray.toList.drop (0+i+[Value.int .i64 x].length):=⟨_,rfl⟩;rw[←har2];have hl3:ar2.length=cap:=by
    rw[har2];simp[hl1];omega
   have hg3:=setRow_heap (w.drew.setRow b' ar1.toArray) b' ar1.toArray ar2.toArray elem (0,0) hg2;refine xt (g:=b') (vb:=vb') (cap:=cap) (arr:=ar2) (rest:=us3) (R':=R) hnx (fun bs hb=>?_) hbF hvb0 hnd2 hg3 ?_ hfl2 (fun j hj=>hRv j (by omega)) hl3 hcm (by rw[hl2];exact hroom) hrest0 _ (by rw[hl2])
   ·refine uS (bm.trans (pq hg1 ar1.toArray (by simp[hl1,hsz]) hRv (by omega) bs hb) (pq hg2 ar2.toArray (by simp[hl1,hl3]) (fun j hj=>hRv j (by simp[hl1] at hj;omega)) (by simp[hl1];omega) bs hb))
   -- the cells
   have hv:vs.toList=ints l++(u0::us3):=hus;rw[har2,har1,hv,nG];simp only[Nat.zero_add,List.toList_toArray,List.length_singleton];exact LO (ints l) u0 (.int .i64 x) us3 i (by rw[hlen];omega)
  have hil:i=l.length:=by omega
  subst hil;refine (Any2.slices_Insert_int_end_room L b' 0 l.length cap vb' 0 1 vc [.int .i64 x] w (by decide) hroom hcm rfl (fun j hj=>?_) (fun j _=>hfroz _) hvs h1v).mono ?_
  ·rw[Nat.add_assoc];exact hsome _ (by omega)
  rintro e w' ⟨rfl,rfl⟩;rw[gZ (w:=w) b' (0+l.length) elem [.int .i64 x] vs hblk (by simp;omega) h1v];obtain⟨ar2,har2⟩:∃ar2,ar2=vs.toList.take (0+l.length)++[.int .i64 x]++vs.toList.drop (0+l.length+[Value.int .i64 x].length):=⟨_,rfl⟩;rw[←har2];have hl3:ar2.length=cap:=by
   rw[har2];simp;omega
  have hg3:=setRow_heap w b' vs ar2.toArray elem (0,0) hblk;refine xt (g:=b') (vb:=vb') (cap:=cap) (arr:=ar2) (rest:=us3) (R':=R) hnx (fun bs hb=>pq hblk ar2.toArray (by simp[hl3,hsz]) hRv (by omega) bs hb) hbF hvb0 hnd2 hg3 ?_ hfl2 (fun j hj=>hRv j (by omega)) hl3 hcm (by rw[hl2];exact hroom) hrest0 _ (by rw[hl2]);have hv:vs.toList=ints l++(u0::us3):=hus;rw[har2,hv,nG,Nat.zero_add,←hlen,List.take_left,List.take_length,List.drop_length,List.length_singleton,List.drop_length_add_append];simp
 -- a new row
 have hcl:cap=l.length:=by omega
 subst hcl;have hge:=grownCap_ge w (l.length+1) l.length (ρ.t 3);have hgm:grownCap w (l.length+1) l.length (ρ.t 3)<=iS:=Nat.le_trans (grownCap_le_maxLen w (l.length+1) l.length (ρ.t 3) (by unfold maxLen;omega)) (by decide);generalize hgc:grownCap w (l.length+1) l.length (ρ.t 3)=gc at hge hgm;have hltb:b' < w.heap.size:=bL hblk;have hltv:vb' < w.heap.size:=bL hblk2;have hzs:∀n,(Builtin.zeroCells (Value.int .i64 0).cells n).toList.length=n:=fun n=>by simp[Builtin.zeroCells,Value.cells]
 have hF2:w.heap.size∉bsF:=fun h=>by have:=hF _ h;omega
 have hRm:∀j,R.more w.heap.size w.heap.size j:=fun j=>.inl rfl
 rcases Nat.lt_or_ge i l.length with hlt|hge2
 ·refine (Any2.slices_Insert_int_grow L b' 0 l.length l.length i vb' 0 1 vc (ints l) [.int .i64 x] w hlt (by decide) (Nat.le_refl _) (by omega) (by omega) hlen rfl hcs hvs tg h1v).mono ?_;rw[hgc];rintro e w' ⟨rfl,rfl⟩;obtain⟨z1,hz1⟩:∃z1,z1=(Builtin.zeroCells (Value.int .i64 0).cells (l.length+1 - i)).toList:=⟨_,rfl⟩;obtain⟨z2,hz2⟩:∃z2,z2=(Builtin.zeroCells (Value.int .i64 0).cells (gc - (l.length+1))).toList:=⟨_,rfl⟩;have hl1:z1.length=l.length+1 - i:=by rw[hz1,hzs]
  have hl2':z2.length=gc - (l.length+1):=by rw[hz2,hzs]
  obtain⟨ar0,har0⟩:∃ar0,ar0=(ints l).take i++z1++z2:=⟨_,rfl⟩;have hc0:(((ints l).take i).toArray++Builtin.zeroCells (Value.int .i64 0).cells (l.length+1 - i)++Builtin.zeroCells (Value.int .i64 0).cells (gc - (l.length+1)))=ar0.toArray:=by rw[har0,hz1,hz2];simp
  rw[hc0];have hl0:ar0.length=gc:=by rw[har0];simp[hl1,hl2',hlen];omega
  have hg0:((w.alloc (.cells ar0.toArray (ρ.t 3))).drew).heap[w.heap.size]?=some (.cells ar0.toArray (ρ.t 3) (0,0)):=heap_alloc_new w _;rw[gZ (w:=(w.alloc (.cells ar0.toArray (ρ.t 3))).drew) w.heap.size i (ρ.t 3) [.int .i64 x] ar0.toArray hg0 (by simp[hl0];omega) h1v];obtain⟨ar1,har1⟩:∃ar1,ar1=ar0.toArray.toList.take i++[.int .i64 x]++ar0.toArray.toList.drop (i+[Value.int .i64 x].length):=⟨_,rfl⟩;rw[←har1];have hl3:ar1.length=gc:=by rw[har1];simp[hl0];omega
  have hg1:=setRow_heap (w.alloc (.cells ar0.toArray (ρ.t 3))).drew w.heap.size ar0.toArray ar1.toArray (ρ.t 3) (0,0) hg0;have hg1':(((w.alloc (.cells ar0.toArray (ρ.t 3))).drew.setRow w.heap.size ar1.toArray).drew).heap[w.heap.size]?=some (.cells ar1.toArray (ρ.t 3) (0,0)):=hg1;have hd:((ints l).drop i).length=l.length - i:=by simp[hlen]
  rw[gZ (w:=((w.alloc (.cells ar0.toArray (ρ.t 3))).drew.setRow w.heap.size ar1.toArray).drew) w.heap.size (i+1) (ρ.t 3) ((ints l).drop i) ar1.toArray hg1' (by rw[hd];simp[hl3];omega) (fun u hu=>tg u (List.mem_of_mem_drop hu))];obtain⟨ar2,har2⟩:∃ar2,ar2=ar1.toArray.toList.take (i+1)++(ints l).drop i++ar1.toArray.toList.drop (i+1+((ints l).drop i).length):=⟨_,rfl⟩;rw[←har2];have hl4:ar2.length=gc:=by rw[har2];simp[hl3,hlen];omega
  have hg2:=setRow_heap ((w.alloc (.cells ar0.toArray (ρ.t 3))).drew.setRow w.heap.size ar1.toArray).drew w.heap.size ar1.toArray ar2.toArray (ρ.t 3) (0,0) hg1';refine xt (g:=w.heap.size) (vb:=vb') (cap:=gc) (arr:=ar2) (rest:=z2) (R':=R.more w.heap.size) hnx (fun bs hb=>?_) hF2 (by omega) hnd2 hg2 ?_ hfl2 (fun j _=>hRm j) hl4 hgm (by rw[hl2];exact hge) hrest0 _ (by rw[hl2])
  ·have k1:bm w R (w.alloc (.cells ar0.toArray (ρ.t 3))) (R.more w.heap.size) bs:=gg _ (fun b off hb=>Own.pg hb) bs;have k2:=pq (R:=R.more w.heap.size) hg0 ar1.toArray (by simp[hl0,hl3]) (fun j _=>hRm j) (by simp[hl0];omega) bs hb;have k3:=pq (R:=R.more w.heap.size) hg1' ar2.toArray (by simp[hl4,hl3]) (fun j _=>hRm j) (by simp[hl3];omega) bs hb;exact k1.trans (uS (k2.trans (uS k3)))
  have e0:((ints l).take i).length=i:=by simp[hlen];omega
  obtain⟨zz,z1',hz⟩:∃zz z1',z1=zz::z1':=by
   cases z1 with
   | nil=>simp at hl1;omega
   | cons a r=>exact⟨a,r,rfl⟩
  have hl5:z1'.length=l.length - i:=by rw[hz] at hl1;simp at hl1;omega
  have e1:ar1=(ints l).take i++.int .i64 x::(z1'++z2):=by
   rw[har1,har0,hz];simp only[List.toList_toArray,List.length_singleton];exact Tj _ z1' z2 (.int .i64 x) zz i e0
  rw[har2,e1,nG];simp only[List.toList_toArray];have e2:((ints l).take i++.int .i64 x::(z1'++z2)).take (i+1)=(ints l).take i++[.int .i64 x]:=by
   rw[List.take_append,e0];simp[List.take_take]
  have e3:((ints l).take i++.int .i64 x::(z1'++z2)).drop (i+1+((ints l).drop i).length)=z2:=by
   have:i+1+((ints l).drop i).length=((ints l).take i).length+(1+z1'.length):=by rw[e0,hd,hl5];omega
   rw[this,List.drop_length_add_append,Nat.add_comm 1,List.drop_succ_cons,List.drop_left]
  rw[e2,e3];simp
 have hil:i=l.length:=by omega
 subst hil;refine (Any2.slices_Insert_int_end_grow L (some ⟨b',0,none⟩) l.length l.length vb' 0 1 vc (ints l) [.int .i64 x] w (by decide) (Nat.le_refl _) (by omega) (by omega) hlen rfl (by simp) (fun a ha j v hj=>?_) hvs h1v).mono ?_
 ·simp only[Option.some.injEq] at ha;subst ha;rw[add_plain];exact hcs j v hj
 rw[hgc];rintro e w' ⟨rfl,rfl⟩;obtain⟨ar2,har2⟩:∃ar2,ar2=(ints l++[.int .i64 x])++(Builtin.zeroCells (Value.int .i64 0).cells (gc - (l.length+1))).toList:=⟨_,rfl⟩;have hcells:((ints l++[Value.int .i64 x]).toArray++Builtin.zeroCells (Value.int .i64 0).cells (gc - (l.length+1)))=ar2.toArray:=by rw[har2];simp
 rw[hcells];have hl3:ar2.length=gc:=by rw[har2,List.length_append,hzs];simp[hlen];omega
 have hg3:(w.drew.alloc (.cells ar2.toArray (ρ.t 3))).heap[w.heap.size]?=some (.cells ar2.toArray (ρ.t 3) (0,0)):=heap_alloc_new w.drew _;refine xt (g:=w.heap.size) (vb:=vb') (cap:=gc) (arr:=ar2) (rest:=(Builtin.zeroCells (Value.int .i64 0).cells (gc - (l.length+1))).toList) (R':=R.more w.heap.size) hnx (fun bs hb=>gG _ (fun b off hb=>Own.pg hb) bs) hF2 (by omega) hnd2 hg3 ?_ hfl2 (fun j _=>hRm j) hl3 hgm (by rw[hl2];exact hge) hrest0 _ (by rw[hl2]);rw[har2,nG,←hlen,List.take_length,List.drop_length]
theorem DP (L:Lays2.n21 P ρ) {x:Int} :
  aD P G (ρ.f 21) [.dat (.flat (.slice none 0 0)),iv (Int.ofNat 0),.win (.out 0) 1 0 1] [(.out 0,.cells [iv x])] 1
   (XQ ⟨.win (.out 1) 1 0 1,[(.out 1,.cells [iv x]),(.out 0,.cells [iv x])],2⟩):=by
 intro w R N cargs bsA bsH bsF hargs hheap hnd hnx hglob hF;obtain⟨v0,r1,c0,d1,rfl,rfl,h0,hr1⟩:=aw hargs;obtain⟨v1,r2,c1,d2,rfl,rfl,h1,hr2⟩:=aw hr1;obtain⟨v2,r3,c2,d3,rfl,rfl,h2,hr3⟩:=aw hr2;obtain⟨rfl,rfl⟩:=aQ hr3;have hheap0:=hheap;obtain⟨vb,b3,b4,rfl,hvb,hobjv,hrest⟩:=hheap;have hrest:b4=[]:=hrest;subst hrest;obtain⟨vs2,elem2,sp2,hblk2,hrv2,hRv2,_⟩:=hobjv;simp only[ai] at h0 h1 h2;obtain⟨rfl,h0⟩:=h0;have hv:v0=.slice none 0 0:=by
  have h0:eF w R v0 (.flat (.slice none 0 0)):=h0
  cases h0 with|flat _=>rfl
 subst hv;obtain⟨rfl,vb',vc,hvb',rfl,hvc,_,hvlt,hvrow⟩:=h2
 have:vb'=vb:=by rw[hvb] at hvb';simpa using hvb'.symm
 subst this;obtain⟨rfl,h1⟩:=h1;have h1:eF w R v1 (.flat (.int .i64 (Int.ofNat 0))):=h1;have e1:v1=.int .i64 (Int.ofNat 0):=by cases h1 with|flat _=>rfl
 subst e1;obtain⟨ws1,ws2,q3,q4,hws,rfl,hr2,hq4⟩:=eM hrv2;obtain⟨rfl,rfl,hfx⟩:=nD (l:=[x]) hr2;obtain⟨rfl,_⟩:=mA hq4;simp only[List.nil_append,List.append_nil] at hnd;have hvs:∀j v,[Value.int .i64 x][j]?=some v->w.cell? ⟨vb',0+j,none⟩=some v:=by
  intro j v hj;refine kV hblk2 ?_;rw[hws]
  cases j with
  | zero=>simpa [ints] using hj
  | succ j=>simp at hj
 have h1v:∀v∈[Value.int .i64 x],v.oneCell'=true:=by intro v hv;simp at hv;subst hv;rfl
 have hltv:vb' < w.heap.size:=bL hblk2;have hF2:w.heap.size∉bsF:=fun h=>by have:=hF _ h;omega
 refine (Any2.slices_Insert_int_end_grow L none 0 0 vb' 0 1 vc [] [.int .i64 x] w (by decide) (Nat.le_refl _) (by omega) (by omega) rfl rfl (by simp) (by simp) hvs h1v).mono ?_;have hge:=grownCap_ge w (0+1) 0 (ρ.t 3);have hgm:grownCap w (0+1) 0 (ρ.t 3)<=iS:=Nat.le_trans (grownCap_le_maxLen w (0+1) 0 (ρ.t 3) (by unfold maxLen;omega)) (by decide);generalize hgc:grownCap w (0+1) 0 (ρ.t 3)=gc at hge hgm;have hzs:∀n,(Builtin.zeroCells (Value.int .i64 0).cells n).toList.length=n:=fun n=>by simp[Builtin.zeroCells,Value.cells]
 rintro e w' ⟨rfl,rfl⟩;obtain⟨ar2,har2⟩:∃ar2,ar2=Value.int .i64 x::(Builtin.zeroCells (Value.int .i64 0).cells (gc - (0+1))).toList:=⟨_,rfl⟩;have hcells:(([]++[Value.int .i64 x]).toArray++Builtin.zeroCells (Value.int .i64 0).cells (gc - (0+1)))=ar2.toArray:=by
  apply Array.toList_inj.1
  rw[har2];simp
 rw[hcells];have hl3:ar2.length=gc:=by rw[har2,List.length_cons,hzs];omega
 have hg3:(w.drew.alloc (.cells ar2.toArray (ρ.t 3))).heap[w.heap.size]?=some (.cells ar2.toArray (ρ.t 3) (0,0)):=heap_alloc_new w.drew _;have hk:∀bs,bm w R (w.drew.alloc (.cells ar2.toArray (ρ.t 3))) (R.more w.heap.size) bs:=fun bs=>gG _ (fun b off hb=>Own.pg hb) bs
 have hext:=EC (N:=N) (b:=w.heap.size) hnx;refine⟨_,_,_,2,R.more w.heap.size,bV N (.out 1) w.heap.size,[],[w.heap.size,vb'],rfl,⟨rfl,rfl,rfl⟩,?_,?_,?_,?_,hk bsF,fun o b h=>hext _ _ h⟩
 ·simp only[ai];refine⟨trivial,w.heap.size,gc,by simp[outs,bV],rfl,hge,⟨by decide,hgm⟩,bL hg3,?_⟩;rw[dq hg3];simp[hl3]
 ·refine⟨w.heap.size,[],[vb'],rfl,by simp[outs,bV],?_,((by simpa using hheap0:aj w R (outs N) _ [vb']).keep (hk _)).ext (E4 hext)⟩;refine⟨ar2.toArray,ρ.t 3,(Builtin.zeroCells (Value.int .i64 0).cells (gc - (0+1))).toList.length,hg3,?_,fun j _=>.inl rfl,fun h=>by simp[cy] at h⟩;have h2:=fx (w:=w.drew.alloc (.cells ar2.toArray (ρ.t 3))) (R:=R.more w.heap.size) (N:=outs (bV N (.out 1) w.heap.size)) (Builtin.zeroCells (Value.int .i64 0).cells (gc - (0+1))).toList;have h3:ah (w.drew.alloc (.cells ar2.toArray (ρ.t 3))) (R.more w.heap.size) (outs (bV N (.out 1) w.heap.size)) (bB [x]) (ints [x]) []:=Dk hfx;have h4:=cB h3 h2;have e:ar2.toArray.toList=ints [x]++(Builtin.zeroCells (Value.int .i64 0).cells (gc - (0+1))).toList:=by rw[har2];rfl
  rw[e];exact h4
 ·simp only[List.nil_append,List.cons_append];refine List.nodup_cons.2 ⟨?_,hnd⟩;simp only[List.mem_cons,not_or];exact⟨by omega,hF2⟩
 intro o c ho
 by_cases hne:o=1
 ·omega
 have:N (.out o)=some c:=by simpa [bV,hne] using ho
 have:=hnx o c this
 omega
theorem aD.TB {g:FuncId} {args:List ac} {r m:Nat} {l:List Int} {rest:Heap} (h:aD P G g args [] 0 (XQ ⟨.win (.out r) 1 0 l.length,(.out r,.cells (bB l))::rest,m⟩)) (hn:l.length<=lim) :
  aD P G g args [] 0 (XQ ⟨.dat (.slice (l.map fun x=>.flat (.int .i64 x))),[],0⟩):=by
 intro w R N cargs bsA bsH bsF ha hh hnd hnx hg hF;refine (h w R N cargs bsA bsH bsF ha hh hnd hnx hg hF).mono ?_;rintro e w' ⟨v,cv,hp,m',R',N',bsV,bsH',rfl,⟨rfl,rfl,rfl⟩,hv,hh',hnd',hnx',hk,hN⟩;simp only[ai] at hv;obtain⟨rfl,b,cap,hb,rfl,hcap,_,hblt,hrow⟩:=hv;obtain⟨b',b1,b2,rfl,hb',hobj,hrest⟩:=hh'
 have:b'=b:=by rw[hb] at hb';simpa using hb'.symm
 subst this;obtain⟨vs,elem,sp,hblk,hrv,hRv,_⟩:=hobj;obtain⟨us1,us2,q1,q2,hus,rfl,hr1,_⟩:=eM hrv;obtain⟨rfl,rfl,hfl⟩:=nD hr1;have hbF:b'∉bsF:=by
  intro hm;have h1:(b'::((([]++q2)++b2)++bsF)).Nodup:=by simpa using hnd'
  exact (List.nodup_cons.1 h1).1 (List.mem_append_right _ hm)
 let R2:Own:=fun c off=>c≠b'/\R' c off
 have hk2:bm w' R' w' R2 bsF:=⟨⟨rfl,rfl,rfl,Nat.le_refl _,fun c _ hno=>⟨rfl,fun off h=>hno off h.2⟩,fun c off _ hno=>⟨fun h=>hno h.2,rfl⟩,fun _ _=>rfl⟩,fun c hc _=>⟨rfl,fun off h=>⟨fun e=>hbF (e ▸ hc),h⟩⟩⟩;refine⟨_,_,_,0,R2,fun m=>match m with|.loc i=>N' (.loc i)|.out _=>none,[],[],rfl,⟨rfl,rfl,rfl⟩,?_,rfl,?_,by intro o c ho;simp at ho,hk.trans hk2,?_⟩
 ·simp only[ai];refine⟨trivial,?_⟩;have hl:l.length=(l.map fun x=>al.flat (.int .i64 x)).length:=by simp
  rw[hl];refine eF.slice b' 0 cap 1 _ (fun i _=>.int .i64 (l.getD i 0)) (by decide) ?_ (by simpa using hcap) (by simpa using hn) ?_ ?_
  ·intro e he;obtain⟨x,_,rfl⟩:=List.mem_map.1 he;rfl
  ·intro i j hi hj
   have:j=0:=by omega
   subst this;simp only[List.length_map] at hi;refine⟨?_,fun h=>h.1 rfl⟩;refine kV hblk ?_;rw[hus,show 0+i*1+0=i by omega,List.getElem?_append_left (by simp[ints];exact hi)];simp[ints,hi]
  intro i j e c he hc;simp only[List.getElem?_map,Option.map_eq_some_iff] at he;obtain⟨x,hx,rfl⟩:=he;have hc2:c=.flat (.int .i64 x):=by
   have hc:[al.flat (.int .i64 x)][j]?=some c:=hc
   cases j with
   | zero=>simpa using hc.symm
   | succ j=>simp at hc
  subst hc2;obtain⟨hi,rfl⟩:=List.getElem?_eq_some_iff.1 hx
  have:l.getD i 0=l[i]:=by simp[hi]
  rw[this];exact .flat (hfl _ (List.getElem_mem hi))
 ·have h1:(b'::((([]++q2)++b2)++bsF)).Nodup:=by simpa using hnd'
  have h2:=(List.nodup_cons.1 h1).2;simpa using (List.nodup_append.1 h2).2.1
 intro o c ho
 have:=hnx o c ho
 omega
end
end Go.Tp
