/- Part 4 of what the last text proves. -/
import Derived.Test.YtmpmgmmcaghacaaGreatDoorProg
import Derived.KernelRfl
import Derived.Ground.NamesProg
import Derived.Shelf.Strings.OnBuilder
import Derived.Shelf.SlMaps.Clone
import Derived.Shelf.SlicesE.Clone
import Derived.Shelf.SlicesE.Delete
import Derived.Shelf.Strconv.Itoa4
import Derived.Lib.ItoaLen
import Derived.Lib.AppendIntMem
import Derived.Lib.LaidTab
import Derived.Ground.Names2Prog
import Derived.Shelf.Lays2
import Derived.Test.YtmpmgmmcaghacaaGreatDoorQ03
set_option linter.unusedVariables false
set_option linter.unusedSimpArgs false
open Int (ofNat)
set_option maxRecDepth 100000
set_option maxHeartbeats 4000000
namespace Go.Proofs.YtmpmgmmcaghacaaGreatDoor
open Go.Tp
noncomputable abbrev vP:=Tryz.f175.ntmps
noncomputable abbrev vO:=Tryz.f176.ntmps
noncomputable abbrev jg:=Tryz.f204.ntmps
noncomputable abbrev mF:=Tryz.f205.ntmps
noncomputable abbrev Aq:=Tryz.f143.ntmps
noncomputable abbrev Ao:=Tryz.f208.ntmps
noncomputable abbrev Ap:=Tryz.f163.ntmps
noncomputable abbrev gY:=Tryz.f119.ntmps
abbrev aaR:TI:=⟨.struct [(0,3),(1,3),(2,23),(3,24)],4,64,.agg #[.int .i64 0,.int .i64 0,.slice none 0 0,.slice none 0 0]⟩
abbrev aaQ:TI:=⟨.struct [(0,3),(1,9),(2,3),(3,38)],4,56,.agg #[.int .i64 0,.string ⟨#[]⟩,.int .i64 0,.slice none 0 0]⟩
abbrev aaP:TI:=⟨.struct [(0,3),(1,2),(2,9),(3,41)],4,56,.agg #[.int .i64 0,.int .i64 0,.string ⟨#[]⟩,.slice none 0 0]⟩
abbrev aaO:TI:=⟨.struct [(0,3),(1,3),(2,3),(3,3),(4,3),(5,9),(6,22),(7,40),(11,43)],15,192,.agg #[.int .i64 0,.int .i64 0,.int .i64 0,.int .i64 0,.int .i64 0,.string ⟨#[]⟩,.slice none 0 0,.int .i64 0,.string ⟨#[]⟩,.int .i64 0,.slice none 0 0,.int .i64 0,.int .i64 0,.string ⟨#[]⟩,.slice none 0 0]⟩
abbrev aaN:TI:=⟨.struct [(0,9),(1,3),(2,40),(6,4),(7,49)],8,112,.agg #[.string ⟨#[]⟩,.int .i64 0,.int .i64 0,.string ⟨#[]⟩,.int .i64 0,.slice none 0 0,.bool false,.slice none 0 0]⟩
abbrev aaM:TI:=⟨.struct [(0,3),(1,51),(9,9),(10,40),(14,3),(15,26),(19,9)],20,280,.agg #[.int .i64 0,.string ⟨#[]⟩,.int .i64 0,.int .i64 0,.string ⟨#[]⟩,.int .i64 0,.slice none 0 0,.bool false,.slice none 0 0,.string ⟨#[]⟩,.int .i64 0,.string ⟨#[]⟩,.int .i64 0,.slice none 0 0,.int .i64 0,.int .i64 0,.int .i64 0,.slice none 0 0,.slice none 0 0,.string ⟨#[]⟩]⟩
abbrev aaL:TI:=⟨.struct [(0,22),(1,3)],2,32,.agg #[.slice none 0 0,.int .i64 0]⟩
abbrev aaK:TI:=⟨.struct [(0,74),(1,75)],2,32,.agg #[.pointer none,.slice none 0 0]⟩
abbrev Vn:TI:=⟨.struct [(0,9),(1,4),(2,4),(3,4),(4,4),(5,4),(6,4),(7,4),(8,4),(9,4),(10,4),(11,4)],12,32,.agg #[.string ⟨#[]⟩,.bool false,.bool false,.bool false,.bool false,.bool false,.bool false,.bool false,.bool false,.bool false,.bool false,.bool false]⟩
abbrev Vm:TI:=⟨.struct [(0,4),(1,4),(2,4),(3,4),(4,4),(5,4),(6,4),(7,4)],8,8,.agg #[.bool false,.bool false,.bool false,.bool false,.bool false,.bool false,.bool false,.bool false]⟩
abbrev ak5:TI:=⟨.array 8 9,8,128,.agg #[.string ⟨#[]⟩,.string ⟨#[]⟩,.string ⟨#[]⟩,.string ⟨#[]⟩,.string ⟨#[]⟩,.string ⟨#[]⟩,.string ⟨#[]⟩,.string ⟨#[]⟩]⟩
abbrev Vl:TI:=⟨.array 23 101,276,736,.agg (List.replicate 23 ([.string ⟨#[]⟩]++List.replicate 11 (.bool false))).flatten.toArray⟩
abbrev Vk:TI:=⟨.struct [(0,9),(1,40)],5,72,.agg #[.string ⟨#[]⟩,.int .i64 0,.string ⟨#[]⟩,.int .i64 0,.slice none 0 0]⟩
abbrev Vj:TI:=⟨.struct [(0,3),(1,3)],2,16,.agg #[.int .i64 0,.int .i64 0]⟩
abbrev ak4:TI:=⟨.struct [(0,3),(1,9),(2,157),(3,3)],4,56,.agg #[.int .i64 0,.string ⟨#[]⟩,.slice none 0 0,.int .i64 0]⟩
abbrev Vi:TI:=⟨.array 24 5,24,24,.agg (List.replicate 24 (.int .u8 0)).toArray⟩
theorem aew:TI.ok Tryz.prog 2 ⟨.int .i64,1,8,.int .i64 0⟩:=⟨⟨Tryz.t2,by kernel_rfl,rfl,rfl,rfl,rfl⟩,Tryz.underlying2⟩
theorem aev:TI.ok Tryz.prog 3 ⟨.int .i64,1,8,.int .i64 0⟩:=⟨⟨Tryz.t3,by kernel_rfl,rfl,rfl,rfl,rfl⟩,Tryz.underlying3⟩
theorem aeu:TI.ok Tryz.prog 4 ⟨.bool,1,1,.bool false⟩:=⟨⟨Tryz.t4,by kernel_rfl,rfl,rfl,rfl,rfl⟩,Tryz.underlying4⟩
theorem aet:TI.ok Tryz.prog 5 ⟨.int .u8,1,1,.int .u8 0⟩:=⟨⟨Tryz.t5,by kernel_rfl,rfl,rfl,rfl,rfl⟩,Tryz.underlying5⟩
theorem aes:TI.ok Tryz.prog 9 ⟨.string,1,16,.string ⟨#[]⟩⟩:=⟨⟨Tryz.t9,by kernel_rfl,rfl,rfl,rfl,rfl⟩,Tryz.underlying9⟩
theorem aaH:TI.ok Tryz.prog 22 ⟨.slice 3,1,24,.slice none 0 0⟩:=⟨⟨Tryz.t22,by kernel_rfl,rfl,rfl,rfl,rfl⟩,Tryz.underlying22⟩
theorem aaG:TI.ok Tryz.prog 23 ⟨.slice 45,1,24,.slice none 0 0⟩:=⟨⟨Tryz.t23,by kernel_rfl,rfl,rfl,rfl,rfl⟩,Tryz.underlying23⟩
theorem aaF:TI.ok Tryz.prog 24 ⟨.slice 54,1,24,.slice none 0 0⟩:=⟨⟨Tryz.t24,by kernel_rfl,rfl,rfl,rfl,rfl⟩,Tryz.underlying24⟩
theorem aaE:TI.ok Tryz.prog 26 aaR:=⟨⟨Tryz.t26,by kernel_rfl,rfl,rfl,rfl,rfl⟩,⟨_,Tryz.underlying26,rfl,[(0,1),(1,1),(2,1),(3,1)],by kernel_rfl⟩⟩
theorem aaD:TI.ok Tryz.prog 28 ⟨.pointer,1,8,.pointer none⟩:=⟨⟨Tryz.t28,by kernel_rfl,rfl,rfl,rfl,rfl⟩,⟨_,Tryz.underlying28⟩⟩
theorem aaC:TI.ok Tryz.prog 32 ⟨.int .i64,1,8,.int .i64 0⟩:=⟨⟨Tryz.t32,by kernel_rfl,rfl,rfl,rfl,rfl⟩,Tryz.underlying32⟩
theorem aaB:TI.ok Tryz.prog 35 ⟨.slice 4,1,24,.slice none 0 0⟩:=⟨⟨Tryz.t35,by kernel_rfl,rfl,rfl,rfl,rfl⟩,Tryz.underlying35⟩
theorem aaA:TI.ok Tryz.prog 38 ⟨.slice 40,1,24,.slice none 0 0⟩:=⟨⟨Tryz.t38,by kernel_rfl,rfl,rfl,rfl,rfl⟩,Tryz.underlying38⟩
theorem aaz:TI.ok Tryz.prog 40 aaQ:=⟨⟨Tryz.t40,by kernel_rfl,rfl,rfl,rfl,rfl⟩,⟨_,Tryz.underlying40,rfl,[(0,1),(1,1),(2,1),(3,1)],by kernel_rfl⟩⟩
theorem aay:TI.ok Tryz.prog 41 ⟨.slice 43,1,24,.slice none 0 0⟩:=⟨⟨Tryz.t41,by kernel_rfl,rfl,rfl,rfl,rfl⟩,Tryz.underlying41⟩
theorem aax:TI.ok Tryz.prog 43 aaP:=⟨⟨Tryz.t43,by kernel_rfl,rfl,rfl,rfl,rfl⟩,⟨_,Tryz.underlying43,rfl,[(0,1),(1,1),(2,1),(3,1)],by kernel_rfl⟩⟩
theorem aaw:TI.ok Tryz.prog 45 aaO:=⟨⟨Tryz.t45,by kernel_rfl,rfl,rfl,rfl,rfl⟩,⟨_,Tryz.underlying45,rfl,[(0,1),(1,1),(2,1),(3,1),(4,1),(5,1),(6,1),(7,4),(11,4)],by kernel_rfl⟩⟩
theorem aav:TI.ok Tryz.prog 49 ⟨.slice 139,1,24,.slice none 0 0⟩:=⟨⟨Tryz.t49,by kernel_rfl,rfl,rfl,rfl,rfl⟩,Tryz.underlying49⟩
theorem aau:TI.ok Tryz.prog 51 aaN:=⟨⟨Tryz.t51,by kernel_rfl,rfl,rfl,rfl,rfl⟩,⟨_,Tryz.underlying51,rfl,[(0,1),(1,1),(2,4),(6,1),(7,1)],by kernel_rfl⟩⟩
theorem aat:TI.ok Tryz.prog 53 aaM:=⟨⟨Tryz.t53,by kernel_rfl,rfl,rfl,rfl,rfl⟩,⟨_,Tryz.underlying53,rfl,[(0,1),(1,8),(9,1),(10,4),(14,1),(15,4),(19,1)],by kernel_rfl⟩⟩
theorem aas:TI.ok Tryz.prog 54 ⟨.slice 53,1,24,.slice none 0 0⟩:=⟨⟨Tryz.t54,by kernel_rfl,rfl,rfl,rfl,rfl⟩,Tryz.underlying54⟩
theorem amP:TI.ok Tryz.prog 67 aaL:=⟨⟨Tryz.t67,by kernel_rfl,rfl,rfl,rfl,rfl⟩,⟨_,Tryz.underlying67,rfl,[(0,1),(1,1)],by kernel_rfl⟩⟩
theorem aaq:TI.ok Tryz.prog 70 ⟨.slice 9,1,24,.slice none 0 0⟩:=⟨⟨Tryz.t70,by kernel_rfl,rfl,rfl,rfl,rfl⟩,Tryz.underlying70⟩
theorem aap:TI.ok Tryz.prog 74 ⟨.pointer,1,8,.pointer none⟩:=⟨⟨Tryz.t74,by kernel_rfl,rfl,rfl,rfl,rfl⟩,⟨_,Tryz.underlying74⟩⟩
theorem aao:TI.ok Tryz.prog 75 ⟨.slice 5,1,24,.slice none 0 0⟩:=⟨⟨Tryz.t75,by kernel_rfl,rfl,rfl,rfl,rfl⟩,Tryz.underlying75⟩
theorem aan:TI.ok Tryz.prog 77 aaK:=⟨⟨Tryz.t77,by kernel_rfl,rfl,rfl,rfl,rfl⟩,⟨_,Tryz.underlying77,rfl,[(0,1),(1,1)],by kernel_rfl⟩⟩
theorem amO:TI.ok Tryz.prog 86 ⟨.func,1,8,.nilFunc⟩:=⟨⟨Tryz.t86,by kernel_rfl,rfl,rfl,rfl,rfl⟩,⟨_,_,_,Tryz.underlying86⟩⟩
theorem amN:TI.ok Tryz.prog 87 ⟨.func,1,8,.nilFunc⟩:=⟨⟨Tryz.t87,by kernel_rfl,rfl,rfl,rfl,rfl⟩,⟨_,_,_,Tryz.underlying87⟩⟩
theorem amM:TI.ok Tryz.prog 89 ⟨.func,1,8,.nilFunc⟩:=⟨⟨Tryz.t89,by kernel_rfl,rfl,rfl,rfl,rfl⟩,⟨_,_,_,Tryz.underlying89⟩⟩
theorem Ww:TI.ok Tryz.prog 101 Vn:=⟨⟨Tryz.t101,by kernel_rfl,rfl,rfl,rfl,rfl⟩,⟨_,Tryz.underlying101,rfl,[(0,1),(1,1),(2,1),(3,1),(4,1),(5,1),(6,1),(7,1),(8,1),(9,1),(10,1),(11,1)],by kernel_rfl⟩⟩
theorem Wv:TI.ok Tryz.prog 108 Vm:=⟨⟨Tryz.t108,by kernel_rfl,rfl,rfl,rfl,rfl⟩,⟨_,Tryz.underlying108,rfl,[(0,1),(1,1),(2,1),(3,1),(4,1),(5,1),(6,1),(7,1)],by kernel_rfl⟩⟩
theorem Wu:TI.ok Tryz.prog 112 ⟨.slice 51,1,24,.slice none 0 0⟩:=⟨⟨Tryz.t112,by kernel_rfl,rfl,rfl,rfl,rfl⟩,Tryz.underlying112⟩
theorem Wt:TI.ok Tryz.prog 122 ⟨.pointer,1,8,.pointer none⟩:=⟨⟨Tryz.t122,by kernel_rfl,rfl,rfl,rfl,rfl⟩,⟨_,Tryz.underlying122⟩⟩
theorem alJ:TI.ok Tryz.prog 125 ak5:=⟨⟨Tryz.t125,by kernel_rfl,rfl,rfl,rfl,rfl⟩,Tryz.underlying125⟩
theorem alI:TI.ok Tryz.prog 128 ⟨.func,1,8,.nilFunc⟩:=⟨⟨Tryz.t128,by kernel_rfl,rfl,rfl,rfl,rfl⟩,⟨_,_,_,Tryz.underlying128⟩⟩
theorem Ws:TI.ok Tryz.prog 131 Vl:=⟨⟨Tryz.t131,by kernel_rfl,rfl,rfl,rfl,rfl⟩,Tryz.underlying131⟩
theorem Wr:TI.ok Tryz.prog 134 ⟨.int .u64,1,8,.int .u64 0⟩:=⟨⟨Tryz.t134,by kernel_rfl,rfl,rfl,rfl,rfl⟩,Tryz.underlying134⟩
theorem Wq:TI.ok Tryz.prog 139 Vk:=⟨⟨Tryz.t139,by kernel_rfl,rfl,rfl,rfl,rfl⟩,⟨_,Tryz.underlying139,rfl,[(0,1),(1,4)],by kernel_rfl⟩⟩
theorem Wp:TI.ok Tryz.prog 142 ⟨.func,1,8,.nilFunc⟩:=⟨⟨Tryz.t142,by kernel_rfl,rfl,rfl,rfl,rfl⟩,⟨_,_,_,Tryz.underlying142⟩⟩
theorem Wo:TI.ok Tryz.prog 145 Vj:=⟨⟨Tryz.t145,by kernel_rfl,rfl,rfl,rfl,rfl⟩,⟨_,Tryz.underlying145,rfl,[(0,1),(1,1)],by kernel_rfl⟩⟩
theorem Wn:TI.ok Tryz.prog 146 ⟨.slice 145,1,24,.slice none 0 0⟩:=⟨⟨Tryz.t146,by kernel_rfl,rfl,rfl,rfl,rfl⟩,Tryz.underlying146⟩
theorem alH:TI.ok Tryz.prog 157 ⟨.slice 159,1,24,.slice none 0 0⟩:=⟨⟨Tryz.t157,by kernel_rfl,rfl,rfl,rfl,rfl⟩,Tryz.underlying157⟩
theorem alG:TI.ok Tryz.prog 159 ak4:=⟨⟨Tryz.t159,by kernel_rfl,rfl,rfl,rfl,rfl⟩,⟨_,Tryz.underlying159,rfl,[(0,1),(1,1),(2,1),(3,1)],by kernel_rfl⟩⟩
theorem Wm:TI.ok Tryz.prog 162 ⟨.int .u64,1,8,.int .u64 0⟩:=⟨⟨Tryz.t162,by kernel_rfl,rfl,rfl,rfl,rfl⟩,Tryz.underlying162⟩
theorem alF:TI.ok Tryz.prog 165 ⟨.func,1,8,.nilFunc⟩:=⟨⟨Tryz.t165,by kernel_rfl,rfl,rfl,rfl,rfl⟩,⟨_,_,_,Tryz.underlying165⟩⟩
theorem Wl:TI.ok Tryz.prog 170 ⟨.int .i64,1,8,.int .i64 0⟩:=⟨⟨Tryz.t170,by kernel_rfl,rfl,rfl,rfl,rfl⟩,Tryz.underlying170⟩
theorem Wk:TI.ok Tryz.prog 178 ⟨.int .u32,1,4,.int .u32 0⟩:=⟨⟨Tryz.t178,by kernel_rfl,rfl,rfl,rfl,rfl⟩,Tryz.underlying178⟩
theorem Wj:TI.ok Tryz.prog 182 ⟨.func,1,8,.nilFunc⟩:=⟨⟨Tryz.t182,by kernel_rfl,rfl,rfl,rfl,rfl⟩,⟨_,_,_,Tryz.underlying182⟩⟩
theorem Wi:TI.ok Tryz.prog 186 Vi:=⟨⟨Tryz.t186,by kernel_rfl,rfl,rfl,rfl,rfl⟩,Tryz.underlying186⟩
theorem Wh:TI.ok Tryz.prog 195 ⟨.int .u64,1,8,.int .u64 0⟩:=⟨⟨Tryz.t195,by kernel_rfl,rfl,rfl,rfl,rfl⟩,Tryz.underlying195⟩
theorem Wg:TI.ok Tryz.prog 199 ⟨.pointer,1,8,.pointer none⟩:=⟨⟨Tryz.t199,by kernel_rfl,rfl,rfl,rfl,rfl⟩,⟨_,Tryz.underlying199⟩⟩
theorem Wf:TI.ok Tryz.prog 202 ⟨.struct [(0,22)],1,24,.agg #[.slice none 0 0]⟩:=⟨⟨Tryz.t202,by kernel_rfl,rfl,rfl,rfl,rfl⟩,⟨_,Tryz.underlying202,rfl,[(0,1)],by kernel_rfl⟩⟩
theorem We:TI.ok Tryz.prog 204 ⟨.pointer,1,8,.pointer none⟩:=⟨⟨Tryz.t204,by kernel_rfl,rfl,rfl,rfl,rfl⟩,⟨_,Tryz.underlying204⟩⟩
def Vg:Tr:=(.node (.node (.node (.node (.node (.node .nil 2 ⟨.int .i64,1,8,.int .i64 0⟩ .nil) 3 ⟨.int .i64,1,8,.int .i64 0⟩ (.node .nil 4 ⟨.bool,1,1,.bool false⟩ .nil)) 5 ⟨.int .u8,1,1,.int .u8 0⟩ (.node (.node .nil 9 ⟨.string,1,16,.string ⟨#[]⟩⟩ .nil) 22 ⟨.slice 3,1,24,.slice none 0 0⟩ .nil)) 23 ⟨.slice 45,1,24,.slice none 0 0⟩ (.node (.node (.node .nil 24 ⟨.slice 54,1,24,.slice none 0 0⟩ .nil) 26 aaR (.node .nil 28 ⟨.pointer,1,8,.pointer none⟩ .nil)) 32 ⟨.int .i64,1,8,.int .i64 0⟩ (.node (.node .nil 35 ⟨.slice 4,1,24,.slice none 0 0⟩ .nil) 38 ⟨.slice 40,1,24,.slice none 0 0⟩ .nil))) 40 aaQ (.node (.node (.node (.node .nil 41 ⟨.slice 43,1,24,.slice none 0 0⟩ .nil) 43 aaP (.node .nil 45 aaO .nil)) 49 ⟨.slice 139,1,24,.slice none 0 0⟩ (.node (.node .nil 51 aaN .nil) 53 aaM .nil)) 54 ⟨.slice 53,1,24,.slice none 0 0⟩ (.node (.node (.node .nil 67 aaL .nil) 70 ⟨.slice 9,1,24,.slice none 0 0⟩ .nil) 74 ⟨.pointer,1,8,.pointer none⟩ (.node (.node .nil 75 ⟨.slice 5,1,24,.slice none 0 0⟩ .nil) 77 aaK .nil)))) 86 ⟨.func,1,8,.nilFunc⟩ (.node (.node (.node (.node (.node .nil 87 ⟨.func,1,8,.nilFunc⟩ .nil) 89 ⟨.func,1,8,.nilFunc⟩ (.node .nil 101 Vn .nil)) 108 Vm (.node (.node .nil 112 ⟨.slice 51,1,24,.slice none 0 0⟩ .nil) 122 ⟨.pointer,1,8,.pointer none⟩ .nil)) 125 ak5 (.node (.node (.node .nil 128 ⟨.func,1,8,.nilFunc⟩ .nil) 131 Vl (.node .nil 134 ⟨.int .u64,1,8,.int .u64 0⟩ .nil)) 139 Vk (.node (.node .nil 142 ⟨.func,1,8,.nilFunc⟩ .nil) 145 Vj .nil))) 146 ⟨.slice 145,1,24,.slice none 0 0⟩ (.node (.node (.node (.node .nil 157 ⟨.slice 159,1,24,.slice none 0 0⟩ .nil) 159 ak4 (.node .nil 162 ⟨.int .u64,1,8,.int .u64 0⟩ .nil)) 165 ⟨.func,1,8,.nilFunc⟩ (.node (.node .nil 170 ⟨.int .i64,1,8,.int .i64 0⟩ .nil) 178 ⟨.int .u32,1,4,.int .u32 0⟩ .nil)) 182 ⟨.func,1,8,.nilFunc⟩ (.node (.node (.node .nil 186 Vi .nil) 195 ⟨.int .u64,1,8,.int .u64 0⟩ .nil) 199 ⟨.pointer,1,8,.pointer none⟩ (.node (.node .nil 202 ⟨.struct [(0,22)],1,24,.agg #[.slice none 0 0]⟩ .nil) 204 ⟨.pointer,1,8,.pointer none⟩ .nil)))))
theorem NN:Vg.HN Tryz.prog:=(Tr.ag (Tr.ag (Tr.ag (Tr.ag (Tr.ag (Tr.ag Tr.all_nil aew Tr.all_nil) aev (Tr.ag Tr.all_nil aeu Tr.all_nil)) aet (Tr.ag (Tr.ag Tr.all_nil aes Tr.all_nil) aaH Tr.all_nil)) aaG (Tr.ag (Tr.ag (Tr.ag Tr.all_nil aaF Tr.all_nil) aaE (Tr.ag Tr.all_nil aaD Tr.all_nil)) aaC (Tr.ag (Tr.ag Tr.all_nil aaB Tr.all_nil) aaA Tr.all_nil))) aaz (Tr.ag (Tr.ag (Tr.ag (Tr.ag Tr.all_nil aay Tr.all_nil) aax (Tr.ag Tr.all_nil aaw Tr.all_nil)) aav (Tr.ag (Tr.ag Tr.all_nil aau Tr.all_nil) aat Tr.all_nil)) aas (Tr.ag (Tr.ag (Tr.ag Tr.all_nil amP Tr.all_nil) aaq Tr.all_nil) aap (Tr.ag (Tr.ag Tr.all_nil aao Tr.all_nil) aan Tr.all_nil)))) amO (Tr.ag (Tr.ag (Tr.ag (Tr.ag (Tr.ag Tr.all_nil amN Tr.all_nil) amM (Tr.ag Tr.all_nil Ww Tr.all_nil)) Wv (Tr.ag (Tr.ag Tr.all_nil Wu Tr.all_nil) Wt Tr.all_nil)) alJ (Tr.ag (Tr.ag (Tr.ag Tr.all_nil alI Tr.all_nil) Ws (Tr.ag Tr.all_nil Wr Tr.all_nil)) Wq (Tr.ag (Tr.ag Tr.all_nil Wp Tr.all_nil) Wo Tr.all_nil))) Wn (Tr.ag (Tr.ag (Tr.ag (Tr.ag Tr.all_nil alH Tr.all_nil) alG (Tr.ag Tr.all_nil Wm Tr.all_nil)) alF (Tr.ag (Tr.ag Tr.all_nil Wl Tr.all_nil) Wk Tr.all_nil)) Wj (Tr.ag (Tr.ag (Tr.ag Tr.all_nil Wi Tr.all_nil) Wh Tr.all_nil) Wg (Tr.ag (Tr.ag Tr.all_nil Wf Tr.all_nil) We Tr.all_nil)))))
def efn (f:Nat):Bool:=Nat.ble 0 f&&Nat.ble f 215&&!(match f with|0=>true|1=>true|111=>true|189=>true|212=>true|_=>false)
def ety (t:Nat):Option TI:=match t with
  | 0=>none
  | t=>Vg.find t
def env (a:bW):bz:=⟨ety,efn,a⟩
theorem Zr:(List.range 216).all (fun k=>!(efn (0+k))||Zs Tryz.prog (0+k))=true:=by kernel_rfl
theorem Nd (f:Nat) (h:efn f=true):0≤f∧f≤215:=by
  simp_all[efn]
theorem adq (f:Nat) (h:efn f=true):Zs Tryz.prog f=true:=by
  grind[Nd,Zr]
theorem Zz:(env bW.nc).Ok Tryz.prog where
  ty t i h:=by
    have h:ety t=some i:=h;unfold ety at h
    split at h
    · grind
    · exact Tr.EF NN h
  fn f h:=by
    have a:=adq f h;unfold Zs at a
    grind
  mixed:=by kernel_rfl
  nc:=rfl
def bV:FuncId→Bool:=fun f=>match f with|207=>true|_=>false
def bi:FuncId→Bool:=fun f=>match f with|4000000=>true|1000011=>true|1000015=>true|1000021=>true|1000024=>true|1000026=>true|1000027=>true|1000040=>true|1000068=>true|1000071=>true|1000195=>true|2000042=>true|2000075=>true|2000076=>true|2000086=>true|2000104=>true|2000113=>true|2000114=>true|_=>false
def qQ (n:Nat):Nat×Bool:=(n,false)
def lL (n:Nat):Nat×Bool:=(n,true)
def lv (l:List Nat) (n:Nat):Nat:=(l[n]?).getD 0
abbrev Fk (k:FuncId) (f:Func) (o:Nat→aw):Prop:=LN Tryz.prog bV bi k f o
def al1:Nat→aw:=fun n=>match n with|2=>⟨[qQ 0,qQ 2,qQ 4,lL 1,lL 3],some 4,[],[5]⟩|3=>⟨[lL 0,qQ 1,qQ 2,qQ 4,lL 3,lL 5,qQ 6,qQ 7,qQ 8,qQ 9,qQ 11,lL 10,lL 12,qQ 13,qQ 14,qQ 15,qQ 16,qQ 17,qQ 19,qQ 20,lL 18,lL 21,qQ 22,qQ 23,qQ 24,qQ 25,qQ 26,lL 27,qQ 28,qQ 29,qQ 30,qQ 31,lL 32,qQ 33],none,[],[34]⟩|_=>default
def alq:Nat→Nat:=lv [3,34,96,16]
theorem apa:Fk 5 Tryz.f5 al1:=ao Tryz.func5
def Tw:Nat→aw:=fun n=>match n with|2=>⟨[qQ 0,qQ 1,qQ 2,qQ 3,lL 4,qQ 5,qQ 6],none,[],[7]⟩|6=>⟨[qQ 0,qQ 1,qQ 2,qQ 3,qQ 4,lL 5,qQ 6,qQ 7,lL 8,qQ 9],none,[1],[10]⟩|11=>⟨[qQ 0,qQ 1,qQ 2,qQ 3,qQ 4,qQ 5,qQ 6,qQ 7,qQ 8,lL 9,qQ 10,lL 11,qQ 12],none,[1],[13]⟩|_=>default
def CV:Nat→Nat:=lv [19,51,51,115,67108979,115,115,177,433,35184372089265,433,433,561,295147905179352826416,560,48,16]
theorem ae2:Fk 9 Tryz.f9 Tw:=ao Tryz.func9
def P8:Nat→aw:=fun _=>default
def QH:Nat→Nat:=lv [1,4]
theorem adp:Fk 10 Tryz.f10 P8:=ao Tryz.func10
def KU:Nat→aw:=fun n=>match n with|3=>⟨[],some 0,[],[]⟩|7=>⟨[qQ 0,qQ 1,qQ 2,lL 3,qQ 4,qQ 5,lL 6,qQ 7],none,[1],[8]⟩|19=>⟨[qQ 0,qQ 1,qQ 2,qQ 3,qQ 4,lL 5,qQ 6,qQ 7,qQ 8,qQ 9],none,[],[10]⟩|21=>⟨[],some 0,[],[]⟩|25=>⟨[qQ 0,qQ 1,qQ 3,qQ 6,qQ 7,qQ 8,qQ 9,lL 2,lL 4,qQ 5,lL 10,qQ 11,qQ 12,qQ 13,qQ 14,qQ 15],none,[],[16]⟩|33=>⟨[qQ 0,qQ 1,qQ 2,qQ 5,lL 3,qQ 4,lL 6,qQ 7,qQ 8,qQ 9,lL 10,qQ 11],none,[1],[12]⟩|_=>default
def dP:Nat→Nat:=lv [25,57,57,49,113,241,536871153,48,275414778097,48,70369281048817,48,18014399046353137,48,2305843009750565105,48,590295810359242522865,48,151115727451829183709425,48,618970019642690137986433265,48,40564819207303340847895039443185,48,5192296858534827628530496866091249,48,1361129467683753853853498429727609716849,48,43556142965880123323311949751266867937393,48,1393796574908163946345982392040523130994801,48,178405961588244985132285746181186892047843377,48,16]
theorem ado:Fk 11 Tryz.f11 KU:=ao Tryz.func11
def XV:Nat→Nat:=lv [0,2,1]
theorem adn:Fk 12 Tryz.f12 P8:=ao Tryz.func12
def QG:Nat→Nat:=lv [2,4]
theorem adm:Fk 13 Tryz.f13 P8:=ao Tryz.func13
theorem adl:Fk 14 Tryz.f14 P8:=ao Tryz.func14
def VL:Nat→aw:=fun n=>match n with|4=>⟨[qQ 0,qQ 1,qQ 5,qQ 6,lL 2,qQ 3,qQ 4,lL 7,qQ 8,qQ 9],none,[],[10]⟩|8=>⟨[qQ 0,qQ 3,lL 1,qQ 2,lL 4,qQ 5,qQ 6],none,[],[7]⟩|_=>default
def XU:Nat→Nat:=lv [2,258,4,10,10,14680072,31457288,14680120,14680072,14680072,4]
theorem adk:Fk 17 Tryz.f17 VL:=ao Tryz.func17
def ahu:Nat→aw:=fun n=>match n with|3=>⟨[qQ 0,qQ 1,qQ 5,qQ 6,lL 2,qQ 3,qQ 4,lL 7,qQ 8,qQ 9],none,[],[10]⟩|7=>⟨[qQ 0,qQ 1,qQ 4,qQ 5,qQ 6,qQ 7,qQ 8,lL 2,qQ 3,lL 9,qQ 10,qQ 11,qQ 12],none,[],[13]⟩|_=>default
def agz:Nat→Nat:=lv [2,130,4,10,26,4194330,26,26,4]
theorem an3:Fk 18 Tryz.f18 ahu:=ao Tryz.func18
def ajH:Nat→Nat:=lv [12,44,16]
theorem an2:Fk 19 Tryz.f19 P8:=ao Tryz.func19
def Ac:Nat→aw:=fun n=>match n with|6=>⟨[qQ 0,qQ 1,qQ 2,qQ 3,qQ 4,qQ 5,qQ 6,qQ 7,qQ 8,qQ 9],none,[],[10,11]⟩|11=>⟨[qQ 0,qQ 1,qQ 2,qQ 3,qQ 4,qQ 5,qQ 6,qQ 7,qQ 8,qQ 9],none,[],[10,11]⟩|_=>default
def jk:Nat→Nat:=lv [12,68719476748,16,44,2199023255596,44,36028797018964012,16,76,1152921504606847052,76,18889465931478580854860,16,16]
theorem adj:Fk 20 Tryz.f20 Ac:=ao Tryz.func20
def QE:Nat→Nat:=lv [3,3,515,1,16]
theorem adi:Fk 28 Tryz.f28 P8:=ao Tryz.func28
def QD:Nat→Nat:=lv [6,32774,16,38,102,4194406,12583014,16,272629862,272629862,16,2147483750,38,4398046511138,32,16]
theorem adh:Fk 29 Tryz.f29 P8:=ao Tryz.func29
def PB:Nat→aw:=fun n=>match n with|1=>⟨[qQ 0,qQ 1,qQ 2,qQ 3,qQ 4,qQ 5,qQ 6,qQ 7,qQ 8,qQ 9],none,[],[]⟩|4=>⟨[qQ 0,qQ 1,qQ 2,qQ 3,qQ 4,qQ 5,qQ 6,qQ 7,qQ 8,qQ 9,qQ 10,qQ 11],none,[],[12,13]⟩|_=>default
def QC:Nat→Nat:=lv [3,16387,16,3,16]
theorem adg:Fk 32 Tryz.f32 PB:=ao Tryz.func32
def tP:Nat→aw:=fun n=>match n with|6=>⟨[qQ 0,qQ 1,qQ 2,qQ 3,qQ 7,lL 4,qQ 5,qQ 6,qQ 8],none,[],[9]⟩|11=>⟨[qQ 0,qQ 1,qQ 2,qQ 3,qQ 7,qQ 8,qQ 9,qQ 10,lL 4,qQ 5,qQ 6,qQ 11],none,[],[12]⟩|16=>⟨[qQ 0,qQ 1,qQ 2,lL 3,lL 4,qQ 5,lL 6,qQ 7],none,[1],[8]⟩|17=>⟨[qQ 0,qQ 1,qQ 2,qQ 3,qQ 7,qQ 8,qQ 9,qQ 10,lL 4,qQ 5,qQ 6,qQ 11],none,[],[12]⟩|_=>default
def ou:Nat→Nat:=lv [19,51,32819,98355,16,16810035,16,34359738419,16,113,2251799813685361,16,209,465,295147905179352826321,465,465,16]
theorem adf:Fk 33 Tryz.f33 tP:=ao Tryz.func33
def fU:Nat→aw:=fun n=>match n with|15=>⟨[qQ 0,qQ 1,qQ 2,qQ 3,qQ 4,qQ 5,qQ 9,lL 6,lL 7,lL 8,lL 10,lL 11,lL 12],none,[],[2000000,13,14]⟩|17=>⟨[qQ 0,qQ 1,qQ 2,qQ 3,qQ 4,qQ 5,qQ 9,lL 6,lL 7,lL 8,lL 10,lL 11,lL 12],none,[],[2000000,13,14]⟩|26=>⟨[qQ 0,qQ 1,qQ 2,qQ 3,qQ 4,qQ 8,qQ 9,qQ 10,qQ 13,lL 5,lL 6,lL 7,lL 11,lL 12,lL 14],none,[],[2000000,15,16,17,18]⟩|_=>default
def eG:Nat→Nat:=lv [271,783,7951,134225679,402661135,768,34493964047,768,2199157481231,4864,9007199254745856,768,72057594172153615,768,1180591620717545529103,768,19342813113834066929524495,768,316912650057057350374310022927,768,324518553658426726783156154797839,768,166153499473114484112975882669264655,768,170141183460469231731687303716018327311,170141183460469231731687303716018327311,768,89202980794122492566142873090593446158143247,768,5708990770823839524233143877797980545665208079,768,1461501637330902918203684832716283019656066764555,1461501637330902918203684832716283019656066764555,1461501637330902918203684832716283019656066764555,768,93536104789177786765035829293842113257979816969995,748288838313422294120286634350736906063837462004489,256,768,47890485652059026823698344598447161988085597702457091,768,3064991081731777716716694054300618367237478244367206147,768,256]
theorem ade:Fk 34 Tryz.f34 fU:=ao Tryz.func34
def PA:Nat→aw:=fun n=>match n with|1=>⟨[qQ 0,qQ 1,qQ 2,qQ 3,qQ 4,qQ 5,qQ 6,qQ 7,qQ 8,qQ 9],none,[],[]⟩|4=>⟨[qQ 0,qQ 1,qQ 2,qQ 3,qQ 4,qQ 5,qQ 6,qQ 7,qQ 8,qQ 9,qQ 10],none,[],[11]⟩|_=>default
def QB:Nat→Nat:=lv [1,4097,4,1,4]
theorem adb:Fk 35 Tryz.f35 PA:=ao Tryz.func35
def El:Nat→Nat:=lv [7,135,391,2439,391,391,64]
theorem ada:Fk 36 Tryz.f36 P8:=ao Tryz.func36
def KS:Nat→aw:=fun n=>match n with|8=>⟨[qQ 0,qQ 1,qQ 2,qQ 3,lL 4,qQ 5,qQ 6,qQ 7],none,[],[8]⟩|12=>⟨[qQ 0,qQ 1,qQ 2,qQ 3,lL 4,qQ 5,qQ 6,qQ 7],none,[],[8]⟩|26=>⟨[qQ 0,qQ 1,qQ 2,qQ 3,qQ 4,lL 5,qQ 6,lL 7,qQ 8],none,[1],[9]⟩|_=>default
def eW:Nat→Nat:=lv [19,51,4147,12339,51,266291,51,8388659,51,34359738419,51,2199023255603,51,115,2251799813685363,6755399441055859,6755399441055859,115,146366987889541235,144115188075855987,115,4611686018427388019,115,243,2361183241434822607091,243,243,16]
theorem ac9:Fk 37 Tryz.f37 KS:=ao Tryz.func37
def aeM:Nat→Nat:=lv [6,16390,16,17179869190,16,1008806316530991110,2161727821137838086,1008806316530991174,74795782611369197574,16,1008806316530991110,134,154742504910672534362390534,16,4332790137498830962146934786,9284550294640352061743431682,4332790137498830962146935810,281631358937424012539550760962,598544008994481362913726562306,281631358937424012539550765058,281631358937424012539550769154,40846450566240764860434053341186,16,281631358937424012539550760962,4332790137498830962146934786,16]
theorem ac8:Fk 38 Tryz.f38 P8:=ao Tryz.func38
def zY:Nat→aw:=fun n=>match n with|9=>⟨[qQ 0,qQ 1,qQ 2,qQ 3,qQ 4,qQ 5],none,[],[6,7]⟩|_=>default
def ka:Nat→Nat:=lv [6,1073741830,16,38,4503599627370534,16,102,36028797018964070,102,36893488147419103334,16,134,77371252455336267181195270,16,262,2475880078570760549798248710,262,774,2535301200456458802993406411526,774,1798,20769187434139310514121985316882182,2822,2658455991569831745807614120560691974,16,174224571863520493293247799005065324266246,16,16]
theorem ac7:Fk 39 Tryz.f39 zY:=ao Tryz.func39
def QA:Nat→Nat:=lv [6,38,102,358,1073742178,352,4398046511392,256,256,16]
theorem ac6:Fk 40 Tryz.f40 P8:=ao Tryz.func40
def XT:Nat→Nat:=lv [3,3,2,48]
theorem ac5:Fk 41 Tryz.f41 P8:=ao Tryz.func41
theorem ac4:Fk 42 Tryz.f42 P8:=ao Tryz.func42
def VI:Nat→aw:=fun n=>match n with|7=>⟨[qQ 0,qQ 1,qQ 2,qQ 3,qQ 4,qQ 5,qQ 6,lL 7],none,[0],[8]⟩|14=>⟨[qQ 0,qQ 1,qQ 2,lL 3,qQ 4,lL 5],none,[0],[6]⟩|16=>⟨[qQ 0,qQ 1,qQ 2,lL 3,qQ 4,lL 5],none,[0],[6]⟩|18=>⟨[qQ 0,qQ 1,qQ 2,lL 3,qQ 4,lL 5],none,[0],[6]⟩|_=>default
def XR:Nat→Nat:=lv [2,10,42,106,106,234,268435690,106,234,234,140737488355562,234,106,590295810358705651818,106,151115727451828646838378,106,38685626227668133590597730,98,69324642199981295394350956640,148552804714245632987894906976,69324642199981295394350957152,69324642199981295394350956640,69324642199981295394350956640,4]
theorem ac3:Fk 43 Tryz.f43 VI:=ao Tryz.func43
def VH:Nat→aw:=fun n=>match n with|1=>⟨[],none,[],[1000000]⟩|_=>default
theorem ac2:Fk 44 Tryz.f44 VH:=ao Tryz.func44
theorem an1:Fk 45 Tryz.f45 P8:=ao Tryz.func45
def ah5:Nat→aw:=fun n=>match n with|1=>⟨[qQ 0,qQ 1,qQ 4,qQ 5,qQ 8,qQ 9,qQ 12,qQ 13,lL 2,qQ 3,lL 6,qQ 7,lL 10,qQ 11,lL 14,qQ 15,qQ 16,qQ 17,qQ 18],none,[],[19]⟩|2=>⟨[qQ 0,qQ 1,qQ 3,qQ 4,lL 2,lL 5,qQ 6,qQ 7],none,[],[8]⟩|_=>default
def abU:Nat→Nat:=lv [2,122,506,17179869690,51539608058,4,17609365914106,4,1125917086712314,570,288230376151712312,568,4,295147905196532695546,4,75557863725931503288826,4,77371252455336284361064954,4,79228162514264337610723819994,4,5070602400912917606003992691162,4,1298074214633706907132641262174682,4,332306998946228968225951782249955546,4,340282366920938463463374607448948080858,4,348449143727040986586495598010147828400344,4,5575186299632655785383929568162107556364504,4,356811923176489970264571492362373801275556056,4,1427247692705959881058285969449495153562616024,4,22835963083295358096932575511191922199303815384,4,365375409332725729550921208179070754931163005144,4,5846006549323611672814739330865132078640910041304,4,23384026197294446691258957323460528314512100557016,4,374144419156711147060143317175368453031935910871240,4,5986310706507378352962293074805895248510699696029896,4,4]
theorem an0:Fk 46 Tryz.f46 ah5:=ao Tryz.func46
def ajF:Nat→Nat:=lv [3,16]
theorem anZ:Fk 47 Tryz.f47 P8:=ao Tryz.func47
def ag9:Nat→Nat:=lv [7,16391,64,229382,491526,229766,230150,1073971206,64,229382,64]
theorem anY:Fk 48 Tryz.f48 P8:=ao Tryz.func48
def ajE:Nat→Nat:=lv [12,16]
theorem anX:Fk 49 Tryz.f49 P8:=ao Tryz.func49
theorem anW:Fk 50 Tryz.f50 P8:=ao Tryz.func50
theorem anV:Fk 51 Tryz.f51 P8:=ao Tryz.func51
theorem anU:Fk 52 Tryz.f52 P8:=ao Tryz.func52
def ah1:Nat→aw:=fun n=>match n with|6=>⟨[qQ 0,qQ 1,qQ 2,qQ 3,qQ 4,qQ 5,qQ 6,qQ 7,qQ 8,qQ 9,qQ 10],none,[],[]⟩|_=>default
def ag6:Nat→Nat:=lv [12,1180591620717411303436,16,44,37778931862957161709612,44,309485009821345068724781100,16,16]
theorem anT:Fk 53 Tryz.f53 ah1:=ao Tryz.func53
def ah0:Nat→aw:=fun n=>match n with|6=>⟨[qQ 0,qQ 1,qQ 2,qQ 3,qQ 4,qQ 5,qQ 6,qQ 7],none,[],[8,9]⟩|_=>default
def ag5:Nat→Nat:=lv [3,1027,16,35,16419,35,67108899,16,16]
theorem anS:Fk 54 Tryz.f54 ah0:=ao Tryz.func54
def Jm:Nat→Nat:=lv [5,21,8589934613,12,12]
theorem ac1:Fk 58 Tryz.f58 P8:=ao Tryz.func58
def XO:Nat→Nat:=lv [5,0]
theorem ac0:Fk 59 Tryz.f59 P8:=ao Tryz.func59
def Py:Nat→aw:=fun n=>match n with|6=>⟨[qQ 0,qQ 1,qQ 2,qQ 3,qQ 4,qQ 5,qQ 6,qQ 7,qQ 8,qQ 9],none,[],[]⟩|11=>⟨[qQ 0,qQ 1,qQ 2,qQ 3,qQ 4,qQ 5,qQ 6,qQ 7,qQ 8,qQ 9],none,[],[]⟩|_=>default
def Qz:Nat→Nat:=lv [1,257,4,9,8201,9,33554441,25,57,4294967353,57,17592186044473,57,57,9,4,4]
theorem acZ:Fk 60 Tryz.f60 Py:=ao Tryz.func60
def Gd:Nat→aw:=fun n=>match n with|6=>⟨[qQ 0,qQ 1,qQ 2,qQ 3,qQ 5,qQ 6,qQ 8,qQ 9,qQ 10,lL 4,lL 7],none,[],[2000000,11,12]⟩|_=>default
def Az:Nat→Nat:=lv [3,35,131107,35,2147483683,16,16]
theorem acY:Fk 61 Tryz.f61 Gd:=ao Tryz.func61
def Qw:Nat→Nat:=lv [5,12,28,4,140,4,1036,4,8204,4,65548,4,524300,4,4194316,4,33554444,4,268435468,4,2147483660,2147483660,4,34359738380,34359738380,34359738380,4,1099511627788,4,8796093022220,8796093022220,8796093022220,4,281474976710660,4,4]
theorem acX:Fk 62 Tryz.f62 P8:=ao Tryz.func62
def Qv:Nat→Nat:=lv [5,4]
theorem acW:Fk 63 Tryz.f63 P8:=ao Tryz.func63
def Qu:Nat→Nat:=lv [19,16]
theorem acV:Fk 64 Tryz.f64 P8:=ao Tryz.func64
def VF:Nat→aw:=fun n=>match n with|2=>⟨[qQ 0,qQ 1,qQ 2,qQ 4,qQ 5,qQ 6,qQ 15,qQ 23,qQ 24,qQ 29,qQ 30,qQ 34,qQ 35,lL 3,qQ 7,lL 8,qQ 9,lL 10,lL 11,qQ 12,qQ 13,qQ 14,lL 16,qQ 17,lL 18,lL 19,qQ 20,qQ 21,qQ 22,lL 25,qQ 26,qQ 27,qQ 28,lL 31,qQ 32,lL 33,lL 36,qQ 37,qQ 38,qQ 39,qQ 40],none,[],[41]⟩|_=>default
theorem acU:Fk 65 Tryz.f65 VF:=ao Tryz.func65
def CO:Nat→aw:=fun n=>match n with|7=>⟨[qQ 0,qQ 1,qQ 2,qQ 3,lL 4,qQ 5,qQ 6,qQ 7],none,[],[8]⟩|_=>default
def Ay:Nat→Nat:=lv [5,21,53,4,277,4,8197,4,4]
theorem acT:Fk 66 Tryz.f66 CO:=ao Tryz.func66
def Ax:Nat→Nat:=lv [12,108,8232,16,536870952,16,281474976710696,16,16]
theorem acS:Fk 67 Tryz.f67 P8:=ao Tryz.func67
def KQ:Nat→aw:=fun n=>match n with|8=>⟨[qQ 0,qQ 1,qQ 2,qQ 3,qQ 4,qQ 5,qQ 6,qQ 7,qQ 8,qQ 13,lL 9,qQ 10,qQ 11,qQ 12],some 13,[],[14,15]⟩|13=>⟨[qQ 0,qQ 1,qQ 2,qQ 3,qQ 4],none,[],[5,6]⟩|_=>default
def sQ:Nat→Nat:=lv [2,10,393226,917514,393242,6007970311177464399593053377393092789519040313920906478274001054376438955780064786436506915359139851848751592380062434656128045220390533560030622036902777239174093763071503037240861837822833492492949164080677447758537004594076278337349131603119783669637745357773063360862965613063819825095212997834689723550502107245144446984007416542923780801007351473039820459592446938552791665595986438966489665598373601412615261325064676112813683911206349137698850059186518524272198317082679297054001323628532623348424448475564693063006306207546440236296699456971289848191080875531625394251200217448195742202739514027157006454526167667709143260148080530872190163681906718518245085016843170513012534380063193087422920719540951439752422821967751215272341617520765834785952652995848030852353104939113582850309241602438007762451052149963003703105351014801237252269804979151251796236118220480543568258095500427784433103662784674926162582140270376273380760442227459464896807284164859183621223368672550698666866307163971123382709873762399561858388610414896797080260833959654635476235994256713673875003759557110393608184822979621213645918758695948628991875483187631644794171910025584651618601047603055024070071089961148476720491645751287825422317360852300274785890249401791901942646831698190015422761601092056219622440379176225266586609227030858387004150020032088969743492642207904917009322376701710089591371559799624853057153668478870631589370438677580311030064047534766688610960363319824351269745916630955905960334973206131903928584603378903244627568148645019690,67502122,393322,393450,9223372036855169130,393258,393258,393322,393834,9903520314283042199193387626,393258,393258,394346,394282,10633823966279326983230456482243150890,4,340282366920938463463374607431768605738,393258,393226,4]
theorem acR:Fk 68 Tryz.f68 KQ:=ao Tryz.func68
def Qt:Nat→Nat:=lv [6,38,16,16390,16,16777222,16,16]
theorem acQ:Fk 69 Tryz.f69 P8:=ao Tryz.func69
def cF:Nat→aw:=fun n=>match n with|4=>⟨[qQ 0,qQ 1,qQ 2,qQ 3,qQ 4,qQ 5,qQ 6,qQ 7,qQ 8,qQ 9,qQ 10,qQ 11,qQ 12,qQ 13,qQ 14,qQ 15,qQ 16,qQ 17,qQ 18,qQ 19,qQ 20,qQ 21,qQ 22,qQ 23,qQ 24,qQ 25,qQ 26,qQ 27,qQ 28,qQ 29,qQ 30,qQ 31,qQ 32,qQ 33,qQ 34,qQ 35,qQ 36,qQ 37,qQ 38,qQ 39,qQ 40,qQ 41,qQ 42,qQ 43,qQ 44,qQ 45,qQ 46,qQ 47,qQ 48,qQ 49,qQ 50,qQ 51,qQ 52,qQ 53,qQ 54,qQ 55,qQ 56,qQ 57,qQ 58,qQ 59,qQ 60,qQ 61,qQ 62,qQ 63,qQ 64,qQ 65,lL 66,lL 67,qQ 68,qQ 69,qQ 70,qQ 71,qQ 72,qQ 73,qQ 74,qQ 75,qQ 76,qQ 77,qQ 78],none,[],[79,80,81,82]⟩|11=>⟨[qQ 0,qQ 1,qQ 2,qQ 3,qQ 4,qQ 5],none,[],[6,7]⟩|_=>default
def bu:Nat→Nat:=lv [12,44,131116,16,1267650600228229401496703205420,16,174224571863520493293247799005065324265516,16,108,5575186299632655785383929568162090376495212,108,5708990770823839524233143877797980545530986604,16,98079714615416886934934209737619787751599303819750539276,16,392318858461667547739736838950479151006397215279002157068,1176956575385002643219210516851437453019191645837006471180,1176956575385002643219210516851437453019191645837006471180,16,12855896672930383871883436475568251299328630347477621684568076,16,13479973333967638755795175091249552175769051362276683455830807281676,16,13803492693581519893727973392101790641741168423491779507540327449755660,16,113078212145816597485649898509214332752695808350518764326180012161729822728,113078212145816597093331040047546785012958969400039613319782796882727665672,16,16]
theorem acP:Fk 70 Tryz.f70 cF:=ao Tryz.func70
def jZ:Nat→Nat:=lv [2,10,26,16394,26,58,1048634,58,122,250,506,536871418,506,506,122,576460752303423546,58,520,73786976294838206984,520,9444732965739290427912,4,4]
theorem acO:Fk 71 Tryz.f71 P8:=ao Tryz.func71
def XM:Nat→Nat:=lv [65,0,524288]
theorem acN:Fk 72 Tryz.f72 P8:=ao Tryz.func72
theorem acM:Fk 73 Tryz.f73 P8:=ao Tryz.func73
def VC:Nat→aw:=fun n=>match n with|1=>⟨[qQ 0,qQ 1,lL 2,qQ 3,qQ 4,lL 5],none,[0],[6]⟩|_=>default
def XK:Nat→Nat:=lv [38,0]
theorem acL:Fk 74 Tryz.f74 VC:=ao Tryz.func74
def aem:Nat→Nat:=lv [2,2,130,2050,4,10,65666,4,262274,4,1048706,4,67108994,10,268435586,10,1073741826,10,60129542152,128849018888,60129542184,60129542152,60129542152,4]
theorem anR:Fk 75 Tryz.f75 P8:=ao Tryz.func75
def agy:Nat→Nat:=lv [2,66,194,4,4162,4,262146,8,4,4]
theorem anQ:Fk 76 Tryz.f76 P8:=ao Tryz.func76
def XJ:Nat→Nat:=lv [3,4099,12291,16,32771,16,35,4194339,536870947,35,35,3848290697251,8246337208355,3848290697379,566798244118691,3848290697379,3848290697251,3848290697251,291,259,259,64563604257983430914,138350580552821637378,64563604257983431938,64563604257983431938,64563604257983430914,64563604257983430914,16]
theorem acK:Fk 77 Tryz.f77 P8:=ao Tryz.func77
def ahM:Nat→Nat:=lv [1,17,4,4]
theorem anP:Fk 78 Tryz.f78 P8:=ao Tryz.func78
def ag4:Nat→Nat:=lv [3,35,99,1123,99,99,16]
theorem anO:Fk 79 Tryz.f79 P8:=ao Tryz.func79
def aeI:Nat→Nat:=lv [2,10,74,202,4,586,4,2122,4,131146,4194306,4,10,268435530,10,1073741834,10,26,68719476762,26,26,4]
theorem anN:Fk 80 Tryz.f80 P8:=ao Tryz.func80
def agx:Nat→Nat:=lv [2,18,50,4,1042,16384,4,4,32770,4,4]
theorem anM:Fk 81 Tryz.f81 P8:=ao Tryz.func81
theorem acJ:Fk 82 Tryz.f82 P8:=ao Tryz.func82
theorem anL:Fk 83 Tryz.f83 P8:=ao Tryz.func83
def ahX:Nat→aw:=fun n=>match n with|6=>⟨[qQ 0,qQ 1,qQ 2,qQ 3,qQ 4,qQ 5,qQ 6,qQ 7,qQ 8],none,[],[]⟩|_=>default
def ag3:Nat→Nat:=lv [3,1027,16,12291,28675,12323,16789507,16,12291,16]
theorem anK:Fk 84 Tryz.f84 ahX:=ao Tryz.func84
theorem anJ:Fk 85 Tryz.f85 P8:=ao Tryz.func85
theorem acI:Fk 86 Tryz.f86 P8:=ao Tryz.func86
def KO:Nat→aw:=fun n=>match n with|6=>⟨[qQ 0,qQ 1,qQ 2,qQ 3,qQ 4,qQ 5,qQ 6,qQ 7,qQ 8,qQ 9],none,[],[10,11]⟩|_=>default
def Jl:Nat→Nat:=lv [12,8589934604,16,44,274877906988,44,4503599627370540,16,16]
theorem acH:Fk 87 Tryz.f87 KO:=ao Tryz.func87
theorem anI:Fk 88 Tryz.f88 P8:=ao Tryz.func88
def VA:Nat→aw:=fun n=>match n with|17=>⟨[qQ 0,qQ 1,qQ 2,qQ 3,qQ 4,qQ 5,qQ 6,qQ 7,qQ 8,qQ 9,qQ 10,qQ 11],none,[],[12,13,14]⟩|_=>default
def XI:Nat→Nat:=lv [271,783,1807,8390415,0,536872719,0,34359740175,1807,1807,7951,1125899906850575,3855,3855,7951,295147905179352829711,4722366482869645217551,154742504910672534362394383,8973,783,50191,17935,214543,475663,10384593717069655257060992658915855,17167,17165,783,17167,17163,783]
theorem acG:Fk 92 Tryz.f92 VA:=ao Tryz.func92
def XH:Nat→Nat:=lv [1,4,4]
theorem acF:Fk 93 Tryz.f93 P8:=ao Tryz.func93
def gd:Nat→aw:=fun n=>match n with|7=>⟨[qQ 0,qQ 1,lL 2,qQ 3,qQ 4],none,[],[5,6]⟩|29=>⟨[qQ 0,qQ 1,qQ 2,qQ 3,qQ 4,qQ 5,qQ 6,lL 7,qQ 8,lL 9,qQ 10],none,[1],[11]⟩|35=>⟨[qQ 0,qQ 1,qQ 2,qQ 3,qQ 4,qQ 5,qQ 6,lL 7],none,[],[8,9]⟩|_=>default
def eF:Nat→Nat:=lv [271,783,2097935,783,4194575,12583183,12583183,256,4299161871,256,34363932943,34363932943,549755814159,256,256,562949957615887,562949957615887,562949957615887,256,288230376155906319,288230376155906319,256,37778931862957165904143,37778931862957165904143,1295,3343,7439,9671406556917033397656847,7439,7439,256,316912650057057350374175801615,8463,10141204801825835211973625651471,8463,256,332306998946228968225951765070086400,256,256]
theorem acE:Fk 94 Tryz.f94 gd:=ao Tryz.func94
theorem acD:Fk 95 Tryz.f95 P8:=ao Tryz.func95
theorem acC:Fk 96 Tryz.f96 P8:=ao Tryz.func96
def sO:Nat→Nat:=lv [56,176,57520,123056,58032,16834736,64,57520,1200,64]
theorem acB:Fk 97 Tryz.f97 P8:=ao Tryz.func97
def sN:Nat→Nat:=lv [12,76,204,204,16,2097228,16,2147483724,16,2199023255628,16,18014398509482056,18014398509481992,16,16]
theorem acA:Fk 98 Tryz.f98 P8:=ao Tryz.func98
theorem acz:Fk 99 Tryz.f99 P8:=ao Tryz.func99
theorem Zp:Fk 100 Tryz.f100 P8:=ao Tryz.func100
theorem Zo:Fk 101 Tryz.f101 P8:=ao Tryz.func101
def ur:Nat→Nat:=lv [2,131074,4,524290,1572866,4,34078722,4,134742018,4,137438953474,10,8796093022218,10,2251799813685258,4,4,4]
theorem Zn:Fk 102 Tryz.f102 P8:=ao Tryz.func102
theorem Zm:Fk 103 Tryz.f103 P8:=ao Tryz.func103
def Eo:Nat→Nat:=lv [1,1]
theorem Zl:Fk 104 Tryz.f104 P8:=ao Tryz.func104
def Lx:Nat→Nat:=lv [6,16]
theorem Zk:Fk 105 Tryz.f105 P8:=ao Tryz.func105
def um:Nat→Nat:=lv [1,131073,4,9,2097161,9,17179869193,4,4]
theorem Zj:Fk 106 Tryz.f106 P8:=ao Tryz.func106
def Lw:Nat→Nat:=lv [2,10,4,4096,4,4]
theorem Zi:Fk 107 Tryz.f107 P8:=ao Tryz.func107
theorem Zh:Fk 108 Tryz.f108 P8:=ao Tryz.func108
def uj:Nat→Nat:=lv [2,4294967298,4,10,137438953482,10,2251799813685258,4,9007199254740994,27021597764222978,27021597764222978,4,153122387330596866,4,147573952589676412930,4,4]
theorem Zg:Fk 109 Tryz.f109 P8:=ao Tryz.func109
theorem Zf:Fk 110 Tryz.f110 P8:=ao Tryz.func110
def Uc:Nat→Nat:=lv [3,2051,131073,16,33,97,8388705,97,225,161,17179869344,160,16,16,512,16]
theorem Ze:Fk 112 Tryz.f112 P8:=ao Tryz.func112
theorem amo:Fk 114 Tryz.f114 P8:=ao Tryz.func114
def akG:Nat→Nat:=lv [2,130,12,18,16,12]
theorem amn:Fk 115 Tryz.f115 P8:=ao Tryz.func115
def ajw:Nat→aw:=fun n=>match n with|3=>⟨[],some 999999,[],[]⟩|_=>default
def akF:Nat→Nat:=lv [3,131,3,2097155,0]
theorem amm:Fk 116 Tryz.f116 ajw:=ao Tryz.func116
def aha:Nat→Nat:=lv [1,9,2057,4,4]
theorem aml:Fk 117 Tryz.f117 P8:=ao Tryz.func117
def akE:Nat→Nat:=lv [1,9,25,537,25,2097177,25,25,4]
theorem amk:Fk 118 Tryz.f118 P8:=ao Tryz.func118
def Ed:Nat→aw:=fun n=>match n with|1=>⟨[qQ 0,qQ 1,qQ 2,qQ 3,qQ 5,qQ 6,qQ 7,qQ 8,qQ 10,qQ 11,qQ 12,qQ 13,qQ 15,qQ 16,qQ 17,qQ 18,qQ 19,qQ 20,lL 4,lL 9,lL 14],none,[],[21,22,23,24]⟩|5=>⟨[qQ 0,qQ 1,qQ 2,qQ 3,qQ 4,qQ 5,qQ 6,qQ 7,qQ 8,qQ 9],none,[],[10,11]⟩|_=>default
def oA:Nat→Nat:=lv [12,44,108,549755813996,108,108,16]
theorem Zd:Fk 119 Tryz.f119 Ed:=ao Tryz.func119
theorem amj:Fk 120 Tryz.f120 P8:=ao Tryz.func120
theorem ami:Fk 121 Tryz.f121 P8:=ao Tryz.func121
theorem amh:Fk 122 Tryz.f122 P8:=ao Tryz.func122
def qb:Nat→aw:=fun n=>match n with|12=>⟨[qQ 0,qQ 1,qQ 2,qQ 3,qQ 4,qQ 5,qQ 6,qQ 7,qQ 8,qQ 9],none,[],[10,11]⟩|_=>default
def ku:Nat→Nat:=lv [12,140,16,524300,16,2147483660,16,8796093022220,16,44,9223372036854775852,44,108,302231454903657293676652,16,16]
theorem Zc:Fk 123 Tryz.f123 qb:=ao Tryz.func123
def afQ:Nat→aw:=fun n=>match n with|6=>⟨[qQ 0,qQ 1,qQ 2,qQ 3,qQ 4,qQ 5,qQ 6,qQ 7,qQ 8,qQ 9,qQ 10,qQ 11,qQ 12,qQ 13,qQ 14,qQ 15,qQ 16,qQ 17,qQ 18,qQ 19,qQ 20,qQ 21,qQ 22,qQ 23,qQ 24,qQ 25],none,[],[26,27,28]⟩|_=>default
def afr:Nat→Nat:=lv [12,2199023255564,16,44,70368744177708,44,151115727451828646838316,16,16]
theorem amg:Fk 124 Tryz.f124 afQ:=ao Tryz.func124
def P6:Nat→aw:=fun n=>match n with|4=>⟨[qQ 0,qQ 1,qQ 2,qQ 3,qQ 4,qQ 5,qQ 6,qQ 7,qQ 8,qQ 9,qQ 10,qQ 11,qQ 12],none,[],[13,14]⟩|6=>⟨[],some 999999,[],[]⟩|_=>default
def Ub:Nat→Nat:=lv [71,4167,71,199,1073742023,199,199]
theorem Zb:Fk 126 Tryz.f126 P6:=ao Tryz.func126
def P5:Nat→aw:=fun n=>match n with|10=>⟨[],some 999999,[],[]⟩|_=>default
def Ua:Nat→Nat:=lv [71,199,449,961,525249,961,961,1217,1073743041,1217,1217,1217]
theorem Za:Fk 127 Tryz.f127 P5:=ao Tryz.func127
def T9:Nat→Nat:=lv [67,32835,195,451,963,8589935555,963,1987,8796093024195,1987,963]
theorem Y9:Fk 128 Tryz.f128 P5:=ao Tryz.func128
def T8:Nat→Nat:=lv [7,259,771,1795,3843,7937,4294975233,17179876865,7681,7681,7681,2560,562949953423360,192,2814749767108608,192,18014398509484032,192]
theorem Y8:Fk 129 Tryz.f129 P8:=ao Tryz.func129
def P1:Nat→aw:=fun n=>match n with|3=>⟨[qQ 0,qQ 1,qQ 2,qQ 3,qQ 4,qQ 5,qQ 6,qQ 7,qQ 8,qQ 9,qQ 10,qQ 11,qQ 12,lL 13,qQ 14,lL 15],none,[],[]⟩|_=>default
def T7:Nat→Nat:=lv [69,193,8385,193,193,193]
theorem Y7:Fk 130 Tryz.f130 P1:=ao Tryz.func130
def P0:Nat→aw:=fun n=>match n with|5=>⟨[qQ 0,qQ 1,qQ 2,qQ 3,qQ 4,qQ 5,qQ 6,qQ 7,qQ 8,qQ 9,qQ 10,qQ 11,qQ 12],none,[],[13,14,15]⟩|11=>⟨[],some 999999,[],[]⟩|16=>⟨[qQ 0,qQ 1,qQ 2,qQ 3,qQ 4,qQ 5,qQ 6,qQ 7,qQ 8],none,[],[9,10]⟩|17=>⟨[],some 999999,[],[]⟩|22=>⟨[qQ 0,qQ 1,qQ 2,qQ 3,qQ 4,qQ 5,qQ 6,qQ 7,qQ 8],none,[],[9,10]⟩|23=>⟨[],some 999999,[],[]⟩|_=>default
def T6:Nat→Nat:=lv [7,135,391,16775,391,4294967687,391,137438953863,64,2199023255943,64,391,2305843009213694343,903,36893488147419104135,903,302231454903657293677447,903,316912650057057350374175801735,1415,10141204801825835211973625644423,1415,83076749736557242056487941267522951,1415,64]
theorem Y6:Fk 131 Tryz.f131 P0:=ao Tryz.func131
theorem Y5:Fk 132 Tryz.f132 P8:=ao Tryz.func132
def PY:Nat→aw:=fun n=>match n with|1=>⟨[qQ 0,qQ 1,qQ 2,qQ 3,qQ 4,qQ 5,qQ 6,qQ 7,qQ 8,qQ 9,qQ 10,qQ 11,qQ 12,lL 13,qQ 14,lL 15],none,[],[]⟩|3=>⟨[qQ 0,qQ 1,qQ 2,qQ 3,qQ 4,qQ 5,qQ 6,qQ 7,qQ 8,qQ 9,qQ 10,qQ 11],none,[],[12,13,14]⟩|5=>⟨[qQ 0,qQ 1,qQ 2,qQ 3,qQ 4,qQ 5,qQ 6,qQ 7,qQ 8,qQ 9,qQ 10,qQ 11],none,[],[12,13]⟩|8=>⟨[qQ 0,qQ 1,qQ 2,qQ 3,qQ 4,qQ 5,qQ 6,qQ 7,qQ 8,qQ 9,qQ 10,qQ 11,qQ 12,lL 13,qQ 14,lL 15],none,[],[]⟩|_=>default
def T4:Nat→Nat:=lv [15,7,1539,8796093023747,1539,576460752303425027,1539,18446744073709553155,1539,1539,1539,256]
theorem Y4:Fk 133 Tryz.f133 PY:=ao Tryz.func133
def PX:Nat→aw:=fun n=>match n with|1=>⟨[qQ 0,qQ 1,qQ 2,qQ 3,qQ 4,qQ 5,qQ 6,qQ 7,qQ 8,qQ 9,qQ 10,qQ 11,qQ 12,lL 13,qQ 14,lL 15],none,[],[]⟩|3=>⟨[qQ 0,qQ 1,qQ 2,qQ 3,qQ 4,qQ 5,qQ 6,qQ 7,qQ 8,qQ 9,qQ 10,qQ 11],none,[],[12,13]⟩|5=>⟨[qQ 0,qQ 1,qQ 2,qQ 3,qQ 4,qQ 5,qQ 6,qQ 7,qQ 8,qQ 9,qQ 10,qQ 11],none,[],[12,13,14]⟩|8=>⟨[qQ 0,qQ 1,qQ 2,qQ 3,qQ 4,qQ 5,qQ 6,qQ 7,qQ 8,qQ 9,qQ 10,qQ 11,qQ 12,lL 13,qQ 14,lL 15],none,[],[]⟩|10=>⟨[qQ 0,qQ 1,qQ 2,qQ 3,qQ 4,qQ 5,qQ 6,qQ 7,qQ 8,qQ 9,qQ 10,qQ 11,qQ 12,lL 13,qQ 14,lL 15],none,[],[]⟩|13=>⟨[qQ 0,qQ 1,qQ 2,qQ 3,qQ 4,qQ 5,qQ 6,qQ 7,qQ 8,qQ 9,qQ 10,qQ 11],none,[],[12,13]⟩|15=>⟨[qQ 0,qQ 1,qQ 2,qQ 3,qQ 4,qQ 5,qQ 6,qQ 7,qQ 8,qQ 9,qQ 10,qQ 11],none,[],[12,13,14]⟩|18=>⟨[qQ 0,qQ 1,qQ 2,qQ 3,qQ 4,qQ 5,qQ 6,qQ 7,qQ 8,qQ 9,qQ 10,qQ 11,qQ 12,lL 13,qQ 14,lL 15],none,[],[]⟩|21=>⟨[qQ 0,qQ 1,qQ 2,qQ 3,qQ 4,qQ 5,qQ 6,qQ 7,qQ 8,qQ 9,qQ 10,qQ 11,qQ 12,lL 13,qQ 14,lL 15],none,[],[]⟩|_=>default
def T3:Nat→Nat:=lv [15,7,3075,8796093025283,3075,1152921504606850051,3075,36893488147419106307,2048,768,3075,3075,3075,5192296858534827628530496329223171,3075,680564733841876926926749214863536425987,3075,21778071482940061661655974875633165536259,3075,3075,3075,2048,768]
theorem Y3:Fk 134 Tryz.f134 PX:=ao Tryz.func134
def T2:Nat→Nat:=lv [5,21,1,5,261,5,5,16389,5,5,4]
theorem Y2:Fk 136 Tryz.f136 P8:=ao Tryz.func136
def Af:Nat→aw:=fun n=>match n with|9=>⟨[qQ 0,qQ 1,qQ 2,qQ 3,qQ 4,qQ 5,qQ 6,lL 7,qQ 8,lL 9,qQ 10],none,[1],[11]⟩|_=>default
def uh:Nat→Nat:=lv [271,783,525071,256,1295,3343,7439,68719484175,7439,7439,256]
theorem Y1:Fk 137 Tryz.f137 Af:=ao Tryz.func137
theorem Y0:Fk 138 Tryz.f138 P8:=ao Tryz.func138
def Ls:Nat→Nat:=lv [28,16]
theorem YZ:Fk 139 Tryz.f139 P8:=ao Tryz.func139
theorem YY:Fk 140 Tryz.f140 P8:=ao Tryz.func140
def Lq:Nat→Nat:=lv [7,32]
theorem YX:Fk 141 Tryz.f141 P8:=ao Tryz.func141
theorem YW:Fk 142 Tryz.f142 P8:=ao Tryz.func142
def yu:Nat→Nat:=lv [3,35,547,35,131107,16,16]
theorem YV:Fk 143 Tryz.f143 P8:=ao Tryz.func143
theorem YU:Fk 144 Tryz.f144 P8:=ao Tryz.func144
theorem YT:Fk 145 Tryz.f145 P8:=ao Tryz.func145
theorem YS:Fk 146 Tryz.f146 P8:=ao Tryz.func146
def En:Nat→Nat:=lv [2,10,8,4]
theorem YR:Fk 147 Tryz.f147 P8:=ao Tryz.func147
theorem YQ:Fk 148 Tryz.f148 P8:=ao Tryz.func148
theorem YP:Fk 149 Tryz.f149 P8:=ao Tryz.func149
theorem YO:Fk 150 Tryz.f150 P8:=ao Tryz.func150
def ug:Nat→Nat:=lv [2,10,26,538,26,26,4]
theorem YN:Fk 151 Tryz.f151 P8:=ao Tryz.func151
theorem YM:Fk 152 Tryz.f152 P8:=ao Tryz.func152
def dH:Nat→Nat:=lv [2,10,67108874,4,268435466,4,805306378,805306378,4,17448304650,4,281475245146122,4611686018427387914,4,26,36893488147419103258,26,18889465931478580854810,4,37778931862957430145034,302231454903657293676554,4,604462909807314855788554,4835703278458516698824714,4,9671406556917033397649418,19807040628566084398385987594,4,42,158456325028528675187087900714,42,81129638414606681695789005144106,4,4]
theorem YL:Fk 153 Tryz.f153 P8:=ao Tryz.func153
theorem YK:Fk 154 Tryz.f154 P8:=ao Tryz.func154
theorem YJ:Fk 155 Tryz.f155 P8:=ao Tryz.func155
def akC:Nat→Nat:=lv [1,8,4,4]
theorem amf:Fk 159 Tryz.f159 P8:=ao Tryz.func159
theorem ame:Fk 160 Tryz.f160 P8:=ao Tryz.func160
def akA:Nat→Nat:=lv [9,521,1545,0,66057,9,25,16777241,25,57,68719476761,25,25,0,140737488355337,9,31525197391593473,67553994410557441,31525197391593665,1184446701998440577,31525197391593601,31525197391593473,31525197391593473,0]
theorem amd:Fk 161 Tryz.f161 P8:=ao Tryz.func161
def ajq:Nat→aw:=fun n=>match n with|0=>⟨[],some 999999,[],[]⟩|_=>default
def akz:Nat→Nat:=lv [17,17,0]
theorem amc:Fk 162 Tryz.f162 ajq:=ao Tryz.func162
def oz:Nat→Nat:=lv [1,9,456,968,488,16872,4,456,4]
theorem YI:Fk 163 Tryz.f163 P8:=ao Tryz.func163
def Ln:Nat→Nat:=lv [3,35,99,2115,4096,16,16,8195,16,65539,16,524288,16,16]
theorem YH:Fk 164 Tryz.f164 P8:=ao Tryz.func164
theorem YG:Fk 165 Tryz.f165 P8:=ao Tryz.func165
theorem YF:Fk 166 Tryz.f166 P8:=ao Tryz.func166
def PL:Nat→aw:=fun n=>match n with|3=>⟨[qQ 0,qQ 1,qQ 2,qQ 3,qQ 4,qQ 5,qQ 6,qQ 7,qQ 8,qQ 9,qQ 10,qQ 11,qQ 12,qQ 13,qQ 14,qQ 15,qQ 16,qQ 17],none,[],[18,19]⟩|5=>⟨[qQ 0,qQ 1,qQ 2,qQ 3,qQ 4,qQ 5,qQ 6,qQ 7,qQ 8,qQ 9,qQ 10,qQ 11],none,[],[12,13]⟩|6=>⟨[],some 999999,[],[]⟩|_=>default
def TT:Nat→Nat:=lv [269,781,66317,68719477517,781,4503599627371277,525,269]
theorem YE:Fk 167 Tryz.f167 PL:=ao Tryz.func167
def TS:Nat→Nat:=lv [7,64]
theorem YD:Fk 170 Tryz.f170 P8:=ao Tryz.func170
def TR:Nat→Nat:=lv [31,31,23,4,1024]
theorem YC:Fk 171 Tryz.f171 P8:=ao Tryz.func171
theorem YB:Fk 172 Tryz.f172 P8:=ao Tryz.func172
def qa:Nat→aw:=fun n=>match n with|5=>⟨[qQ 0,qQ 1,lL 2,qQ 3,qQ 4],none,[],[5,6]⟩|_=>default
def oy:Nat→Nat:=lv [271,783,4879,256,8389391,256,4294967567,256,256]
theorem YA:Fk 173 Tryz.f173 qa:=ao Tryz.func173
theorem Yz:Fk 174 Tryz.f174 P8:=ao Tryz.func174
def yt:Nat→Nat:=lv [2,10,904,1928,936,904,904,4]
theorem Yy:Fk 175 Tryz.f175 P8:=ao Tryz.func175
theorem Yx:Fk 176 Tryz.f176 P8:=ao Tryz.func176
theorem Yw:Fk 177 Tryz.f177 P8:=ao Tryz.func177
def vL:Nat→aw:=fun n=>match n with|6=>⟨[qQ 0,qQ 1,qQ 2,qQ 3,qQ 6,lL 4,qQ 5],none,[],[7]⟩|_=>default
def rf:Nat→Nat:=lv [14,65550,14,117440526,251658254,117440718,117440526,117440526]
theorem Yv:Fk 178 Tryz.f178 vL:=ao Tryz.func178
theorem Yu:Fk 179 Tryz.f179 P8:=ao Tryz.func179
theorem Yt:Fk 180 Tryz.f180 P8:=ao Tryz.func180
def uc:Nat→Nat:=lv [2,1026,4,10,32778,10,16777226,4,4]
theorem Ys:Fk 181 Tryz.f181 P8:=ao Tryz.func181
def vK:Nat→aw:=fun n=>match n with|6=>⟨[qQ 0,qQ 1,qQ 2,qQ 3,qQ 4,qQ 5,qQ 6,qQ 7,qQ 10,lL 8,qQ 9],none,[],[11,12]⟩|_=>default
def ow:Nat→Nat:=lv [14,65550,14,142,134217870,142,142,64]
theorem Yr:Fk 182 Tryz.f182 vK:=ao Tryz.func182
def aky:Nat→Nat:=lv [6,262,774,16,4294967558,16,562949953421318,144115188075855878,16,4035225266123964418,8646911284551352322,4035225266123964482,594331035624829616130,16,4035225266123964418,16,16]
theorem amb:Fk 187 Tryz.f187 P8:=ao Tryz.func187
def akx:Nat→Nat:=lv [3,3,0,16]
theorem ama:Fk 188 Tryz.f188 P8:=ao Tryz.func188
theorem Yq:Fk 190 Tryz.f190 P8:=ao Tryz.func190
def PG:Nat→aw:=fun n=>match n with|1=>⟨[qQ 0,qQ 1,qQ 2,qQ 3,qQ 4,qQ 5,qQ 6,qQ 7],none,[],[8]⟩|_=>default
def TO:Nat→Nat:=lv [15,262158,6,768,768]
theorem Yp:Fk 191 Tryz.f191 PG:=ao Tryz.func191
def Lh:Nat→Nat:=lv [2,1048578,4,4194306,12582914,12582914,4,1077936130,4,4503599631564802,4,288230376155906050,4,18446744073713745922,4,1208925819614629174706178,4,4]
theorem Yo:Fk 192 Tryz.f192 P8:=ao Tryz.func192
theorem Yn:Fk 193 Tryz.f193 P8:=ao Tryz.func193
theorem Ym:Fk 194 Tryz.f194 P8:=ao Tryz.func194
def yq:Nat→Nat:=lv [51,65555,0]
theorem Yl:Fk 195 Tryz.f195 P8:=ao Tryz.func195
def Lf:Nat→Nat:=lv [6,2048,16,16]
theorem Yk:Fk 196 Tryz.f196 P8:=ao Tryz.func196
theorem Yj:Fk 197 Tryz.f197 Gd:=ao Tryz.func197
theorem Yi:Fk 198 Tryz.f198 P8:=ao Tryz.func198
theorem al9:Fk 201 Tryz.f201 P8:=ao Tryz.func201
theorem Yh:Fk 202 Tryz.f202 P8:=ao Tryz.func202
theorem Yg:Fk 203 Tryz.f203 P8:=ao Tryz.func203
def Ab:Nat→aw:=fun n=>match n with|6=>⟨[qQ 0,qQ 1,qQ 2,qQ 3,lL 4,qQ 5],none,[],[6,7]⟩|_=>default
def re:Nat→Nat:=lv [6,32774,16,917510,1966086,917606,2148401158,16,917510,16]
theorem Yf:Fk 204 Tryz.f204 Ab:=ao Tryz.func204
def ov:Nat→Nat:=lv [3,387,899,419,65955,16,387,16]
theorem Ye:Fk 205 Tryz.f205 P8:=ao Tryz.func205
def TN:Nat→Nat:=lv [3,67,451,33219,963,134218691,451,451,48]
theorem Yd:Fk 206 Tryz.f206 P8:=ao Tryz.func206
theorem Yc:Fk 208 Tryz.f208 P8:=ao Tryz.func208
theorem Yb:Fk 209 Tryz.f209 P8:=ao Tryz.func209
theorem Ya:Fk 210 Tryz.f210 P8:=ao Tryz.func210
theorem X9:Fk 211 Tryz.f211 P8:=ao Tryz.func211
noncomputable def JE:aT:=(.node (.node (.node (.node (.node (.node (.node (.node .nil 5 Tryz.f5 al1 alq .nil) 9 Tryz.f9 Tw CV .nil) 10 Tryz.f10 P8 QH (.node (.node .nil 11 Tryz.f11 KU dP .nil) 12 Tryz.f12 P8 XV .nil)) 13 Tryz.f13 P8 QG (.node (.node (.node .nil 14 Tryz.f14 P8 QG .nil) 17 Tryz.f17 VL XU .nil) 18 Tryz.f18 ahu agz (.node .nil 19 Tryz.f19 P8 ajH .nil))) 20 Tryz.f20 Ac jk (.node (.node (.node (.node .nil 28 Tryz.f28 P8 QE .nil) 29 Tryz.f29 P8 QD .nil) 32 Tryz.f32 PB QC (.node (.node .nil 33 Tryz.f33 tP ou .nil) 34 Tryz.f34 fU eG .nil)) 35 Tryz.f35 PA QB (.node (.node (.node .nil 36 Tryz.f36 P8 El .nil) 37 Tryz.f37 KS eW .nil) 38 Tryz.f38 P8 aeM (.node .nil 39 Tryz.f39 zY ka .nil)))) 40 Tryz.f40 P8 QA (.node (.node (.node (.node (.node .nil 41 Tryz.f41 P8 XT .nil) 42 Tryz.f42 P8 QH .nil) 43 Tryz.f43 VI XR (.node (.node .nil 44 Tryz.f44 VH QH .nil) 45 Tryz.f45 P8 QH .nil)) 46 Tryz.f46 ah5 abU (.node (.node (.node .nil 47 Tryz.f47 P8 ajF .nil) 48 Tryz.f48 P8 ag9 .nil) 49 Tryz.f49 P8 ajE (.node .nil 50 Tryz.f50 P8 ag9 .nil))) 51 Tryz.f51 P8 ajE (.node (.node (.node (.node .nil 52 Tryz.f52 P8 ag9 .nil) 53 Tryz.f53 ah1 ag6 .nil) 54 Tryz.f54 ah0 ag5 (.node .nil 58 Tryz.f58 P8 Jm .nil)) 59 Tryz.f59 P8 XO (.node (.node (.node .nil 60 Tryz.f60 Py Qz .nil) 61 Tryz.f61 Gd Az .nil) 62 Tryz.f62 P8 Qw (.node .nil 63 Tryz.f63 P8 Qv .nil))))) 64 Tryz.f64 P8 Qu (.node (.node (.node (.node (.node (.node .nil 65 Tryz.f65 VF XV .nil) 66 Tryz.f66 CO Ay .nil) 67 Tryz.f67 P8 Ax (.node (.node .nil 68 Tryz.f68 KQ sQ .nil) 69 Tryz.f69 P8 Qt .nil)) 70 Tryz.f70 cF bu (.node (.node (.node .nil 71 Tryz.f71 P8 jZ .nil) 72 Tryz.f72 P8 XM .nil) 73 Tryz.f73 P8 QH (.node .nil 74 Tryz.f74 VC XK .nil))) 75 Tryz.f75 P8 aem (.node (.node (.node (.node .nil 76 Tryz.f76 P8 agy .nil) 77 Tryz.f77 P8 XJ .nil) 78 Tryz.f78 P8 ahM (.node (.node .nil 79 Tryz.f79 P8 ag4 .nil) 80 Tryz.f80 P8 aeI .nil)) 81 Tryz.f81 P8 agx (.node (.node (.node .nil 82 Tryz.f82 P8 ajE .nil) 83 Tryz.f83 P8 ajH .nil) 84 Tryz.f84 ahX ag3 (.node .nil 85 Tryz.f85 P8 ajE .nil)))) 86 Tryz.f86 P8 ajE (.node (.node (.node (.node (.node .nil 87 Tryz.f87 KO Jl .nil) 88 Tryz.f88 P8 ajE .nil) 92 Tryz.f92 VA XI (.node (.node .nil 93 Tryz.f93 P8 XH .nil) 94 Tryz.f94 gd eF .nil)) 95 Tryz.f95 P8 Qv (.node (.node (.node .nil 96 Tryz.f96 P8 Qu .nil) 97 Tryz.f97 P8 sO .nil) 98 Tryz.f98 P8 sN (.node .nil 99 Tryz.f99 P8 QH .nil))) 100 Tryz.f100 P8 QG (.node (.node (.node (.node .nil 101 Tryz.f101 P8 QG .nil) 102 Tryz.f102 P8 ur .nil) 103 Tryz.f103 P8 QG (.node .nil 104 Tryz.f104 P8 Eo .nil)) 105 Tryz.f105 P8 Lx (.node (.node (.node .nil 106 Tryz.f106 P8 um .nil) 107 Tryz.f107 P8 Lw .nil) 108 Tryz.f108 P8 QG (.node .nil 109 Tryz.f109 P8 uj .nil)))))) 110 Tryz.f110 P8 QH (.node (.node (.node (.node (.node (.node (.node .nil 112 Tryz.f112 P8 Uc .nil) 114 Tryz.f114 P8 QH .nil) 115 Tryz.f115 P8 akG (.node (.node .nil 116 Tryz.f116 ajw akF .nil) 117 Tryz.f117 P8 aha .nil)) 118 Tryz.f118 P8 akE (.node (.node (.node .nil 119 Tryz.f119 Ed oA .nil) 120 Tryz.f120 P8 ajE .nil) 121 Tryz.f121 P8 ag9 (.node .nil 122 Tryz.f122 P8 ag9 .nil))) 123 Tryz.f123 qb ku (.node (.node (.node (.node .nil 124 Tryz.f124 afQ afr .nil) 126 Tryz.f126 P6 Ub .nil) 127 Tryz.f127 P5 Ua (.node (.node .nil 128 Tryz.f128 P5 T9 .nil) 129 Tryz.f129 P8 T8 .nil)) 130 Tryz.f130 P1 T7 (.node (.node (.node .nil 131 Tryz.f131 P0 T6 .nil) 132 Tryz.f132 P8 ajF .nil) 133 Tryz.f133 PY T4 (.node .nil 134 Tryz.f134 PX T3 .nil)))) 136 Tryz.f136 P8 T2 (.node (.node (.node (.node (.node .nil 137 Tryz.f137 Af uh .nil) 138 Tryz.f138 P8 Qv .nil) 139 Tryz.f139 P8 Ls (.node (.node .nil 140 Tryz.f140 P8 Eo .nil) 141 Tryz.f141 P8 Lq .nil)) 142 Tryz.f142 P8 QH (.node (.node (.node .nil 143 Tryz.f143 P8 yu .nil) 144 Tryz.f144 P8 QH .nil) 145 Tryz.f145 P8 QH (.node .nil 146 Tryz.f146 P8 Lw .nil))) 147 Tryz.f147 P8 En (.node (.node (.node (.node .nil 148 Tryz.f148 P8 QH .nil) 149 Tryz.f149 P8 QH .nil) 150 Tryz.f150 P8 QH (.node .nil 151 Tryz.f151 P8 ug .nil)) 152 Tryz.f152 P8 ug (.node (.node (.node .nil 153 Tryz.f153 P8 dH .nil) 154 Tryz.f154 P8 QG .nil) 155 Tryz.f155 P8 ahM (.node .nil 159 Tryz.f159 P8 akC .nil))))) 160 Tryz.f160 P8 QG (.node (.node (.node (.node (.node (.node .nil 161 Tryz.f161 P8 akA .nil) 162 Tryz.f162 ajq akz .nil) 163 Tryz.f163 P8 oz (.node (.node .nil 164 Tryz.f164 P8 Ln .nil) 165 Tryz.f165 P8 Ln .nil)) 166 Tryz.f166 P8 akC (.node (.node (.node .nil 167 Tryz.f167 PL TT .nil) 170 Tryz.f170 P8 TS .nil) 171 Tryz.f171 P8 TR (.node .nil 172 Tryz.f172 P8 QH .nil))) 173 Tryz.f173 qa oy (.node (.node (.node (.node .nil 174 Tryz.f174 P8 QH .nil) 175 Tryz.f175 P8 yt .nil) 176 Tryz.f176 P8 yt (.node .nil 177 Tryz.f177 P8 QG .nil)) 178 Tryz.f178 vL rf (.node (.node (.node .nil 179 Tryz.f179 P8 QH .nil) 180 Tryz.f180 P8 QH .nil) 181 Tryz.f181 P8 uc (.node .nil 182 Tryz.f182 vK ow .nil)))) 187 Tryz.f187 P8 aky (.node (.node (.node (.node (.node .nil 188 Tryz.f188 P8 akx .nil) 190 Tryz.f190 P8 QH .nil) 191 Tryz.f191 PG TO (.node (.node .nil 192 Tryz.f192 P8 Lh .nil) 193 Tryz.f193 P8 ajF .nil)) 194 Tryz.f194 P8 QG (.node (.node (.node .nil 195 Tryz.f195 P8 yq .nil) 196 Tryz.f196 P8 Lf .nil) 197 Tryz.f197 Gd Az (.node .nil 198 Tryz.f198 P8 Lf .nil))) 201 Tryz.f201 P8 QH (.node (.node (.node (.node .nil 202 Tryz.f202 P8 ajF .nil) 203 Tryz.f203 P8 QG .nil) 204 Tryz.f204 Ab re (.node .nil 205 Tryz.f205 P8 ov .nil)) 206 Tryz.f206 P8 TN (.node (.node (.node .nil 208 Tryz.f208 P8 ov .nil) 209 Tryz.f209 P8 QG .nil) 210 Tryz.f210 P8 QG (.node .nil 211 Tryz.f211 P8 QH .nil)))))))
theorem uD:Z9 Tryz.prog bV bi JE.find:=aT.ok (aT.ag (aT.ag (aT.ag (aT.ag (aT.ag (aT.ag (aT.ag (aT.ag aT.all_nil apa aT.all_nil) ae2 aT.all_nil) adp (aT.ag (aT.ag aT.all_nil ado aT.all_nil) adn aT.all_nil)) adm (aT.ag (aT.ag (aT.ag aT.all_nil adl aT.all_nil) adk aT.all_nil) an3 (aT.ag aT.all_nil an2 aT.all_nil))) adj (aT.ag (aT.ag (aT.ag (aT.ag aT.all_nil adi aT.all_nil) adh aT.all_nil) adg (aT.ag (aT.ag aT.all_nil adf aT.all_nil) ade aT.all_nil)) adb (aT.ag (aT.ag (aT.ag aT.all_nil ada aT.all_nil) ac9 aT.all_nil) ac8 (aT.ag aT.all_nil ac7 aT.all_nil)))) ac6 (aT.ag (aT.ag (aT.ag (aT.ag (aT.ag aT.all_nil ac5 aT.all_nil) ac4 aT.all_nil) ac3 (aT.ag (aT.ag aT.all_nil ac2 aT.all_nil) an1 aT.all_nil)) an0 (aT.ag (aT.ag (aT.ag aT.all_nil anZ aT.all_nil) anY aT.all_nil) anX (aT.ag aT.all_nil anW aT.all_nil))) anV (aT.ag (aT.ag (aT.ag (aT.ag aT.all_nil anU aT.all_nil) anT aT.all_nil) anS (aT.ag aT.all_nil ac1 aT.all_nil)) ac0 (aT.ag (aT.ag (aT.ag aT.all_nil acZ aT.all_nil) acY aT.all_nil) acX (aT.ag aT.all_nil acW aT.all_nil))))) acV (aT.ag (aT.ag (aT.ag (aT.ag (aT.ag (aT.ag aT.all_nil acU aT.all_nil) acT aT.all_nil) acS (aT.ag (aT.ag aT.all_nil acR aT.all_nil) acQ aT.all_nil)) acP (aT.ag (aT.ag (aT.ag aT.all_nil acO aT.all_nil) acN aT.all_nil) acM (aT.ag aT.all_nil acL aT.all_nil))) anR (aT.ag (aT.ag (aT.ag (aT.ag aT.all_nil anQ aT.all_nil) acK aT.all_nil) anP (aT.ag (aT.ag aT.all_nil anO aT.all_nil) anN aT.all_nil)) anM (aT.ag (aT.ag (aT.ag aT.all_nil acJ aT.all_nil) anL aT.all_nil) anK (aT.ag aT.all_nil anJ aT.all_nil)))) acI (aT.ag (aT.ag (aT.ag (aT.ag (aT.ag aT.all_nil acH aT.all_nil) anI aT.all_nil) acG (aT.ag (aT.ag aT.all_nil acF aT.all_nil) acE aT.all_nil)) acD (aT.ag (aT.ag (aT.ag aT.all_nil acC aT.all_nil) acB aT.all_nil) acA (aT.ag aT.all_nil acz aT.all_nil))) Zp (aT.ag (aT.ag (aT.ag (aT.ag aT.all_nil Zo aT.all_nil) Zn aT.all_nil) Zm (aT.ag aT.all_nil Zl aT.all_nil)) Zk (aT.ag (aT.ag (aT.ag aT.all_nil Zj aT.all_nil) Zi aT.all_nil) Zh (aT.ag aT.all_nil Zg aT.all_nil)))))) Zf (aT.ag (aT.ag (aT.ag (aT.ag (aT.ag (aT.ag (aT.ag aT.all_nil Ze aT.all_nil) amo aT.all_nil) amn (aT.ag (aT.ag aT.all_nil amm aT.all_nil) aml aT.all_nil)) amk (aT.ag (aT.ag (aT.ag aT.all_nil Zd aT.all_nil) amj aT.all_nil) ami (aT.ag aT.all_nil amh aT.all_nil))) Zc (aT.ag (aT.ag (aT.ag (aT.ag aT.all_nil amg aT.all_nil) Zb aT.all_nil) Za (aT.ag (aT.ag aT.all_nil Y9 aT.all_nil) Y8 aT.all_nil)) Y7 (aT.ag (aT.ag (aT.ag aT.all_nil Y6 aT.all_nil) Y5 aT.all_nil) Y4 (aT.ag aT.all_nil Y3 aT.all_nil)))) Y2 (aT.ag (aT.ag (aT.ag (aT.ag (aT.ag aT.all_nil Y1 aT.all_nil) Y0 aT.all_nil) YZ (aT.ag (aT.ag aT.all_nil YY aT.all_nil) YX aT.all_nil)) YW (aT.ag (aT.ag (aT.ag aT.all_nil YV aT.all_nil) YU aT.all_nil) YT (aT.ag aT.all_nil YS aT.all_nil))) YR (aT.ag (aT.ag (aT.ag (aT.ag aT.all_nil YQ aT.all_nil) YP aT.all_nil) YO (aT.ag aT.all_nil YN aT.all_nil)) YM (aT.ag (aT.ag (aT.ag aT.all_nil YL aT.all_nil) YK aT.all_nil) YJ (aT.ag aT.all_nil amf aT.all_nil))))) ame (aT.ag (aT.ag (aT.ag (aT.ag (aT.ag (aT.ag aT.all_nil amd aT.all_nil) amc aT.all_nil) YI (aT.ag (aT.ag aT.all_nil YH aT.all_nil) YG aT.all_nil)) YF (aT.ag (aT.ag (aT.ag aT.all_nil YE aT.all_nil) YD aT.all_nil) YC (aT.ag aT.all_nil YB aT.all_nil))) YA (aT.ag (aT.ag (aT.ag (aT.ag aT.all_nil Yz aT.all_nil) Yy aT.all_nil) Yx (aT.ag aT.all_nil Yw aT.all_nil)) Yv (aT.ag (aT.ag (aT.ag aT.all_nil Yu aT.all_nil) Yt aT.all_nil) Ys (aT.ag aT.all_nil Yr aT.all_nil)))) amb (aT.ag (aT.ag (aT.ag (aT.ag (aT.ag aT.all_nil ama aT.all_nil) Yq aT.all_nil) Yp (aT.ag (aT.ag aT.all_nil Yo aT.all_nil) Yn aT.all_nil)) Ym (aT.ag (aT.ag (aT.ag aT.all_nil Yl aT.all_nil) Yk aT.all_nil) Yj (aT.ag aT.all_nil Yi aT.all_nil))) al9 (aT.ag (aT.ag (aT.ag (aT.ag aT.all_nil Yh aT.all_nil) Yg aT.all_nil) Yf (aT.ag aT.all_nil Ye aT.all_nil)) Yd (aT.ag (aT.ag (aT.ag aT.all_nil Yc aT.all_nil) Yb aT.all_nil) Ya (aT.ag aT.all_nil X9 aT.all_nil)))))))
end Go.Proofs.YtmpmgmmcaghacaaGreatDoor
namespace Go.Proofs
open Go.Shelf
def Tryz.qm:Go.Shelf.Ren:=⟨fun|169=>44|n=>n,fun|70=>74|9=>9|0=>0|72=>77|37=>75|127=>122|3=>3|5=>5|n=>n,fun|n=>n⟩
theorem Tryz.Ug:Go.Proofs.Lays.n169 Tryz.prog Tryz.qm:={
 mixed:=by kernel_rfl
 f169:=Tryz.func44.trans (congrArg some (by kernel_rfl))
 t0:=Tryz.underlying0
 a0:=Tryz.isAgg0
 z0:=Tryz.sizeOf0
 v0:=Tryz.zeroValue0
 t3:=Tryz.underlying3
 a3:=Tryz.isAgg3
 z3:=Tryz.sizeOf3
 v3:=Tryz.zeroValue3
 t9:=Tryz.underlying9
 a9:=Tryz.isAgg9
 z9:=Tryz.sizeOf9
 v9:=Tryz.zeroValue9
 t37:=Tryz.underlying75
 a37:=Tryz.isAgg75
 z37:=Tryz.sizeOf75
 v37:=Tryz.zeroValue75
 t70:=Tryz.underlying74
 a70:=Tryz.isAgg74
 z70:=Tryz.sizeOf74
 v70:=Tryz.zeroValue74
 t72:=Tryz.underlying77
 a72:=Tryz.isAgg77
 z72:=Tryz.sizeOf77
 v72:=Tryz.zeroValue77
 t127:=Tryz.underlying122
 a127:=Tryz.isAgg122
 z127:=Tryz.sizeOf122
 v127:=Tryz.zeroValue122 }
theorem Tryz.vj:Builder.Extra Tryz.prog Tryz.qm:={
 sizeBuilder:=by kernel_rfl
 liesBuilder:=by kernel_rfl
 t5:=Tryz.underlying5
 a5:=Tryz.isAgg5
 z5:=Tryz.sizeOf5
 v5:=Tryz.zeroValue5
 infoByte:=by kernel_rfl
 cellsByte:=by kernel_rfl
 sizeByte:=by kernel_rfl
 neB5:=by decide }
def Tryz.jM:Go.Shelf.Ren:=⟨fun|156=>77|165=>116|166=>41|169=>44|240=>72|241=>162|276=>111|277=>189|n=>n,fun|31=>70|9=>9|3=>3|4=>4|0=>0|20=>20|72=>77|76=>80|70=>74|37=>75|75=>79|127=>122|164=>151|5=>5|80=>84|n=>n,fun|n=>n⟩
theorem Tryz.bZ:Go.Proofs.Lays.n156 Tryz.prog Tryz.jM:={
 mixed:=by kernel_rfl
 f156:=Tryz.func77.trans (congrArg some (by kernel_rfl))
 f165:=Tryz.func116.trans (congrArg some (by kernel_rfl))
 f166:=Tryz.func41.trans (congrArg some (by kernel_rfl))
 f169:=Tryz.func44.trans (congrArg some (by kernel_rfl))
 f240:=Tryz.func72.trans (congrArg some (by kernel_rfl))
 f241:=Tryz.func162.trans (congrArg some (by kernel_rfl))
 f276:=Tryz.func111.trans (congrArg some (by kernel_rfl))
 f277:=Tryz.func189.trans (congrArg some (by kernel_rfl))
 t0:=Tryz.underlying0
 a0:=Tryz.isAgg0
 z0:=Tryz.sizeOf0
 v0:=Tryz.zeroValue0
 t3:=Tryz.underlying3
 a3:=Tryz.isAgg3
 z3:=Tryz.sizeOf3
 v3:=Tryz.zeroValue3
 t4:=Tryz.underlying4
 a4:=Tryz.isAgg4
 z4:=Tryz.sizeOf4
 v4:=Tryz.zeroValue4
 t9:=Tryz.underlying9
 a9:=Tryz.isAgg9
 z9:=Tryz.sizeOf9
 v9:=Tryz.zeroValue9
 t20:=Tryz.underlying20
 a20:=Tryz.isAgg20
 z20:=Tryz.sizeOf20
 v20:=Tryz.zeroValue20
 t31:=Tryz.underlying70
 a31:=Tryz.isAgg70
 z31:=Tryz.sizeOf70
 v31:=Tryz.zeroValue70
 t37:=Tryz.underlying75
 a37:=Tryz.isAgg75
 z37:=Tryz.sizeOf75
 v37:=Tryz.zeroValue75
 t70:=Tryz.underlying74
 a70:=Tryz.isAgg74
 z70:=Tryz.sizeOf74
 v70:=Tryz.zeroValue74
 t72:=Tryz.underlying77
 a72:=Tryz.isAgg77
 z72:=Tryz.sizeOf77
 v72:=Tryz.zeroValue77
 t75:=Tryz.underlying79
 a75:=Tryz.isAgg79
 z75:=Tryz.sizeOf79
 v75:=Tryz.zeroValue79
 t76:=Tryz.underlying80
 a76:=Tryz.isAgg80
 z76:=Tryz.sizeOf80
 v76:=Tryz.zeroValue80
 t127:=Tryz.underlying122
 a127:=Tryz.isAgg122
 z127:=Tryz.sizeOf122
 v127:=Tryz.zeroValue122
 t164:=Tryz.underlying151
 a164:=Tryz.isAgg151
 z164:=Tryz.sizeOf151
 v164:=Tryz.zeroValue151 }
theorem Tryz.my:Builder.Extra Tryz.prog Tryz.jM:={
 sizeBuilder:=by kernel_rfl
 liesBuilder:=by kernel_rfl
 t5:=Tryz.underlying5
 a5:=Tryz.isAgg5
 z5:=Tryz.sizeOf5
 v5:=Tryz.zeroValue5
 infoByte:=by kernel_rfl
 cellsByte:=by kernel_rfl
 sizeByte:=by kernel_rfl
 neB5:=by decide }
end Go.Proofs
namespace Go.Tp
open Go.Proofs Go.Shelf Go.RowKit Go.Maps
section
theorem FG {N:Name->Option Nat} {a b:Nat} (d:∀o b,N (.out o)=some b->o < a):∀m c,N m=some c->bX N (.out a) b m=some c:=by grind[bX]
theorem Gb {N a:Name->Option Nat} (h:∀m c,N m=some c->a m=some c):∀m c,outs N m=some c->outs a m=some c:=fun m c b=>by
 cases m <;> grind[outs]
end
end Go.Tp
namespace Go.Tp
open Go.Proofs Go.Shelf Go.RowKit
section
def RC (c:List ac) (a:Heap) (b:Nat):Option eX:=
 match c with
 | [.ptr (.out k) 0]=>(match qJ (.out k) a with
  | some (.cells [.dat (.flat (.pointer none)),q])=>(match E2 q with|true=>some ⟨.tup [],qG (.out k) (.cells [.ptr (.out k) 0,q]) a,b⟩|false=>none)
  | some (.cells [.ptr (.out m) 0,q])=>(match Nat.beq m k&&E2 q with|true=>some ⟨.tup [],a,b⟩|false=>none)
  | _=>none)
 | _=>none
variable {N:Name->Option Nat} {P:Program} {R:Own} {g n:Nat} {w:World} {ρ:Ren}
theorem rA {p q:ac} {b:Nat} {r:List Nat} (h:aI w R N (.cells [p,q]) b r) (n:yw p=true) (s:E2 q=true) :
  ∃c d e f,w.heap[b]?=some (.cells #[c,d] sj (0,0))/\r=e++f/\ai w R N p c e/\ai w R N q d f/\∀j,j < 2->R b j:=by
 obtain⟨v,l,C,m,t,z,k⟩:=h;obtain⟨rfl,rfl⟩:=k (gK.2 ⟨p,_,rfl,n,s⟩);obtain⟨c,A,e,x,E,rfl,o,g⟩:=au t;obtain⟨d,B,f,y,rfl,rfl,a,i⟩:=au g;obtain⟨rfl,rfl⟩:=aM i;have u:v=#[c,d]:=by grind
 grind
theorem KW {k:Nat} {a:List Value} {B:List Nat} (h:ah w R (outs N) [.ptr (.out k) 0] a B) :
  ∃b,N (.out k)=some b/\a=[.pointer (some ⟨b,0,none⟩)]/\B=[]:=by
 grind[au,aM,ai,outs]
theorem ZU {G:bA} (L:Lays.n240 P ρ) (X:Builder.X72 P ρ) (hT:ρ.t 72=sj) {A:List ac} {D:Heap} {t:Nat} {r:eX} (h:RC A D t=some r):ay P G (ρ.f 240) A D t (XQ r):=by
 unfold RC at h
 split at h
 rotate_left
 ·simp at h
 rename_i k;rw[jS] at h;intro w R N Y am H z I s M U ae hF;obtain⟨b,d,rfl,rfl⟩:=KW I
 split at h
 ·rename_i q u
  split at h
  rotate_left
  ·simp at h
  rename_i hq;simp only[Option.some.injEq] at h;subst h;obtain⟨x,f,b1,i,rfl,l,v,F⟩:=aj.split s u
  have:f=b:=by simp only[outs] at l;rw[d] at l;simpa using l.symm
  subst this;obtain⟨v0,S,c0,p,g,rfl,o,a,W⟩:=rA v rfl hq;obtain⟨rfl,rfl,_⟩:=aC o;have n:w.cell? ⟨f,0,none⟩=some (.pointer none):=by simp[World.cell?,g]
  have y:w.shape? f=some ((ρ.t 72),2):=by simp[World.shape?,g,hT]
  have ad:w.frozen? ⟨f,0,none⟩=false:=by simp[World.frozen?,g]
  refine (Any.Builder_copyCheck_fresh L X f w n y ad).mono ?_;rintro e w' ⟨rfl,rfl⟩;rw[setCell_eq_setRow w f 0 _ _ _ _ g];have E:=M;simp only[List.nil_append] at E;have K:∀c∈p++(x++(i++z)),c≠f:=by
   intro c C e;subst e;have hp:((x++(c::([]++p))++i)++z).Perm (c::(p++(x++(i++z)))):=by
    rw[List.perm_iff_count];intro q;simp only[List.count_append,List.count_cons,List.count_nil];omega
   exact (List.nodup_cons.1 (hp.nodup_iff.1 E)).1 C
  have hk:∀B:List Nat,f∉B->bp w R (w.setRow f ((#[Value.pointer none,S]).setIfInBounds 0 (.pointer (some ⟨f,0,none⟩)))) R B:=fun B Z=>
   jH g _ (by simp) (fun _ _ h=>h) (fun _ _ _ h=>h) (fun V al=>by
    have:¬V < 2:=fun af=>al (W V af)
    rw[Array.getElem?_eq_none (by simp;omega),Array.getElem?_eq_none (by simp;omega)]) ⟨0,W 0 (by omega)⟩ B Z
  have O:aI (w.setRow f ((#[Value.pointer none,S]).setIfInBounds 0 (.pointer (some ⟨f,0,none⟩)))) R (outs N) (.cells [.ptr (.out k) 0,q]) f ([]++p):=by
   refine⟨_,sj,0,setRow_heap w f _ _ _ _ g,?_,fun j hj=>W j (by simpa using hj),fun _=>⟨rfl,rfl⟩⟩;have q1:ai (w.setRow f ((#[Value.pointer none,S]).setIfInBounds 0 (.pointer (some ⟨f,0,none⟩)))) R (outs N) (.ptr (.out k) 0) (.pointer (some ⟨f,0,none⟩)) []:=by
    simp only[ai];exact⟨trivial,f,by simpa [outs] using d,rfl⟩
   have q2:ai (w.setRow f ((#[Value.pointer none,S]).setIfInBounds 0 (.pointer (some ⟨f,0,none⟩)))) R (outs N) q S p:=by
    exact a.keep (hk p (fun C=>K f (by simp[C]) rfl))
   simpa using aD q1 (aD q2 aP)
  have hH:=F _ R _ ([]++p) (hk (x++i) (fun C=>K f (by simp at C ⊢;rcases C with h|h <;> simp[h]) rfl)) O;refine⟨.tup [],.tuple #[],_,t,R,N,[],_,rfl,⟨rfl,rfl,rfl⟩,by simp[ai,ah],by rw[nI];exact hH,by simpa using M,U,hk z (fun C=>K f (by simp[C]) rfl),fun _ _ h=>h⟩
 ·rename_i m q u
  split at h
  ·rename_i T;simp only[Bool.and_eq_true] at T;obtain⟨hm,hq⟩:=T;simp only[Option.some.injEq] at h;subst h;have ag:m=k:=Nat.eq_of_beq_eq_true hm;subst ag;obtain⟨x,f,b1,i,rfl,l,v,F⟩:=aj.split s u
   have:f=b:=by simp only[outs] at l;rw[d] at l;simpa using l.symm
   subst this;obtain⟨v0,S,c0,p,g,rfl,o,a,W⟩:=rA v rfl hq;simp only[ai] at o;obtain⟨rfl,Q,J,rfl⟩:=o
   have:Q=f:=by simp only[outs] at J;rw[d] at J;simpa using J.symm
   subst this;have n:w.cell? ⟨Q,0,none⟩=some (.pointer (some ⟨Q,0,none⟩)):=by simp[World.cell?,g]
   refine (Any.Builder_copyCheck_used L X Q w n).mono ?_;rintro e w' ⟨rfl,rfl⟩;exact⟨.tup [],.tuple #[],_,t,R,N,[],_,rfl,⟨rfl,rfl,rfl⟩,by simp[ai,ah],s,by simpa using M,U,aZ _,fun _ _ h=>h⟩
  simp at h
 simp at h
def wB:List ak->Option (List UInt8)
 | []=>some []
 | .flat (.int .u8 (.ofNat n))::r=>(match wB r with|some l=>some (UInt8.ofNat n::l)|none=>none)
 | _=>none
def WB (c:List ac) (a:Heap) (b:Nat):Option eX:=
 match c with
 | [.ptr (.out k) 0]=>(match qJ (.out k) a with
  | some (.cells [p,.own (e::d)])=>(match yw p,wB (e::d) with
   | true,some l=>some ⟨.dat (.flat (.string ⟨⟨l⟩⟩)),qG (.out k) (.cells [p,.dat (.slice (e::d))]) a,b⟩
   | _,_=>none)
  | some (.cells [p,.dat (.flat (.slice none 0 0))])=>(match yw p with
   | true=>some ⟨.dat (.flat (.string .empty)),a,b⟩
   | false=>none)
  | _=>none)
 | _=>none
theorem xG:∀{c:List ak} {l:List UInt8},wB c=some l->l.length=c.length/\∀(j:Nat) x,l[j]?=some x->∃n:Nat,c[j]?=some (.flat (.int .u8 (.ofNat n)))/\x=UInt8.ofNat n
 | [],l,h=>by grind[wB]
 | d::r,l,h=>by
  unfold wB at h
  split at h
  ·grind
  ·rename_i n i e;obtain⟨rfl,rfl⟩:=e
   split at h
   ·rename_i g f;simp at h;subst h;obtain⟨a,b⟩:=xG f;grind
   grind
  grind
theorem SK (h:bJ (.int .u8 (ofNat n))=true):((UInt8.ofNat n).toNat:Int)=ofNat n:=by
 simp only[bJ,Bool.and_eq_true,decide_eq_true_eq] at h;have b:IntKind.u8.max=255:=by decide
 have:n < 256:=by grind
 simp[Nat.mod_eq_of_lt this]
set_option maxHeartbeats 2000000 in
set_option maxRecDepth 100000 in
theorem DI (L:Lays.n169 P ρ) (X:Builder.Extra P ρ) (T:TypeId) (b g cap:Nat) (p:Value) (cur:Array Value) (l:List UInt8) (w:World) (h0:l≠[]) (hbk:w.heap[b]?=some (.cells #[p,.slice (some ⟨g,0,none⟩) l.length cap] T (0,0)))
  (hg:w.heap[g]?=some (.cells cur (ρ.t 5) (0,0))) (hcap:l.length<=cap) (hlc:l.length<=cur.size) (hmax:l.length<=maxLen) (hby:∀(j:Nat) x,l[j]?=some x->w.cell? ⟨g,j,none⟩=some (.int .u8 x.toNat)) :
  Calls P (ρ.f 169) #[.pointer (some ⟨b,0,none⟩)] w fun e w'=>e=.returned (.string ⟨l.toArray⟩)/\w'=w.drew.freeze ⟨g,0,none⟩ l.length:=by
 have hl0:l.length≠0:=by simpa using h0
 have c1:w.drew.cell? ⟨b,1,none⟩=some (.slice (some ⟨g,0,none⟩) l.length cap):=by
  have:w.drew.heap[b]?=some (.cells #[p,.slice (some ⟨g,0,none⟩) l.length cap] T (0,0)):=hbk
  rw[Lib.cell_of_heap this];rfl
 have hSD:(Builtin.unsafeSliceData_ #[(ρ.t 37)] (ρ.t 127) #[.slice (some ⟨g,0,none⟩) l.length cap]).run P w.drew=.ok (.pointer (some ⟨g,0,none⟩)) w.drew:=
  Lib.run_unsafeSliceData_row _ _ _ _ _ _ (by omega)
 have hUS:(Builtin.unsafeString_ #[(ρ.t 127),(ρ.t 3)] (ρ.t 9) #[.pointer (some ⟨g,0,none⟩),.int .i64 l.length]).run P w.drew=.ok (.string ⟨l.toArray⟩) (w.drew.freeze ⟨g,0,none⟩ l.length):=by
  refine Lib.run_unsafeString_row w.drew (ρ.t 127) (ρ.t 3) (ρ.t 9) (ρ.t 5) L.t127 X.cellsByte g cur.size (by have hg':w.drew.heap[g]?=some (.cells cur (ρ.t 5) (0,0)):=hg;simp[World.shape?,hg']) l h0 (by omega) (by unfold maxLen at hmax;omega) ?_;intro j x hx;rw[add_plain,Nat.zero_add];exact hby j x hx
 have mixed:=L.mixed;have t72:=L.t72;have a72:=L.a72;have z72:=L.z72;have v72:=L.v72;have u72:=run_underlying L.t72;have t70:=L.t70;have a70:=L.a70;have z70:=L.z70;have v70:=L.v70;have u70:=run_underlying L.t70;have t37:=L.t37;have a37:=L.a37;have z37:=L.z37;have v37:=L.v37;have u37:=run_underlying L.t37;have t127:=L.t127;have a127:=L.a127;have z127:=L.z127;have v127:=L.v127;have u127:=run_underlying L.t127;have t3:=L.t3;have a3:=L.a3;have z3:=L.z3;have v3:=L.v3;have u3:=run_underlying L.t3;have t9:=L.t9;have a9:=L.a9;have z9:=L.z9;have v9:=L.v9;have u9:=run_underlying L.t9;have t5:=X.t5;have a5:=X.a5;have z5:=X.z5;have v5:=X.v5;have u5:=run_underlying X.t5
 go_enter L.f169,Body.n169_ntmps ρ
 go_wp2
 go_region_o
 all_goals (go_wp2;go_ret;exact⟨rfl,rfl⟩)
set_option maxHeartbeats 2000000 in
set_option maxRecDepth 100000 in
theorem H4 (L:Lays.n169 P ρ) (X:Builder.Extra P ρ) (T:TypeId) (b:Nat) (p:Value) (w:World) (hbk:w.heap[b]?=some (.cells #[p,.slice none 0 0] T (0,0))) :
  Calls P (ρ.f 169) #[.pointer (some ⟨b,0,none⟩)] w fun e w'=>e=.returned (.string .empty)/\w'=w.drew:=by
 have c1:w.drew.cell? ⟨b,1,none⟩=some (.slice none 0 0):=by
  have:w.drew.heap[b]?=some (.cells #[p,.slice none 0 0] T (0,0)):=hbk
  rw[Lib.cell_of_heap this];rfl
 have hSD:(Builtin.unsafeSliceData_ #[(ρ.t 37)] (ρ.t 127) #[.slice none 0 0]).run P w.drew=.ok (.pointer none) w.drew:=rfl;have hUS:(Builtin.unsafeString_ #[(ρ.t 127),(ρ.t 3)] (ρ.t 9) #[.pointer none,.int .i64 0]).run P w.drew=.ok (.string .empty) w.drew:=
  Lib.run_unsafeString_none (w:=w.drew) (ρ.t 127) (ρ.t 3) (ρ.t 9) none
 have mixed:=L.mixed;have t72:=L.t72;have a72:=L.a72;have z72:=L.z72;have v72:=L.v72;have u72:=run_underlying L.t72;have t70:=L.t70;have a70:=L.a70;have z70:=L.z70;have v70:=L.v70;have u70:=run_underlying L.t70;have t37:=L.t37;have a37:=L.a37;have z37:=L.z37;have v37:=L.v37;have u37:=run_underlying L.t37;have t127:=L.t127;have a127:=L.a127;have z127:=L.z127;have v127:=L.v127;have u127:=run_underlying L.t127;have t3:=L.t3;have a3:=L.a3;have z3:=L.z3;have v3:=L.v3;have u3:=run_underlying L.t3;have t9:=L.t9;have a9:=L.a9;have z9:=L.z9;have v9:=L.v9;have u9:=run_underlying L.t9;have t5:=X.t5;have a5:=X.a5;have z5:=X.z5;have v5:=X.v5;have u5:=run_underlying X.t5
 go_enter L.f169,Body.n169_ntmps ρ
 go_wp2
 go_region_o
 all_goals (go_wp2;go_ret;exact⟨rfl,rfl⟩)
theorem mg {c:Nat} (h:c≠g):(w.freeze ⟨g,0,none⟩ n).heap[c]?=w.heap[c]?:=by
 unfold World.freeze
 grind
theorem wi {c:Array Value} {t:TypeId} (h:w.heap[g]?=some (.cells c t (0,0))):∃a,(w.freeze ⟨g,0,none⟩ n).heap[g]?=some (.cells c t a):=by
 unfold World.freeze
 grind
theorem Js (B:List Nat):bp w R w.drew R B:=
 ⟨⟨rfl,rfl,rfl,Nat.le_refl _,fun _ _ h=>⟨rfl,h⟩,fun _ _ _ h=>⟨h,rfl⟩,fun _ _=>rfl⟩,fun _ _ _=>⟨rfl,fun _ h=>h⟩⟩
theorem GY:(w.freeze ⟨g,0,none⟩ n).heap.size=w.heap.size:=by
 unfold World.freeze
 grind
theorem GZ:(w.freeze ⟨g,0,none⟩ n).os=w.os/\(w.freeze ⟨g,0,none⟩ n).tape=w.tape/\(w.freeze ⟨g,0,none⟩ n).output=w.output:=by
 unfold World.freeze
 grind
theorem GA {k:Array Value} {t:TypeId} (J:w.heap[g]?=some (.cells k t (0,0))) (o:∃b,R g b) (B:List Nat) (d:g∉B):bp w R (w.drew.freeze ⟨g,0,none⟩ n) R B:=by
 have i:w.drew.heap[g]?=some (.cells k t (0,0)):=J;obtain⟨m,h⟩:=wi (n:=n) i;obtain⟨E,F,l⟩:=GZ (w:=w.drew) (g:=g) (n:=n);have f:∀c,c≠g->(w.drew.freeze ⟨g,0,none⟩ n).heap[c]?=w.heap[c]?:=fun c e=>mg e
 refine⟨⟨E,F,l,?_,?_,?_,?_⟩,?_⟩
 ·simp_all[GY]
 ·grind
 ·intro c b _ j;refine⟨j,?_⟩
  by_cases e:c=g
  ·subst e;simp only[World.cell?,J,h]
  exact World.cell?_of_block (a:=⟨c,b,none⟩) (f c e)
 all_goals grind[eD]
theorem N4 (L:Lays.n169 P ρ) (X:Builder.Extra P ρ) (hB:ρ.t 5=mQ) {heap:Heap} {I k b:Nat} {p:ac} {d:ak} {Q:List ak} {l:List UInt8} {H z:List Nat}
  (hb:N (.out k)=some b) (aq:aj w R (outs N) heap H) (be:([]++(H++z)).Nodup) (bf:∀o b,N (.out o)=some b->o < I)
  (a1:eA (.out k) heap=some (.cells [p,.own (d::Q)])) (hp:yw p=true) (hl:wB (d::Q)=some l) :
  Calls P (ρ.f 169) #[.pointer (some ⟨b,0,none⟩)] w fun e w'=>∃v cv E K R' N' az T,e=.returned cv/\XQ ⟨.dat (.flat (.string ⟨⟨l⟩⟩)),qG (.out k) (.cells [p,.dat (.slice (d::Q))]) heap,I⟩ v E K/\ai w' R' (outs N') v cv az/\aj w' R' (outs N') E T ∧
   (az++(T++z)).Nodup/\(∀o b,N' (.out o)=some b->o < K)/\bp w R w' R' z/\(∀o b,N (.out o)=some b->N' (.out o)=some b):=by
 obtain⟨u,M,r,f,rfl,ag,a2,a3⟩:=aj.split aq a1
 have:M=b:=by simp only[outs] at ag;rw[hb] at ag;simpa using ag.symm
 subst this;obtain⟨v0,v1,U,c1,y,rfl,h0,a,hR⟩:=rA a2 hp rfl;replace a:=cy a;obtain⟨F,ar⟩:=xG hl
 rcases lg a with⟨_,he,_⟩|⟨g,O,s,af,t,rfl,rfl,J,b3,hs,C,_,b0,G,bl,a4⟩
 ·simp at he
 have D:∃n:Nat,d=.flat (.int .u8 (.ofNat n)):=by
  cases l with
  | nil=>simp at F
  | cons x l=>obtain⟨n,Z,_⟩:=ar 0 x rfl;simp at Z;exact⟨n,Z⟩
 obtain⟨n0,rfl⟩:=D;have bk:s=1:=by have:=hs _ (List.mem_cons_self ..);simpa [ak.cells] using this.symm
 subst bk;have bo:t=mQ:=(a4 rfl).1;have a9:=(a4 rfl).2;subst bo;obtain⟨g',bx,bw,cells,V,_,a0,am⟩:=kP G (by simp) hs;simp at V;obtain⟨⟨rfl,rfl⟩,rfl⟩:=V;have a8:(ak.flat (.int .u8 (.ofNat n0))::Q).flatMap ak.cells=ak.flat (.int .u8 (.ofNat n0))::Q:=by
  have bt:∀m:List ak,(∀e∈m,∃n:Nat,e=.flat (.int .u8 (.ofNat n)))->m.flatMap ak.cells=m:=by
   intro m
   induction m with
   | nil=>intro _;rfl
   | cons e m ih=>
    intro W;obtain⟨n,rfl⟩:=W e (by simp);simp only[List.flatMap_cons,ak.cells,List.singleton_append];rw[ih (fun e he=>W e (by simp[he]))]
  refine bt _ (fun e he=>?_);obtain⟨j,hj⟩:=List.getElem?_of_mem he;have b2:j < l.length:=by
   rw[F]
   rcases Nat.lt_or_ge j (ak.flat (.int .u8 (.ofNat n0))::Q).length with h'|h'
   ·exact h'
   rw[List.getElem?_eq_none h'] at hj;simp at hj
  obtain⟨n,Z,_⟩:=ar j l[j] (by simp);rw[hj] at Z;simp at Z;exact⟨n,Z⟩
 rw[a8] at a0;have a7:∀(j:Nat) x,l[j]?=some x->w.cell? ⟨g,j,none⟩=some (.int .u8 x.toNat):=by
  intro j x hx;obtain⟨n,Z,rfl⟩:=ar j x hx;obtain⟨v,V,bi⟩:=qX a0 Z;have A:=(am j v V).1
  cases bi with
  | flat ba=>
   rw[Nat.zero_add] at A;rw[A,SK ba]
 have Y:(ak.flat (.int .u8 (.ofNat n0))::Q).length=l.length:=F.symm;have i:=(eU.pH G);simp only[yd] at i;rw[Y] at y C i bl;have ad:=be;simp only[List.nil_append] at ad;have ax:((u++(M::(U++[g]))++f)++z).Perm (g::(M::(U++(u++(f++z))))):=by
  rw[List.perm_iff_count];intro q;simp only[List.count_append,List.count_cons,List.count_nil];omega
 have ae:=ax.nodup_iff.1 ad;have S:∀c∈M::(U++(u++(f++z))),c≠g:=fun c A e=>(List.nodup_cons.1 ae).1 (e ▸ A)
 have bc:l.length<=af.size:=by have:l.length*1<=O*1:=Nat.mul_le_mul_right _ C;omega
 refine (DI L X sj M g O v0 af l w (by intro e;rw[e] at F;simp at F) y (by rw[hB];exact J) C bc (by unfold maxLen;have:=i.1;unfold lim at this;omega) a7).mono ?_;rintro e w' ⟨rfl,rfl⟩;have a5:∃bu,R g bu:=⟨af.size,a9 _ (Nat.le_refl _)⟩;have hk:∀B:List Nat,g∉B->bp w R (w.drew.freeze ⟨g,0,none⟩ l.length) R B:=fun B a6=>GA J a5 B a6
 have al:(w.drew.freeze ⟨g,0,none⟩ l.length).heap[M]?=some (.cells #[v0,.slice (some ⟨g,0,none⟩) l.length O] sj (0,0)):=by
  rw[mg (S M (by simp))];exact y
 have av:aI (w.drew.freeze ⟨g,0,none⟩ l.length) R (outs N) (.cells [p,.dat (.slice (.flat (.int .u8 (.ofNat n0))::Q))]) M (U++[]):=by
  refine⟨_,sj,0,al,?_,fun j hj=>hR j (by simpa using hj),fun _=>⟨rfl,rfl⟩⟩;have q1:=h0.keep (hk U (fun A=>S g (by simp[A]) rfl));have q2:ai (w.drew.freeze ⟨g,0,none⟩ l.length) R (outs N) (.dat (.slice (.flat (.int .u8 (.ofNat n0))::Q))) (.slice (some ⟨g,0,none⟩) l.length O) []:=by
   have:=G.step (hk [] (by simp)).step
   rw[Y] at this;exact bQ (d:=.slice _) this
  simpa using aD q1 (aD q2 aP)
 have hH:=a3 _ R _ (U++[]) (hk (u++f) (fun A=>S g (by simp at A ⊢;rcases A with h|h <;> simp[h]) rfl)) av;refine⟨_,.string ⟨l.toArray⟩,_,I,R,N,[],_,rfl,⟨rfl,rfl,rfl⟩,?_,by rw[nI];exact hH,?_,bf,hk z (fun A=>S g (by simp[A]) rfl),fun _ _ h=>h⟩
 ·refine bC ?_;simp only[bJ,decide_eq_true_eq];have h2:=i.1;unfold lim at h2
  have:(ByteArray.mk ⟨l⟩).size=l.length:=rfl
  rw[this];omega
 simp only[List.nil_append,List.append_nil];have bg:(M::(U++(u++(f++z)))).Perm ((u++(M::U)++f)++z):=by
  rw[List.perm_iff_count];intro q;simp only[List.count_append,List.count_cons];omega
 exact bg.nodup_iff.1 (List.nodup_cons.1 ae).2
theorem adJ {G:bA} (L:Lays.n169 P ρ) (X:Builder.Extra P ρ) (J:ρ.t 5=mQ) {i:List ac} {j:Heap} {r:eX} (h:WB i j g=some r):ay P G (ρ.f 169) i j g (XQ r):=by
 unfold WB at h
 split at h
 rotate_left
 ·simp at h
 rename_i k;rw[jS] at h;intro w R N v I H z m c s t x V;obtain⟨b,C,rfl,rfl⟩:=KW m
 split at h
 ·rename_i p d U f;revert h;intro h
  split at h
  rotate_left
  ·simp at h
  rename_i l y K;simp only[Option.some.injEq] at h;subst h;exact N4 L X J C c s t f y K
 ·rename_i p f
  split at h
  rotate_left
  ·simp at h
  rename_i y;simp only[Option.some.injEq] at h;subst h;obtain⟨M,A,Q,F,rfl,n,u,E⟩:=aj.split c f
  have:A=b:=by simp only[outs] at n;rw[C] at n;simpa using n.symm
  subst this;obtain⟨O,Y,S,T,q,rfl,o,a,W⟩:=rA u y rfl;obtain⟨_,rfl,_⟩:=aC a;refine (H4 L X sj A O w q).mono ?_;rintro e Z ⟨rfl,rfl⟩;have D:∀B:List Nat,bp w R w.drew R B:=fun B=>Js B
  exact⟨_,_,_,g,R,N,[],_,rfl,⟨rfl,rfl,rfl⟩,bC rfl,c.keep (D _),by simpa using s,t,D z,fun _ _ h=>h⟩
 simp at h
def yV:List ak->Option (List ByteArray)
 | []=>some []
 | .flat (.string s)::r=>(match yV r with|some l=>some (s::l)|none=>none)
 | _=>none
def uu (a:List UInt8):List ByteArray->List UInt8
 | []=>[]
 | [x]=>x.data.toList
 | x::r=>x.data.toList++(a++uu a r)
theorem AF (a:List UInt8):∀c:List ByteArray,uu a c=Lib.join (c.map (·.data.toList)) a
 | []=>rfl
 | [x]=>by simp only[uu,List.map_cons,List.map_nil];rw[Lib.join_one]
 | x::y::r=>by
  have b:=AF a (y::r);simp only[uu,List.map_cons] at b ⊢;rw[Lib.join_cons] at b ⊢;rw[b];simp[Lib.joinTail]
def QR (b:List ac) (c:Heap) (d:Nat):Option eX:=
 match b with
 | [a,.dat (.flat (.string e))]=>(match nz a with
  | .dat (.slice g)=>(match yV g with
   | some f=>(match Nat.ble (uu e.data.toList f).length 140737488355328&&Nat.ble f.length 140737488355328 with
    | true=>some ⟨.dat (.flat (.string ⟨⟨uu e.data.toList f⟩⟩)),c,d⟩
    | false=>none)
   | none=>none)
  | _=>none)
 | _=>none
theorem wU:∀{c:List ak} {g:List ByteArray},yV c=some g->g.length=c.length/\∀(j:Nat) x,g[j]?=some x->c[j]?=some (.flat (.string x))
 | [],l,h=>by grind[yV]
 | d::r,l,h=>by
  unfold yV at h
  split at h
  ·grind
  ·rename_i s k e;obtain⟨rfl,rfl⟩:=e
   split at h
   ·rename_i i f;simp at h;subst h;obtain⟨a,b⟩:=wU f;grind
   grind
  grind
theorem AE {g:World} (h:Below w.heap.size w g) (B:List Nat):bp w R g (fun b c=>b < w.heap.size/\R b c) B:=
 ⟨⟨h.os,h.tape,h.output,h.size,fun b d e=>⟨h.block b d,fun c f=>e c f.2⟩,fun b c d e=>⟨fun f=>e f.2,World.cell?_of_block (a:=⟨b,c,none⟩) (h.block b d)⟩,fun b d=>fe (h.block b d)⟩,
  fun b _ d=>⟨h.block b d,fun c f=>⟨d,f⟩⟩⟩
theorem ZS {G:bA} (L:Lays.n156 P ρ) (X:Builder.Extra P ρ) {y:List ac} {q:Heap} {r:eX} (h:QR y q g=some r):ay P G (ρ.f 156) y q g (XQ r):=by
 unfold QR at h
 split at h
 rotate_left
 ·simp at h
 rename_i a m
 split at h
 rotate_left
 ·simp at h
 rename_i C ax
 split at h
 rotate_left
 ·simp at h
 rename_i i a4
 split at h
 rotate_left
 ·simp at h
 rename_i W;simp only[Bool.and_eq_true,Nat.ble_eq] at W;simp only[Option.some.injEq] at h;subst h;intro w R N ae a7 H z E I ar av am hF;obtain⟨v0,r1,c0,d1,rfl,rfl,h0,az⟩:=au E;obtain⟨v1,r2,p,d2,rfl,rfl,h1,a0⟩:=au az;obtain⟨rfl,rfl⟩:=aM a0;replace h0:=kj h0;rw[ax] at h0;obtain⟨rfl,ad⟩:=dG h0;obtain⟨rfl,rfl,_⟩:=aC h1;obtain⟨l,M⟩:=wU a4;have U:∀{Q:World},Below w.heap.size w Q->∃v cv t u R' N' S A,Ending.returned (.string ⟨(Lib.join (i.map (·.data.toList)) m.data.toList).toArray⟩)=.returned cv/\XQ ⟨.dat (.flat (.string ⟨⟨uu m.data.toList i⟩⟩)),q,g⟩ v t u/\ai Q R' (outs N') v cv S/\aj Q R' (outs N') t A ∧
   (S++(A++z)).Nodup/\(∀o b,N' (.out o)=some b->o < u)/\bp w R Q R' z/\(∀o b,N (.out o)=some b->N' (.out o)=some b):=by
  intro Q hb;refine⟨_,_,_,g,_,N,[],H,rfl,⟨rfl,rfl,rfl⟩,?_,I.keep (AE hb H),by simpa using ar,av,AE hb z,fun _ _ h=>h⟩;rw[←AF];refine bC ?_;simp only[bJ,decide_eq_true_eq]
  have:(ByteArray.mk ⟨uu m.data.toList i⟩).size=(uu m.data.toList i).length:=rfl
  rw[this];omega
 by_cases K:C=[]
 ·subst K;have a3:i=[]:=by simpa using l
  subst a3;have V:∃a c,v0=.slice a 0 c:=by cases ad with|nil a c=>exact⟨a,c,rfl⟩|slice b O T s C vs=>exact⟨_,_,rfl⟩
  obtain⟨a,c,rfl⟩:=V;refine (Any.strings_Join_none L X a c m w).mono ?_;rintro e Q ⟨rfl,rfl⟩;exact U (Below.refl _ _)
 have a2:∀d∈C,d.cells.length=1:=by
  intro d D;obtain⟨j,J⟩:=List.getElem?_of_mem D;have aq:j < i.length:=by
   rw[l]
   rcases Nat.lt_or_ge j C.length with n|n
   ·exact n
   rw[List.getElem?_eq_none n] at J;simp at J
  have:=M j i[j] (by simp)
  rw[J] at this;simp at this;rw[this];rfl
 obtain⟨bk,O,T,af,rfl,Y,Z,F⟩:=kP ad K a2;have al:C.flatMap ak.cells=C:=by
  have a5:∀(k:List ak),(∀e∈k,∃s,e=ak.flat (.string s))->k.flatMap ak.cells=k:=by
   intro k
   induction k with
   | nil=>intro _;rfl
   | cons e k ih=>
    intro B;obtain⟨s,rfl⟩:=B e (by simp);simp only[List.flatMap_cons,ak.cells,List.singleton_append];rw[ih (fun e he=>B e (by simp[he]))]
  refine a5 _ (fun e he=>?_);obtain⟨j,J⟩:=List.getElem?_of_mem he;have aq:j < i.length:=by
   rw[l]
   rcases Nat.lt_or_ge j C.length with n|n
   ·exact n
   rw[List.getElem?_eq_none n] at J;simp at J
  have:=M j i[j] (by simp)
  rw[J] at this;simp at this;exact⟨_,this⟩
 rw[al] at Z;have f:∀(j:Nat) x,i[j]?=some x->w.cell? ⟨bk,O+j,none⟩=some (.string x):=by
  intro j x hx;obtain⟨v,V,a1⟩:=qX Z (M j x hx);have W:=(F j v V).1
  cases a1 with
  | flat _=>exact W
 have a6:0 < i.length:=by
  rcases Nat.eq_zero_or_pos i.length with n|n
  ·rw[l] at n;exact absurd (List.eq_nil_of_length_eq_zero n) K
  exact n
 have ag:bk < w.heap.size:=by
  have:=f 0 i[0] (by simp)
  exact block_lt_of_cell this
 rw[←l];refine (Any.strings_Join L X bk O T i m w f ag W.2 (by rw[l];exact Y) (by rw[←AF];exact W.1)).mono ?_;rintro e Q ⟨rfl,hb⟩;exact U hb
end
end Go.Tp
namespace Go.Tp
open Go.Proofs Go.Shelf Go.RowKit Go.Sort
def agl (k:IntKind) (a:List Int):List ak:=a.map fun z=>.flat (.int k z)
theorem agd {P:Program} {w:World} {R:Own} {g:Nat} {c:String} {k:IntKind} {d:List Int} (p:0 < d.length) (J:P.globalNamed c=some g) (h:aed w R g (agl k d)):Lib.TabIs P w c k d:=by
 obtain⟨a,b,e⟩:=h;have l:(agl k d).length=d.length:=by simp[agl]
 unfold Lib.TabIs World.var?;rw[J];simp;unfold eD at e
 cases O:w.heap[g]? with
 | none=>grind
 | some o=>
  rw[O] at e
  cases o with
  | cells m t f=>
   simp only at e ⊢;congr 1
   apply Array.ext_getElem?
   intro i
   by_cases n:i < d.length
   ·obtain⟨v,j,_,K⟩:=agO a (show (agl k d)[i]?=some (.flat (.int k d[i])) by grind[agl]);have M:m[i]?=some v:=by
     unfold World.cell? at j;grind
    rw[M]
    cases K
    grind
   grind
  | _=>grind
theorem ajP {P:Program} {W:World} {d:String} {g n:Nat} {t e:TypeId} {k:IntKind} {m:List Int} (J:P.globalNamed d=some g) (w:(P.globals[g]?).map (·.type)=some t) (T:P.underlying t=some (.array n e)) (x:P.underlying e=some (.int k)) (r:P.cellsOf e=1) (s:P.cellsOf t=n)
  (F:(m.all fun z=>bJ (.int k z))=true) (h:∃g t c f p,P.globalNamed d=some g/\(P.globals[g]?).map (·.type)=some t/\W.var? P d=some c/\DataW.trod (fun _=>()) P W 0 (fun _=>true) false f t c.toList=some (Lib.tabData k m,p)) :
  aed W xl g (agl k m):=by
 obtain⟨E,G,c,f,p,u,v,i,D⟩:=h;obtain rfl:=Option.some.inj (J.symm.trans u);obtain rfl:=Option.some.inj (w.symm.trans v);have j:=World.var?_cell J i;have o:=Lib.cells_of_tab T x r s D;have A:(agl k m).length=m.length:=by simp[agl]
 refine⟨?_,by rw[A];exact agU J i (by rw[←Array.length_toList,o];simp)⟩;have C:∀(q:List Int) (b:Nat),m.drop b=q->eN W xl g b (agl k q):=by
  intro q
  induction q with
  | nil=>intro b _;trivial
  | cons y q B=>
   intro b O;have a:m[b]?=some y:=by
    have:=congrArg (fun l:List Int=>l[0]?) O
    grind
   refine⟨⟨.int k y,?_,fun h=>h,.flat ?_⟩,B (b+1) ?_⟩
   ·rw[j b,←Array.getElem?_toList,o];grind
   ·grind
   rw[←List.drop_drop,O];rfl
 grind
variable {P:Program} {ρ:Ren} {G:bA}
theorem ahx {i:Int} (o:-9223372036854775808<=i) (u:i<=9223372036854775807) {f:FuncId} {args:List Value} {a:List ac}
  (v:∀(w:World) (R:Own) (N:Name->Option Nat) (b:List Value) (m:List Nat),ah w R (outs N) a b m->(∀g c,G g=some c->aed w R g c)->
   Calls P f b.toArray w fun e t=>e=.returned (.string ⟨(Lib.itoa i).toArray⟩)/\∃k s,t=Sort.grow (w.drewN k) s) {l:Heap} {j:Nat} :
  ay P G f a l j (XQ ⟨.dat (.flat (.string ⟨⟨Lib.itoa i⟩⟩)),l,j⟩):=by
 intro w R N b m H z n q x r p y;refine (v w R N b m n p).mono ?_;rintro e t ⟨rfl,k,s,rfl⟩;have d:Below w.heap.size w (grow (w.drewN k) s):=Lib.below_grow _ _ (Nat.le_refl _) _ _;refine⟨_,_,_,j,_,N,[],H,rfl,⟨rfl,rfl,rfl⟩,?_,q.keep (AE d H),?_,r,AE d z,fun _ _ h=>h⟩
 ·refine bC ?_;simp only[bJ,decide_eq_true_eq]
  have:=Lib.itoa_length_le i o u
  have e:(ByteArray.mk ⟨Lib.itoa i⟩).size=(Lib.itoa i).length:=rfl;grind
 grind
theorem amC (L:LaysM.n171 P ρ) {g:Nat} (J:P.globalNamed "internal/strconv.uint64pow10"=some g) (k:G g=some (agl .u64 Lib.pow10Tab)) {i:Int} (o:-9223372036854775808<=i) (a:i<=9223372036854775807) {b:Heap} {c:Nat} :
  ay P G (ρ.f 171) [.dat (.flat (.int .i64 i))] b c (XQ ⟨.dat (.flat (.string ⟨⟨Lib.itoa i⟩⟩)),b,c⟩):=
 ahx (args:=[]) o a fun w R N f j d e=>by
  obtain⟨q,p,m,n,rfl,rfl,l,h⟩:=au d;obtain⟨rfl,rfl⟩:=aM h;obtain⟨rfl,rfl,_⟩:=aC l;exact Any.strconv_Itoa L i o a w (agd (by decide) J (e g _ k))
theorem aj8 (L:LaysM.n173 P ρ) {g:Nat} (J:P.globalNamed "internal/strconv.uint64pow10"=some g) (l:G g=some (agl .u64 Lib.pow10Tab)) {i:Int} (o:-9223372036854775808<=i) (a:i<=9223372036854775807) {b:Heap} {c:Nat} :
  ay P G (ρ.f 173) [.dat (.flat (.int .i64 i)),.dat (.flat (.int .i64 10))] b c (XQ ⟨.dat (.flat (.string ⟨⟨Lib.itoa i⟩⟩)),b,c⟩):=
 ahx (args:=[]) o a fun w R N f k d e=>by
  obtain⟨v,t,q,r,rfl,rfl,m,h⟩:=au d;obtain⟨x,u,p,s,rfl,rfl,n,j⟩:=au h;obtain⟨rfl,rfl⟩:=aM j;obtain⟨rfl,rfl,_⟩:=aC m;obtain⟨rfl,rfl,_⟩:=aC n;exact Any.strconv_FormatInt_10 L i o a w (agd (by decide) J (e g _ l))
end Go.Tp
namespace Go.Proofs.YtmpmgmmcaghacaaGreatDoor
open Go.Tp Go.Shelf
def encS (l:List (List UInt8)):List ak:=l.map fun b=>.flat (.string ⟨⟨b⟩⟩)
def Zx:List (List UInt8):=[[88,97],[88,98],[88,99],[88,100]]
def HH:List (List UInt8):=[[66,111,120],[73,110,116],[80,97,105,114],[65],[120,95,49],[],[116,117,112,108,101],[65,110,121],[49,120],[97,45,98],[97,98,99,100,101,102,103,104,105,106,107,108,109,110,111,112,113,114,115,116,117,118,119,120,121]]
def H5:List (List UInt8):=[[],[97,32,98],[113,117,111,116,101,32,34,32,97,110,100,32,92],[126],[40,110,111,116,32,97,32,108,105,115,116,41],[59,32,110,111,32,99,111,109,109,101,110,116]]
def AP:List (List UInt8):=[[102],[103],[104]]
def JK:List (List UInt8):=[[105,116,101,109],[114,97,100,105,117,115],[102,105,114,115,116],[105,110,110,101,114],[112,97,114,116],[110,111,110,101]]
def Po:List (List UInt8):=[[],[97,100,100],[115,117,98],[109,117,108],[108,101,115,115],[110,111,116],[99,111,110,99,97,116],[115,97,109,101]]
def lq:List (List UInt8):=[[73,110,116],[66,111,111,108],[83,116,114,105,110,103],[78,105,108]]
def tG:List (List UInt8):=[[65,110,121],[78,101,118,101,114],[116,117,112,108,101],[117,110,105,111,110],[101,120,105,115,116,115]]
def cM:bA:=fun g=>match g with|0=>some [.slice (encS HH)]|1=>some [.slice (encS H5)]|2=>some [.slice (encS AP)]|3=>some [.slice (encS JK)]|4=>some [.slice (encS Po)]|5=>some [.slice (encS lq)]|8=>some [.slice (encS tG)]|6=>some (agl .u64 Go.Lib.pow10Tab)|_=>none
theorem JS:(env bW.nA).Ok Tryz.prog:=by rw[Ri];exact Zz
noncomputable abbrev ba:=env bW.nA
abbrev ej:=Exit→aa→Prop
def Ue:lH:=fun g a b c=>
 match g with
 | 72=>RC a b c
 | 44=>WB a b c
 | 77=>QR a b c
 | _=>none
theorem QM:Lays.n240 Tryz.prog Tryz.jM:=
 {mixed:=Tryz.bZ.mixed,f240:=Tryz.bZ.f240,f276:=Tryz.bZ.f276,
  t0:=Tryz.bZ.t0,a0:=Tryz.bZ.a0,z0:=Tryz.bZ.z0,v0:=Tryz.bZ.v0,
  t4:=Tryz.bZ.t4,a4:=Tryz.bZ.a4,z4:=Tryz.bZ.z4,v4:=Tryz.bZ.v4,
  t9:=Tryz.bZ.t9,a9:=Tryz.bZ.a9,z9:=Tryz.bZ.z9,v9:=Tryz.bZ.v9,
  t20:=Tryz.bZ.t20,a20:=Tryz.bZ.a20,z20:=Tryz.bZ.z20,v20:=Tryz.bZ.v20,
  t70:=Tryz.bZ.t70,a70:=Tryz.bZ.a70,z70:=Tryz.bZ.z70,v70:=Tryz.bZ.v70,
  t72:=Tryz.bZ.t72,a72:=Tryz.bZ.a72,z72:=Tryz.bZ.z72,v72:=Tryz.bZ.v72,
  t164:=Tryz.bZ.t164,a164:=Tryz.bZ.a164,z164:=Tryz.bZ.z164,v164:=Tryz.bZ.v164 }
theorem Ud:Kg Tryz.prog cM Ue:=by
 intro f a b c r h;unfold Ue at h
 split at h
 ·exact ZU (ρ:=Tryz.jM) QM Tryz.my.toX72 rfl h
 ·exact adJ (ρ:=Tryz.qm) Tryz.Ug Tryz.vj rfl h
 ·exact ZS (ρ:=Tryz.jM) Tryz.bZ Tryz.my h
 grind
noncomputable def X:lH:=C8 ba cM bV bi JE.find Ue 3000 60
theorem dE:Kg Tryz.prog cM X:=fun f a b c r h=>xA 3000 JS uD (M:=Ue) Ud 60 f a b c r h
theorem UT (e B:List Nat) {g:FuncId} {x:qS} (d:JE.find g=some x) {a:List ac} {b:Heap} {c:Nat} {r:eX} (h:(Pf (Sv e) (Sv B) ba cM bV bi x g a b c).Ok Tryz.prog cM (fun y=>y=r)) :
  ay Tryz.prog cM g a b c (XQ r):=Du (KJ JS uD d (fun _ _=>h))
abbrev KD:=cL Tryz.prog cM
abbrev KC:=ay Tryz.prog cM
theorem co (d B:List Nat) {g:FuncId} {x:qS} {a:List ac} {b:Heap} {c:Nat} {r:eX} (h:(Pf (Sv d) (Sv B) ba cM bV bi x g a b c).Ok Tryz.prog cM (fun y=>y=r)) (e:JE.find g=some x:=by kernel_rfl):ay Tryz.prog cM g a b c (XQ r):=UT d B e h
theorem aq (a B:List Nat) {H:Hints} {n:Nat} {live:Nat->Nat} {c:Code} {f:ab} {T:ej}
  (h:(tL (Sv a) (Sv B) ba cM H n live c f (fun r=>.fin r)).Ok Tryz.prog cM (fun r=>T r.1 (r.2.al n))) (e:dh H c=true:=by kernel_rfl):cL Tryz.prog cM c T (f.al n):=Mz JS live e h
theorem abT {α:Type} {T:α->Prop} {q:Qy α} {c b:Bool} (a:c=b) (e:q.Bo=some (!c)) (h:(q.Z4 (!b)).Ok Tryz.prog cM T):q.Ok Tryz.prog cM T:=bn (by rw[a]) e h
abbrev ae (g:FuncId) (a:List ac) (v:ac):Prop:=ay Tryz.prog cM g a [] 0 (XQ ⟨v,[],0⟩)
def i64 (n:Int):ak:=.flat (.int .i64 n)
def sb (b:List UInt8):ak:=.flat (.string ⟨⟨b⟩⟩)
def nl:ak:=.flat (.slice none 0 0)
def sl:List ak->ak
 | []=>nl
 | d::r=>.slice (d::r)
inductive Ty where
 |mk (k:Int) (nm:List UInt8) (ix:Int) (args:List Ty)
mutual
def Ty.cells:Ty->List ak
 | .mk k n x a=>[i64 k,sb n,i64 x,sl (ax a)]
def ax:List Ty->List ak
 | []=>[]
 | t::r=>.agg t.cells::ax r
end
def Ty.enc (t:Ty):ak:=.agg t.cells
theorem qz:∀l:List Ty,ax l=l.map Ty.enc
 | []=>by simp[ax]
 | t::r=>by simp[ax,qz r,Ty.enc]
variable {i:Nat} {k x:Int} {l:List Ty} {n:List UInt8} {p:Ty->Bool} {t:Ty}
theorem aH (l:List Ty):(ax l).length=l.length:=by simp[qz]
theorem Rq (h:l[i]?=some t):(ax l)[i]?=some t.enc:=by simp[qz,h]
mutual
def Ty.size:Ty->Nat
 | .mk _ _ _ a=>aQ a+1
def aQ:List Ty->Nat
 | []=>0
 | t::r=>t.size+aQ r
end
theorem ld {l:List Ty} {i:Nat} {t:Ty} (h:l[i]?=some t):aQ (l.take (i+1))=aQ (l.take i)+t.size:=by
 induction l generalizing i <;> grind[aQ]
theorem tx (i:Nat):aQ (l.take i)<=aQ l:=by
 induction l generalizing i with
 | nil=>grind
 | cons x r a=>
  cases i <;> grind[aQ]
theorem wrap_add {n m:Nat} (h:n+m < 9223372036854775808):an .i64 (ofNat n+ofNat m)=ofNat (n+m):=by
 rw[cQ];exact wrap_i64 (by grind) (by grind)
noncomputable def tiT:TI:=match Go.Tp.elemOf ba 38 with|some t=>t|none=>default
theorem NU:Go.Tp.elemOf ba 38=some tiT:=by kernel_rfl
theorem yP:tiT.size=4:=by kernel_rfl
theorem pF {l:List Ty} {i:Nat} {t:Ty} (h:l[i]?=some t):ap ba 38 [.dat (.slice (ax l)),.dat (.flat (.int .i64 (ofNat i)))]=some ⟨.ref t.cells,.keep⟩:=
 pd NU rfl (Rq h) (by cases t;rfl) (by decide)
theorem get_mem (h:i < (ax l).length):∃t,l[i]?=some t/\t∈l:=by
 simp_all[aH]
noncomputable def VW:Hints:=⟨bV,P8,bi,rowsOf bi 175⟩
def mz (l:List Ty) (i n:Int):ab:=⟨[(9,iv i),(8,iv (ofNat (ax l).length)),(7,.dat (.slice (ax l))),(3,iv n)],[],[],0⟩
def qV (l:List Ty) (n:Int):ab:=⟨[(10,bv false),(9,iv (ofNat (ax l).length)),(8,iv (ofNat (ax l).length)),(7,.dat (.slice (ax l))),(3,iv n)],[],[],0⟩
theorem S4 {k:Int} {z:List UInt8} {w:Int} {l:List Ty} (h:∀t∈l,ae 175 [.dat t.enc] (iv (ofNat t.size))) (d:aQ l < 1000000000) :
  ae 175 [.dat (.agg [i64 k,sb z,i64 w,.slice (ax l)])] (iv (ofNat (aQ l+1))):=by
 have m:l.length<=aQ l:=by
  clear h d
  induction l with
  | nil=>grind
  | cons t r h=>cases t;grind[aQ,Ty.size]
 refine co [] [] (x:=.of Tryz.f175 P8 yt) ?_;refine iF (n:=vP) (c:=roundOf Tryz.f175 0) (f:=mz l (ofNat 0) (ofNat (1+aQ (l.take 0)))) (L:=fun e s=>e=.exit 0/\s=(qV l (ofNat (1+aQ l))).al vP) (by kernel_rfl) (by kernel_rfl) ?_ ?_
 ·refine bm (St:=fun i=>(mz l (ofNat i) (ofNat (1+aQ (l.take i)))).al vP) (ax l).length ?_ ?_ (i:=0) (Nat.zero_le _)
  ·intro i j;obtain⟨t,T,u⟩:=get_mem j;have v:=ld T;have q:=tx (l:=l) (i+1);rw[aH] at j;have g:i < (ax l).length:=by grind[aH]
   have e:xU (fun s=>s=(mz l (ofNat (i+1)) (ofNat (1+aQ (l.take (i+1))))).al vP) (fun e s=>e=.exit 0/\s=(qV l (ofNat (1+aQ l))).al vP) .normal
     ((mz l (an .i64 (ofNat i+1)) (an .i64 (ofNat (1+aQ (l.take i))+ofNat t.size))).al vP):=by
    rw[bb (by omega),wrap_add (by omega),v];show _=_;grind
   have p:=h t u;obtain⟨K,A,y,o⟩:=t
   rcases o with _|⟨b,c⟩ <;>
   ·refine aq [10] [11] (H:=VW) (live:=yt) ?_;refine bn (b:=true) (br g) (by kernel_rfl) ?_;refine oo (pF T) (on p ?_);exact bS (ex:=.normal) (mz l (an .i64 (ofNat i+1)) (an .i64 (ofNat (1+aQ (l.take i))+ofNat (Ty.size _)))) (by kernel_rfl) (by kernel_rfl) e
  refine aq [10] [11] (H:=VW) (live:=yt) ?_;refine bn (b:=false) (cj (i:=(ax l).length) (L:=(ax l).length) (by omega)) (by kernel_rfl) ?_;refine bS (ex:=.exit 0) (qV l (ofNat (1+aQ (l.take (ax l).length)))) (by kernel_rfl) (by kernel_rfl) ⟨rfl,?_⟩;grind[aH]
 rintro e s ⟨rfl,rfl⟩;refine⟨_,rfl,fX (a:=⟨iv (ofNat (1+aQ l)),[],0⟩) (by kernel_rfl) ?_⟩;grind
theorem Ou:ae 175 [.dat (.agg [i64 k,sb n,i64 x,nl])] (iv (ofNat 1)):=dE _ _ _ _ _ (by kernel_rfl)
mutual
theorem RP:∀t:Ty,t.size < 1000000000->ae 175 [.dat t.enc] (iv (ofNat t.size))
 | .mk k n x [],_=>Ou
 | .mk k n x (t::r),h=>by
  have b:aQ (t::r) < 1000000000:=by grind[Ty.size]
  have:=@S4 k n x (t::r) (LS (t::r) b) b
  exact this
theorem LS:∀l:List Ty,aQ l < 1000000000->∀t∈l,ae 175 [.dat t.enc] (iv (ofNat t.size))
 | [],_,t,T=>by grind
 | u::r,h,t,T=>by
  simp only[aQ] at h
  rcases List.mem_cons.1 T with a|T
  ·rw[a];exact RP u (by omega)
  exact LS r (by omega) t T
end
mutual
def Ty.depth:Ty->Nat
 | .mk _ _ _ a=>db a+1
def db:List Ty->Nat
 | []=>0
 | t::r=>max t.depth (db r)
end
theorem xD (h:l[i]?=some t):db (l.take (i+1))=max (db (l.take i)) t.depth:=by
 induction l generalizing i with
 | nil=>grind
 | cons x r a=>
  cases i <;> grind[db]
mutual
theorem oS:∀t:Ty,t.depth<=t.size
 | .mk _ _ _ a=>by simp only[Ty.depth,Ty.size];have:=jR a;omega
theorem jR:∀l:List Ty,db l<=aQ l
 | []=>by simp[db]
 | t::r=>by simp only[db,aQ];have:=oS t;have:=jR r;omega
end
theorem abY {n m:Nat}:bW.nA.mx (ofNat n) (ofNat m)=ofNat (max n m):=by
 show (match aF (ofNat n) (ofNat m) with|true=>ofNat m|false=>ofNat n)=_;rw[gv]
 grind
theorem gw (l:List Ty):l.length<=aQ l:=by
 induction l with
 | nil=>grind
 | cons t r a=>cases t;grind[aQ,Ty.size]
noncomputable def Q1:Hints:=⟨bV,P8,bi,rowsOf bi 176⟩
theorem Rv {k:Int} {u:List UInt8} {q:Int} {l:List Ty} (p:∀t∈l,ae 176 [.dat t.enc] (iv (ofNat t.depth))) (d:aQ l < 1000000000) :
  ae 176 [.dat (.agg [i64 k,sb u,i64 q,.slice (ax l)])] (iv (ofNat (db l+1))):=by
 have g:=gw l;have m:=jR l;rw[←bb (by omega)];refine co [] [] (x:=.of Tryz.f176 P8 yt) ?_;refine iF (n:=vO) (c:=roundOf Tryz.f176 0) (f:=mz l (ofNat 0) (ofNat (db (l.take 0)))) (L:=fun e s=>e=.exit 0/\s=(qV l (ofNat (db l))).al vO) (by kernel_rfl) (by kernel_rfl) ?_ ?_
 ·refine bm (St:=fun i=>(mz l (ofNat i) (ofNat (db (l.take i)))).al vO) (ax l).length ?_ ?_ (i:=0) (Nat.zero_le _)
  ·intro i a;obtain⟨t,T,o⟩:=get_mem a;have e:xU (fun s=>s=(mz l (ofNat (i+1)) (ofNat (db (l.take (i+1))))).al vO) (fun e s=>e=.exit 0/\s=(qV l (ofNat (db l))).al vO) .normal
     ((mz l (an .i64 (ofNat i+1)) (bW.nA.mx (ofNat (db (l.take i))) (ofNat t.depth))).al vO):=by
    rw[aH] at a;rw[bb (by omega),abY,xD T];rfl
   have j:=p t o;obtain⟨K,v,r,h⟩:=t
   rcases h with _|⟨b,c⟩ <;>
   ·refine aq [10] [11] (H:=Q1) (live:=yt) ?_;refine bn (b:=true) (br a) (by kernel_rfl) ?_;refine oo (pF T) (on j ?_);exact bS (ex:=.normal) (mz l (an .i64 (ofNat i+1)) (bW.nA.mx (ofNat (db (l.take i))) (ofNat (Ty.depth _)))) (by kernel_rfl) (by kernel_rfl) e
  refine aq [10] [11] (H:=Q1) (live:=yt) ?_;refine bn (b:=false) (cj (i:=(ax l).length) (L:=(ax l).length) (by omega)) (by kernel_rfl) ?_;refine bS (ex:=.exit 0) (qV l (ofNat (db (l.take (ax l).length)))) (by kernel_rfl) (by kernel_rfl) ⟨rfl,?_⟩;grind[aH]
 rintro e s ⟨rfl,rfl⟩;exact⟨_,rfl,fX (by kernel_rfl) rfl⟩
theorem Nf:ae 176 [.dat (.agg [i64 k,sb n,i64 x,nl])] (iv (ofNat 1)):=dE _ _ _ _ _ (by kernel_rfl)
mutual
theorem LV:∀t:Ty,t.size < 1000000000->ae 176 [.dat t.enc] (iv (ofNat t.depth))
 | .mk k n x [],_=>Nf
 | .mk k n x (t::r),h=>by
  have b:aQ (t::r) < 1000000000:=by grind[Ty.size]
  have:=@Rv k n x (t::r) (Hz (t::r) b) b
  exact this
theorem Hz:∀l:List Ty,aQ l < 1000000000->∀t∈l,ae 176 [.dat t.enc] (iv (ofNat t.depth))
 | [],_,t,T=>by grind
 | u::r,h,t,T=>by
  simp only[aQ] at h
  rcases List.mem_cons.1 T with a|T
  ·rw[a];exact LV u (by omega)
  exact Hz r (by omega) t T
end
def ey (k:Int) (i:Nat):Nat:=if aB k 6=true/\i=1 then 1 else 0
mutual
def Ty.closed:Ty->Nat->Bool
 | .mk k _ x a,u=>!(aB k 5&&!aF x (ofNat u))&&fA k 0 a u
def fA (k:Int):Nat->List Ty->Nat->Bool
 | _,[],_=>true
 | i,t::r,u=>t.closed (u+ey k i)&&fA k (i+1) r u
end
theorem Dl (k:Int) (n:List UInt8) (f:Int) (a:ak) (A:a=nl∨∃d,a=.slice d) (i:Nat):ae 196 [.dat (.agg [i64 k,sb n,i64 f,a]),iv (ofNat i)] (iv (ofNat (ey k i))):=by
 rcases A with rfl|⟨d,rfl⟩ <;>
 ·refine co [7,10] [] (x:=.of Tryz.f196 P8 Lf) ?_;refine Gi (c:=aB k 6) (by kernel_rfl) (fun e=>?_) (fun e=>?_)
  ·refine Gi (c:=aB (ofNat i) (ofNat 1)) (by kernel_rfl) (fun b=>?_) (fun b=>?_)
   ·rw[A0,decide_eq_true_eq] at b
    have:ey k i=1:=by grind[ey]
    rw[this];exact fi
   rw[A0,decide_eq_false_iff_not] at b
   have:ey k i=0:=by grind[ey]
   rw[this];exact fi
  have:ey k i=0:=by grind[ey]
  rw[this];exact fi
noncomputable def Ew:Hints:=⟨bV,Ab,bi,rowsOf bi 204⟩
def ab3 (k:Int) (n:List UInt8) (x:Int) (l:List Ty):Heap:=[(.loc 2,.cells [iv k,.dat (sb n),iv x,.dat (.slice (ax l))])]
def SZ (k:Int) (n:List UInt8) (x:Int) (l:List Ty) (u:Nat) (i:Int):ab:=⟨[(19,iv i),(18,iv (ofNat (ax l).length)),(17,.dat (.slice (ax l))),(2,.ptr (.loc 2) 0),(1,iv (ofNat u))],ab3 k n x l,[],0⟩
def Ol (k:Int) (n:List UInt8) (x:Int) (l:List Ty) (u:Nat):ab:=⟨[(20,bv false),(19,iv (ofNat (ax l).length)),(18,iv (ofNat (ax l).length)),(17,.dat (.slice (ax l))),(2,.ptr (.loc 2) 0),(1,iv (ofNat u))],ab3 k n x l,[],0⟩
def Om:ab:=⟨[(4,bv false)],[],[],0⟩
theorem iP (h:l[i]?=some t):l.drop i=t::l.drop (i+1):=by
 obtain⟨a,rfl⟩:=List.getElem?_eq_some_iff.1 h;simp_all
theorem Hq {k:Int} {n:List UInt8} {x:Int} {l:List Ty} {u:Nat} (D:∀t∈l,∀v,v<=u+1->ae 204 [.dat t.enc,iv (ofNat v)] (bv (t.closed v))) (d:aQ l < 1000000000) (C:u < 2000000000) :
  KD (.loop (roundOf Tryz.f204 0)) (fun e s=>(e=.exit 0/\fA k 0 l u=true/\s=(Ol k n x l u).al jg)∨(e=.ret/\fA k 0 l u=false/\s=Om.al jg)) ((SZ k n x l u (ofNat 0)).al jg):=by
 have o:=gw l;refine cV (St:=fun i=>(SZ k n x l u (ofNat i)).al jg) (fun i=>fA k 0 l u=fA k i (l.drop i) u) (ax l).length ?_ ?_ (i:=0) (Nat.zero_le _) rfl
 ·intro i m g;obtain⟨t,T,B⟩:=get_mem m;have f:fA k i (l.drop i) u=(t.closed (u+ey k i)&&fA k (i+1) (l.drop (i+1)) u):=by rw[iP T];rfl
  have q:ey k i<=1:=by grind[ey]
  have j:ae 204 [.dat t.enc,iv (an .i64 (ofNat u+ofNat (ey k i)))] (bv (t.closed (u+ey k i))):=by
   grind[wrap_add]
  have w:an .i64 (ofNat i+1)=ofNat (i+1):=bb (by grind);have h:=Dl k n x (.slice (ax l)) (.inr ⟨_,rfl⟩) i;generalize r:t.closed (u+ey k i)=A at j f;obtain⟨K,z,y,p⟩:=t
  rcases p with _|⟨b,c⟩ <;> cases A <;>
  ·refine aq [20] [22] (H:=Ew) (live:=re) ?_;refine bn (b:=true) (br m) (by kernel_rfl) ?_;refine oo (pF T) (on h (on j ?_))
   first
    |exact bS (ex:=.normal) (SZ k n x l u (an .i64 (ofNat i+1))) (by kernel_rfl) (by kernel_rfl) ⟨by rw[w],by rw[g,f];rfl⟩
    |exact bS (ex:=.ret) Om (by kernel_rfl) (by kernel_rfl) (.inr ⟨rfl,by grind,rfl⟩)
 intro g;have a:fA k 0 l u=true:=by
  rw[g,aH,List.drop_length];rfl
 refine aq [20] [22] (H:=Ew) (live:=re) ?_;refine bn (b:=false) (cj (i:=(ax l).length) (L:=(ax l).length) (by omega)) (by kernel_rfl) ?_;exact bS (ex:=.exit 0) (Ol k n x l u) (by kernel_rfl) (by kernel_rfl) (.inl ⟨rfl,a,rfl⟩)
theorem B7 (k:Int) (n:List UInt8) (x:Int) (l:List Ty) (u:Nat):(Ty.mk k n x l).closed u=(!(aB k 5&&!aF x (ofNat u))&&fA k 0 l u):=by rw[Ty.closed]
theorem Nn {c:List UInt8} {a:Int} {u:Nat} (w:∀t∈l,∀v,v<=u+1->ae 204 [.dat t.enc,iv (ofNat v)] (bv (t.closed v))) (d:aQ l < 1000000000) (r:u < 2000000000) :
  ae 204 [.dat (.agg [i64 k,sb c,i64 a,.slice (ax l)]),iv (ofNat u)] (bv ((Ty.mk k c a l).closed u)):=by
 have p:=@Hq k c a _ _ w d r;have j:∀f:Bool,f=aB k 5->∀g:Bool,g=!aF a (ofNat u)->ae 204 [.dat (.agg [i64 k,sb c,i64 a,.slice (ax l)]),iv (ofNat u)] (bv (!(f&&g)&&fA k 0 l u)):=by
  intro f G g i;refine co [9,14] [] (x:=.of Tryz.f204 Ab re) ?_;refine bn (b:=f) G.symm (by kernel_rfl) ?_;have m:∀{q:Qy eX} (o:q.Gw.al jg=(SZ k c a l u (ofNat 0)).al jg) (e:q.CT=some (jg,roundOf Tryz.f204 0))
    (E:(q.ofL (.exit 0,Ol k c a l u)).JL=some ⟨bv true,[],0⟩) (F:(q.ofL (.ret,Om)).JL=some ⟨bv false,[],0⟩),q.Ok Tryz.prog cM (fun y=>y=⟨bv (fA k 0 l u),[],0⟩):=by
   intro q o e E F;refine iF (n:=jg) e o p ?_;rintro z s (⟨rfl,h,rfl⟩|⟨rfl,h,rfl⟩)
   ·rw[h];exact⟨_,rfl,fX E rfl⟩
   rw[h];exact⟨_,rfl,fX F rfl⟩
  cases f with
  | false=>exact m (by kernel_rfl) (by kernel_rfl) (by kernel_rfl) (by kernel_rfl)
  | true=>
   refine bn (b:=g) i.symm (by kernel_rfl) ?_
   cases g
   ·exact m (by kernel_rfl) (by kernel_rfl) (by kernel_rfl) (by kernel_rfl)
   exact fi
 exact j _ rfl _ rfl
def Vv (k:Int) (n:List UInt8) (x:Int) (u:Nat):ab:=⟨[(19,iv 0),(18,iv 0),(17,.dat nl),(2,.ptr (.loc 2) 0),(1,iv (ofNat u))],[(.loc 2,.cells [iv k,.dat (sb n),iv x,.dat nl])],[],0⟩
def On (k:Int) (n:List UInt8) (x:Int) (u:Nat):ab:=⟨[(20,bv false),(19,iv 0),(18,iv 0),(17,.dat nl),(2,.ptr (.loc 2) 0),(1,iv (ofNat u))],[(.loc 2,.cells [iv k,.dat (sb n),iv x,.dat nl])],[],0⟩
theorem Hp (k:Int) (n:List UInt8) (x:Int) (u:Nat):iO X ba cM Ew jg re 3000 (.loop (roundOf Tryz.f204 0)) (Vv k n x u)=some (.exit 0,On k n x u):=by kernel_rfl
theorem JY (k:Int) (c:List UInt8) (a:Int) (u:Nat):ae 204 [.dat (.agg [i64 k,sb c,i64 a,nl]),iv (ofNat u)] (bv ((Ty.mk k c a []).closed u)):=by
 have h:∀d:Bool,d=aB k 5->∀f:Bool,f=!aF a (ofNat u)->ae 204 [.dat (.agg [i64 k,sb c,i64 a,nl]),iv (ofNat u)] (bv (!(d&&f)&&fA k 0 [] u)):=by
  intro d G f g;refine co [9,14] [] (x:=.of Tryz.f204 Ab re) ?_;refine bn (b:=d) G.symm (by kernel_rfl) ?_;have i:∀{q:Qy eX} (j:q.Gw.al jg=(Vv k c a u).al jg) (e:q.CT=some (jg,roundOf Tryz.f204 0))
    (E:(q.ofL (.exit 0,On k c a u)).JL=some ⟨bv true,[],0⟩),q.Ok Tryz.prog cM (fun y=>y=⟨bv true,[],0⟩):=by
   intro q j e E;refine iF (n:=jg) e j (RL JS dE 3000 (by kernel_rfl) (Hp k c a u)) ?_;rintro l s ⟨rfl,rfl⟩;exact⟨_,rfl,fX E rfl⟩
  cases d with
  | false=>exact i (by kernel_rfl) (by kernel_rfl) (by kernel_rfl)
  | true=>
   refine bn (b:=f) g.symm (by kernel_rfl) ?_
   cases f
   ·exact i (by kernel_rfl) (by kernel_rfl) (by kernel_rfl)
   exact fi
 exact h _ rfl _ rfl
mutual
theorem HB:∀(t:Ty) (u:Nat),t.size < 1000000000->u+t.depth < 2000000000->ae 204 [.dat t.enc,iv (ofNat u)] (bv (t.closed u))
 | .mk k n d [],u,_,_=>JY k n d u
 | .mk k n d (t::r),u,h,c=>by
  have b:aQ (t::r) < 1000000000:=by grind[Ty.size]
  have f:u+1+db (t::r) < 2000000000:=by grind[Ty.depth]
  exact Nn (l:=t::r) (fun x e v V=>wA (t::r) v b (by omega) x e) b (by omega)
theorem wA:∀(l:List Ty) (u:Nat),aQ l < 1000000000->u+db l < 2000000000->∀t∈l,ae 204 [.dat t.enc,iv (ofNat u)] (bv (t.closed u))
 | [],_,_,_,t,T=>by grind
 | x::r,u,h,c,t,T=>by
  simp only[aQ] at h;simp only[db] at c
  rcases List.mem_cons.1 T with a|T
  ·rw[a];exact HB x u (by omega) (by omega)
  exact wA r u (by omega) (by omega) t T
end
mutual
def Ty.thin:Ty->Prop
 | .mk _ _ _ l=>l.length < 1000000000/\tt l
def tt:List Ty->Prop
 | []=>True
 | t::r=>t.thin/\tt r
end
mutual
theorem DG:∀t:Ty,t.size < 1000000000->t.thin
 | .mk _ _ _ l,h=>by
  simp only[Ty.size] at h
  have:=gw l
  exact⟨by omega,Fg l (by omega)⟩
theorem Fg:∀l:List Ty,aQ l < 1000000000->tt l
 | [],_=>by simp[tt]
 | t::r,h=>by
  simp only[aQ] at h;exact⟨DG t (by omega),Fg r (by omega)⟩
end
theorem Bh (e B:List Nat) {g:FuncId} {x:qS} (d:JE.find g=some x) {a:List ac} {b:Heap} {c:Nat} {T:eX->Prop} (h:(Pf (Sv e) (Sv B) ba cM bV bi x g a b c).Ok Tryz.prog cM T) :
  KC g a b c (fun v h m=>T ⟨v,h,m⟩):=KJ JS uD d (fun _ _=>h)
def pe (b:Bool) (v:ac):Prop:=∃j:Int,v=iv j/\aF j (ofNat 0)=!b
theorem HG (h:l[i]?=some t):(l.drop i).any p=(p t||(l.drop (i+1)).any p):=by rw[iP h];rfl
noncomputable def yy:Hints:=⟨bV,P8,bi,rowsOf bi 205⟩
def iM:ac:=.fn (.func 209) [] []
def jx (l:List Ty) (i:Int):ab:=⟨[(8,iv i),(7,iv (ofNat (ax l).length)),(0,.dat (.slice (ax l))),(1,iM)],[],[],0⟩
def pK (l:List Ty):ab:=⟨[(9,bv false),(8,iv (ofNat (ax l).length)),(7,iv (ofNat (ax l).length)),(0,.dat (.slice (ax l))),(1,iM)],[],[],0⟩
def pL (i:Nat):ab:=⟨[(4,iv (ofNat i))],[],[],0⟩
theorem xZ (w:∀t∈l,ae 209 [.dat t.enc] (bv (p t))) (d:l.length < 1000000000) :
  KC 205 [.dat (.slice (ax l)),iM] [] 0 (fun v h m=>pe (l.any p) v/\h=[]/\m=0):=by
 have y:KD (.loop (roundOf Tryz.f205 0)) (fun e s=>(e=.exit 0/\l.any p=false/\s=(pK l).al mF)∨(e=.ret/\l.any p=true/\∃i:Nat,s=(pL i).al mF)) ((jx l (ofNat 0)).al mF):=by
  refine cV (St:=fun i=>(jx l (ofNat i)).al mF) (fun i=>l.any p=(l.drop i).any p) (ax l).length ?_ ?_ (i:=0) (Nat.zero_le _) rfl
  ·intro i j u;obtain⟨t,k,z⟩:=get_mem j;have A:=HG (p:=p) k;have C:an .i64 (ofNat i+1)=ofNat (i+1):=bb (by grind);have g:=w t z;generalize B:p t=F at g A;obtain⟨K,E,D,o⟩:=t
   rcases o with _|⟨b,c⟩ <;> cases F <;>
   ·refine aq [9] [14] (H:=yy) (live:=ov) ?_;refine bn (b:=true) (br j) (by kernel_rfl) ?_;refine oo (pF k) (on g ?_)
    first
     |exact bS (ex:=.normal) (jx l (an .i64 (ofNat i+1))) (by kernel_rfl) (by kernel_rfl) ⟨by rw[C],by grind⟩
     |exact bS (ex:=.ret) (pL i) (by kernel_rfl) (by kernel_rfl) (.inr ⟨rfl,by grind,i,rfl⟩)
  intro u;have q:l.any p=false:=by grind[aH]
  refine aq [9] [14] (H:=yy) (live:=ov) ?_;refine bn (b:=false) (cj (i:=(ax l).length) (L:=(ax l).length) (by omega)) (by kernel_rfl) ?_;exact bS (ex:=.exit 0) (pK l) (by kernel_rfl) (by kernel_rfl) (.inl ⟨rfl,q,rfl⟩)
 refine Bh [] [] (x:=qS.of Tryz.f205 P8 ov) (T:=fun r=>pe (l.any p) r.val/\r.heap=[]/\r.next=0) (by kernel_rfl) ?_;refine iF (n:=mF) (c:=roundOf Tryz.f205 0) (f:=jx l (ofNat 0)) (by kernel_rfl) (by kernel_rfl) y ?_;rintro ex s (⟨rfl,g,rfl⟩|⟨rfl,g,i,rfl⟩)
 ·rw[g];exact⟨_,rfl,fX (a:=⟨iv (-1),[],0⟩) (by kernel_rfl) ⟨⟨_,rfl,rfl⟩,rfl,rfl⟩⟩
 rw[g];exact⟨_,rfl,fX (a:=⟨iv (ofNat i),[],0⟩) (by kernel_rfl) ⟨⟨_,rfl,cj (by omega)⟩,rfl,rfl⟩⟩
theorem B1 (w:∀t∈l,ae 209 [.dat t.enc] (bv (p t))) (d:l.length < 1000000000) :
  ae 193 [.dat (sl (ax l)),iM] (bv (l.any p)):=by
 cases l with
 | nil=>exact dE _ _ _ _ _ (by kernel_rfl)
 | cons t r=>
  have h:=xZ w d;generalize (t::r).any p=c at h;refine co [8] [] (x:=.of Tryz.f193 P8 ajF) ?_;refine Ja (Q:=pe c) h (by kernel_rfl) (by kernel_rfl) (by rintro v ⟨j,rfl,_⟩;rfl) ?_;rintro v ⟨j,rfl,e⟩ _;refine bn (b:=c) (c:=!aF j (ofNat 0)) (by grind) (by kernel_rfl) ?_;exact fX (a:=⟨bv c,[],0⟩) (by cases c <;> kernel_rfl) rfl
def gQ:ac:=.fn (.func 194) [] []
def iu (l:List Ty) (i:Int):ab:=⟨[(8,iv i),(7,iv (ofNat (ax l).length)),(0,.dat (.slice (ax l))),(1,gQ)],[],[],0⟩
def pg (l:List Ty):ab:=⟨[(9,bv false),(8,iv (ofNat (ax l).length)),(7,iv (ofNat (ax l).length)),(0,.dat (.slice (ax l))),(1,gQ)],[],[],0⟩
def ph (i:Nat):ab:=⟨[(4,iv (ofNat i))],[],[],0⟩
theorem vZ (w:∀t∈l,ae 194 [.dat t.enc] (bv (p t))) (d:l.length < 1000000000) :
  KC 205 [.dat (.slice (ax l)),gQ] [] 0 (fun v h m=>pe (l.any p) v/\h=[]/\m=0):=by
 have y:KD (.loop (roundOf Tryz.f205 0)) (fun e s=>(e=.exit 0/\l.any p=false/\s=(pg l).al mF)∨(e=.ret/\l.any p=true/\∃i:Nat,s=(ph i).al mF)) ((iu l (ofNat 0)).al mF):=by
  refine cV (St:=fun i=>(iu l (ofNat i)).al mF) (fun i=>l.any p=(l.drop i).any p) (ax l).length ?_ ?_ (i:=0) (Nat.zero_le _) rfl
  ·intro i j u;obtain⟨t,k,z⟩:=get_mem j;have A:=HG (p:=p) k;have C:an .i64 (ofNat i+1)=ofNat (i+1):=bb (by grind);have g:=w t z;generalize B:p t=F at g A;obtain⟨K,E,D,o⟩:=t
   rcases o with _|⟨b,c⟩ <;> cases F <;>
   ·refine aq [9] [14] (H:=yy) (live:=ov) ?_;refine bn (b:=true) (br j) (by kernel_rfl) ?_;refine oo (pF k) (on g ?_)
    first
     |exact bS (ex:=.normal) (iu l (an .i64 (ofNat i+1))) (by kernel_rfl) (by kernel_rfl) ⟨by rw[C],by grind⟩
     |exact bS (ex:=.ret) (ph i) (by kernel_rfl) (by kernel_rfl) (.inr ⟨rfl,by grind,i,rfl⟩)
  intro u;have q:l.any p=false:=by grind[aH]
  refine aq [9] [14] (H:=yy) (live:=ov) ?_;refine bn (b:=false) (cj (i:=(ax l).length) (L:=(ax l).length) (by omega)) (by kernel_rfl) ?_;exact bS (ex:=.exit 0) (pg l) (by kernel_rfl) (by kernel_rfl) (.inl ⟨rfl,q,rfl⟩)
 refine Bh [] [] (x:=qS.of Tryz.f205 P8 ov) (T:=fun r=>pe (l.any p) r.val/\r.heap=[]/\r.next=0) (by kernel_rfl) ?_;refine iF (n:=mF) (c:=roundOf Tryz.f205 0) (f:=iu l (ofNat 0)) (by kernel_rfl) (by kernel_rfl) y ?_;rintro ex s (⟨rfl,g,rfl⟩|⟨rfl,g,i,rfl⟩)
 ·rw[g];exact⟨_,rfl,fX (a:=⟨iv (-1),[],0⟩) (by kernel_rfl) ⟨⟨_,rfl,rfl⟩,rfl,rfl⟩⟩
 rw[g];exact⟨_,rfl,fX (a:=⟨iv (ofNat i),[],0⟩) (by kernel_rfl) ⟨⟨_,rfl,cj (by omega)⟩,rfl,rfl⟩⟩
theorem Bu (w:∀t∈l,ae 194 [.dat t.enc] (bv (p t))) (d:l.length < 1000000000) :
  ae 193 [.dat (sl (ax l)),gQ] (bv (l.any p)):=by
 cases l with
 | nil=>exact dE _ _ _ _ _ (by kernel_rfl)
 | cons t r=>
  have h:=vZ w d;generalize (t::r).any p=c at h;refine co [8] [] (x:=.of Tryz.f193 P8 ajF) ?_;refine Ja (Q:=pe c) h (by kernel_rfl) (by kernel_rfl) (by rintro v ⟨j,rfl,_⟩;rfl) ?_;rintro v ⟨j,rfl,e⟩ _;refine bn (b:=c) (c:=!aF j (ofNat 0)) (by grind) (by kernel_rfl) ?_;exact fX (a:=⟨bv c,[],0⟩) (by cases c <;> kernel_rfl) rfl
mutual
def Ty.plain:Ty->Bool
 | .mk k n x a=>aB k 5||(Ty.mk k n x a).closed 0||(aB k 2&&!gT a)
def gT:List Ty->Bool
 | []=>false
 | t::r=>!t.plain||gT r
end
theorem Dt:∀l:List Ty,gT l=l.any (fun t=>!t.plain)
 | []=>by simp[gT]
 | t::r=>by simp[gT,Dt r]
theorem xE {k:Int} {n:List UInt8} {i:Int} {l:List Ty} (w:∀t∈l,ae 210 [.dat t.enc] (bv t.plain)) (h:l.length < 1000000000):ae 203 [.dat (Ty.mk k n i l).enc] (bv (!gT l)):=by
 have a:∀t∈l,ae 209 [.dat t.enc] (bv (!t.plain)):=by
  intro t T;have e:=w t T;generalize t.plain=c at e;obtain⟨K,m,j,g⟩:=t
  rcases g with _|⟨b,d⟩ <;> cases c <;>
  ·refine co [] [] (x:=.of Tryz.f209 P8 QG) ?_;exact on e fi
 have f:=B1 a h;rw[Dt];generalize l.any (fun t=>!t.plain)=c at f
 rcases l with _|⟨b,d⟩ <;> cases c <;>
 ·refine co [] [] (x:=.of Tryz.f203 P8 QG) ?_;exact on f fi
theorem IH {c:Int} (w:∀t∈l,ae 210 [.dat t.enc] (bv t.plain)) (s:(Ty.mk k n c l).size < 1000000000):ae 210 [.dat (Ty.mk k n c l).enc] (bv (Ty.mk k n c l).plain):=by
 have m:l.length < 1000000000:=by grind[gw,Ty.size]
 have a:=HB (Ty.mk k n c l) 0 s (by have:=oS (Ty.mk k n c l);omega);have f:=@xE k n c _ w m;have e:(Ty.mk k n c l).plain=(aB k 5||(Ty.mk k n c l).closed 0||(aB k 2&&!gT l)):=by rw[Ty.plain]
 rw[e];generalize (Ty.mk k n c l).closed 0=i at a;generalize (!gT l)=h at f;generalize G:aB k 5=g;generalize j:aB k 2=q
 rcases l with _|⟨b,d⟩ <;>
 ·refine co [5,13] [] (x:=.of Tryz.f210 P8 QG) ?_;refine ob G ?_
  cases g
  ·refine on a ?_
   cases i
   ·refine ob j ?_
    cases q with
    | false=>exact fi
    | true=>
     refine on f ?_
     cases h <;> exact fi
   exact fi
  exact fi
mutual
theorem UW:∀t:Ty,t.size < 1000000000->ae 210 [.dat t.enc] (bv t.plain)
 | .mk k n b l,h=>IH (Bj l (by grind[Ty.size])) h
theorem Bj:∀l:List Ty,aQ l < 1000000000->∀t∈l,ae 210 [.dat t.enc] (bv t.plain)
 | [],_,t,T=>by grind
 | x::r,h,t,T=>by
  simp only[aQ] at h
  rcases List.mem_cons.1 T with a|T
  ·rw[a];exact UW x (by omega)
  exact Bj r (by omega) t T
end
def jA (n:Nat):Bool:=(Nat.ble 97 n&&Nat.ble n 122)||(Nat.ble 65 n&&Nat.ble n 90)
def B6 (n:Nat):Bool:=jA n||(Nat.ble 48 n&&Nat.ble n 57)||Nat.beq n 95||Nat.beq n 45
def eg (n:Nat):Bool:=!Nat.beq n 45&&B6 n
def isIdent:List UInt8->Bool
 | []=>false
 | c::r=>Nat.ble (r.length+1) 24&&jA c.toNat&&(c::r).all (fun c=>eg c.toNat)
def GC (n:Nat):ac:=.dat (.flat (.int .u8 (ofNat n)))
def HI (p:Nat->Bool):Nat->Bool
 | 0=>true
 | k+1=>p k&&HI p k
theorem rC {p:Nat->Bool}:∀{k:Nat},HI p k=true->∀i,i < k->p i=true
 | 0,_,i,b=>by omega
 | k+1,h,i,b=>by
  simp only[HI,Bool.and_eq_true] at h
  rcases Nat.lt_or_ge i k with a|a
  ·exact rC h.2 i a
  grind
def Bm (c:Bool):Option eX->Bool
 | some ⟨.dat (.flat (.bool b)),[],0⟩=>match b with|true=>c|false=>!c
 | _=>false
theorem qD {c:Bool} {r:Option eX} (h:Bm c r=true):r=some ⟨bv c,[],0⟩:=by
 unfold Bm at h
 grind
theorem Jn:HI (fun n=>Bm (jA n) (X 142 [GC n] [] 0)) 256=true:=by kernel_rfl
theorem J2 (c:UInt8):ae 142 [GC c.toNat] (bv (jA c.toNat)):=dE _ _ _ _ _ (qD (rC Jn _ c.toNat_lt))
theorem MU:HI (fun n=>Bm (eg n) (X 144 [GC n] [] 0)) 256=true:=by kernel_rfl
theorem RU (c:UInt8):ae 144 [GC c.toNat] (bv (eg c.toNat)):=dE _ _ _ _ _ (qD (rC MU _ c.toNat_lt))
theorem adv:ba.desc 9=some .string:=by kernel_rfl
theorem nK {b:List UInt8} {c:UInt8} (h:b[i]?=some c):qP ba 9 [.dat (sb b),.dat (.flat (.int .i64 (ofNat i)))]=some ⟨GC c.toNat,.keep⟩:=by
 have J:bW.nA.byte ⟨⟨b⟩⟩ (ofNat i)=some c:=Ur h;have w:ba.pr=bW.nA:=rfl;simp only[qP,sb,adv,w,J];rfl
def fnI:ac:=.fn (.func 144) [] []
noncomputable def QZ:Hints:=⟨bV,P8,bi,rowsOf bi 143⟩
def SY (b:List UInt8) (i:Int):ab:=⟨[(5,iv i),(0,.dat (sb b)),(1,fnI)],[],[],0⟩
def Vt (b:List UInt8):ab:=⟨[(9,bv false),(5,iv (ofNat b.length)),(0,.dat (sb b)),(1,fnI)],[],[],0⟩
def Vu:ab:=⟨[(4,bv false)],[],[],0⟩
theorem UX {b:List UInt8} (d:b.length < 1000000000):ae 143 [.dat (sb b),fnI] (bv (b.all (fun c=>eg c.toNat))):=by
 have l:KD (.loop (roundOf Tryz.f143 0)) (fun e s=>(e=.exit 0/\b.all (fun c=>eg c.toNat)=true/\s=(Vt b).al Aq)∨(e=.ret/\b.all (fun c=>eg c.toNat)=false/\s=Vu.al Aq)) ((SY b (ofNat 0)).al Aq):=by
  refine cV (St:=fun i=>(SY b (ofNat i)).al Aq) (fun i=>b.all (fun c=>eg c.toNat)=(b.drop i).all (fun c=>eg c.toNat)) b.length ?_ ?_ (i:=0) (Nat.zero_le _) rfl
  ·intro i j g;have J:b[i]?=some b[i]:=List.getElem?_eq_getElem j;have D:(b.drop i).all (fun c=>eg c.toNat)=(eg b[i].toNat&&(b.drop (i+1)).all (fun c=>eg c.toNat)):=by rw[List.drop_eq_getElem_cons j];rfl
   have k:an .i64 (ofNat i+1)=ofNat (i+1):=bb (by omega);have h:=RU b[i];generalize b[i]=c at J D h;generalize eg c.toNat=m at D h;refine aq [9] [15] (H:=QZ) (live:=yu) ?_;refine bn (b:=true) (br j) (by kernel_rfl) ?_;refine oo (nK J) (on h ?_)
   cases m
   ·exact bS (ex:=.ret) Vu (by kernel_rfl) (by kernel_rfl) (.inr ⟨rfl,by rw[g,D];rfl,rfl⟩)
   exact bS (ex:=.normal) (SY b (an .i64 (ofNat i+1))) (by kernel_rfl) (by kernel_rfl) ⟨by rw[k],by rw[g,D];rfl⟩
  intro g;have a:b.all (fun c=>eg c.toNat)=true:=by rw[g,List.drop_length];rfl
  refine aq [9] [15] (H:=QZ) (live:=yu) ?_;refine bn (b:=false) (cj (i:=b.length) (L:=b.length) (by omega)) (by kernel_rfl) ?_;exact bS (ex:=.exit 0) (Vt b) (by kernel_rfl) (by kernel_rfl) (.inl ⟨rfl,a,rfl⟩)
 generalize b.all (fun c=>eg c.toNat)=c at l;refine co [] [] (x:=.of Tryz.f143 P8 yu) ?_;refine iF (n:=Aq) (c:=roundOf Tryz.f143 0) (f:=SY b (ofNat 0)) (by kernel_rfl) (by kernel_rfl) l ?_;rintro ex s (⟨rfl,rfl,rfl⟩|⟨rfl,rfl,rfl⟩) <;>
 ·exact⟨_,rfl,fX (by kernel_rfl) rfl⟩
theorem Dj (b:List UInt8):ae 99 [.dat (sb b)] (bv (isIdent b)):=by
 cases b with
 | nil=>exact dE _ _ _ _ _ (by kernel_rfl)
 | cons c r=>
  have a:Nat.ble (r.length+1) 24=true->ae 143 [.dat (sb (c::r)),fnI] (bv ((c::r).all (fun c=>eg c.toNat))):=fun h=>UX (by have:=fD h;simp;omega)
  have d:=J2 c;have e:isIdent (c::r)=(Nat.ble (r.length+1) 24&&jA c.toNat&&(c::r).all (fun c=>eg c.toNat)):=rfl;rw[e];generalize (c::r).all (fun c=>eg c.toNat)=j at a;generalize jA c.toNat=k at d;have f:aF (ofNat 24) (ofNat (r.length+1))=!Nat.ble (r.length+1) 24:=by
   rw[gv]
   by_cases h:24 < r.length+1
   ·rw[decide_eq_true h,show Nat.ble (r.length+1) 24=false from by rw[Bool.eq_false_iff];intro e;have:=fD e;omega];rfl
   rw[decide_eq_false h,gC (by omega)];rfl
  generalize Nat.ble (r.length+1) 24=g at f a;refine co [8] [12] (x:=.of Tryz.f99 P8 QH) ?_;refine bn (b:=g) (c:=!aF (ofNat 24) (ofNat (r.length+1))) (by rw[f];simp) (by kernel_rfl) ?_
  cases g with
  | false=>exact fi
  | true=>
   refine oo (nK (b:=c::r) (i:=0) rfl) (on d ?_)
   cases k with
   | false=>exact fi
   | true=>
    refine on (a rfl) ?_
    cases j <;> exact fi
def aeh (b:List UInt8):Bool:=tG.any (fun r=>jP b r)
noncomputable def ri:Hints:=⟨bV,P8,bi,rowsOf bi 208⟩
def Fp (b:List UInt8) (i:Int):ab:=⟨[(8,iv i),(7,iv 5),(0,.dat (.slice (encS tG))),(1,.dat (sb b))],[],[],0⟩
def Vr (b:List UInt8):ab:=⟨[(9,bv false),(8,iv 5),(7,iv 5),(0,.dat (.slice (encS tG))),(1,.dat (sb b))],[],[],0⟩
def Cp (i:Nat):ab:=⟨[(4,iv (ofNat i))],[],[],0⟩
theorem RT (b:List UInt8):KC 208 [.dat (.slice (encS tG)),.dat (sb b)] [] 0 (fun v h m=>pe (aeh b) v/\h=[]/\m=0):=by
 have l:KD (.loop (roundOf Tryz.f208 0)) (fun e s=>(e=.exit 0/\aeh b=false/\s=(Vr b).al Ao)∨(e=.ret/\aeh b=true/\∃i:Nat,s=(Cp i).al Ao)) ((Fp b (ofNat 0)).al Ao):=by
  refine cV (St:=fun i=>(Fp b (ofNat i)).al Ao) (fun i=>aeh b=(tG.drop i).any (fun r=>jP b r)) 5 ?_ ?_ (i:=0) (Nat.zero_le _) rfl
  ·intro i p d;have g:i=0∨i=1∨i=2∨i=3∨i=4:=by omega
   have D:(tG.drop i).any (fun r=>jP b r)=(jP b (tG.getD i [])||(tG.drop (i+1)).any (fun r=>jP b r)):=by rcases g with rfl|rfl|rfl|rfl|rfl <;> rfl
   rw[D] at d;clear D;generalize j:jP b (tG.getD i [])=k at d
   rcases g with rfl|rfl|rfl|rfl|rfl
   ·refine aq [16] [] (H:=ri) (live:=ov) (ob j ?_)
    cases k
    ·exact bS (ex:=.normal) (Fp b (ofNat (0+1))) (by kernel_rfl) (by kernel_rfl) ⟨rfl,d⟩
    exact bS (ex:=.ret) (Cp 0) (by kernel_rfl) (by kernel_rfl) (.inr ⟨rfl,d,0,rfl⟩)
   ·refine aq [16] [] (H:=ri) (live:=ov) (ob j ?_)
    cases k
    ·exact bS (ex:=.normal) (Fp b (ofNat (1+1))) (by kernel_rfl) (by kernel_rfl) ⟨rfl,d⟩
    exact bS (ex:=.ret) (Cp 1) (by kernel_rfl) (by kernel_rfl) (.inr ⟨rfl,d,1,rfl⟩)
   ·refine aq [16] [] (H:=ri) (live:=ov) (ob j ?_)
    cases k
    ·exact bS (ex:=.normal) (Fp b (ofNat (2+1))) (by kernel_rfl) (by kernel_rfl) ⟨rfl,d⟩
    exact bS (ex:=.ret) (Cp 2) (by kernel_rfl) (by kernel_rfl) (.inr ⟨rfl,d,2,rfl⟩)
   ·refine aq [16] [] (H:=ri) (live:=ov) (ob j ?_)
    cases k
    ·exact bS (ex:=.normal) (Fp b (ofNat (3+1))) (by kernel_rfl) (by kernel_rfl) ⟨rfl,d⟩
    exact bS (ex:=.ret) (Cp 3) (by kernel_rfl) (by kernel_rfl) (.inr ⟨rfl,d,3,rfl⟩)
   refine aq [16] [] (H:=ri) (live:=ov) (ob j ?_)
   cases k
   ·exact bS (ex:=.normal) (Fp b (ofNat (4+1))) (by kernel_rfl) (by kernel_rfl) ⟨rfl,d⟩
   exact bS (ex:=.ret) (Cp 4) (by kernel_rfl) (by kernel_rfl) (.inr ⟨rfl,d,4,rfl⟩)
  intro d;have o:aeh b=false:=by rw[d];rfl
  refine aq [16] [] (H:=ri) (live:=ov) ?_;exact bS (ex:=.exit 0) (Vr b) (by kernel_rfl) (by kernel_rfl) (.inl ⟨rfl,o,rfl⟩)
 generalize aeh b=c at l;refine Bh [] [] (x:=qS.of Tryz.f208 P8 ov) (T:=fun r=>pe c r.val/\r.heap=[]/\r.next=0) (by kernel_rfl) ?_;refine iF (n:=Ao) (c:=roundOf Tryz.f208 0) (f:=Fp b (ofNat 0)) (by kernel_rfl) (by kernel_rfl) l ?_;rintro ex s (⟨rfl,rfl,rfl⟩|⟨rfl,rfl,i,rfl⟩)
 ·exact⟨_,rfl,fX (a:=⟨iv (-1),[],0⟩) (by kernel_rfl) ⟨⟨_,rfl,rfl⟩,rfl,rfl⟩⟩
 exact⟨_,rfl,fX (a:=⟨iv (ofNat i),[],0⟩) (by kernel_rfl) ⟨⟨_,rfl,cj (by omega)⟩,rfl,rfl⟩⟩
theorem HA (b:List UInt8):ae 202 [.dat (.slice (encS tG)),.dat (sb b)] (bv (aeh b)):=by
 have h:=RT b;generalize aeh b=c at h;refine co [8] [] (x:=.of Tryz.f202 P8 ajF) ?_;refine Ja (Q:=pe c) h (by kernel_rfl) (by kernel_rfl) (by rintro v ⟨j,rfl,_⟩;rfl) ?_;rintro v ⟨j,rfl,a⟩ _;refine bn (b:=c) (c:=!aF j (ofNat 0)) (by rw[a];simp) (by kernel_rfl) ?_
 cases c <;> exact fi
def fP (x y:Int):Int:=match aF x y with|true=>-1|false=>(match aF y x with|true=>1|false=>0)
def qB (x y:List UInt8):Int:=match ML x y with|true=>-1|false=>(match !(ML x y||jP x y) with|true=>1|false=>0)
def BH:List Int->Int
 | []=>0
 | x::r=>match aB x 0 with|true=>BH r|false=>x
theorem eu (x:Int):aB x x=true:=by rw[cN];simp
theorem A4 (x:List UInt8):jP x x=true:=by rw[wu];simp
theorem RX (x:Int):ae 172 [iv x] (bv false):=by
 refine co [5] [] (x:=.of Tryz.f172 P8 QH) ?_;refine bn (b:=false) (c:=!aB x x) (by rw[eu];rfl) (by kernel_rfl) ?_;exact fi
theorem RW (x:List UInt8):ae 190 [.dat (sb x)] (bv false):=by
 refine co [5] [] (x:=.of Tryz.f190 P8 QH) ?_;refine bn (b:=false) (c:=!jP x x) (by rw[A4];rfl) (by kernel_rfl) ?_;exact fi
theorem J3 (x y:Int):ae 164 [iv x,iv y] (iv (fP x y)):=by
 unfold fP;generalize c:aF x y=a;generalize d:aF y x=b;refine co [16,19] [] (x:=.of Tryz.f164 P8 Ln) ?_;refine on (RX x) (on (RX y) (ob c ?_))
 cases a
 ·refine ob d ?_
  cases b <;> exact fi
 exact fi
theorem ZV (x y:List UInt8):ae 165 [.dat (sb x),.dat (sb y)] (iv (qB x y)):=by
 unfold qB;generalize d:(!(ML x y||jP x y))=b;generalize c:ML x y=a;refine co [16,19] [] (x:=.of Tryz.f165 P8 Ln) ?_;refine on (RW x) (on (RW y) (ob c ?_))
 cases a
 ·refine ob d ?_
  cases b <;> exact fi
 exact fi
noncomputable def hOr:Hints:=⟨bV,P8,bi,rowsOf bi 163⟩
def Ij (a b c d:Int) (i:Int):ab:=⟨[(8,iv i),(7,iv 4),(6,.dat (.slice [i64 a,i64 b,i64 c,i64 d])),(3,iv 0)],[],[],0⟩
def Vp (a b c d:Int):ab:=⟨[(9,bv false),(8,iv 4),(7,iv 4),(6,.dat (.slice [i64 a,i64 b,i64 c,i64 d])),(3,iv 0)],[],[],0⟩
def Fm (a:Int):ab:=⟨[(2,iv a)],[],[],0⟩
theorem afe (a b c d:Int):ae 163 [.dat (.slice [i64 a,i64 b,i64 c,i64 d])] (iv (BH [a,b,c,d])):=by
 have l:KD (.loop (roundOf Tryz.f163 0)) (fun e s=>(e=.exit 0/\BH [a,b,c,d]=0/\s=(Vp a b c d).al Ap)∨(e=.ret/\s=(Fm (BH [a,b,c,d])).al Ap)) ((Ij a b c d (ofNat 0)).al Ap):=by
  refine cV (St:=fun i=>(Ij a b c d (ofNat i)).al Ap) (fun i=>BH [a,b,c,d]=BH ([a,b,c,d].drop i)) 4 ?_ ?_ (i:=0) (Nat.zero_le _) rfl
  ·intro i o h;have g:i=0∨i=1∨i=2∨i=3:=by omega
   have D:BH ([a,b,c,d].drop i)=(match aB ([a,b,c,d].getD i 0) 0 with|true=>BH ([a,b,c,d].drop (i+1))|false=>[a,b,c,d].getD i 0):=by rcases g with rfl|rfl|rfl|rfl <;> rfl
   rw[D] at h;clear D;generalize j:aB ([a,b,c,d].getD i 0) 0=k at h
   rcases g with rfl|rfl|rfl|rfl
   ·refine aq [14] [] (H:=hOr) (live:=oz) ?_;refine bn (b:=!k) (c:=!aB ([a,b,c,d].getD 0 0) 0) (by rw[j]) (by kernel_rfl) ?_
    cases k with
    | false=>exact bS (ex:=.ret) (Fm ([a,b,c,d].getD 0 0)) (by kernel_rfl) (by kernel_rfl) (.inr ⟨rfl,by rw[h]⟩)
    | true=>exact bS (ex:=.normal) (Ij a b c d (ofNat (0+1))) (by kernel_rfl) (by kernel_rfl) ⟨rfl,h⟩
   ·refine aq [14] [] (H:=hOr) (live:=oz) ?_;refine bn (b:=!k) (c:=!aB ([a,b,c,d].getD 1 0) 0) (by rw[j]) (by kernel_rfl) ?_
    cases k with
    | false=>exact bS (ex:=.ret) (Fm ([a,b,c,d].getD 1 0)) (by kernel_rfl) (by kernel_rfl) (.inr ⟨rfl,by rw[h]⟩)
    | true=>exact bS (ex:=.normal) (Ij a b c d (ofNat (1+1))) (by kernel_rfl) (by kernel_rfl) ⟨rfl,h⟩
   ·refine aq [14] [] (H:=hOr) (live:=oz) ?_;refine bn (b:=!k) (c:=!aB ([a,b,c,d].getD 2 0) 0) (by rw[j]) (by kernel_rfl) ?_
    cases k with
    | false=>exact bS (ex:=.ret) (Fm ([a,b,c,d].getD 2 0)) (by kernel_rfl) (by kernel_rfl) (.inr ⟨rfl,by rw[h]⟩)
    | true=>exact bS (ex:=.normal) (Ij a b c d (ofNat (2+1))) (by kernel_rfl) (by kernel_rfl) ⟨rfl,h⟩
   refine aq [14] [] (H:=hOr) (live:=oz) ?_;refine bn (b:=!k) (c:=!aB ([a,b,c,d].getD 3 0) 0) (by rw[j]) (by kernel_rfl) ?_
   cases k with
   | false=>exact bS (ex:=.ret) (Fm ([a,b,c,d].getD 3 0)) (by kernel_rfl) (by kernel_rfl) (.inr ⟨rfl,by rw[h]⟩)
   | true=>exact bS (ex:=.normal) (Ij a b c d (ofNat (3+1))) (by kernel_rfl) (by kernel_rfl) ⟨rfl,h⟩
  intro h;have m:BH [a,b,c,d]=0:=by rw[h];rfl
  refine aq [14] [] (H:=hOr) (live:=oz) ?_;exact bS (ex:=.exit 0) (Vp a b c d) (by kernel_rfl) (by kernel_rfl) (.inl ⟨rfl,m,rfl⟩)
 generalize BH [a,b,c,d]=r at l;refine co [] [] (x:=.of Tryz.f163 P8 oz) ?_;refine iF (n:=Ap) (c:=roundOf Tryz.f163 0) (f:=Ij a b c d (ofNat 0)) (by kernel_rfl) (by kernel_rfl) l ?_;rintro ex s (⟨rfl,rfl,rfl⟩|⟨rfl,rfl⟩)
 ·exact⟨_,rfl,fX (by kernel_rfl) rfl⟩
 exact⟨_,rfl,fX (by kernel_rfl) rfl⟩
mutual
def oT:Ty->Ty->Int
 | .mk k n x l,.mk K b a c=>match aB (BH [fP k K,qB n b,fP x a,fP (ofNat (ax l).length) (ofNat (ax c).length)]) 0 with
  | true=>rM l c
  | false=>BH [fP k K,qB n b,fP x a,fP (ofNat (ax l).length) (ofNat (ax c).length)]
def rM:List Ty->List Ty->Int
 | t::r,u::v=>match aB (oT t u) 0 with|true=>rM r v|false=>oT t u
 | _,_=>0
end
def acb (k:Int) (n:List UInt8) (x:Int) (l:List Ty) (K:Int) (b:List UInt8) (a:Int) (c:List Ty):Int:=BH [fP k K,qB n b,fP x a,fP (ofNat (ax l).length) (ofNat (ax c).length)]
theorem qy (h:aB x 0=true):x=0:=by rw[cN] at h;simpa using h
theorem Aj:∀{l:List Int},BH l=0->∀x∈l,x=0
 | [],_,x,b=>by simp at b
 | y::r,h,x,b=>by
  unfold BH at h
  split at h
  ·rename_i c
   rcases List.mem_cons.1 b with a|b
   ·rw[a];exact qy c
   exact Aj h x b
  rename_i c;subst h;rw[eu] at c;simp at c
theorem ww {y:Int} (h:fP x y=0):x=y:=by
 unfold fP at h
 cases a:aF x y with
 | true=>rw[a] at h;simp at h
 | false=>
  rw[a] at h
  cases b:aF y x with
  | true=>rw[b] at h;simp at h
  | false=>
   rw[dA] at a b;simp at a b;omega
theorem AK {K:Int} {d:List UInt8} {c:Int} {l2:List Ty} (h:aB (acb k n x l K d c l2) 0=true):l.length=l2.length:=by
 have a:=Aj (qy h) (fP (ofNat (ax l).length) (ofNat (ax l2).length)) (by simp);have b:=ww a;rw[aH,aH] at b;exact Int.ofNat.inj b
def nF (l b:List Ty) (a:Int):Nat->Int
 | 0=>a
 | i+1=>match l[i]?,b[i]? with|some t,some u=>oT t u|_,_=>0
noncomputable def qp:Hints:=⟨bV,Ed,bi,rowsOf bi 119⟩
def rX (k:Int) (n:List UInt8) (x:Int) (l:List Ty) (K:Int) (b:List UInt8) (a:Int) (c:List Ty):Heap:=[(.loc 3,.cells [iv K,.dat (sb b),iv a,.dat (.slice (ax c))]),(.loc 2,.cells [iv k,.dat (sb n),iv x,.dat (.slice (ax l))])]
def pN (lo:Heap) (i c:Int):ab:=⟨[(6,iv i),(5,iv c),(3,.ptr (.loc 3) 0),(2,.ptr (.loc 2) 0)],lo,[],0⟩
def kZ (lo:Heap) (i c:Int):ab:=⟨[(39,bv false),(6,iv i),(5,iv c),(3,.ptr (.loc 3) 0),(2,.ptr (.loc 2) 0)],lo,[],0⟩
theorem RM {K:Int} {f:List UInt8} {c:Int} {l2:List Ty} {a:Int} (v:aB a 0=true->l.length=l2.length)
  (P:∀t∈l,∀u∈l2,ae 119 [.dat t.enc,.dat u.enc] (iv (oT t u))) (d:l.length < 1000000000) :
  KD (.loop (roundOf Tryz.f119 0)) (fun e s=>e=.exit 0/\∃i:Nat,s=(kZ (rX k n x l K f c l2) (ofNat i) (match aB a 0 with|true=>rM l l2|false=>a)).al gY) ((pN (rX k n x l K f c l2) (ofNat 0) a).al gY):=by
 generalize z:(match aB a 0 with|true=>rM l l2|false=>a)=g;refine cV (St:=fun i=>(pN (rX k n x l K f c l2) (ofNat i) (nF l l2 a i)).al gY) (fun i=>(0 < i->aB a 0=true)/\g=(match aB (nF l l2 a i) 0 with|true=>rM (l.drop i) (l2.drop i)|false=>nF l l2 a i)) (ax l).length ?_ ?_ (i:=0) (Nat.zero_le _) ⟨fun h=>absurd h (Nat.lt_irrefl 0),z.symm⟩
 ·rintro i D ⟨I,q⟩;have p:aB (nF l l2 a i) 0=true->aB a 0=true:=by
   intro h
   cases i with
   | zero=>exact h
   | succ i=>exact I (Nat.succ_pos i)
  obtain⟨t,T,O⟩:=get_mem D;have E:=D;rw[aH] at E;have V:an .i64 (ofNat i+1)=ofNat (i+1):=bb (by omega);generalize C:nF l l2 a i=w at q p;generalize j:aB w 0=B at q p
  cases B with
  | false=>
   refine aq [32,38] [45,50] (H:=qp) (live:=oA) (ob j ?_);refine bS (ex:=.exit 0) (kZ (rX k n x l K f c l2) (ofNat i) w) (by kernel_rfl) (by kernel_rfl) ⟨rfl,i,?_⟩;rw[q]
  | true=>
   have U:=v (p rfl);have A:l2[i]?=some l2[i]:=List.getElem?_eq_getElem (by omega);have y:l2[i]∈l2:=List.getElem_mem _;generalize l2[i]=u at A y;have N:=P t O u y;have r:nF l l2 a (i+1)=oT t u:=by simp only[nF,T,A]
   have m:g=(match aB (nF l l2 a (i+1)) 0 with|true=>rM (l.drop (i+1)) (l2.drop (i+1))|false=>nF l l2 a (i+1)):=by
    rw[q,r];show rM (l.drop i) (l2.drop i)=_;rw[iP T,iP A,rM]
   have J:=p rfl;rw[r] at m;have e:xU (fun s=>s=(pN (rX k n x l K f c l2) (ofNat (i+1)) (nF l l2 a (i+1))).al gY/\(0 < i+1->aB a 0=true)/\g=(match aB (nF l l2 a (i+1)) 0 with|true=>rM (l.drop (i+1)) (l2.drop (i+1))|false=>nF l l2 a (i+1)))
     (fun e s=>e=.exit 0/\∃i:Nat,s=(kZ (rX k n x l K f c l2) (ofNat i) g).al gY) .normal ((pN (rX k n x l K f c l2) (an .i64 (ofNat i+1)) (oT t u)).al gY):=by
    rw[V,r];exact⟨rfl,fun _=>J,m⟩
   generalize oT t u=S at N e;have F:=pF T;have G:=pF A;clear P v q r m I p A y T O;obtain⟨M,Z,W,Q⟩:=t;obtain⟨k4,ad,Y,R⟩:=u
   rcases Q with _|⟨b3,d3⟩ <;> rcases R with _|⟨b4,d4⟩ <;>
   ·refine aq [32,38] [45,50] (H:=qp) (live:=oA) (ob j ?_);refine bn (b:=true) (br D) (by kernel_rfl) ?_;refine oo F (oo G (on N ?_));exact bS (ex:=.normal) (pN (rX k n x l K f c l2) (an .i64 (ofNat i+1)) S) (by kernel_rfl) (by kernel_rfl) e
 rintro⟨I,q⟩;generalize C:nF l l2 a (ax l).length=w at q;generalize j:aB w 0=B at q;refine aq [32,38] [45,50] (H:=qp) (live:=oA) (ob j ?_)
 cases B with
 | false=>
  refine bS (ex:=.exit 0) (kZ (rX k n x l K f c l2) (ofNat (ax l).length) w) (by kernel_rfl) (by kernel_rfl) ⟨rfl,(ax l).length,?_⟩;rw[q]
 | true=>
  have o:w=g:=by
   rw[q,aH,List.drop_length];exact qy j
  refine bn (b:=false) (cj (i:=(ax l).length) (L:=(ax l).length) (by omega)) (by kernel_rfl) ?_;refine bS (ex:=.exit 0) (kZ (rX k n x l K f c l2) (ofNat (ax l).length) w) (by kernel_rfl) (by kernel_rfl) ⟨rfl,(ax l).length,?_⟩;rw[o]
def jY (k:Int) (n:List UInt8) (x:Int) (a:ak) (K:Int) (c:List UInt8) (b:Int) (d:ak):Heap:=[(.loc 3,.cells [iv K,.dat (sb c),iv b,.dat d]),(.loc 2,.cells [iv k,.dat (sb n),iv x,.dat a])]
theorem LP (k:Int) (n:List UInt8) (x:Int) (K:Int) (d:List UInt8) (a:Int) (g:ak) (A:g=nl∨∃j,g=.slice j) (f:Int) :
  KD (.loop (roundOf Tryz.f119 0)) (fun e s=>e=.exit 0/\∃i:Nat,s=(kZ (jY k n x nl K d a g) (ofNat i) f).al gY) ((pN (jY k n x nl K d a g) (ofNat 0) f).al gY):=by
 refine bm (St:=fun _=>(pN (jY k n x nl K d a g) (ofNat 0) f).al gY) 0 (fun i m=>absurd m (Nat.not_lt_zero i)) ?_ (i:=0) (Nat.le_refl _);generalize h:aB f 0=l
 rcases A with rfl|⟨j,rfl⟩ <;>
 ·refine aq [32,38] [45,50] (H:=qp) (live:=oA) (ob h ?_)
  cases l with
  | false=>exact bS (ex:=.exit 0) (kZ (jY k n x nl K d a _) (ofNat 0) f) (by kernel_rfl) (by kernel_rfl) ⟨rfl,0,rfl⟩
  | true=>
   refine bn (b:=false) (c:=aF (ofNat 0) (ofNat 0)) rfl (by kernel_rfl) ?_;exact bS (ex:=.exit 0) (kZ (jY k n x nl K d a _) (ofNat 0) f) (by kernel_rfl) (by kernel_rfl) ⟨rfl,0,rfl⟩
theorem US (k:Int) (n:List UInt8) (x:Int) (d:List ak) (K:Int) (b:List UInt8) (a:Int) (c:Int) (f:aB c 0=false) :
  KD (.loop (roundOf Tryz.f119 0)) (fun e s=>e=.exit 0/\∃i:Nat,s=(kZ (jY k n x (.slice d) K b a nl) (ofNat i) c).al gY) ((pN (jY k n x (.slice d) K b a nl) (ofNat 0) c).al gY):=by
 refine bm (St:=fun _=>(pN (jY k n x (.slice d) K b a nl) (ofNat 0) c).al gY) 0 (fun i g=>absurd g (Nat.not_lt_zero i)) ?_ (i:=0) (Nat.le_refl _);refine aq [32,38] [45,50] (H:=qp) (live:=oA) (ob f ?_);exact bS (ex:=.exit 0) (kZ (jY k n x (.slice d) K b a nl) (ofNat 0) c) (by kernel_rfl) (by kernel_rfl) ⟨rfl,0,rfl⟩
theorem EL {k:Int} {q:List UInt8} {p:Int} {a:ak} {K:Int} {h:List UInt8} {d:Int} {o:ak} (A:a=nl∨∃j,a=.slice j) (t:o=nl∨∃j,o=.slice j) {n m:Nat} {r:Int}
  (N:a=nl/\n=0∨∃j,a=.slice j/\n=j.length) (E:o=nl/\m=0∨∃j,o=.slice j/\m=j.length)
  (l:KD (.loop (roundOf Tryz.f119 0)) (fun e s=>e=.exit 0/\∃i:Nat,s=(kZ (jY k q p a K h d o) (ofNat i) r).al gY)
   ((pN (jY k q p a K h d o) (ofNat 0) (BH [fP k K,qB q h,fP p d,fP (ofNat n) (ofNat m)])).al gY)) :
  ae 119 [.dat (.agg [i64 k,sb q,i64 p,a]),.dat (.agg [i64 K,sb h,i64 d,o])] (iv r):=by
 have u:=J3 k K;have b:=ZV q h;have v:=J3 p d;have g:=J3 (ofNat n) (ofNat m);generalize fP k K=w at u l;generalize qB q h=y at b l;generalize fP p d=z at v l;generalize fP (ofNat n) (ofNat m)=B at g l;have G:=afe w y z B;generalize BH [w,y,z,B]=C at G l;clear A t
 rcases N with⟨rfl,rfl⟩|⟨j,rfl,rfl⟩ <;> rcases E with⟨rfl,rfl⟩|⟨D,rfl,rfl⟩ <;>
 ·refine co [] [] (x:=.of Tryz.f119 Ed oA) ?_;refine on u (on b (on v (on g (on G ?_))));refine iF (n:=gY) (c:=roundOf Tryz.f119 0) (f:=pN (jY k q p _ K h d _) (ofNat 0) C) (by kernel_rfl) (by kernel_rfl) l ?_;rintro F s ⟨rfl,i,rfl⟩;exact⟨_,rfl,fX (by kernel_rfl) rfl⟩
theorem EK {K:Int} {b:List UInt8} {a:Int} {l2:List Ty} (e:∀t∈l,∀u∈l2,ae 119 [.dat t.enc,.dat u.enc] (iv (oT t u))) (d:l.length < 1000000000) :
  ae 119 [.dat (Ty.mk k n x l).enc,.dat (Ty.mk K b a l2).enc] (iv (oT (.mk k n x l) (.mk K b a l2))):=by
 rw[oT]
 cases l with
 | nil=>
  have R:(match aB (BH [fP k K,qB n b,fP x a,fP (ofNat (ax []).length) (ofNat (ax l2).length)]) 0 with|true=>rM [] l2|false=>BH [fP k K,qB n b,fP x a,fP (ofNat (ax []).length) (ofNat (ax l2).length)])=BH [fP k K,qB n b,fP x a,fP (ofNat (ax []).length) (ofNat (ax l2).length)]:=by
   split
   ·rename_i h;rw[qy h,rM];simp
   rfl
  rw[R]
  cases l2 with
  | nil=>exact @EL _ _ _ nl _ _ _ nl (.inl rfl) (.inl rfl) 0 0 _ (.inl ⟨rfl,rfl⟩) (.inl ⟨rfl,rfl⟩) (LP k n x K b a nl (.inl rfl) _)
  | cons u v=>exact @EL _ _ _ nl _ _ _ (.slice (ax (u::v))) (.inl rfl) (.inr ⟨_,rfl⟩) 0 ((ax (u::v)).length) _ (.inl ⟨rfl,rfl⟩) (.inr ⟨_,rfl,rfl⟩) (LP k n x K b a _ (.inr ⟨_,rfl⟩) _)
 | cons t r=>
  cases l2 with
  | nil=>
   have c:aB (BH [fP k K,qB n b,fP x a,fP (ofNat (ax (t::r)).length) (ofNat (ax []).length)]) 0=false:=by
    rw[Bool.eq_false_iff];intro h
    have:=AK (l:=t::r) (l2:=[]) h
    simp at this
   rw[c];exact @EL _ _ _ (.slice (ax (t::r))) _ _ _ nl (.inr ⟨_,rfl⟩) (.inl rfl) ((ax (t::r)).length) 0 _ (.inr ⟨_,rfl,rfl⟩) (.inl ⟨rfl,rfl⟩) (US k n x _ K b a _ c)
  | cons u v=>
   exact @EL _ _ _ (.slice (ax (t::r))) _ _ _ (.slice (ax (u::v))) (.inr ⟨_,rfl⟩) (.inr ⟨_,rfl⟩) ((ax (t::r)).length) ((ax (u::v)).length) _ (.inr ⟨_,rfl,rfl⟩) (.inr ⟨_,rfl,rfl⟩)
    (RM (l:=t::r) (l2:=u::v) (fun h=>AK (l:=t::r) (l2:=u::v) h) e d)
mutual
theorem Bk:∀(t u:Ty),t.thin->ae 119 [.dat t.enc,.dat u.enc] (iv (oT t u))
 | .mk k n d l,.mk K c b e,h=>by
  simp only[Ty.thin] at h;exact EK (fun t T u _=>xF l h.2 t T u) h.1
theorem xF:∀(l:List Ty),tt l->∀t∈l,∀u:Ty,ae 119 [.dat t.enc,.dat u.enc] (iv (oT t u))
 | [],_,t,T,_=>by simp at T
 | x::r,h,t,T,u=>by
  simp only[tt] at h
  rcases List.mem_cons.1 T with a|T
  ·rw[a];exact Bk x u h.1
  exact xF r h.2 t T u
end
def NC (t u:Ty):Bool:=aB (oT t u) 0
theorem RV (t u:Ty) (h:t.thin):ae 82 [.dat t.enc,.dat u.enc] (bv (NC t u)):=by
 have e:=Bk t u h;unfold NC;generalize oT t u=c at e;generalize a:aB c 0=f;clear h;obtain⟨M,j,g,b⟩:=t;obtain⟨p,k,i,d⟩:=u
 rcases b with _|⟨l,n⟩ <;> rcases d with _|⟨m,o⟩ <;>
 ·refine co [8] [] (x:=.of Tryz.f82 P8 ajE) ?_;refine on e (ob a ?_)
  cases f <;> exact fi
theorem UY (t u:Ty) (h:t.size < 1000000000):ae 82 [.dat t.enc,.dat u.enc] (bv (NC t u)):=RV t u (DG t h)
def abQ:List Ty->ac
 | []=>.dat nl
 | t::r=>.own (ax (t::r))
theorem Rp {d:ak} (h:d∈ax l):∃t,d=Ty.enc t:=by
 rw[qz] at h;obtain⟨t,_,rfl⟩:=List.mem_map.1 h;exact⟨t,rfl⟩
theorem A7 (a b:List Ty):ax (a++b)=ax a++ax b:=by simp[qz]
theorem Nb (t:Ty):t.enc.cells.length=4:=by cases t;rfl
theorem A6 (l:List Ty):sizedB 4 (ax l)=true:=kM (fun d D=>by obtain⟨t,rfl⟩:=Rp D;exact Nb t)
theorem JT (l:List Ty):fy (ax l)=false:=by
 cases l with
 | nil=>rfl
 | cons t r=>cases t;rfl
theorem U5 {pre:List Ty} (l:pre.length < 1000000000):bB ba false 38 [.own (ax pre),.dat (.slice [t.enc])] none=some ⟨.own (ax (pre++[t])),.keep⟩:=by
 rw[A7];refine uX (i:=tiT) (ds:=[t.enc]) (k:=3) NU rfl yP ?_ ?_ (by kernel_rfl) ?_ ?_ ?_ (by simp)
 ·exact A6 [t]
 ·exact A6 pre
 ·have a:tiT.bytes<=1000:=fD (by kernel_rfl);rw[aH]
  calc (pre.length+1)*tiT.bytes<=1000000000*1000:=Nat.mul_le_mul (by omega) a
   _<=140737488355328:=by decide
 ·rw[aH];simp[lim];omega
 unfold jr;rw[show ax pre++[t.enc]=ax (pre++[t]) by rw[A7];rfl,JT]
theorem Fi {α:Type} {l:List α} {t:α} (h:l[i]?=some t):l.take (i+1)=l.take i++[t]:=by rw[List.take_add_one,h];rfl
mutual
def Ty.fY:Ty->Prop
 | .mk k _ x a=>(aB k 5=true->aF x 9223372036854775808=true)/\fg a
def fg:List Ty->Prop
 | []=>True
 | t::r=>t.fY/\fg r
end
structure Z8 where
 nm:List UInt8
 ty:Ty
structure vh where
 nm:List UInt8
 ar:Int
 sup:Ty
 con:Bool
 fl:List Z8
def bl (b:Bool):ak:=.flat (.bool b)
def Z8.cells (f:Z8):List ak:=sb f.nm::f.ty.cells
def Z8.enc (f:Z8):ak:=.agg f.cells
def BZ:List Z8->List ak
 | []=>[]
 | f::r=>f.enc::BZ r
def vh.cells (d:vh):List ak:=sb d.nm::i64 d.ar::(d.sup.cells++[bl d.con,sl (BZ d.fl)])
def vh.enc (d:vh):ak:=.agg d.cells
def av (l:List ak):List ac:=l.map .dat
def abD:List vh->List ak
 | []=>[]
 | d::r=>d.cells++abD r
def ent (d:vh) (i:Nat):Go.Value×ak:=(.string ⟨⟨d.nm⟩⟩,i64 (ofNat i))
def aca:List vh->Nat->List (Go.Value×ak)
 | [],_=>[]
 | d::r,i=>ent d i::aca r (i+1)
def hP:ac:=.ptr (.out 1) 0
def hG (r:Nat) (c:List ac) (a:List (Go.Value×ak)) (n:Nat):Heap:=[(.out r,.cells c),(.out 1,.cells [.win (.out r) 8 0 n,.map (.out 0)]),(.out 0,.map a)]
def ae9 (n:List UInt8) (u k:Int) (b:List UInt8) (x:Int) (c:List ak) (a:Bool) (d:List ak):ak:=.agg [sb n,i64 u,i64 k,sb b,i64 x,sl c,bl a,sl d]
variable {i:Nat} {l:List Z8}
theorem uA {r n k:Nat} (h:k < n):ap ba 112 [.win (.out r) 8 0 n,iv (ofNat k)]=some ⟨.ptr (.out r) (0+k*8),.keep⟩:=by
 have a:ap ba 112 [.win (.out r) 8 0 n,iv (ofNat k)]=(if (Nat.blt k n&&Nat.beq 8 8)=true then some ⟨.ptr (.out r) (0+k*8),.keep⟩ else none):=by kernel_rfl
 rw[a,if_pos];simp[Nat.blt_eq,h]
def E2 {α:Type} (o:Option α):Bool:=match o with|some _=>true|none=>false
def hH (r:Nat) (S:List vh) (a:List ak):Heap:=hG r (av (abD S++a)) (aca S 0) S.length
theorem ay.zQ {g:FuncId} {c:List ac} {d:Heap} {f:Nat} {Q y:ac->Heap->Nat->Prop} (h:KC g c d f Q) (M:∀v h m,Q v h m->∃b,h.Perm b/\y v b m):KC g c d f y:=by
 intro w R N i p H z A I s t J F;refine (h w R N i p H z A I s t J F).mono ?_;rintro e P ⟨v,E,a,j,D,C,q,B,rfl,u,V,r,l,n,k,G⟩;obtain⟨b,L,x⟩:=M _ _ _ u;obtain⟨o,O,K⟩:=r.perm L;refine⟨v,E,b,j,D,C,q,o,rfl,x,V,O,?_,n,k,G⟩;exact (List.Perm.nodup_iff (List.Perm.append_left _ (List.Perm.append_right _ K))).1 l
def box:Name×aL:=(.out 3,.cells [hP])
def hB (c:List ak) (a:List (Go.Value×ak)) (n:Nat):Heap:=box::hG 2 (av c) a n
theorem kT {α:Type} {l:List α} {t:α} (h:l[i]?=some t):l.drop i=t::l.drop (i+1):=by
 obtain⟨a,rfl⟩:=List.getElem?_eq_some_iff.1 h;exact List.drop_eq_getElem_cons a
noncomputable def tiF:TI:=match Go.Tp.elemOf ba 49 with|some t=>t|none=>default
theorem alK:Go.Tp.elemOf ba 49=some tiF:=by kernel_rfl
theorem ahl:tiF.size=5:=by kernel_rfl
theorem agG:∀l:List Z8,BZ l=l.map Z8.enc
 | []=>by simp[BZ]
 | t::r=>by simp[BZ,agG r]
theorem abV (l:List Z8):(BZ l).length=l.length:=by simp[agG]
theorem ajZ {t:Z8} (h:l[i]?=some t):(BZ l)[i]?=some t.enc:=by simp[agG,h]
theorem amq (f:Z8):f.enc.cells.length=5:=by obtain⟨a,⟨b,c,d,e⟩⟩:=f;rfl
theorem al8 {t:Z8} (h:l[i]?=some t):ap ba 49 [.dat (.slice (BZ l)),.dat (.flat (.int .i64 (ofNat i)))]=some ⟨.ref t.cells,.keep⟩:=
 pd alK rfl (ajZ h) (by rw[ahl];exact amq t) (by rw[ahl];decide)
theorem ajQ (h:i < (BZ l).length):∃t,l[i]?=some t/\t∈l:=by
 rw[abV] at h;exact⟨l[i],List.getElem?_eq_getElem h,List.getElem_mem h⟩
def Ty.gN (t:Ty):Prop:=t.size < 100000000/\t.fY
def vh.gN (d:vh):Prop:=d.sup.gN/\(∀f∈d.fl,f.ty.gN)/\d.fl.length < 1000000000
def Z8.eq (f g:Z8):Bool:=jP f.nm g.nm&&NC f.ty g.ty
def aga:List Z8->List Z8->Bool
 | f::r,g::s=>f.eq g&&aga r s
 | _,_=>true
theorem ais {a:List Z8} {t u:Z8} (T:l[i]?=some t) (b:a[i]?=some u):aga (l.drop i) (a.drop i)=(t.eq u&&aga (l.drop (i+1)) (a.drop (i+1))):=by rw[kT T,kT b];rfl
def akP (l a:List Z8):Bool:=aB (ofNat (BZ l).length) (ofNat (BZ a).length)&&aga l a
theorem akQ {a:List Z8} {c:Bool} (h:aB (ofNat (BZ l).length) (ofNat (BZ a).length)=c):c=true->l.length=a.length:=by
 rintro rfl;rw[A0,abV,abV] at h;simpa using h
def vh.eq (a b:vh):Bool:=jP a.nm b.nm&&(aB a.ar b.ar&&((a.con==b.con)&&(NC a.sup b.sup&&akP a.fl b.fl)))
end Go.Proofs.YtmpmgmmcaghacaaGreatDoor
namespace Go.Proofs
open Go.Shelf
def Tryz.MS:Go.Shelf.Ren:=⟨fun|21=>207|27=>212|28=>213|35=>214|39=>215|n=>n,fun|22=>22|3=>3|4=>4|0=>0|n=>n,fun|n=>n⟩
theorem Tryz.VR:Go.Proofs.Lays2.n21 Tryz.prog Tryz.MS:={
 mixed:=by kernel_rfl
 f21:=Tryz.func207.trans (congrArg some (by kernel_rfl))
 f27:=Tryz.func212.trans (congrArg some (by kernel_rfl))
 f28:=Tryz.func213.trans (congrArg some (by kernel_rfl))
 f35:=Tryz.func214.trans (congrArg some (by kernel_rfl))
 f39:=Tryz.func215.trans (congrArg some (by kernel_rfl))
 t0:=Tryz.underlying0
 a0:=Tryz.isAgg0
 z0:=Tryz.sizeOf0
 v0:=Tryz.zeroValue0
 t3:=Tryz.underlying3
 a3:=Tryz.isAgg3
 z3:=Tryz.sizeOf3
 v3:=Tryz.zeroValue3
 t4:=Tryz.underlying4
 a4:=Tryz.isAgg4
 z4:=Tryz.sizeOf4
 v4:=Tryz.zeroValue4
 t22:=Tryz.underlying22
 a22:=Tryz.isAgg22
 z22:=Tryz.sizeOf22
 v22:=Tryz.zeroValue22
 i3:=by kernel_rfl }
def Tryz.RZ:Go.Shelf.Ren:=⟨fun|25=>206|31=>132|32=>211|37=>172|n=>n,fun|22=>22|3=>3|4=>4|40=>134|0=>0|n=>n,fun|n=>n⟩
theorem Tryz.aff:Go.Proofs.Lays2.n25 Tryz.prog Tryz.RZ:={
 mixed:=by kernel_rfl
 f25:=Tryz.func206.trans (congrArg some (by kernel_rfl))
 f31:=Tryz.func132.trans (congrArg some (by kernel_rfl))
 f32:=Tryz.func211.trans (congrArg some (by kernel_rfl))
 f37:=Tryz.func172.trans (congrArg some (by kernel_rfl))
 t0:=Tryz.underlying0
 a0:=Tryz.isAgg0
 z0:=Tryz.sizeOf0
 v0:=Tryz.zeroValue0
 t3:=Tryz.underlying3
 a3:=Tryz.isAgg3
 z3:=Tryz.sizeOf3
 v3:=Tryz.zeroValue3
 t4:=Tryz.underlying4
 a4:=Tryz.isAgg4
 z4:=Tryz.sizeOf4
 v4:=Tryz.zeroValue4
 t22:=Tryz.underlying22
 a22:=Tryz.isAgg22
 z22:=Tryz.sizeOf22
 v22:=Tryz.zeroValue22
 t40:=Tryz.underlying134
 a40:=Tryz.isAgg134
 z40:=Tryz.sizeOf134
 v40:=Tryz.zeroValue134 }
end Go.Proofs
