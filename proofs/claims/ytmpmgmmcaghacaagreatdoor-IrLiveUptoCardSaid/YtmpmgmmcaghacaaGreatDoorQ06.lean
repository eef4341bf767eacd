/- Part 6 of what the last text proves. -/
import Derived.Test.YtmpmgmmcaghacaaGreatDoorProg
import Derived.KernelRfl
import Derived.Ground.NamesProg
import Derived.Shelf.Strings.OnBuilder
import Derived.Shelf.SlMaps.Clone
import Derived.Shelf.SlicesE.Clone
import Derived.Shelf.SlicesE.Delete
import Derived.Shelf.Strconv.Itoa4
import Derived.Lib.ItoaLen
import Derived.Lib.AppendIntMem
import Derived.Lib.LaidTab
import Derived.Ground.Names2Prog
import Derived.Shelf.Lays2
import Derived.Shelf.Slices.SearchI
import Derived.Shelf.Spec.SlicesInsert
import Derived.Shelf.Spec.SlicesInsertGrow
import Derived.Test.YtmpmgmmcaghacaaGreatDoorQ05
set_option linter.unusedVariables false
set_option linter.unusedSimpArgs false
open Int (ofNat)
set_option maxRecDepth 100000
set_option maxHeartbeats 4000000
namespace Go.Proofs.YtmpmgmmcaghacaaGreatDoor
open Go.Tp
noncomputable abbrev vP:=Tryz.f175.ntmps
noncomputable abbrev vO:=Tryz.f176.ntmps
noncomputable abbrev jg:=Tryz.f204.ntmps
noncomputable abbrev mF:=Tryz.f205.ntmps
noncomputable abbrev Aq:=Tryz.f143.ntmps
noncomputable abbrev Ao:=Tryz.f208.ntmps
noncomputable abbrev Ap:=Tryz.f163.ntmps
noncomputable abbrev gY:=Tryz.f119.ntmps
abbrev aaR:TI:=⟨.struct [(0,3),(1,3),(2,23),(3,24)],4,64,.agg #[.int .i64 0,.int .i64 0,.slice none 0 0,.slice none 0 0]⟩
abbrev aaQ:TI:=⟨.struct [(0,3),(1,9),(2,3),(3,38)],4,56,.agg #[.int .i64 0,.string ⟨#[]⟩,.int .i64 0,.slice none 0 0]⟩
abbrev aaP:TI:=⟨.struct [(0,3),(1,2),(2,9),(3,41)],4,56,.agg #[.int .i64 0,.int .i64 0,.string ⟨#[]⟩,.slice none 0 0]⟩
abbrev aaO:TI:=⟨.struct [(0,3),(1,3),(2,3),(3,3),(4,3),(5,9),(6,22),(7,40),(11,43)],15,192,.agg #[.int .i64 0,.int .i64 0,.int .i64 0,.int .i64 0,.int .i64 0,.string ⟨#[]⟩,.slice none 0 0,.int .i64 0,.string ⟨#[]⟩,.int .i64 0,.slice none 0 0,.int .i64 0,.int .i64 0,.string ⟨#[]⟩,.slice none 0 0]⟩
abbrev aaN:TI:=⟨.struct [(0,9),(1,3),(2,40),(6,4),(7,49)],8,112,.agg #[.string ⟨#[]⟩,.int .i64 0,.int .i64 0,.string ⟨#[]⟩,.int .i64 0,.slice none 0 0,.bool false,.slice none 0 0]⟩
abbrev aaM:TI:=⟨.struct [(0,3),(1,51),(9,9),(10,40),(14,3),(15,26),(19,9)],20,280,.agg #[.int .i64 0,.string ⟨#[]⟩,.int .i64 0,.int .i64 0,.string ⟨#[]⟩,.int .i64 0,.slice none 0 0,.bool false,.slice none 0 0,.string ⟨#[]⟩,.int .i64 0,.string ⟨#[]⟩,.int .i64 0,.slice none 0 0,.int .i64 0,.int .i64 0,.int .i64 0,.slice none 0 0,.slice none 0 0,.string ⟨#[]⟩]⟩
abbrev aaL:TI:=⟨.struct [(0,22),(1,3)],2,32,.agg #[.slice none 0 0,.int .i64 0]⟩
abbrev aaK:TI:=⟨.struct [(0,74),(1,75)],2,32,.agg #[.pointer none,.slice none 0 0]⟩
abbrev Vn:TI:=⟨.struct [(0,9),(1,4),(2,4),(3,4),(4,4),(5,4),(6,4),(7,4),(8,4),(9,4),(10,4),(11,4)],12,32,.agg #[.string ⟨#[]⟩,.bool false,.bool false,.bool false,.bool false,.bool false,.bool false,.bool false,.bool false,.bool false,.bool false,.bool false]⟩
abbrev Vm:TI:=⟨.struct [(0,4),(1,4),(2,4),(3,4),(4,4),(5,4),(6,4),(7,4)],8,8,.agg #[.bool false,.bool false,.bool false,.bool false,.bool false,.bool false,.bool false,.bool false]⟩
abbrev Vl:TI:=⟨.array 23 101,276,736,.agg (List.replicate 23 ([.string ⟨#[]⟩]++List.replicate 11 (.bool false))).flatten.toArray⟩
abbrev Vk:TI:=⟨.struct [(0,9),(1,40)],5,72,.agg #[.string ⟨#[]⟩,.int .i64 0,.string ⟨#[]⟩,.int .i64 0,.slice none 0 0]⟩
abbrev Vj:TI:=⟨.struct [(0,3),(1,3)],2,16,.agg #[.int .i64 0,.int .i64 0]⟩
abbrev Vi:TI:=⟨.array 24 5,24,24,.agg (List.replicate 24 (.int .u8 0)).toArray⟩
theorem aew:TI.ok Tryz.prog 2 ⟨.int .i64,1,8,.int .i64 0⟩:=⟨⟨Tryz.t2,by kernel_rfl,rfl,rfl,rfl,rfl⟩,Tryz.underlying2⟩
theorem aev:TI.ok Tryz.prog 3 ⟨.int .i64,1,8,.int .i64 0⟩:=⟨⟨Tryz.t3,by kernel_rfl,rfl,rfl,rfl,rfl⟩,Tryz.underlying3⟩
theorem aeu:TI.ok Tryz.prog 4 ⟨.bool,1,1,.bool false⟩:=⟨⟨Tryz.t4,by kernel_rfl,rfl,rfl,rfl,rfl⟩,Tryz.underlying4⟩
theorem aet:TI.ok Tryz.prog 5 ⟨.int .u8,1,1,.int .u8 0⟩:=⟨⟨Tryz.t5,by kernel_rfl,rfl,rfl,rfl,rfl⟩,Tryz.underlying5⟩
theorem aes:TI.ok Tryz.prog 9 ⟨.string,1,16,.string ⟨#[]⟩⟩:=⟨⟨Tryz.t9,by kernel_rfl,rfl,rfl,rfl,rfl⟩,Tryz.underlying9⟩
theorem aaH:TI.ok Tryz.prog 22 ⟨.slice 3,1,24,.slice none 0 0⟩:=⟨⟨Tryz.t22,by kernel_rfl,rfl,rfl,rfl,rfl⟩,Tryz.underlying22⟩
theorem aaG:TI.ok Tryz.prog 23 ⟨.slice 45,1,24,.slice none 0 0⟩:=⟨⟨Tryz.t23,by kernel_rfl,rfl,rfl,rfl,rfl⟩,Tryz.underlying23⟩
theorem aaF:TI.ok Tryz.prog 24 ⟨.slice 54,1,24,.slice none 0 0⟩:=⟨⟨Tryz.t24,by kernel_rfl,rfl,rfl,rfl,rfl⟩,Tryz.underlying24⟩
theorem aaE:TI.ok Tryz.prog 26 aaR:=⟨⟨Tryz.t26,by kernel_rfl,rfl,rfl,rfl,rfl⟩,⟨_,Tryz.underlying26,rfl,[(0,1),(1,1),(2,1),(3,1)],by kernel_rfl⟩⟩
theorem aaD:TI.ok Tryz.prog 28 ⟨.pointer,1,8,.pointer none⟩:=⟨⟨Tryz.t28,by kernel_rfl,rfl,rfl,rfl,rfl⟩,⟨_,Tryz.underlying28⟩⟩
theorem aaC:TI.ok Tryz.prog 32 ⟨.int .i64,1,8,.int .i64 0⟩:=⟨⟨Tryz.t32,by kernel_rfl,rfl,rfl,rfl,rfl⟩,Tryz.underlying32⟩
theorem aaB:TI.ok Tryz.prog 35 ⟨.slice 4,1,24,.slice none 0 0⟩:=⟨⟨Tryz.t35,by kernel_rfl,rfl,rfl,rfl,rfl⟩,Tryz.underlying35⟩
theorem aaA:TI.ok Tryz.prog 38 ⟨.slice 40,1,24,.slice none 0 0⟩:=⟨⟨Tryz.t38,by kernel_rfl,rfl,rfl,rfl,rfl⟩,Tryz.underlying38⟩
theorem aaz:TI.ok Tryz.prog 40 aaQ:=⟨⟨Tryz.t40,by kernel_rfl,rfl,rfl,rfl,rfl⟩,⟨_,Tryz.underlying40,rfl,[(0,1),(1,1),(2,1),(3,1)],by kernel_rfl⟩⟩
theorem aay:TI.ok Tryz.prog 41 ⟨.slice 43,1,24,.slice none 0 0⟩:=⟨⟨Tryz.t41,by kernel_rfl,rfl,rfl,rfl,rfl⟩,Tryz.underlying41⟩
theorem aax:TI.ok Tryz.prog 43 aaP:=⟨⟨Tryz.t43,by kernel_rfl,rfl,rfl,rfl,rfl⟩,⟨_,Tryz.underlying43,rfl,[(0,1),(1,1),(2,1),(3,1)],by kernel_rfl⟩⟩
theorem aaw:TI.ok Tryz.prog 45 aaO:=⟨⟨Tryz.t45,by kernel_rfl,rfl,rfl,rfl,rfl⟩,⟨_,Tryz.underlying45,rfl,[(0,1),(1,1),(2,1),(3,1),(4,1),(5,1),(6,1),(7,4),(11,4)],by kernel_rfl⟩⟩
theorem aav:TI.ok Tryz.prog 49 ⟨.slice 139,1,24,.slice none 0 0⟩:=⟨⟨Tryz.t49,by kernel_rfl,rfl,rfl,rfl,rfl⟩,Tryz.underlying49⟩
theorem aau:TI.ok Tryz.prog 51 aaN:=⟨⟨Tryz.t51,by kernel_rfl,rfl,rfl,rfl,rfl⟩,⟨_,Tryz.underlying51,rfl,[(0,1),(1,1),(2,4),(6,1),(7,1)],by kernel_rfl⟩⟩
theorem aat:TI.ok Tryz.prog 53 aaM:=⟨⟨Tryz.t53,by kernel_rfl,rfl,rfl,rfl,rfl⟩,⟨_,Tryz.underlying53,rfl,[(0,1),(1,8),(9,1),(10,4),(14,1),(15,4),(19,1)],by kernel_rfl⟩⟩
theorem aas:TI.ok Tryz.prog 54 ⟨.slice 53,1,24,.slice none 0 0⟩:=⟨⟨Tryz.t54,by kernel_rfl,rfl,rfl,rfl,rfl⟩,Tryz.underlying54⟩
theorem av7:TI.ok Tryz.prog 55 ⟨.slice 22,1,24,.slice none 0 0⟩:=⟨⟨Tryz.t55,by kernel_rfl,rfl,rfl,rfl,rfl⟩,Tryz.underlying55⟩
theorem amP:TI.ok Tryz.prog 67 aaL:=⟨⟨Tryz.t67,by kernel_rfl,rfl,rfl,rfl,rfl⟩,⟨_,Tryz.underlying67,rfl,[(0,1),(1,1)],by kernel_rfl⟩⟩
theorem aaq:TI.ok Tryz.prog 70 ⟨.slice 9,1,24,.slice none 0 0⟩:=⟨⟨Tryz.t70,by kernel_rfl,rfl,rfl,rfl,rfl⟩,Tryz.underlying70⟩
theorem aap:TI.ok Tryz.prog 74 ⟨.pointer,1,8,.pointer none⟩:=⟨⟨Tryz.t74,by kernel_rfl,rfl,rfl,rfl,rfl⟩,⟨_,Tryz.underlying74⟩⟩
theorem aao:TI.ok Tryz.prog 75 ⟨.slice 5,1,24,.slice none 0 0⟩:=⟨⟨Tryz.t75,by kernel_rfl,rfl,rfl,rfl,rfl⟩,Tryz.underlying75⟩
theorem aan:TI.ok Tryz.prog 77 aaK:=⟨⟨Tryz.t77,by kernel_rfl,rfl,rfl,rfl,rfl⟩,⟨_,Tryz.underlying77,rfl,[(0,1),(1,1)],by kernel_rfl⟩⟩
theorem av6:TI.ok Tryz.prog 91 ⟨.slice 92,1,24,.slice none 0 0⟩:=⟨⟨Tryz.t91,by kernel_rfl,rfl,rfl,rfl,rfl⟩,Tryz.underlying91⟩
theorem av5:TI.ok Tryz.prog 92 ⟨.map 3 4,1,8,.map none⟩:=⟨⟨Tryz.t92,by kernel_rfl,rfl,rfl,rfl,rfl⟩,Tryz.underlying92⟩
theorem av4:TI.ok Tryz.prog 98 ⟨.func,1,8,.nilFunc⟩:=⟨⟨Tryz.t98,by kernel_rfl,rfl,rfl,rfl,rfl⟩,⟨_,_,_,Tryz.underlying98⟩⟩
theorem Ww:TI.ok Tryz.prog 101 Vn:=⟨⟨Tryz.t101,by kernel_rfl,rfl,rfl,rfl,rfl⟩,⟨_,Tryz.underlying101,rfl,[(0,1),(1,1),(2,1),(3,1),(4,1),(5,1),(6,1),(7,1),(8,1),(9,1),(10,1),(11,1)],by kernel_rfl⟩⟩
theorem Wv:TI.ok Tryz.prog 108 Vm:=⟨⟨Tryz.t108,by kernel_rfl,rfl,rfl,rfl,rfl⟩,⟨_,Tryz.underlying108,rfl,[(0,1),(1,1),(2,1),(3,1),(4,1),(5,1),(6,1),(7,1)],by kernel_rfl⟩⟩
theorem Wu:TI.ok Tryz.prog 112 ⟨.slice 51,1,24,.slice none 0 0⟩:=⟨⟨Tryz.t112,by kernel_rfl,rfl,rfl,rfl,rfl⟩,Tryz.underlying112⟩
theorem Wt:TI.ok Tryz.prog 122 ⟨.pointer,1,8,.pointer none⟩:=⟨⟨Tryz.t122,by kernel_rfl,rfl,rfl,rfl,rfl⟩,⟨_,Tryz.underlying122⟩⟩
theorem Ws:TI.ok Tryz.prog 131 Vl:=⟨⟨Tryz.t131,by kernel_rfl,rfl,rfl,rfl,rfl⟩,Tryz.underlying131⟩
theorem Wr:TI.ok Tryz.prog 134 ⟨.int .u64,1,8,.int .u64 0⟩:=⟨⟨Tryz.t134,by kernel_rfl,rfl,rfl,rfl,rfl⟩,Tryz.underlying134⟩
theorem Wq:TI.ok Tryz.prog 139 Vk:=⟨⟨Tryz.t139,by kernel_rfl,rfl,rfl,rfl,rfl⟩,⟨_,Tryz.underlying139,rfl,[(0,1),(1,4)],by kernel_rfl⟩⟩
theorem Wp:TI.ok Tryz.prog 142 ⟨.func,1,8,.nilFunc⟩:=⟨⟨Tryz.t142,by kernel_rfl,rfl,rfl,rfl,rfl⟩,⟨_,_,_,Tryz.underlying142⟩⟩
theorem Wo:TI.ok Tryz.prog 145 Vj:=⟨⟨Tryz.t145,by kernel_rfl,rfl,rfl,rfl,rfl⟩,⟨_,Tryz.underlying145,rfl,[(0,1),(1,1)],by kernel_rfl⟩⟩
theorem Wn:TI.ok Tryz.prog 146 ⟨.slice 145,1,24,.slice none 0 0⟩:=⟨⟨Tryz.t146,by kernel_rfl,rfl,rfl,rfl,rfl⟩,Tryz.underlying146⟩
theorem Wm:TI.ok Tryz.prog 162 ⟨.int .u64,1,8,.int .u64 0⟩:=⟨⟨Tryz.t162,by kernel_rfl,rfl,rfl,rfl,rfl⟩,Tryz.underlying162⟩
theorem Wl:TI.ok Tryz.prog 170 ⟨.int .i64,1,8,.int .i64 0⟩:=⟨⟨Tryz.t170,by kernel_rfl,rfl,rfl,rfl,rfl⟩,Tryz.underlying170⟩
theorem Wk:TI.ok Tryz.prog 178 ⟨.int .u32,1,4,.int .u32 0⟩:=⟨⟨Tryz.t178,by kernel_rfl,rfl,rfl,rfl,rfl⟩,Tryz.underlying178⟩
theorem Wj:TI.ok Tryz.prog 182 ⟨.func,1,8,.nilFunc⟩:=⟨⟨Tryz.t182,by kernel_rfl,rfl,rfl,rfl,rfl⟩,⟨_,_,_,Tryz.underlying182⟩⟩
theorem Wi:TI.ok Tryz.prog 186 Vi:=⟨⟨Tryz.t186,by kernel_rfl,rfl,rfl,rfl,rfl⟩,Tryz.underlying186⟩
theorem Wh:TI.ok Tryz.prog 195 ⟨.int .u64,1,8,.int .u64 0⟩:=⟨⟨Tryz.t195,by kernel_rfl,rfl,rfl,rfl,rfl⟩,Tryz.underlying195⟩
theorem Wg:TI.ok Tryz.prog 199 ⟨.pointer,1,8,.pointer none⟩:=⟨⟨Tryz.t199,by kernel_rfl,rfl,rfl,rfl,rfl⟩,⟨_,Tryz.underlying199⟩⟩
theorem Wf:TI.ok Tryz.prog 202 ⟨.struct [(0,22)],1,24,.agg #[.slice none 0 0]⟩:=⟨⟨Tryz.t202,by kernel_rfl,rfl,rfl,rfl,rfl⟩,⟨_,Tryz.underlying202,rfl,[(0,1)],by kernel_rfl⟩⟩
theorem We:TI.ok Tryz.prog 204 ⟨.pointer,1,8,.pointer none⟩:=⟨⟨Tryz.t204,by kernel_rfl,rfl,rfl,rfl,rfl⟩,⟨_,Tryz.underlying204⟩⟩
def Vg:Tr:=(.node (.node (.node (.node (.node (.node .nil 2 ⟨.int .i64,1,8,.int .i64 0⟩ .nil) 3 ⟨.int .i64,1,8,.int .i64 0⟩ (.node .nil 4 ⟨.bool,1,1,.bool false⟩ .nil)) 5 ⟨.int .u8,1,1,.int .u8 0⟩ (.node (.node .nil 9 ⟨.string,1,16,.string ⟨#[]⟩⟩ .nil) 22 ⟨.slice 3,1,24,.slice none 0 0⟩ .nil)) 23 ⟨.slice 45,1,24,.slice none 0 0⟩ (.node (.node (.node .nil 24 ⟨.slice 54,1,24,.slice none 0 0⟩ .nil) 26 aaR .nil) 28 ⟨.pointer,1,8,.pointer none⟩ (.node (.node .nil 32 ⟨.int .i64,1,8,.int .i64 0⟩ .nil) 35 ⟨.slice 4,1,24,.slice none 0 0⟩ .nil))) 38 ⟨.slice 40,1,24,.slice none 0 0⟩ (.node (.node (.node (.node .nil 40 aaQ .nil) 41 ⟨.slice 43,1,24,.slice none 0 0⟩ .nil) 43 aaP (.node (.node .nil 45 aaO .nil) 49 ⟨.slice 139,1,24,.slice none 0 0⟩ .nil)) 51 aaN (.node (.node (.node .nil 53 aaM .nil) 54 ⟨.slice 53,1,24,.slice none 0 0⟩ .nil) 55 ⟨.slice 22,1,24,.slice none 0 0⟩ (.node (.node .nil 67 aaL .nil) 70 ⟨.slice 9,1,24,.slice none 0 0⟩ .nil)))) 74 ⟨.pointer,1,8,.pointer none⟩ (.node (.node (.node (.node (.node .nil 75 ⟨.slice 5,1,24,.slice none 0 0⟩ .nil) 77 aaK (.node .nil 91 ⟨.slice 92,1,24,.slice none 0 0⟩ .nil)) 92 ⟨.map 3 4,1,8,.map none⟩ (.node (.node .nil 98 ⟨.func,1,8,.nilFunc⟩ .nil) 101 Vn .nil)) 108 Vm (.node (.node (.node .nil 112 ⟨.slice 51,1,24,.slice none 0 0⟩ .nil) 122 ⟨.pointer,1,8,.pointer none⟩ .nil) 131 Vl (.node (.node .nil 134 ⟨.int .u64,1,8,.int .u64 0⟩ .nil) 139 Vk .nil))) 142 ⟨.func,1,8,.nilFunc⟩ (.node (.node (.node (.node .nil 145 Vj .nil) 146 ⟨.slice 145,1,24,.slice none 0 0⟩ .nil) 162 ⟨.int .u64,1,8,.int .u64 0⟩ (.node (.node .nil 170 ⟨.int .i64,1,8,.int .i64 0⟩ .nil) 178 ⟨.int .u32,1,4,.int .u32 0⟩ .nil)) 182 ⟨.func,1,8,.nilFunc⟩ (.node (.node (.node .nil 186 Vi .nil) 195 ⟨.int .u64,1,8,.int .u64 0⟩ .nil) 199 ⟨.pointer,1,8,.pointer none⟩ (.node (.node .nil 202 ⟨.struct [(0,22)],1,24,.agg #[.slice none 0 0]⟩ .nil) 204 ⟨.pointer,1,8,.pointer none⟩ .nil)))))
theorem NN:Vg.HN Tryz.prog:=(Tr.ag (Tr.ag (Tr.ag (Tr.ag (Tr.ag (Tr.ag Tr.all_nil aew Tr.all_nil) aev (Tr.ag Tr.all_nil aeu Tr.all_nil)) aet (Tr.ag (Tr.ag Tr.all_nil aes Tr.all_nil) aaH Tr.all_nil)) aaG (Tr.ag (Tr.ag (Tr.ag Tr.all_nil aaF Tr.all_nil) aaE Tr.all_nil) aaD (Tr.ag (Tr.ag Tr.all_nil aaC Tr.all_nil) aaB Tr.all_nil))) aaA (Tr.ag (Tr.ag (Tr.ag (Tr.ag Tr.all_nil aaz Tr.all_nil) aay Tr.all_nil) aax (Tr.ag (Tr.ag Tr.all_nil aaw Tr.all_nil) aav Tr.all_nil)) aau (Tr.ag (Tr.ag (Tr.ag Tr.all_nil aat Tr.all_nil) aas Tr.all_nil) av7 (Tr.ag (Tr.ag Tr.all_nil amP Tr.all_nil) aaq Tr.all_nil)))) aap (Tr.ag (Tr.ag (Tr.ag (Tr.ag (Tr.ag Tr.all_nil aao Tr.all_nil) aan (Tr.ag Tr.all_nil av6 Tr.all_nil)) av5 (Tr.ag (Tr.ag Tr.all_nil av4 Tr.all_nil) Ww Tr.all_nil)) Wv (Tr.ag (Tr.ag (Tr.ag Tr.all_nil Wu Tr.all_nil) Wt Tr.all_nil) Ws (Tr.ag (Tr.ag Tr.all_nil Wr Tr.all_nil) Wq Tr.all_nil))) Wp (Tr.ag (Tr.ag (Tr.ag (Tr.ag Tr.all_nil Wo Tr.all_nil) Wn Tr.all_nil) Wm (Tr.ag (Tr.ag Tr.all_nil Wl Tr.all_nil) Wk Tr.all_nil)) Wj (Tr.ag (Tr.ag (Tr.ag Tr.all_nil Wi Tr.all_nil) Wh Tr.all_nil) Wg (Tr.ag (Tr.ag Tr.all_nil Wf Tr.all_nil) We Tr.all_nil)))))
def efn (f:Nat):Bool:=Nat.ble 0 f&&Nat.ble f 215&&!(match f with|0=>true|1=>true|111=>true|189=>true|212=>true|_=>false)
def ety (t:Nat):Option TI:=match t with
  | 0=>none
  | t=>Vg.find t
def env (a:bW):bz:=⟨ety,efn,a⟩
theorem Zr:(List.range 216).all (fun k=>!(efn (0+k))||Zs Tryz.prog (0+k))=true:=by kernel_rfl
theorem Nd (f:Nat) (h:efn f=true):0≤f∧f≤215:=by
  simp_all[efn]
theorem adq (f:Nat) (h:efn f=true):Zs Tryz.prog f=true:=by
  grind[Nd,Zr]
theorem Zz:(env bW.nc).Ok Tryz.prog where
  ty t i h:=by
    have h:ety t=some i:=h;unfold ety at h
    split at h
    · grind
    · exact Tr.EF NN h
  fn f h:=by
    have a:=adq f h;unfold Zs at a
    grind
  mixed:=by kernel_rfl
  nc:=rfl
def bV:FuncId→Bool:=fun f=>match f with|207=>true|_=>false
def bi:FuncId→Bool:=fun f=>match f with|4000000=>true|1000011=>true|1000015=>true|1000021=>true|1000024=>true|1000026=>true|1000027=>true|1000040=>true|1000068=>true|1000071=>true|1000195=>true|2000042=>true|2000075=>true|2000076=>true|2000086=>true|2000104=>true|2000113=>true|2000114=>true|_=>false
def qQ (n:Nat):Nat×Bool:=(n,false)
def lL (n:Nat):Nat×Bool:=(n,true)
def lv (l:List Nat) (n:Nat):Nat:=(l[n]?).getD 0
abbrev Fk (k:FuncId) (f:Func) (o:Nat→aw):Prop:=LN Tryz.prog bV bi k f o
def atS:Nat→aw:=fun n=>match n with|3=>⟨[lL 0,qQ 1,qQ 2,qQ 3,qQ 5,lL 4],none,[],[6,7,8]⟩|_=>default
def apm:Nat→Nat:=lv [1,8,24,2^26+24,4,2^29+24,4,2^38+24,4,56,2^42+56,56,120,504,1016,2040,2^66+2040,2040,4088,8184,2^75+8184,8184,8184,2^106+2040,4,4]
theorem axE:Fk 7 Tryz.f7 atS:=ao Tryz.func7
def Tw:Nat→aw:=fun n=>match n with|2=>⟨[qQ 0,qQ 1,qQ 2,qQ 3,lL 4,qQ 5,qQ 6],none,[],[7]⟩|6=>⟨[qQ 0,qQ 1,qQ 2,qQ 3,qQ 4,lL 5,qQ 6,qQ 7,lL 8,qQ 9],none,[1],[10]⟩|11=>⟨[qQ 0,qQ 1,qQ 2,qQ 3,qQ 4,qQ 5,qQ 6,qQ 7,qQ 8,lL 9,qQ 10,lL 11,qQ 12],none,[1],[13]⟩|_=>default
def CV:Nat→Nat:=lv [19,51,51,115,67108979,115,115,177,433,2^45+433,433,433,561,2^68+560,560,48,16]
theorem ae2:Fk 9 Tryz.f9 Tw:=ao Tryz.func9
def P8:Nat→aw:=fun _=>default
def QH:Nat→Nat:=lv [1,4]
theorem adp:Fk 10 Tryz.f10 P8:=ao Tryz.func10
def XV:Nat→Nat:=lv [0,2,1]
theorem adn:Fk 12 Tryz.f12 P8:=ao Tryz.func12
def QG:Nat→Nat:=lv [2,4]
theorem adm:Fk 13 Tryz.f13 P8:=ao Tryz.func13
theorem adl:Fk 14 Tryz.f14 P8:=ao Tryz.func14
def aua:Nat→Nat:=lv [6,8198,16,16]
theorem awW:Fk 16 Tryz.f16 P8:=ao Tryz.func16
def VL:Nat→aw:=fun n=>match n with|4=>⟨[qQ 0,qQ 1,qQ 5,qQ 6,lL 2,qQ 3,qQ 4,lL 7,qQ 8,qQ 9],none,[],[10]⟩|8=>⟨[qQ 0,qQ 3,lL 1,qQ 2,lL 4,qQ 5,qQ 6],none,[],[7]⟩|_=>default
def XU:Nat→Nat:=lv [2,258,4,10,10,14680072,31457288,14680120,14680072,14680072,4]
theorem adk:Fk 17 Tryz.f17 VL:=ao Tryz.func17
def Ac:Nat→aw:=fun n=>match n with|6=>⟨[qQ 0,qQ 1,qQ 2,qQ 3,qQ 4,qQ 5,qQ 6,qQ 7,qQ 8,qQ 9],none,[],[10,11]⟩|11=>⟨[qQ 0,qQ 1,qQ 2,qQ 3,qQ 4,qQ 5,qQ 6,qQ 7,qQ 8,qQ 9],none,[],[10,11]⟩|_=>default
def jk:Nat→Nat:=lv [12,2^36+12,16,44,2^41+44,44,2^55+44,16,76,2^60+76,76,2^74+76,16,16]
theorem adj:Fk 20 Tryz.f20 Ac:=ao Tryz.func20
def lP:Nat→Nat:=lv [2,2^21+2,4,10,2^5123+2^5121+402653194,939524106,402653210,402653194,402653194,42,2^36+42,42,2^5125+2^39+42,2^41+106,234,490,2026,126100789566375912,270215977642231784,126100789566380008,18572844863275927528,92359821158114133992,18572844863275935720,37797504707820437645288,18572844863275927528,126100789566375912,2^85+2^84+2^83+360,2^86+2^85+2^84+2^83+360,2^85+2^84+2^83+33128,2^85+2^84+2^83+360,2^85+2^84+2^83+360,0,2^105+10,42,65544,2^111+2^110+2^109+2^16,2^112+2^111+2^110+2^109+2^16,2^111+2^110+2^109+458752,2^111+2^110+2^109+2^16,2^111+2^110+2^109+2^16,4]
theorem awV:Fk 21 Tryz.f21 P8:=ao Tryz.func21
def at7:Nat→Nat:=lv [2,18,16386,12,12]
theorem awU:Fk 22 Tryz.f22 P8:=ao Tryz.func22
def B2:Nat→Nat:=lv [2,10,42,8234,42,2^31+34,34,32,32,4]
theorem awT:Fk 24 Tryz.f24 P8:=ao Tryz.func24
def aqG:Nat→Nat:=lv [3,35,547,35,131107,16,16]
theorem awS:Fk 25 Tryz.f25 P8:=ao Tryz.func25
def QE:Nat→Nat:=lv [3,3,515,1,16]
theorem adi:Fk 28 Tryz.f28 P8:=ao Tryz.func28
def QD:Nat→Nat:=lv [6,32774,16,38,102,4194406,12583014,16,272629862,272629862,16,2^31+102,38,2^42+34,32,16]
theorem adh:Fk 29 Tryz.f29 P8:=ao Tryz.func29
def PB:Nat→aw:=fun n=>match n with|1=>⟨[qQ 0,qQ 1,qQ 2,qQ 3,qQ 4,qQ 5,qQ 6,qQ 7,qQ 8,qQ 9],none,[],[]⟩|4=>⟨[qQ 0,qQ 1,qQ 2,qQ 3,qQ 4,qQ 5,qQ 6,qQ 7,qQ 8,qQ 9,qQ 10,qQ 11],none,[],[12,13]⟩|_=>default
def QC:Nat→Nat:=lv [3,16387,16,3,16]
theorem adg:Fk 32 Tryz.f32 PB:=ao Tryz.func32
def tP:Nat→aw:=fun n=>match n with|6=>⟨[qQ 0,qQ 1,qQ 2,qQ 3,qQ 7,lL 4,qQ 5,qQ 6,qQ 8],none,[],[9]⟩|11=>⟨[qQ 0,qQ 1,qQ 2,qQ 3,qQ 7,qQ 8,qQ 9,qQ 10,lL 4,qQ 5,qQ 6,qQ 11],none,[],[12]⟩|16=>⟨[qQ 0,qQ 1,qQ 2,lL 3,lL 4,qQ 5,lL 6,qQ 7],none,[1],[8]⟩|17=>⟨[qQ 0,qQ 1,qQ 2,qQ 3,qQ 7,qQ 8,qQ 9,qQ 10,lL 4,qQ 5,qQ 6,qQ 11],none,[],[12]⟩|_=>default
def ou:Nat→Nat:=lv [19,51,32819,98355,16,16810035,16,2^35+51,16,113,2^51+113,16,209,465,2^68+465,465,465,16]
theorem adf:Fk 33 Tryz.f33 tP:=ao Tryz.func33
def fU:Nat→aw:=fun n=>match n with|15=>⟨[qQ 0,qQ 1,qQ 2,qQ 3,qQ 4,qQ 5,qQ 9,lL 6,lL 7,lL 8,lL 10,lL 11,lL 12],none,[],[2000000,13,14]⟩|17=>⟨[qQ 0,qQ 1,qQ 2,qQ 3,qQ 4,qQ 5,qQ 9,lL 6,lL 7,lL 8,lL 10,lL 11,lL 12],none,[],[2000000,13,14]⟩|26=>⟨[qQ 0,qQ 1,qQ 2,qQ 3,qQ 4,qQ 8,qQ 9,qQ 10,qQ 13,lL 5,lL 6,lL 7,lL 11,lL 12,lL 14],none,[],[2000000,15,16,17,18]⟩|_=>default
def eG:Nat→Nat:=lv [271,783,7951,134225679,402661135,768,34493964047,768,2199157481231,4864,2^53+4864,768,2^56+134225679,768,2^70+134225679,768,2^84+134225679,768,2^98+134221583,768,2^108+134221583,768,2^117+134221583,768,2^127+134221583,2^127+134221583,768,2^146+134221583,768,2^152+134221583,768,2^160+134221579,2^160+134221579,2^160+134221579,768,2^166+134219531,2^169+777,256,768,2^175+134219523,768,2^181+1795,768,256]
theorem ade:Fk 34 Tryz.f34 fU:=ao Tryz.func34
def El:Nat→Nat:=lv [7,135,391,2439,391,391,64]
theorem ada:Fk 36 Tryz.f36 P8:=ao Tryz.func36
def aeM:Nat→Nat:=lv [6,16390,16,2^34+6,16,2^59+2^58+2^57+6,2161727821137838086,2^59+2^58+2^57+70,74795782611369197574,16,2^59+2^58+2^57+6,134,2^87+6,16,2^91+2^90+2^89+2,2^92+2^91+2^90+2^89+2,2^91+2^90+2^89+1026,281631358937424012539550760962,598544008994481362913726562306,281631358937424012539550765058,281631358937424012539550769154,40846450566240764860434053341186,16,281631358937424012539550760962,2^91+2^90+2^89+2,16]
theorem ac8:Fk 38 Tryz.f38 P8:=ao Tryz.func38
def zY:Nat→aw:=fun n=>match n with|9=>⟨[qQ 0,qQ 1,qQ 2,qQ 3,qQ 4,qQ 5],none,[],[6,7]⟩|_=>default
def ka:Nat→Nat:=lv [6,2^30+6,16,38,2^52+38,16,102,2^55+102,102,2^65+102,16,134,2^86+6,16,262,2^91+262,262,774,2^101+774,774,1798,2^114+1798,2822,2^121+2822,16,2^137+774,16,16]
theorem ac7:Fk 39 Tryz.f39 zY:=ao Tryz.func39
def QA:Nat→Nat:=lv [6,38,102,358,2^30+354,352,2^42+288,256,256,16]
theorem ac6:Fk 40 Tryz.f40 P8:=ao Tryz.func40
def XT:Nat→Nat:=lv [3,3,2,48]
theorem ac5:Fk 41 Tryz.f41 P8:=ao Tryz.func41
theorem ac4:Fk 42 Tryz.f42 P8:=ao Tryz.func42
def VI:Nat→aw:=fun n=>match n with|7=>⟨[qQ 0,qQ 1,qQ 2,qQ 3,qQ 4,qQ 5,qQ 6,lL 7],none,[0],[8]⟩|14=>⟨[qQ 0,qQ 1,qQ 2,lL 3,qQ 4,lL 5],none,[0],[6]⟩|16=>⟨[qQ 0,qQ 1,qQ 2,lL 3,qQ 4,lL 5],none,[0],[6]⟩|18=>⟨[qQ 0,qQ 1,qQ 2,lL 3,qQ 4,lL 5],none,[0],[6]⟩|_=>default
def XR:Nat→Nat:=lv [2,10,42,106,106,234,2^28+234,106,234,234,2^47+234,234,106,2^69+106,106,2^77+106,106,2^85+98,98,2^95+2^94+2^93+96,2^96+2^95+2^94+2^93+96,2^95+2^94+2^93+608,2^95+2^94+2^93+96,2^95+2^94+2^93+96,4]
theorem ac3:Fk 43 Tryz.f43 VI:=ao Tryz.func43
def VH:Nat→aw:=fun n=>match n with|1=>⟨[],none,[],[1000000]⟩|_=>default
theorem ac2:Fk 44 Tryz.f44 VH:=ao Tryz.func44
theorem awR:Fk 55 Tryz.f55 P8:=ao Tryz.func55
def avK:Nat→Nat:=lv [1,8,8,4]
theorem awQ:Fk 56 Tryz.f56 P8:=ao Tryz.func56
theorem awP:Fk 57 Tryz.f57 P8:=ao Tryz.func57
def Jm:Nat→Nat:=lv [5,21,2^33+21,12,12]
theorem ac1:Fk 58 Tryz.f58 P8:=ao Tryz.func58
def XO:Nat→Nat:=lv [5,0]
theorem ac0:Fk 59 Tryz.f59 P8:=ao Tryz.func59
def Py:Nat→aw:=fun n=>match n with|6=>⟨[qQ 0,qQ 1,qQ 2,qQ 3,qQ 4,qQ 5,qQ 6,qQ 7,qQ 8,qQ 9],none,[],[]⟩|11=>⟨[qQ 0,qQ 1,qQ 2,qQ 3,qQ 4,qQ 5,qQ 6,qQ 7,qQ 8,qQ 9],none,[],[]⟩|_=>default
def Qz:Nat→Nat:=lv [1,257,4,9,8201,9,2^25+9,25,57,2^32+57,57,2^44+57,57,57,9,4,4]
theorem acZ:Fk 60 Tryz.f60 Py:=ao Tryz.func60
def Gd:Nat→aw:=fun n=>match n with|6=>⟨[qQ 0,qQ 1,qQ 2,qQ 3,qQ 5,qQ 6,qQ 8,qQ 9,qQ 10,lL 4,lL 7],none,[],[2000000,11,12]⟩|_=>default
def Az:Nat→Nat:=lv [3,35,131107,35,2^31+35,16,16]
theorem acY:Fk 61 Tryz.f61 Gd:=ao Tryz.func61
def Qw:Nat→Nat:=lv [5,12,28,4,140,4,1036,4,8204,4,65548,4,524300,4,4194316,4,2^25+12,4,2^28+12,4,2^31+12,2^31+12,4,2^35+12,2^35+12,2^35+12,4,2^40+12,4,2^43+12,2^43+12,2^43+12,4,2^48+4,4,4]
theorem acX:Fk 62 Tryz.f62 P8:=ao Tryz.func62
def Qv:Nat→Nat:=lv [5,4]
theorem acW:Fk 63 Tryz.f63 P8:=ao Tryz.func63
def Qu:Nat→Nat:=lv [19,16]
theorem acV:Fk 64 Tryz.f64 P8:=ao Tryz.func64
def VF:Nat→aw:=fun n=>match n with|2=>⟨[qQ 0,qQ 1,qQ 2,qQ 4,qQ 5,qQ 6,qQ 15,qQ 23,qQ 24,qQ 29,qQ 30,qQ 34,qQ 35,lL 3,qQ 7,lL 8,qQ 9,lL 10,lL 11,qQ 12,qQ 13,qQ 14,lL 16,qQ 17,lL 18,lL 19,qQ 20,qQ 21,qQ 22,lL 25,qQ 26,qQ 27,qQ 28,lL 31,qQ 32,lL 33,lL 36,qQ 37,qQ 38,qQ 39,qQ 40],none,[],[41]⟩|_=>default
theorem acU:Fk 65 Tryz.f65 VF:=ao Tryz.func65
def CO:Nat→aw:=fun n=>match n with|7=>⟨[qQ 0,qQ 1,qQ 2,qQ 3,lL 4,qQ 5,qQ 6,qQ 7],none,[],[8]⟩|_=>default
def Ay:Nat→Nat:=lv [5,21,53,4,277,4,8197,4,4]
theorem acT:Fk 66 Tryz.f66 CO:=ao Tryz.func66
def Ax:Nat→Nat:=lv [12,108,8232,16,2^29+40,16,2^48+40,16,16]
theorem acS:Fk 67 Tryz.f67 P8:=ao Tryz.func67
def KQ:Nat→aw:=fun n=>match n with|8=>⟨[qQ 0,qQ 1,qQ 2,qQ 3,qQ 4,qQ 5,qQ 6,qQ 7,qQ 8,qQ 13,lL 9,qQ 10,qQ 11,qQ 12],some 13,[],[14,15]⟩|13=>⟨[qQ 0,qQ 1,qQ 2,qQ 3,qQ 4],none,[],[5,6]⟩|_=>default
def sQ:Nat→Nat:=lv [2,10,393226,917514,393242,2^5125+393258,67502122,393322,393450,2^63+393322,393258,393258,393322,393834,2^93+393834,393258,393258,394346,394282,2^123+394282,4,2^128+394282,393258,393226,4]
theorem acR:Fk 68 Tryz.f68 KQ:=ao Tryz.func68
def Qt:Nat→Nat:=lv [6,38,16,16390,16,2^24+6,16,16]
theorem acQ:Fk 69 Tryz.f69 P8:=ao Tryz.func69
def cF:Nat→aw:=fun n=>match n with|4=>⟨[qQ 0,qQ 1,qQ 2,qQ 3,qQ 4,qQ 5,qQ 6,qQ 7,qQ 8,qQ 9,qQ 10,qQ 11,qQ 12,qQ 13,qQ 14,qQ 15,qQ 16,qQ 17,qQ 18,qQ 19,qQ 20,qQ 21,qQ 22,qQ 23,qQ 24,qQ 25,qQ 26,qQ 27,qQ 28,qQ 29,qQ 30,qQ 31,qQ 32,qQ 33,qQ 34,qQ 35,qQ 36,qQ 37,qQ 38,qQ 39,qQ 40,qQ 41,qQ 42,qQ 43,qQ 44,qQ 45,qQ 46,qQ 47,qQ 48,qQ 49,qQ 50,qQ 51,qQ 52,qQ 53,qQ 54,qQ 55,qQ 56,qQ 57,qQ 58,qQ 59,qQ 60,qQ 61,qQ 62,qQ 63,qQ 64,qQ 65,lL 66,lL 67,qQ 68,qQ 69,qQ 70,qQ 71,qQ 72,qQ 73,qQ 74,qQ 75,qQ 76,qQ 77,qQ 78],none,[],[79,80,81,82]⟩|11=>⟨[qQ 0,qQ 1,qQ 2,qQ 3,qQ 4,qQ 5],none,[],[6,7]⟩|_=>default
def bu:Nat→Nat:=lv [12,44,131116,16,2^100+44,16,2^137+44,16,108,2^142+108,108,2^152+108,16,2^186+12,16,2^188+12,2^189+2^188+12,2^189+2^188+12,16,2^203+2^188+12,16,2^223+2^188+12,16,2^233+2^188+12,16,2^246+2^188+8,2^246+8,16,16]
theorem acP:Fk 70 Tryz.f70 cF:=ao Tryz.func70
def jZ:Nat→Nat:=lv [2,10,26,16394,26,58,1048634,58,122,250,506,2^29+506,506,506,122,2^59+58,58,520,2^66+520,520,2^73+520,4,4]
theorem acO:Fk 71 Tryz.f71 P8:=ao Tryz.func71
def XM:Nat→Nat:=lv [65,0,2^19]
theorem acN:Fk 72 Tryz.f72 P8:=ao Tryz.func72
theorem acM:Fk 73 Tryz.f73 P8:=ao Tryz.func73
def VC:Nat→aw:=fun n=>match n with|1=>⟨[qQ 0,qQ 1,lL 2,qQ 3,qQ 4,lL 5],none,[0],[6]⟩|_=>default
def XK:Nat→Nat:=lv [38,0]
theorem acL:Fk 74 Tryz.f74 VC:=ao Tryz.func74
def XJ:Nat→Nat:=lv [3,4099,12291,16,32771,16,35,4194339,2^29+35,35,35,3848290697251,8246337208355,3848290697379,566798244118691,3848290697379,3848290697251,3848290697251,291,259,259,2^65+2^64+2^63+258,138350580552821637378,2^65+2^64+2^63+1282,2^65+2^64+2^63+1282,2^65+2^64+2^63+258,2^65+2^64+2^63+258,16]
theorem acK:Fk 77 Tryz.f77 P8:=ao Tryz.func77
def Qs:Nat→Nat:=lv [12,16]
theorem acJ:Fk 82 Tryz.f82 P8:=ao Tryz.func82
theorem acI:Fk 86 Tryz.f86 P8:=ao Tryz.func86
def KO:Nat→aw:=fun n=>match n with|6=>⟨[qQ 0,qQ 1,qQ 2,qQ 3,qQ 4,qQ 5,qQ 6,qQ 7,qQ 8,qQ 9],none,[],[10,11]⟩|_=>default
def Jl:Nat→Nat:=lv [12,2^33+12,16,44,2^38+44,44,2^52+44,16,16]
theorem acH:Fk 87 Tryz.f87 KO:=ao Tryz.func87
def arw:Nat→Nat:=lv [11,267,11,262155]
theorem awO:Fk 89 Tryz.f89 P8:=ao Tryz.func89
theorem awN:Fk 90 Tryz.f90 P8:=ao Tryz.func90
def avI:Nat→Nat:=lv [33,161,41,8225]
theorem awM:Fk 91 Tryz.f91 P8:=ao Tryz.func91
def VA:Nat→aw:=fun n=>match n with|17=>⟨[qQ 0,qQ 1,qQ 2,qQ 3,qQ 4,qQ 5,qQ 6,qQ 7,qQ 8,qQ 9,qQ 10,qQ 11],none,[],[12,13,14]⟩|_=>default
def XI:Nat→Nat:=lv [271,783,1807,8390415,0,536872719,0,2^35+1807,1807,1807,7951,2^50+7951,3855,3855,7951,2^68+3855,2^72+3855,2^87+3855,8973,783,50191,17935,214543,475663,2^113+475663,17167,17165,783,17167,17163,783]
theorem acG:Fk 92 Tryz.f92 VA:=ao Tryz.func92
def XH:Nat→Nat:=lv [1,4,4]
theorem acF:Fk 93 Tryz.f93 P8:=ao Tryz.func93
def gd:Nat→aw:=fun n=>match n with|7=>⟨[qQ 0,qQ 1,lL 2,qQ 3,qQ 4],none,[],[5,6]⟩|29=>⟨[qQ 0,qQ 1,qQ 2,qQ 3,qQ 4,qQ 5,qQ 6,lL 7,qQ 8,lL 9,qQ 10],none,[1],[11]⟩|35=>⟨[qQ 0,qQ 1,qQ 2,qQ 3,qQ 4,qQ 5,qQ 6,lL 7],none,[],[8,9]⟩|_=>default
def eF:Nat→Nat:=lv [271,783,2097935,783,4194575,12583183,12583183,256,4299161871,256,34363932943,34363932943,2^39+271,256,256,2^49+4194575,2^49+4194575,2^49+4194575,256,2^58+4194575,2^58+4194575,256,2^75+4194575,2^75+4194575,1295,3343,7439,2^83+7439,7439,7439,256,2^98+271,8463,2^103+8463,8463,256,2^118+256,256,256]
theorem acE:Fk 94 Tryz.f94 gd:=ao Tryz.func94
theorem acD:Fk 95 Tryz.f95 P8:=ao Tryz.func95
theorem acC:Fk 96 Tryz.f96 P8:=ao Tryz.func96
def sO:Nat→Nat:=lv [56,176,57520,123056,58032,16834736,64,57520,1200,64]
theorem acB:Fk 97 Tryz.f97 P8:=ao Tryz.func97
def sN:Nat→Nat:=lv [12,76,204,204,16,2097228,16,2^31+76,16,2^41+76,16,2^54+72,2^54+8,16,16]
theorem acA:Fk 98 Tryz.f98 P8:=ao Tryz.func98
theorem acz:Fk 99 Tryz.f99 P8:=ao Tryz.func99
theorem Zp:Fk 100 Tryz.f100 P8:=ao Tryz.func100
theorem Zo:Fk 101 Tryz.f101 P8:=ao Tryz.func101
def ur:Nat→Nat:=lv [2,131074,4,524290,1572866,4,34078722,4,134742018,4,2^37+2,10,2^43+10,10,2^51+10,4,4,4]
theorem Zn:Fk 102 Tryz.f102 P8:=ao Tryz.func102
theorem Zm:Fk 103 Tryz.f103 P8:=ao Tryz.func103
def Eo:Nat→Nat:=lv [1,1]
theorem Zl:Fk 104 Tryz.f104 P8:=ao Tryz.func104
def Lx:Nat→Nat:=lv [6,16]
theorem Zk:Fk 105 Tryz.f105 P8:=ao Tryz.func105
def um:Nat→Nat:=lv [1,131073,4,9,2^21+9,9,2^34+9,4,4]
theorem Zj:Fk 106 Tryz.f106 P8:=ao Tryz.func106
def Lw:Nat→Nat:=lv [2,10,4,4096,4,4]
theorem Zi:Fk 107 Tryz.f107 P8:=ao Tryz.func107
theorem Zh:Fk 108 Tryz.f108 P8:=ao Tryz.func108
def uj:Nat→Nat:=lv [2,2^32+2,4,10,2^37+10,10,2^51+10,4,2^53+2,2^54+2^53+2,2^54+2^53+2,4,2^57+2^53+2,4,2^67+2,4,4]
theorem Zg:Fk 109 Tryz.f109 P8:=ao Tryz.func109
theorem Zf:Fk 110 Tryz.f110 P8:=ao Tryz.func110
def Uc:Nat→Nat:=lv [3,2051,131073,16,33,97,8388705,97,225,161,2^34+160,160,16,16,512,16]
theorem Ze:Fk 112 Tryz.f112 P8:=ao Tryz.func112
def Ed:Nat→aw:=fun n=>match n with|1=>⟨[qQ 0,qQ 1,qQ 2,qQ 3,qQ 5,qQ 6,qQ 7,qQ 8,qQ 10,qQ 11,qQ 12,qQ 13,qQ 15,qQ 16,qQ 17,qQ 18,qQ 19,qQ 20,lL 4,lL 9,lL 14],none,[],[21,22,23,24]⟩|5=>⟨[qQ 0,qQ 1,qQ 2,qQ 3,qQ 4,qQ 5,qQ 6,qQ 7,qQ 8,qQ 9],none,[],[10,11]⟩|_=>default
def oA:Nat→Nat:=lv [12,44,108,2^39+108,108,108,16]
theorem Zd:Fk 119 Tryz.f119 Ed:=ao Tryz.func119
def qb:Nat→aw:=fun n=>match n with|12=>⟨[qQ 0,qQ 1,qQ 2,qQ 3,qQ 4,qQ 5,qQ 6,qQ 7,qQ 8,qQ 9],none,[],[10,11]⟩|_=>default
def ku:Nat→Nat:=lv [12,140,16,524300,16,2^31+12,16,2^43+12,16,44,2^63+44,44,108,2^78+108,16,16]
theorem Zc:Fk 123 Tryz.f123 qb:=ao Tryz.func123
def auT:Nat→Nat:=lv [6,68,36,0,16]
theorem avP:Fk 125 Tryz.f125 P8:=ao Tryz.func125
def P6:Nat→aw:=fun n=>match n with|4=>⟨[qQ 0,qQ 1,qQ 2,qQ 3,qQ 4,qQ 5,qQ 6,qQ 7,qQ 8,qQ 9,qQ 10,qQ 11,qQ 12],none,[],[13,14]⟩|6=>⟨[],some 999999,[],[]⟩|_=>default
def Ub:Nat→Nat:=lv [71,4167,71,199,2^30+199,199,199]
theorem Zb:Fk 126 Tryz.f126 P6:=ao Tryz.func126
def P5:Nat→aw:=fun n=>match n with|10=>⟨[],some 999999,[],[]⟩|_=>default
def Ua:Nat→Nat:=lv [71,199,449,961,525249,961,961,1217,2^30+1217,1217,1217,1217]
theorem Za:Fk 127 Tryz.f127 P5:=ao Tryz.func127
def T9:Nat→Nat:=lv [67,32835,195,451,963,2^33+963,963,1987,2^43+1987,1987,963]
theorem Y9:Fk 128 Tryz.f128 P5:=ao Tryz.func128
def T8:Nat→Nat:=lv [7,259,771,1795,3843,7937,2^32+7937,2^34+7681,7681,7681,7681,2560,2^49+2048,192,2^51+2^49+2048,192,2^54+2048,192]
theorem Y8:Fk 129 Tryz.f129 P8:=ao Tryz.func129
def P1:Nat→aw:=fun n=>match n with|3=>⟨[qQ 0,qQ 1,qQ 2,qQ 3,qQ 4,qQ 5,qQ 6,qQ 7,qQ 8,qQ 9,qQ 10,qQ 11,qQ 12,lL 13,qQ 14,lL 15],none,[],[]⟩|_=>default
def T7:Nat→Nat:=lv [69,193,8385,193,193,193]
theorem Y7:Fk 130 Tryz.f130 P1:=ao Tryz.func130
def P0:Nat→aw:=fun n=>match n with|5=>⟨[qQ 0,qQ 1,qQ 2,qQ 3,qQ 4,qQ 5,qQ 6,qQ 7,qQ 8,qQ 9,qQ 10,qQ 11,qQ 12],none,[],[13,14,15]⟩|11=>⟨[],some 999999,[],[]⟩|16=>⟨[qQ 0,qQ 1,qQ 2,qQ 3,qQ 4,qQ 5,qQ 6,qQ 7,qQ 8],none,[],[9,10]⟩|17=>⟨[],some 999999,[],[]⟩|22=>⟨[qQ 0,qQ 1,qQ 2,qQ 3,qQ 4,qQ 5,qQ 6,qQ 7,qQ 8],none,[],[9,10]⟩|23=>⟨[],some 999999,[],[]⟩|_=>default
def T6:Nat→Nat:=lv [7,135,391,16775,391,2^32+391,391,2^37+391,64,2^41+391,64,391,2^61+391,903,2^65+903,903,2^78+903,903,2^98+391,1415,2^103+1415,1415,2^116+1415,1415,64]
theorem Y6:Fk 131 Tryz.f131 P0:=ao Tryz.func131
def T5:Nat→Nat:=lv [3,16]
theorem Y5:Fk 132 Tryz.f132 P8:=ao Tryz.func132
def PY:Nat→aw:=fun n=>match n with|1=>⟨[qQ 0,qQ 1,qQ 2,qQ 3,qQ 4,qQ 5,qQ 6,qQ 7,qQ 8,qQ 9,qQ 10,qQ 11,qQ 12,lL 13,qQ 14,lL 15],none,[],[]⟩|3=>⟨[qQ 0,qQ 1,qQ 2,qQ 3,qQ 4,qQ 5,qQ 6,qQ 7,qQ 8,qQ 9,qQ 10,qQ 11],none,[],[12,13,14]⟩|5=>⟨[qQ 0,qQ 1,qQ 2,qQ 3,qQ 4,qQ 5,qQ 6,qQ 7,qQ 8,qQ 9,qQ 10,qQ 11],none,[],[12,13]⟩|8=>⟨[qQ 0,qQ 1,qQ 2,qQ 3,qQ 4,qQ 5,qQ 6,qQ 7,qQ 8,qQ 9,qQ 10,qQ 11,qQ 12,lL 13,qQ 14,lL 15],none,[],[]⟩|_=>default
def T4:Nat→Nat:=lv [15,7,1539,2^43+1539,1539,2^59+1539,1539,2^64+1539,1539,1539,1539,256]
theorem Y4:Fk 133 Tryz.f133 PY:=ao Tryz.func133
def PX:Nat→aw:=fun n=>match n with|1=>⟨[qQ 0,qQ 1,qQ 2,qQ 3,qQ 4,qQ 5,qQ 6,qQ 7,qQ 8,qQ 9,qQ 10,qQ 11,qQ 12,lL 13,qQ 14,lL 15],none,[],[]⟩|3=>⟨[qQ 0,qQ 1,qQ 2,qQ 3,qQ 4,qQ 5,qQ 6,qQ 7,qQ 8,qQ 9,qQ 10,qQ 11],none,[],[12,13]⟩|5=>⟨[qQ 0,qQ 1,qQ 2,qQ 3,qQ 4,qQ 5,qQ 6,qQ 7,qQ 8,qQ 9,qQ 10,qQ 11],none,[],[12,13,14]⟩|8=>⟨[qQ 0,qQ 1,qQ 2,qQ 3,qQ 4,qQ 5,qQ 6,qQ 7,qQ 8,qQ 9,qQ 10,qQ 11,qQ 12,lL 13,qQ 14,lL 15],none,[],[]⟩|10=>⟨[qQ 0,qQ 1,qQ 2,qQ 3,qQ 4,qQ 5,qQ 6,qQ 7,qQ 8,qQ 9,qQ 10,qQ 11,qQ 12,lL 13,qQ 14,lL 15],none,[],[]⟩|13=>⟨[qQ 0,qQ 1,qQ 2,qQ 3,qQ 4,qQ 5,qQ 6,qQ 7,qQ 8,qQ 9,qQ 10,qQ 11],none,[],[12,13]⟩|15=>⟨[qQ 0,qQ 1,qQ 2,qQ 3,qQ 4,qQ 5,qQ 6,qQ 7,qQ 8,qQ 9,qQ 10,qQ 11],none,[],[12,13,14]⟩|18=>⟨[qQ 0,qQ 1,qQ 2,qQ 3,qQ 4,qQ 5,qQ 6,qQ 7,qQ 8,qQ 9,qQ 10,qQ 11,qQ 12,lL 13,qQ 14,lL 15],none,[],[]⟩|21=>⟨[qQ 0,qQ 1,qQ 2,qQ 3,qQ 4,qQ 5,qQ 6,qQ 7,qQ 8,qQ 9,qQ 10,qQ 11,qQ 12,lL 13,qQ 14,lL 15],none,[],[]⟩|_=>default
def T3:Nat→Nat:=lv [15,7,3075,2^43+3075,3075,2^60+3075,3075,2^65+3075,2048,768,3075,3075,3075,2^112+3075,3075,2^129+3075,3075,2^134+3075,3075,3075,3075,2048,768]
theorem Y3:Fk 134 Tryz.f134 PX:=ao Tryz.func134
def T2:Nat→Nat:=lv [5,21,1,5,261,5,5,16389,5,5,4]
theorem Y2:Fk 136 Tryz.f136 P8:=ao Tryz.func136
def Af:Nat→aw:=fun n=>match n with|9=>⟨[qQ 0,qQ 1,qQ 2,qQ 3,qQ 4,qQ 5,qQ 6,lL 7,qQ 8,lL 9,qQ 10],none,[1],[11]⟩|_=>default
def uh:Nat→Nat:=lv [271,783,525071,256,1295,3343,7439,2^36+7439,7439,7439,256]
theorem Y1:Fk 137 Tryz.f137 Af:=ao Tryz.func137
theorem Y0:Fk 138 Tryz.f138 P8:=ao Tryz.func138
def Ls:Nat→Nat:=lv [28,16]
theorem YZ:Fk 139 Tryz.f139 P8:=ao Tryz.func139
theorem YY:Fk 140 Tryz.f140 P8:=ao Tryz.func140
def Lq:Nat→Nat:=lv [7,32]
theorem YX:Fk 141 Tryz.f141 P8:=ao Tryz.func141
theorem YW:Fk 142 Tryz.f142 P8:=ao Tryz.func142
theorem YV:Fk 143 Tryz.f143 P8:=ao Tryz.func143
theorem YU:Fk 144 Tryz.f144 P8:=ao Tryz.func144
theorem YT:Fk 145 Tryz.f145 P8:=ao Tryz.func145
theorem YS:Fk 146 Tryz.f146 P8:=ao Tryz.func146
def En:Nat→Nat:=lv [2,10,8,4]
theorem YR:Fk 147 Tryz.f147 P8:=ao Tryz.func147
theorem YQ:Fk 148 Tryz.f148 P8:=ao Tryz.func148
theorem YP:Fk 149 Tryz.f149 P8:=ao Tryz.func149
theorem YO:Fk 150 Tryz.f150 P8:=ao Tryz.func150
def ug:Nat→Nat:=lv [2,10,26,538,26,26,4]
theorem YN:Fk 151 Tryz.f151 P8:=ao Tryz.func151
theorem YM:Fk 152 Tryz.f152 P8:=ao Tryz.func152
def dH:Nat→Nat:=lv [2,10,2^26+10,4,2^28+10,4,805306378,805306378,4,17448304650,4,2^48+2^28+10,2^62+10,4,26,2^65+26,26,2^74+26,4,2^75+2^28+10,2^78+10,4,2^79+2^28+10,2^82+10,4,2^83+10,2^94+10,4,42,2^97+42,42,2^106+42,4,4]
theorem YL:Fk 153 Tryz.f153 P8:=ao Tryz.func153
theorem YK:Fk 154 Tryz.f154 P8:=ao Tryz.func154
def TV:Nat→Nat:=lv [1,17,4,4]
theorem YJ:Fk 155 Tryz.f155 P8:=ao Tryz.func155
def oz:Nat→Nat:=lv [1,9,456,968,488,16872,4,456,4]
theorem YI:Fk 163 Tryz.f163 P8:=ao Tryz.func163
def Ln:Nat→Nat:=lv [3,35,99,2115,4096,16,16,8195,16,65539,16,2^19,16,16]
theorem YH:Fk 164 Tryz.f164 P8:=ao Tryz.func164
theorem YG:Fk 165 Tryz.f165 P8:=ao Tryz.func165
def TU:Nat→Nat:=lv [1,8,4,4]
theorem YF:Fk 166 Tryz.f166 P8:=ao Tryz.func166
def PL:Nat→aw:=fun n=>match n with|3=>⟨[qQ 0,qQ 1,qQ 2,qQ 3,qQ 4,qQ 5,qQ 6,qQ 7,qQ 8,qQ 9,qQ 10,qQ 11,qQ 12,qQ 13,qQ 14,qQ 15,qQ 16,qQ 17],none,[],[18,19]⟩|5=>⟨[qQ 0,qQ 1,qQ 2,qQ 3,qQ 4,qQ 5,qQ 6,qQ 7,qQ 8,qQ 9,qQ 10,qQ 11],none,[],[12,13]⟩|6=>⟨[],some 999999,[],[]⟩|_=>default
def TT:Nat→Nat:=lv [269,781,66317,2^36+781,781,2^52+781,525,269]
theorem YE:Fk 167 Tryz.f167 PL:=ao Tryz.func167
def TS:Nat→Nat:=lv [7,64]
theorem YD:Fk 170 Tryz.f170 P8:=ao Tryz.func170
def TR:Nat→Nat:=lv [31,31,23,4,1024]
theorem YC:Fk 171 Tryz.f171 P8:=ao Tryz.func171
theorem YB:Fk 172 Tryz.f172 P8:=ao Tryz.func172
def qa:Nat→aw:=fun n=>match n with|5=>⟨[qQ 0,qQ 1,lL 2,qQ 3,qQ 4],none,[],[5,6]⟩|_=>default
def oy:Nat→Nat:=lv [271,783,4879,256,8389391,256,2^32+271,256,256]
theorem YA:Fk 173 Tryz.f173 qa:=ao Tryz.func173
theorem Yz:Fk 174 Tryz.f174 P8:=ao Tryz.func174
def yt:Nat→Nat:=lv [2,10,904,1928,936,904,904,4]
theorem Yy:Fk 175 Tryz.f175 P8:=ao Tryz.func175
theorem Yx:Fk 176 Tryz.f176 P8:=ao Tryz.func176
theorem Yw:Fk 177 Tryz.f177 P8:=ao Tryz.func177
def vL:Nat→aw:=fun n=>match n with|6=>⟨[qQ 0,qQ 1,qQ 2,qQ 3,qQ 6,lL 4,qQ 5],none,[],[7]⟩|_=>default
def rf:Nat→Nat:=lv [14,65550,14,117440526,251658254,117440718,117440526,117440526]
theorem Yv:Fk 178 Tryz.f178 vL:=ao Tryz.func178
theorem Yu:Fk 179 Tryz.f179 P8:=ao Tryz.func179
theorem Yt:Fk 180 Tryz.f180 P8:=ao Tryz.func180
def uc:Nat→Nat:=lv [2,1026,4,10,32778,10,2^24+10,4,4]
theorem Ys:Fk 181 Tryz.f181 P8:=ao Tryz.func181
def vK:Nat→aw:=fun n=>match n with|6=>⟨[qQ 0,qQ 1,qQ 2,qQ 3,qQ 4,qQ 5,qQ 6,qQ 7,qQ 10,lL 8,qQ 9],none,[],[11,12]⟩|_=>default
def ow:Nat→Nat:=lv [14,65550,14,142,2^27+142,142,142,64]
theorem Yr:Fk 182 Tryz.f182 vK:=ao Tryz.func182
theorem Yq:Fk 190 Tryz.f190 P8:=ao Tryz.func190
def PG:Nat→aw:=fun n=>match n with|1=>⟨[qQ 0,qQ 1,qQ 2,qQ 3,qQ 4,qQ 5,qQ 6,qQ 7],none,[],[8]⟩|_=>default
def TO:Nat→Nat:=lv [15,262158,6,768,768]
theorem Yp:Fk 191 Tryz.f191 PG:=ao Tryz.func191
def Lh:Nat→Nat:=lv [2,2^20+2,4,2^22+2,12582914,12582914,4,1077936130,4,2^52+2^22+2,4,2^58+2^22+2,4,2^64+2^22+2,4,2^80+2,4,4]
theorem Yo:Fk 192 Tryz.f192 P8:=ao Tryz.func192
theorem Yn:Fk 193 Tryz.f193 P8:=ao Tryz.func193
theorem Ym:Fk 194 Tryz.f194 P8:=ao Tryz.func194
def yq:Nat→Nat:=lv [51,65555,0]
theorem Yl:Fk 195 Tryz.f195 P8:=ao Tryz.func195
def Lf:Nat→Nat:=lv [6,2048,16,16]
theorem Yk:Fk 196 Tryz.f196 P8:=ao Tryz.func196
theorem Yj:Fk 197 Tryz.f197 Gd:=ao Tryz.func197
theorem Yi:Fk 198 Tryz.f198 P8:=ao Tryz.func198
theorem Yh:Fk 202 Tryz.f202 P8:=ao Tryz.func202
theorem Yg:Fk 203 Tryz.f203 P8:=ao Tryz.func203
def Ab:Nat→aw:=fun n=>match n with|6=>⟨[qQ 0,qQ 1,qQ 2,qQ 3,lL 4,qQ 5],none,[],[6,7]⟩|_=>default
def re:Nat→Nat:=lv [6,32774,16,917510,1966086,917606,2148401158,16,917510,16]
theorem Yf:Fk 204 Tryz.f204 Ab:=ao Tryz.func204
def ov:Nat→Nat:=lv [3,387,899,419,65955,16,387,16]
theorem Ye:Fk 205 Tryz.f205 P8:=ao Tryz.func205
def TN:Nat→Nat:=lv [3,67,451,33219,963,2^27+963,451,451,48]
theorem Yd:Fk 206 Tryz.f206 P8:=ao Tryz.func206
theorem Yc:Fk 208 Tryz.f208 P8:=ao Tryz.func208
theorem Yb:Fk 209 Tryz.f209 P8:=ao Tryz.func209
theorem Ya:Fk 210 Tryz.f210 P8:=ao Tryz.func210
theorem X9:Fk 211 Tryz.f211 P8:=ao Tryz.func211
noncomputable def JE:aT:=(.node (.node (.node (.node (.node (.node (.node (.node .nil 7 Tryz.f7 atS apm .nil) 9 Tryz.f9 Tw CV .nil) 10 Tryz.f10 P8 QH (.node .nil 12 Tryz.f12 P8 XV .nil)) 13 Tryz.f13 P8 QG (.node (.node .nil 14 Tryz.f14 P8 QG .nil) 16 Tryz.f16 P8 aua (.node .nil 17 Tryz.f17 VL XU .nil))) 20 Tryz.f20 Ac jk (.node (.node (.node (.node .nil 21 Tryz.f21 P8 lP .nil) 22 Tryz.f22 P8 at7 .nil) 24 Tryz.f24 P8 B2 (.node .nil 25 Tryz.f25 P8 aqG .nil)) 28 Tryz.f28 P8 QE (.node (.node .nil 29 Tryz.f29 P8 QD .nil) 32 Tryz.f32 PB QC (.node .nil 33 Tryz.f33 tP ou .nil)))) 34 Tryz.f34 fU eG (.node (.node (.node (.node (.node .nil 36 Tryz.f36 P8 El .nil) 38 Tryz.f38 P8 aeM .nil) 39 Tryz.f39 zY ka (.node .nil 40 Tryz.f40 P8 QA .nil)) 41 Tryz.f41 P8 XT (.node (.node .nil 42 Tryz.f42 P8 QH .nil) 43 Tryz.f43 VI XR (.node .nil 44 Tryz.f44 VH QH .nil))) 55 Tryz.f55 P8 QG (.node (.node (.node (.node .nil 56 Tryz.f56 P8 avK .nil) 57 Tryz.f57 P8 QG .nil) 58 Tryz.f58 P8 Jm (.node .nil 59 Tryz.f59 P8 XO .nil)) 60 Tryz.f60 Py Qz (.node (.node .nil 61 Tryz.f61 Gd Az .nil) 62 Tryz.f62 P8 Qw (.node .nil 63 Tryz.f63 P8 Qv .nil))))) 64 Tryz.f64 P8 Qu (.node (.node (.node (.node (.node (.node .nil 65 Tryz.f65 VF XV .nil) 66 Tryz.f66 CO Ay .nil) 67 Tryz.f67 P8 Ax (.node .nil 68 Tryz.f68 KQ sQ .nil)) 69 Tryz.f69 P8 Qt (.node (.node .nil 70 Tryz.f70 cF bu .nil) 71 Tryz.f71 P8 jZ (.node .nil 72 Tryz.f72 P8 XM .nil))) 73 Tryz.f73 P8 QH (.node (.node (.node (.node .nil 74 Tryz.f74 VC XK .nil) 77 Tryz.f77 P8 XJ .nil) 82 Tryz.f82 P8 Qs (.node .nil 86 Tryz.f86 P8 Qs .nil)) 87 Tryz.f87 KO Jl (.node (.node .nil 89 Tryz.f89 P8 arw .nil) 90 Tryz.f90 P8 QH (.node .nil 91 Tryz.f91 P8 avI .nil)))) 92 Tryz.f92 VA XI (.node (.node (.node (.node (.node .nil 93 Tryz.f93 P8 XH .nil) 94 Tryz.f94 gd eF .nil) 95 Tryz.f95 P8 Qv (.node .nil 96 Tryz.f96 P8 Qu .nil)) 97 Tryz.f97 P8 sO (.node (.node .nil 98 Tryz.f98 P8 sN .nil) 99 Tryz.f99 P8 QH (.node .nil 100 Tryz.f100 P8 QG .nil))) 101 Tryz.f101 P8 QG (.node (.node (.node .nil 102 Tryz.f102 P8 ur .nil) 103 Tryz.f103 P8 QG (.node .nil 104 Tryz.f104 P8 Eo .nil)) 105 Tryz.f105 P8 Lx (.node (.node .nil 106 Tryz.f106 P8 um .nil) 107 Tryz.f107 P8 Lw (.node .nil 108 Tryz.f108 P8 QG .nil)))))) 109 Tryz.f109 P8 uj (.node (.node (.node (.node (.node (.node (.node .nil 110 Tryz.f110 P8 QH .nil) 112 Tryz.f112 P8 Uc .nil) 119 Tryz.f119 Ed oA (.node .nil 123 Tryz.f123 qb ku .nil)) 125 Tryz.f125 P8 auT (.node (.node .nil 126 Tryz.f126 P6 Ub .nil) 127 Tryz.f127 P5 Ua (.node .nil 128 Tryz.f128 P5 T9 .nil))) 129 Tryz.f129 P8 T8 (.node (.node (.node (.node .nil 130 Tryz.f130 P1 T7 .nil) 131 Tryz.f131 P0 T6 .nil) 132 Tryz.f132 P8 T5 (.node .nil 133 Tryz.f133 PY T4 .nil)) 134 Tryz.f134 PX T3 (.node (.node .nil 136 Tryz.f136 P8 T2 .nil) 137 Tryz.f137 Af uh (.node .nil 138 Tryz.f138 P8 Qv .nil)))) 139 Tryz.f139 P8 Ls (.node (.node (.node (.node (.node .nil 140 Tryz.f140 P8 Eo .nil) 141 Tryz.f141 P8 Lq .nil) 142 Tryz.f142 P8 QH (.node .nil 143 Tryz.f143 P8 aqG .nil)) 144 Tryz.f144 P8 QH (.node (.node .nil 145 Tryz.f145 P8 QH .nil) 146 Tryz.f146 P8 Lw (.node .nil 147 Tryz.f147 P8 En .nil))) 148 Tryz.f148 P8 QH (.node (.node (.node (.node .nil 149 Tryz.f149 P8 QH .nil) 150 Tryz.f150 P8 QH .nil) 151 Tryz.f151 P8 ug (.node .nil 152 Tryz.f152 P8 ug .nil)) 153 Tryz.f153 P8 dH (.node (.node .nil 154 Tryz.f154 P8 QG .nil) 155 Tryz.f155 P8 TV (.node .nil 163 Tryz.f163 P8 oz .nil))))) 164 Tryz.f164 P8 Ln (.node (.node (.node (.node (.node (.node .nil 165 Tryz.f165 P8 Ln .nil) 166 Tryz.f166 P8 TU .nil) 167 Tryz.f167 PL TT (.node .nil 170 Tryz.f170 P8 TS .nil)) 171 Tryz.f171 P8 TR (.node (.node .nil 172 Tryz.f172 P8 QH .nil) 173 Tryz.f173 qa oy (.node .nil 174 Tryz.f174 P8 QH .nil))) 175 Tryz.f175 P8 yt (.node (.node (.node (.node .nil 176 Tryz.f176 P8 yt .nil) 177 Tryz.f177 P8 QG .nil) 178 Tryz.f178 vL rf (.node .nil 179 Tryz.f179 P8 QH .nil)) 180 Tryz.f180 P8 QH (.node (.node .nil 181 Tryz.f181 P8 uc .nil) 182 Tryz.f182 vK ow (.node .nil 190 Tryz.f190 P8 QH .nil)))) 191 Tryz.f191 PG TO (.node (.node (.node (.node (.node .nil 192 Tryz.f192 P8 Lh .nil) 193 Tryz.f193 P8 T5 .nil) 194 Tryz.f194 P8 QG (.node .nil 195 Tryz.f195 P8 yq .nil)) 196 Tryz.f196 P8 Lf (.node (.node .nil 197 Tryz.f197 Gd Az .nil) 198 Tryz.f198 P8 Lf (.node .nil 202 Tryz.f202 P8 T5 .nil))) 203 Tryz.f203 P8 QG (.node (.node (.node .nil 204 Tryz.f204 Ab re .nil) 205 Tryz.f205 P8 ov (.node .nil 206 Tryz.f206 P8 TN .nil)) 208 Tryz.f208 P8 ov (.node (.node .nil 209 Tryz.f209 P8 QG .nil) 210 Tryz.f210 P8 QG (.node .nil 211 Tryz.f211 P8 QH .nil)))))))
theorem uD:Z9 Tryz.prog bV bi JE.find:=aT.ok (aT.ag (aT.ag (aT.ag (aT.ag (aT.ag (aT.ag (aT.ag (aT.ag aT.all_nil axE aT.all_nil) ae2 aT.all_nil) adp (aT.ag aT.all_nil adn aT.all_nil)) adm (aT.ag (aT.ag aT.all_nil adl aT.all_nil) awW (aT.ag aT.all_nil adk aT.all_nil))) adj (aT.ag (aT.ag (aT.ag (aT.ag aT.all_nil awV aT.all_nil) awU aT.all_nil) awT (aT.ag aT.all_nil awS aT.all_nil)) adi (aT.ag (aT.ag aT.all_nil adh aT.all_nil) adg (aT.ag aT.all_nil adf aT.all_nil)))) ade (aT.ag (aT.ag (aT.ag (aT.ag (aT.ag aT.all_nil ada aT.all_nil) ac8 aT.all_nil) ac7 (aT.ag aT.all_nil ac6 aT.all_nil)) ac5 (aT.ag (aT.ag aT.all_nil ac4 aT.all_nil) ac3 (aT.ag aT.all_nil ac2 aT.all_nil))) awR (aT.ag (aT.ag (aT.ag (aT.ag aT.all_nil awQ aT.all_nil) awP aT.all_nil) ac1 (aT.ag aT.all_nil ac0 aT.all_nil)) acZ (aT.ag (aT.ag aT.all_nil acY aT.all_nil) acX (aT.ag aT.all_nil acW aT.all_nil))))) acV (aT.ag (aT.ag (aT.ag (aT.ag (aT.ag (aT.ag aT.all_nil acU aT.all_nil) acT aT.all_nil) acS (aT.ag aT.all_nil acR aT.all_nil)) acQ (aT.ag (aT.ag aT.all_nil acP aT.all_nil) acO (aT.ag aT.all_nil acN aT.all_nil))) acM (aT.ag (aT.ag (aT.ag (aT.ag aT.all_nil acL aT.all_nil) acK aT.all_nil) acJ (aT.ag aT.all_nil acI aT.all_nil)) acH (aT.ag (aT.ag aT.all_nil awO aT.all_nil) awN (aT.ag aT.all_nil awM aT.all_nil)))) acG (aT.ag (aT.ag (aT.ag (aT.ag (aT.ag aT.all_nil acF aT.all_nil) acE aT.all_nil) acD (aT.ag aT.all_nil acC aT.all_nil)) acB (aT.ag (aT.ag aT.all_nil acA aT.all_nil) acz (aT.ag aT.all_nil Zp aT.all_nil))) Zo (aT.ag (aT.ag (aT.ag aT.all_nil Zn aT.all_nil) Zm (aT.ag aT.all_nil Zl aT.all_nil)) Zk (aT.ag (aT.ag aT.all_nil Zj aT.all_nil) Zi (aT.ag aT.all_nil Zh aT.all_nil)))))) Zg (aT.ag (aT.ag (aT.ag (aT.ag (aT.ag (aT.ag (aT.ag aT.all_nil Zf aT.all_nil) Ze aT.all_nil) Zd (aT.ag aT.all_nil Zc aT.all_nil)) avP (aT.ag (aT.ag aT.all_nil Zb aT.all_nil) Za (aT.ag aT.all_nil Y9 aT.all_nil))) Y8 (aT.ag (aT.ag (aT.ag (aT.ag aT.all_nil Y7 aT.all_nil) Y6 aT.all_nil) Y5 (aT.ag aT.all_nil Y4 aT.all_nil)) Y3 (aT.ag (aT.ag aT.all_nil Y2 aT.all_nil) Y1 (aT.ag aT.all_nil Y0 aT.all_nil)))) YZ (aT.ag (aT.ag (aT.ag (aT.ag (aT.ag aT.all_nil YY aT.all_nil) YX aT.all_nil) YW (aT.ag aT.all_nil YV aT.all_nil)) YU (aT.ag (aT.ag aT.all_nil YT aT.all_nil) YS (aT.ag aT.all_nil YR aT.all_nil))) YQ (aT.ag (aT.ag (aT.ag (aT.ag aT.all_nil YP aT.all_nil) YO aT.all_nil) YN (aT.ag aT.all_nil YM aT.all_nil)) YL (aT.ag (aT.ag aT.all_nil YK aT.all_nil) YJ (aT.ag aT.all_nil YI aT.all_nil))))) YH (aT.ag (aT.ag (aT.ag (aT.ag (aT.ag (aT.ag aT.all_nil YG aT.all_nil) YF aT.all_nil) YE (aT.ag aT.all_nil YD aT.all_nil)) YC (aT.ag (aT.ag aT.all_nil YB aT.all_nil) YA (aT.ag aT.all_nil Yz aT.all_nil))) Yy (aT.ag (aT.ag (aT.ag (aT.ag aT.all_nil Yx aT.all_nil) Yw aT.all_nil) Yv (aT.ag aT.all_nil Yu aT.all_nil)) Yt (aT.ag (aT.ag aT.all_nil Ys aT.all_nil) Yr (aT.ag aT.all_nil Yq aT.all_nil)))) Yp (aT.ag (aT.ag (aT.ag (aT.ag (aT.ag aT.all_nil Yo aT.all_nil) Yn aT.all_nil) Ym (aT.ag aT.all_nil Yl aT.all_nil)) Yk (aT.ag (aT.ag aT.all_nil Yj aT.all_nil) Yi (aT.ag aT.all_nil Yh aT.all_nil))) Yg (aT.ag (aT.ag (aT.ag aT.all_nil Yf aT.all_nil) Ye (aT.ag aT.all_nil Yd aT.all_nil)) Yc (aT.ag (aT.ag aT.all_nil Yb aT.all_nil) Ya (aT.ag aT.all_nil X9 aT.all_nil)))))))
end Go.Proofs.YtmpmgmmcaghacaaGreatDoor
namespace Go.Proofs
open Go.Shelf
def Tryz.qm:Go.Shelf.Ren:=⟨fun|169=>44|n=>n,fun|70=>74|9=>9|0=>0|72=>77|37=>75|127=>122|3=>3|5=>5|n=>n,fun|n=>n⟩
theorem Tryz.Ug:Go.Proofs.Lays.n169 Tryz.prog Tryz.qm:={
 mixed:=by kernel_rfl
 f169:=Tryz.func44.trans (congrArg some (by kernel_rfl))
 t0:=Tryz.underlying0
 a0:=Tryz.isAgg0
 z0:=Tryz.sizeOf0
 v0:=Tryz.zeroValue0
 t3:=Tryz.underlying3
 a3:=Tryz.isAgg3
 z3:=Tryz.sizeOf3
 v3:=Tryz.zeroValue3
 t9:=Tryz.underlying9
 a9:=Tryz.isAgg9
 z9:=Tryz.sizeOf9
 v9:=Tryz.zeroValue9
 t37:=Tryz.underlying75
 a37:=Tryz.isAgg75
 z37:=Tryz.sizeOf75
 v37:=Tryz.zeroValue75
 t70:=Tryz.underlying74
 a70:=Tryz.isAgg74
 z70:=Tryz.sizeOf74
 v70:=Tryz.zeroValue74
 t72:=Tryz.underlying77
 a72:=Tryz.isAgg77
 z72:=Tryz.sizeOf77
 v72:=Tryz.zeroValue77
 t127:=Tryz.underlying122
 a127:=Tryz.isAgg122
 z127:=Tryz.sizeOf122
 v127:=Tryz.zeroValue122 }
theorem Tryz.vj:Builder.Extra Tryz.prog Tryz.qm:={
 sizeBuilder:=by kernel_rfl
 liesBuilder:=by kernel_rfl
 t5:=Tryz.underlying5
 a5:=Tryz.isAgg5
 z5:=Tryz.sizeOf5
 v5:=Tryz.zeroValue5
 infoByte:=by kernel_rfl
 cellsByte:=by kernel_rfl
 sizeByte:=by kernel_rfl
 neB5:=by decide }
def Tryz.jM:Go.Shelf.Ren:=⟨fun|156=>77|165=>116|166=>41|169=>44|240=>72|241=>162|276=>111|277=>189|n=>n,fun|31=>70|9=>9|3=>3|4=>4|0=>0|20=>20|72=>77|76=>80|70=>74|37=>75|75=>79|127=>122|164=>151|5=>5|80=>84|n=>n,fun|n=>n⟩
theorem Tryz.bZ:Go.Proofs.Lays.n156 Tryz.prog Tryz.jM:={
 mixed:=by kernel_rfl
 f156:=Tryz.func77.trans (congrArg some (by kernel_rfl))
 f165:=Tryz.func116.trans (congrArg some (by kernel_rfl))
 f166:=Tryz.func41.trans (congrArg some (by kernel_rfl))
 f169:=Tryz.func44.trans (congrArg some (by kernel_rfl))
 f240:=Tryz.func72.trans (congrArg some (by kernel_rfl))
 f241:=Tryz.func162.trans (congrArg some (by kernel_rfl))
 f276:=Tryz.func111.trans (congrArg some (by kernel_rfl))
 f277:=Tryz.func189.trans (congrArg some (by kernel_rfl))
 t0:=Tryz.underlying0
 a0:=Tryz.isAgg0
 z0:=Tryz.sizeOf0
 v0:=Tryz.zeroValue0
 t3:=Tryz.underlying3
 a3:=Tryz.isAgg3
 z3:=Tryz.sizeOf3
 v3:=Tryz.zeroValue3
 t4:=Tryz.underlying4
 a4:=Tryz.isAgg4
 z4:=Tryz.sizeOf4
 v4:=Tryz.zeroValue4
 t9:=Tryz.underlying9
 a9:=Tryz.isAgg9
 z9:=Tryz.sizeOf9
 v9:=Tryz.zeroValue9
 t20:=Tryz.underlying20
 a20:=Tryz.isAgg20
 z20:=Tryz.sizeOf20
 v20:=Tryz.zeroValue20
 t31:=Tryz.underlying70
 a31:=Tryz.isAgg70
 z31:=Tryz.sizeOf70
 v31:=Tryz.zeroValue70
 t37:=Tryz.underlying75
 a37:=Tryz.isAgg75
 z37:=Tryz.sizeOf75
 v37:=Tryz.zeroValue75
 t70:=Tryz.underlying74
 a70:=Tryz.isAgg74
 z70:=Tryz.sizeOf74
 v70:=Tryz.zeroValue74
 t72:=Tryz.underlying77
 a72:=Tryz.isAgg77
 z72:=Tryz.sizeOf77
 v72:=Tryz.zeroValue77
 t75:=Tryz.underlying79
 a75:=Tryz.isAgg79
 z75:=Tryz.sizeOf79
 v75:=Tryz.zeroValue79
 t76:=Tryz.underlying80
 a76:=Tryz.isAgg80
 z76:=Tryz.sizeOf80
 v76:=Tryz.zeroValue80
 t127:=Tryz.underlying122
 a127:=Tryz.isAgg122
 z127:=Tryz.sizeOf122
 v127:=Tryz.zeroValue122
 t164:=Tryz.underlying151
 a164:=Tryz.isAgg151
 z164:=Tryz.sizeOf151
 v164:=Tryz.zeroValue151 }
theorem Tryz.my:Builder.Extra Tryz.prog Tryz.jM:={
 sizeBuilder:=by kernel_rfl
 liesBuilder:=by kernel_rfl
 t5:=Tryz.underlying5
 a5:=Tryz.isAgg5
 z5:=Tryz.sizeOf5
 v5:=Tryz.zeroValue5
 infoByte:=by kernel_rfl
 cellsByte:=by kernel_rfl
 sizeByte:=by kernel_rfl
 neB5:=by decide }
end Go.Proofs
namespace Go.Tp
open Go.Proofs Go.Shelf Go.RowKit Go.Maps
section
theorem FG {N:Name->Option Nat} {a b:Nat} (d:∀o b,N (.out o)=some b->o < a):∀m c,N m=some c->bX N (.out a) b m=some c:=by grind[bX]
theorem Gb {N a:Name->Option Nat} (h:∀m c,N m=some c->a m=some c):∀m c,outs N m=some c->outs a m=some c:=fun m c b=>by
 cases m <;> grind[outs]
end
end Go.Tp
namespace Go.Tp
open Go.Proofs Go.Shelf Go.RowKit
section
def RC (c:List ac) (a:Heap) (b:Nat):Option eX:=
 match c with
 | [.ptr (.out k) 0]=>(match qJ (.out k) a with
  | some (.cells [.dat (.flat (.pointer none)),q])=>(match isS q with|true=>some ⟨.tup [],qG (.out k) (.cells [.ptr (.out k) 0,q]) a,b⟩|false=>none)
  | some (.cells [.ptr (.out m) 0,q])=>(match Nat.beq m k&&isS q with|true=>some ⟨.tup [],a,b⟩|false=>none)
  | _=>none)
 | _=>none
variable {N:Name->Option Nat} {P:Program} {R:Own} {g n:Nat} {w:World} {ρ:Ren}
theorem rA {p q:ac} {b:Nat} {r:List Nat} (h:aI w R N (.cells [p,q]) b r) (n:yw p=true) (s:isS q=true) :
  ∃c d e f,w.heap[b]?=some (.cells #[c,d] sj (0,0))/\r=e++f/\ai w R N p c e/\ai w R N q d f/\∀j,j < 2->R b j:=by
 obtain⟨v,l,C,m,t,z,k⟩:=h;obtain⟨rfl,rfl⟩:=k (gK.2 ⟨p,_,rfl,n,s⟩);obtain⟨c,A,e,x,E,rfl,o,g⟩:=au t;obtain⟨d,B,f,y,rfl,rfl,a,i⟩:=au g;obtain⟨rfl,rfl⟩:=aM i;have u:v=#[c,d]:=by grind
 grind
theorem KW {k:Nat} {a:List Value} {B:List Nat} (h:ah w R (outs N) [.ptr (.out k) 0] a B) :
  ∃b,N (.out k)=some b/\a=[.pointer (some ⟨b,0,none⟩)]/\B=[]:=by
 grind[au,aM,ai,outs]
theorem ZU {G:bA} (L:Lays.n240 P ρ) (X:Builder.X72 P ρ) (hT:ρ.t 72=sj) {A:List ac} {D:Heap} {t:Nat} {r:eX} (h:RC A D t=some r):ay P G (ρ.f 240) A D t (XQ r):=by
 unfold RC at h
 split at h
 rotate_left
 ·simp at h
 rename_i k;rw[jS] at h;intro w R N Y am H z I s M U ae hF;obtain⟨b,d,rfl,rfl⟩:=KW I
 split at h
 ·rename_i q u
  split at h
  rotate_left
  ·simp at h
  rename_i hq;simp only[Option.some.injEq] at h;subst h;obtain⟨x,f,b1,i,rfl,l,v,F⟩:=aj.split s u
  have:f=b:=by simp only[outs] at l;rw[d] at l;simpa using l.symm
  subst this;obtain⟨v0,S,c0,p,g,rfl,o,a,W⟩:=rA v rfl hq;obtain⟨rfl,rfl,_⟩:=aC o;have n:w.cell? ⟨f,0,none⟩=some (.pointer none):=by simp[World.cell?,g]
  have y:w.shape? f=some ((ρ.t 72),2):=by simp[World.shape?,g,hT]
  have ad:w.frozen? ⟨f,0,none⟩=false:=by simp[World.frozen?,g]
  refine (Any.Builder_copyCheck_fresh L X f w n y ad).mono ?_;rintro e w' ⟨rfl,rfl⟩;rw[setCell_eq_setRow w f 0 _ _ _ _ g];have E:=M;simp only[List.nil_append] at E;have K:∀c∈p++(x++(i++z)),c≠f:=by
   intro c C e;subst e;have hp:((x++(c::([]++p))++i)++z).Perm (c::(p++(x++(i++z)))):=by
    rw[List.perm_iff_count];intro q;simp only[List.count_append,List.count_cons,List.count_nil];omega
   exact (List.nodup_cons.1 (hp.nodup_iff.1 E)).1 C
  have hk:∀B:List Nat,f∉B->bp w R (w.setRow f ((#[Value.pointer none,S]).setIfInBounds 0 (.pointer (some ⟨f,0,none⟩)))) R B:=fun B Z=>
   jH g _ (by simp) (fun _ _ h=>h) (fun _ _ _ h=>h) (fun V al=>by
    have:¬V < 2:=fun af=>al (W V af)
    rw[Array.getElem?_eq_none (by simp;omega),Array.getElem?_eq_none (by simp;omega)]) ⟨0,W 0 (by omega)⟩ B Z
  have O:aI (w.setRow f ((#[Value.pointer none,S]).setIfInBounds 0 (.pointer (some ⟨f,0,none⟩)))) R (outs N) (.cells [.ptr (.out k) 0,q]) f ([]++p):=by
   refine⟨_,sj,0,setRow_heap w f _ _ _ _ g,?_,fun j hj=>W j (by simpa using hj),fun _=>⟨rfl,rfl⟩⟩;have q1:ai (w.setRow f ((#[Value.pointer none,S]).setIfInBounds 0 (.pointer (some ⟨f,0,none⟩)))) R (outs N) (.ptr (.out k) 0) (.pointer (some ⟨f,0,none⟩)) []:=by
    simp only[ai];exact⟨trivial,f,by simpa [outs] using d,rfl⟩
   have q2:ai (w.setRow f ((#[Value.pointer none,S]).setIfInBounds 0 (.pointer (some ⟨f,0,none⟩)))) R (outs N) q S p:=by
    exact a.keep (hk p (fun C=>K f (by simp[C]) rfl))
   simpa using aD q1 (aD q2 aP)
  have hH:=F _ R _ ([]++p) (hk (x++i) (fun C=>K f (by simp at C ⊢;rcases C with h|h <;> simp[h]) rfl)) O;refine⟨.tup [],.tuple #[],_,t,R,N,[],_,rfl,⟨rfl,rfl,rfl⟩,by simp[ai,ah],by rw[nI];exact hH,by simpa using M,U,hk z (fun C=>K f (by simp[C]) rfl),fun _ _ h=>h⟩
 ·rename_i m q u
  split at h
  ·rename_i T;simp only[Bool.and_eq_true] at T;obtain⟨hm,hq⟩:=T;simp only[Option.some.injEq] at h;subst h;have ag:m=k:=Nat.eq_of_beq_eq_true hm;subst ag;obtain⟨x,f,b1,i,rfl,l,v,F⟩:=aj.split s u
   have:f=b:=by simp only[outs] at l;rw[d] at l;simpa using l.symm
   subst this;obtain⟨v0,S,c0,p,g,rfl,o,a,W⟩:=rA v rfl hq;simp only[ai] at o;obtain⟨rfl,Q,J,rfl⟩:=o
   have:Q=f:=by simp only[outs] at J;rw[d] at J;simpa using J.symm
   subst this;have n:w.cell? ⟨Q,0,none⟩=some (.pointer (some ⟨Q,0,none⟩)):=by simp[World.cell?,g]
   refine (Any.Builder_copyCheck_used L X Q w n).mono ?_;rintro e w' ⟨rfl,rfl⟩;exact⟨.tup [],.tuple #[],_,t,R,N,[],_,rfl,⟨rfl,rfl,rfl⟩,by simp[ai,ah],s,by simpa using M,U,aZ _,fun _ _ h=>h⟩
  simp at h
 simp at h
def wB:List ak->Option (List UInt8)
 | []=>some []
 | .flat (.int .u8 (.ofNat n))::r=>(match wB r with|some l=>some (UInt8.ofNat n::l)|none=>none)
 | _=>none
def WB (c:List ac) (a:Heap) (b:Nat):Option eX:=
 match c with
 | [.ptr (.out k) 0]=>(match qJ (.out k) a with
  | some (.cells [p,.own (e::d)])=>(match yw p,wB (e::d) with
   | true,some l=>some ⟨.dat (.flat (.string ⟨⟨l⟩⟩)),qG (.out k) (.cells [p,.dat (.slice (e::d))]) a,b⟩
   | _,_=>none)
  | some (.cells [p,.dat (.flat (.slice none 0 0))])=>(match yw p with
   | true=>some ⟨.dat (.flat (.string .empty)),a,b⟩
   | false=>none)
  | _=>none)
 | _=>none
theorem xG:∀{c:List ak} {l:List UInt8},wB c=some l->l.length=c.length/\∀(j:Nat) x,l[j]?=some x->∃n:Nat,c[j]?=some (.flat (.int .u8 (.ofNat n)))/\x=UInt8.ofNat n
 | [],l,h=>by grind[wB]
 | d::r,l,h=>by
  unfold wB at h
  split at h
  ·grind
  ·rename_i n i e;obtain⟨rfl,rfl⟩:=e
   split at h
   ·rename_i g f;simp at h;subst h;obtain⟨a,b⟩:=xG f;grind
   grind
  grind
theorem SK (h:bJ (.int .u8 (ofNat n))=true):((UInt8.ofNat n).toNat:Int)=ofNat n:=by
 simp only[bJ,Bool.and_eq_true,decide_eq_true_eq] at h;have b:IntKind.u8.max=255:=by decide
 have:n < 256:=by grind
 simp[Nat.mod_eq_of_lt this]
set_option maxHeartbeats 2000000 in
set_option maxRecDepth 100000 in
theorem DI (L:Lays.n169 P ρ) (X:Builder.Extra P ρ) (T:TypeId) (b g cap:Nat) (p:Value) (cur:Array Value) (l:List UInt8) (w:World) (h0:l≠[]) (hbk:w.heap[b]?=some (.cells #[p,.slice (some ⟨g,0,none⟩) l.length cap] T (0,0)))
  (hg:w.heap[g]?=some (.cells cur (ρ.t 5) (0,0))) (hcap:l.length<=cap) (hlc:l.length<=cur.size) (hmax:l.length<=maxLen) (hby:∀(j:Nat) x,l[j]?=some x->w.cell? ⟨g,j,none⟩=some (.int .u8 x.toNat)) :
  Calls P (ρ.f 169) #[.pointer (some ⟨b,0,none⟩)] w fun e w'=>e=.returned (.string ⟨l.toArray⟩)/\w'=w.drew.freeze ⟨g,0,none⟩ l.length:=by
 have hl0:l.length≠0:=by simpa using h0
 have c1:w.drew.cell? ⟨b,1,none⟩=some (.slice (some ⟨g,0,none⟩) l.length cap):=by
  have:w.drew.heap[b]?=some (.cells #[p,.slice (some ⟨g,0,none⟩) l.length cap] T (0,0)):=hbk
  rw[Lib.cell_of_heap this];rfl
 have hSD:(Builtin.unsafeSliceData_ #[(ρ.t 37)] (ρ.t 127) #[.slice (some ⟨g,0,none⟩) l.length cap]).run P w.drew=.ok (.pointer (some ⟨g,0,none⟩)) w.drew:=
  Lib.run_unsafeSliceData_row _ _ _ _ _ _ (by omega)
 have hUS:(Builtin.unsafeString_ #[(ρ.t 127),(ρ.t 3)] (ρ.t 9) #[.pointer (some ⟨g,0,none⟩),.int .i64 l.length]).run P w.drew=.ok (.string ⟨l.toArray⟩) (w.drew.freeze ⟨g,0,none⟩ l.length):=by
  refine Lib.run_unsafeString_row w.drew (ρ.t 127) (ρ.t 3) (ρ.t 9) (ρ.t 5) L.t127 X.cellsByte g cur.size (by have hg':w.drew.heap[g]?=some (.cells cur (ρ.t 5) (0,0)):=hg;simp[World.shape?,hg']) l h0 (by omega) (by unfold maxLen at hmax;omega) ?_;intro j x hx;rw[add_plain,Nat.zero_add];exact hby j x hx
 have mixed:=L.mixed;have t72:=L.t72;have a72:=L.a72;have z72:=L.z72;have v72:=L.v72;have u72:=run_underlying L.t72;have t70:=L.t70;have a70:=L.a70;have z70:=L.z70;have v70:=L.v70;have u70:=run_underlying L.t70;have t37:=L.t37;have a37:=L.a37;have z37:=L.z37;have v37:=L.v37;have u37:=run_underlying L.t37;have t127:=L.t127;have a127:=L.a127;have z127:=L.z127;have v127:=L.v127;have u127:=run_underlying L.t127;have t3:=L.t3;have a3:=L.a3;have z3:=L.z3;have v3:=L.v3;have u3:=run_underlying L.t3;have t9:=L.t9;have a9:=L.a9;have z9:=L.z9;have v9:=L.v9;have u9:=run_underlying L.t9;have t5:=X.t5;have a5:=X.a5;have z5:=X.z5;have v5:=X.v5;have u5:=run_underlying X.t5
 go_enter L.f169,Body.n169_ntmps ρ
 go_wp2
 go_region_o
 all_goals (go_wp2;go_ret;exact⟨rfl,rfl⟩)
set_option maxHeartbeats 2000000 in
set_option maxRecDepth 100000 in
theorem H4 (L:Lays.n169 P ρ) (X:Builder.Extra P ρ) (T:TypeId) (b:Nat) (p:Value) (w:World) (hbk:w.heap[b]?=some (.cells #[p,.slice none 0 0] T (0,0))) :
  Calls P (ρ.f 169) #[.pointer (some ⟨b,0,none⟩)] w fun e w'=>e=.returned (.string .empty)/\w'=w.drew:=by
 have c1:w.drew.cell? ⟨b,1,none⟩=some (.slice none 0 0):=by
  have:w.drew.heap[b]?=some (.cells #[p,.slice none 0 0] T (0,0)):=hbk
  rw[Lib.cell_of_heap this];rfl
 have hSD:(Builtin.unsafeSliceData_ #[(ρ.t 37)] (ρ.t 127) #[.slice none 0 0]).run P w.drew=.ok (.pointer none) w.drew:=rfl;have hUS:(Builtin.unsafeString_ #[(ρ.t 127),(ρ.t 3)] (ρ.t 9) #[.pointer none,.int .i64 0]).run P w.drew=.ok (.string .empty) w.drew:=
  Lib.run_unsafeString_none (w:=w.drew) (ρ.t 127) (ρ.t 3) (ρ.t 9) none
 have mixed:=L.mixed;have t72:=L.t72;have a72:=L.a72;have z72:=L.z72;have v72:=L.v72;have u72:=run_underlying L.t72;have t70:=L.t70;have a70:=L.a70;have z70:=L.z70;have v70:=L.v70;have u70:=run_underlying L.t70;have t37:=L.t37;have a37:=L.a37;have z37:=L.z37;have v37:=L.v37;have u37:=run_underlying L.t37;have t127:=L.t127;have a127:=L.a127;have z127:=L.z127;have v127:=L.v127;have u127:=run_underlying L.t127;have t3:=L.t3;have a3:=L.a3;have z3:=L.z3;have v3:=L.v3;have u3:=run_underlying L.t3;have t9:=L.t9;have a9:=L.a9;have z9:=L.z9;have v9:=L.v9;have u9:=run_underlying L.t9;have t5:=X.t5;have a5:=X.a5;have z5:=X.z5;have v5:=X.v5;have u5:=run_underlying X.t5
 go_enter L.f169,Body.n169_ntmps ρ
 go_wp2
 go_region_o
 all_goals (go_wp2;go_ret;exact⟨rfl,rfl⟩)
theorem mg {c:Nat} (h:c≠g):(w.freeze ⟨g,0,none⟩ n).heap[c]?=w.heap[c]?:=by
 unfold World.freeze
 grind
theorem wi {c:Array Value} {t:TypeId} (h:w.heap[g]?=some (.cells c t (0,0))):∃a,(w.freeze ⟨g,0,none⟩ n).heap[g]?=some (.cells c t a):=by
 unfold World.freeze
 grind
theorem Js (B:List Nat):bp w R w.drew R B:=
 ⟨⟨rfl,rfl,rfl,Nat.le_refl _,fun _ _ h=>⟨rfl,h⟩,fun _ _ _ h=>⟨h,rfl⟩,fun _ _=>rfl⟩,fun _ _ _=>⟨rfl,fun _ h=>h⟩⟩
theorem GY:(w.freeze ⟨g,0,none⟩ n).heap.size=w.heap.size:=by
 unfold World.freeze
 grind
theorem GZ:(w.freeze ⟨g,0,none⟩ n).os=w.os/\(w.freeze ⟨g,0,none⟩ n).tape=w.tape/\(w.freeze ⟨g,0,none⟩ n).output=w.output:=by
 unfold World.freeze
 grind
theorem GA {k:Array Value} {t:TypeId} (J:w.heap[g]?=some (.cells k t (0,0))) (o:∃b,R g b) (B:List Nat) (d:g∉B):bp w R (w.drew.freeze ⟨g,0,none⟩ n) R B:=by
 have i:w.drew.heap[g]?=some (.cells k t (0,0)):=J;obtain⟨m,h⟩:=wi (n:=n) i;obtain⟨E,F,l⟩:=GZ (w:=w.drew) (g:=g) (n:=n);have f:∀c,c≠g->(w.drew.freeze ⟨g,0,none⟩ n).heap[c]?=w.heap[c]?:=fun c e=>mg e
 refine⟨⟨E,F,l,?_,?_,?_,?_⟩,?_⟩
 ·simp_all[GY]
 ·grind
 ·intro c b _ j;refine⟨j,?_⟩
  by_cases e:c=g
  ·subst e;simp only[World.cell?,J,h]
  exact World.cell?_of_block (a:=⟨c,b,none⟩) (f c e)
 all_goals grind[eD]
theorem atG (L:Lays.n169 P ρ) (X:Builder.Extra P ρ) (hB:ρ.t 5=mQ) {heap:Heap} {K k b:Nat} {p:ac} {d:ak} {S:List ak} {l:List UInt8} {H z:List Nat}
  (hb:N (.out k)=some b) (aq:aj w R (outs N) heap H) (bc:([]++(H++z)).Nodup) (bd:∀o b,N (.out o)=some b->o < K)
  (a1:eA (.out k) heap=some (.cells [p,.own (d::S)])) (hp:yw p=true) (hl:wB (d::S)=some l) :
  Calls P (ρ.f 169) #[.pointer (some ⟨b,0,none⟩)] w fun e w'=>∃v cv F M R' N' az U,e=.returned cv/\XQ ⟨.dat (.flat (.string ⟨⟨l⟩⟩)),qG (.out k) (.cells [p,.dat (.slice (d::S))]) heap,K⟩ v F M/\ai w' R' (outs N') v cv az/\aj w' R' (outs N') F U ∧
   (az++(U++z)).Nodup/\(∀o b,N' (.out o)=some b->o < M)/\bp w R w' R' z/\(∀o b,N (.out o)=some b->N' (.out o)=some b):=by
 obtain⟨y,O,r,f,rfl,ag,a2,a3⟩:=aj.split aq a1
 have:O=b:=by simp only[outs] at ag;rw[hb] at ag;simpa using ag.symm
 subst this;obtain⟨v0,v1,W,c1,A,rfl,h0,a,hR⟩:=rA a2 hp rfl;replace a:=cy a;obtain⟨G,ar⟩:=xG hl
 rcases lg a with⟨_,he,_⟩|⟨g,Q,s,af,t,rfl,rfl,J,bx,hs,E,_,bu,I,bi,a4⟩
 ·simp at he
 have D:∃n:Nat,d=.flat (.int .u8 (.ofNat n)):=by
  cases l with
  | nil=>simp at G
  | cons x l=>obtain⟨n,hn,_⟩:=ar 0 x rfl;simp at hn;exact⟨n,hn⟩
 obtain⟨n0,rfl⟩:=D;have bg:s=1:=by have:=hs _ (List.mem_cons_self ..);simpa [ak.cells] using this.symm
 subst bg;have bk:t=mQ:=(a4 rfl).1;have a8:=(a4 rfl).2;subst bk;obtain⟨g',bt,bo,cells,V,_,a0,am⟩:=kP I (by simp) hs;simp at V;obtain⟨⟨rfl,rfl⟩,rfl⟩:=V;have a7:(ak.flat (.int .u8 (.ofNat n0))::S).flatMap ak.cells=ak.flat (.int .u8 (.ofNat n0))::S:=by
  have bl:∀u:List ak,(∀e∈u,∃n:Nat,e=.flat (.int .u8 (.ofNat n)))->u.flatMap ak.cells=u:=by
   intro u
   induction u with
   | nil=>intro _;rfl
   | cons e u ih=>
    intro Y;obtain⟨n,rfl⟩:=Y e (by simp);simp only[List.flatMap_cons,ak.cells,List.singleton_append];rw[ih (fun e he=>Y e (by simp[he]))]
  refine bl _ (fun e he=>?_);obtain⟨j,hj⟩:=List.getElem?_of_mem he;have bw:j < l.length:=by
   rw[G]
   rcases Nat.lt_or_ge j (ak.flat (.int .u8 (.ofNat n0))::S).length with h'|h'
   ·exact h'
   rw[List.getElem?_eq_none h'] at hj;simp at hj
  obtain⟨n,hn,_⟩:=ar j l[j] (by simp);rw[hj] at hn;simp at hn;exact⟨n,hn⟩
 rw[a7] at a0;have a6:∀(j:Nat) x,l[j]?=some x->w.cell? ⟨g,j,none⟩=some (.int .u8 x.toNat):=by
  intro j x hx;obtain⟨n,hn,rfl⟩:=ar j x hx;obtain⟨v,V,bf⟩:=qX a0 hn;have C:=(am j v V).1
  cases bf with
  | flat a9=>
   rw[Nat.zero_add] at C;rw[C,SK a9]
 have Z:(ak.flat (.int .u8 (.ofNat n0))::S).length=l.length:=G.symm;have i:=(eU.pH I);simp only[yd] at i;rw[Z] at A E i bi;have ad:=bc;simp only[List.nil_append] at ad;have ax:((y++(O::(W++[g]))++f)++z).Perm (g::(O::(W++(y++(f++z))))):=by
  rw[List.perm_iff_count];intro q;simp only[List.count_append,List.count_cons,List.count_nil];omega
 have ae:=ax.nodup_iff.1 ad;have T:∀c∈O::(W++(y++(f++z))),c≠g:=fun c C e=>(List.nodup_cons.1 ae).1 (e ▸ C)
 have ba:l.length<=af.size:=by have:l.length*1<=Q*1:=Nat.mul_le_mul_right _ E;omega
 refine (DI L X sj O g Q v0 af l w (by intro e;rw[e] at G;simp at G) A (by rw[hB];exact J) E ba (by unfold maxLen;have:=i.1;unfold lim at this;omega) a6).mono ?_;rintro e w' ⟨rfl,rfl⟩;have a5:∃bm,R g bm:=⟨af.size,a8 _ (Nat.le_refl _)⟩;have hk:∀B:List Nat,g∉B->bp w R (w.drew.freeze ⟨g,0,none⟩ l.length) R B:=fun B m=>GA J a5 B m
 have al:(w.drew.freeze ⟨g,0,none⟩ l.length).heap[O]?=some (.cells #[v0,.slice (some ⟨g,0,none⟩) l.length Q] sj (0,0)):=by
  rw[mg (T O (by simp))];exact A
 have av:aI (w.drew.freeze ⟨g,0,none⟩ l.length) R (outs N) (.cells [p,.dat (.slice (.flat (.int .u8 (.ofNat n0))::S))]) O (W++[]):=by
  refine⟨_,sj,0,al,?_,fun j hj=>hR j (by simpa using hj),fun _=>⟨rfl,rfl⟩⟩;have q1:=h0.keep (hk W (fun C=>T g (by simp[C]) rfl));have q2:ai (w.drew.freeze ⟨g,0,none⟩ l.length) R (outs N) (.dat (.slice (.flat (.int .u8 (.ofNat n0))::S))) (.slice (some ⟨g,0,none⟩) l.length Q) []:=by
   have:=I.step (hk [] (by simp)).step
   rw[Z] at this;exact bQ (d:=.slice _) this
  simpa using aD q1 (aD q2 aP)
 have hH:=a3 _ R _ (W++[]) (hk (y++f) (fun C=>T g (by simp at C ⊢;rcases C with h|h <;> simp[h]) rfl)) av;refine⟨_,.string ⟨l.toArray⟩,_,K,R,N,[],_,rfl,⟨rfl,rfl,rfl⟩,?_,by rw[nI];exact hH,?_,bd,hk z (fun C=>T g (by simp[C]) rfl),fun _ _ h=>h⟩
 ·refine bC ?_;simp only[bJ,decide_eq_true_eq];have h2:=i.1;unfold lim at h2
  have:(ByteArray.mk ⟨l⟩).size=l.length:=rfl
  rw[this];omega
 simp only[List.nil_append,List.append_nil];have be:(O::(W++(y++(f++z)))).Perm ((y++(O::W)++f)++z):=by
  rw[List.perm_iff_count];intro q;simp only[List.count_append,List.count_cons];omega
 exact be.nodup_iff.1 (List.nodup_cons.1 ae).2
theorem adJ {G:bA} (L:Lays.n169 P ρ) (X:Builder.Extra P ρ) (J:ρ.t 5=mQ) {i:List ac} {j:Heap} {r:eX} (h:WB i j g=some r):ay P G (ρ.f 169) i j g (XQ r):=by
 unfold WB at h
 split at h
 rotate_left
 ·simp at h
 rename_i k;rw[jS] at h;intro w R N v I H z m c s t x V;obtain⟨b,C,rfl,rfl⟩:=KW m
 split at h
 ·rename_i p d U f;revert h;intro h
  split at h
  rotate_left
  ·simp at h
  rename_i l y K;simp only[Option.some.injEq] at h;subst h;exact atG L X J C c s t f y K
 ·rename_i p f
  split at h
  rotate_left
  ·simp at h
  rename_i y;simp only[Option.some.injEq] at h;subst h;obtain⟨M,A,Q,F,rfl,n,u,E⟩:=aj.split c f
  have:A=b:=by simp only[outs] at n;rw[C] at n;simpa using n.symm
  subst this;obtain⟨O,Y,S,T,q,rfl,o,a,W⟩:=rA u y rfl;obtain⟨_,rfl,_⟩:=aC a;refine (H4 L X sj A O w q).mono ?_;rintro e Z ⟨rfl,rfl⟩;have D:∀B:List Nat,bp w R w.drew R B:=fun B=>Js B
  exact⟨_,_,_,g,R,N,[],_,rfl,⟨rfl,rfl,rfl⟩,bC rfl,c.keep (D _),by simpa using s,t,D z,fun _ _ h=>h⟩
 simp at h
def yV:List ak->Option (List ByteArray)
 | []=>some []
 | .flat (.string s)::r=>(match yV r with|some l=>some (s::l)|none=>none)
 | _=>none
def uu (a:List UInt8):List ByteArray->List UInt8
 | []=>[]
 | [x]=>x.data.toList
 | x::r=>x.data.toList++(a++uu a r)
theorem AF (a:List UInt8):∀c:List ByteArray,uu a c=Lib.join (c.map (·.data.toList)) a
 | []=>rfl
 | [x]=>by simp only[uu,List.map_cons,List.map_nil];rw[Lib.join_one]
 | x::y::r=>by
  have b:=AF a (y::r);simp only[uu,List.map_cons] at b ⊢;rw[Lib.join_cons] at b ⊢;rw[b];simp[Lib.joinTail]
def QR (b:List ac) (c:Heap) (d:Nat):Option eX:=
 match b with
 | [a,.dat (.flat (.string e))]=>(match nz a with
  | .dat (.slice g)=>(match yV g with
   | some f=>(match Nat.ble (uu e.data.toList f).length 140737488355328&&Nat.ble f.length 140737488355328 with
    | true=>some ⟨.dat (.flat (.string ⟨⟨uu e.data.toList f⟩⟩)),c,d⟩
    | false=>none)
   | none=>none)
  | _=>none)
 | _=>none
theorem wU:∀{c:List ak} {g:List ByteArray},yV c=some g->g.length=c.length/\∀(j:Nat) x,g[j]?=some x->c[j]?=some (.flat (.string x))
 | [],l,h=>by grind[yV]
 | d::r,l,h=>by
  unfold yV at h
  split at h
  ·grind
  ·rename_i s k e;obtain⟨rfl,rfl⟩:=e
   split at h
   ·rename_i i f;simp at h;subst h;obtain⟨a,b⟩:=wU f;grind
   grind
  grind
theorem AE {g:World} (h:Below w.heap.size w g) (B:List Nat):bp w R g (fun b c=>b < w.heap.size/\R b c) B:=
 ⟨⟨h.os,h.tape,h.output,h.size,fun b d e=>⟨h.block b d,fun c f=>e c f.2⟩,fun b c d e=>⟨fun f=>e f.2,World.cell?_of_block (a:=⟨b,c,none⟩) (h.block b d)⟩,fun b d=>fe (h.block b d)⟩,
  fun b _ d=>⟨h.block b d,fun c f=>⟨d,f⟩⟩⟩
theorem ZS {G:bA} (L:Lays.n156 P ρ) (X:Builder.Extra P ρ) {y:List ac} {q:Heap} {r:eX} (h:QR y q g=some r):ay P G (ρ.f 156) y q g (XQ r):=by
 unfold QR at h
 split at h
 rotate_left
 ·simp at h
 rename_i a m
 split at h
 rotate_left
 ·simp at h
 rename_i C ax
 split at h
 rotate_left
 ·simp at h
 rename_i i a4
 split at h
 rotate_left
 ·simp at h
 rename_i W;simp only[Bool.and_eq_true,Nat.ble_eq] at W;simp only[Option.some.injEq] at h;subst h;intro w R N ae a7 H z E I ar av am hF;obtain⟨v0,r1,c0,d1,rfl,rfl,h0,az⟩:=au E;obtain⟨v1,r2,p,d2,rfl,rfl,h1,a0⟩:=au az;obtain⟨rfl,rfl⟩:=aM a0;replace h0:=kj h0;rw[ax] at h0;obtain⟨rfl,ad⟩:=dG h0;obtain⟨rfl,rfl,_⟩:=aC h1;obtain⟨l,M⟩:=wU a4;have U:∀{Q:World},Below w.heap.size w Q->∃v cv t u R' N' S A,Ending.returned (.string ⟨(Lib.join (i.map (·.data.toList)) m.data.toList).toArray⟩)=.returned cv/\XQ ⟨.dat (.flat (.string ⟨⟨uu m.data.toList i⟩⟩)),q,g⟩ v t u/\ai Q R' (outs N') v cv S/\aj Q R' (outs N') t A ∧
   (S++(A++z)).Nodup/\(∀o b,N' (.out o)=some b->o < u)/\bp w R Q R' z/\(∀o b,N (.out o)=some b->N' (.out o)=some b):=by
  intro Q hb;refine⟨_,_,_,g,_,N,[],H,rfl,⟨rfl,rfl,rfl⟩,?_,I.keep (AE hb H),by simpa using ar,av,AE hb z,fun _ _ h=>h⟩;rw[←AF];refine bC ?_;simp only[bJ,decide_eq_true_eq]
  have:(ByteArray.mk ⟨uu m.data.toList i⟩).size=(uu m.data.toList i).length:=rfl
  rw[this];omega
 by_cases K:C=[]
 ·subst K;have a3:i=[]:=by simpa using l
  subst a3;have V:∃a c,v0=.slice a 0 c:=by cases ad with|nil a c=>exact⟨a,c,rfl⟩|slice b O T s C vs=>exact⟨_,_,rfl⟩
  obtain⟨a,c,rfl⟩:=V;refine (Any.strings_Join_none L X a c m w).mono ?_;rintro e Q ⟨rfl,rfl⟩;exact U (Below.refl _ _)
 have a2:∀d∈C,d.cells.length=1:=by
  intro d D;obtain⟨j,J⟩:=List.getElem?_of_mem D;have aq:j < i.length:=by
   rw[l]
   rcases Nat.lt_or_ge j C.length with n|n
   ·exact n
   rw[List.getElem?_eq_none n] at J;simp at J
  have:=M j i[j] (by simp)
  rw[J] at this;simp at this;rw[this];rfl
 obtain⟨bk,O,T,af,rfl,Y,Z,F⟩:=kP ad K a2;have al:C.flatMap ak.cells=C:=by
  have a5:∀(k:List ak),(∀e∈k,∃s,e=ak.flat (.string s))->k.flatMap ak.cells=k:=by
   intro k
   induction k with
   | nil=>intro _;rfl
   | cons e k ih=>
    intro B;obtain⟨s,rfl⟩:=B e (by simp);simp only[List.flatMap_cons,ak.cells,List.singleton_append];rw[ih (fun e he=>B e (by simp[he]))]
  refine a5 _ (fun e he=>?_);obtain⟨j,J⟩:=List.getElem?_of_mem he;have aq:j < i.length:=by
   rw[l]
   rcases Nat.lt_or_ge j C.length with n|n
   ·exact n
   rw[List.getElem?_eq_none n] at J;simp at J
  have:=M j i[j] (by simp)
  rw[J] at this;simp at this;exact⟨_,this⟩
 rw[al] at Z;have f:∀(j:Nat) x,i[j]?=some x->w.cell? ⟨bk,O+j,none⟩=some (.string x):=by
  intro j x hx;obtain⟨v,V,a1⟩:=qX Z (M j x hx);have W:=(F j v V).1
  cases a1 with
  | flat _=>exact W
 have a6:0 < i.length:=by
  rcases Nat.eq_zero_or_pos i.length with n|n
  ·rw[l] at n;exact absurd (List.eq_nil_of_length_eq_zero n) K
  exact n
 have ag:bk < w.heap.size:=by
  have:=f 0 i[0] (by simp)
  exact block_lt_of_cell this
 rw[←l];refine (Any.strings_Join L X bk O T i m w f ag W.2 (by rw[l];exact Y) (by rw[←AF];exact W.1)).mono ?_;rintro e Q ⟨rfl,hb⟩;exact U hb
end
end Go.Tp
namespace Go.Tp
open Go.Proofs Go.Shelf Go.RowKit Go.Sort
def agl (k:IntKind) (a:List Int):List ak:=a.map fun z=>.flat (.int k z)
theorem ajP {P:Program} {W:World} {d:String} {g n:Nat} {t e:TypeId} {k:IntKind} {m:List Int} (J:P.globalNamed d=some g) (w:(P.globals[g]?).map (·.type)=some t) (T:P.underlying t=some (.array n e)) (x:P.underlying e=some (.int k)) (r:P.cellsOf e=1) (s:P.cellsOf t=n)
  (F:(m.all fun z=>bJ (.int k z))=true) (h:∃g t c f p,P.globalNamed d=some g/\(P.globals[g]?).map (·.type)=some t/\W.var? P d=some c/\DataW.trod (fun _=>()) P W 0 (fun _=>true) false f t c.toList=some (Lib.tabData k m,p)) :
  aed W xl g (agl k m):=by
 obtain⟨E,G,c,f,p,u,v,i,D⟩:=h;obtain rfl:=Option.some.inj (J.symm.trans u);obtain rfl:=Option.some.inj (w.symm.trans v);have j:=World.var?_cell J i;have o:=Lib.cells_of_tab T x r s D;have A:(agl k m).length=m.length:=by simp[agl]
 refine⟨?_,by rw[A];exact agU J i (by rw[←Array.length_toList,o];simp)⟩;have C:∀(q:List Int) (b:Nat),m.drop b=q->eN W xl g b (agl k q):=by
  intro q
  induction q with
  | nil=>intro b _;trivial
  | cons y q B=>
   intro b O;have a:m[b]?=some y:=by
    have:=congrArg (fun l:List Int=>l[0]?) O
    grind
   refine⟨⟨.int k y,?_,fun h=>h,.flat ?_⟩,B (b+1) ?_⟩
   ·rw[j b,←Array.getElem?_toList,o];grind
   ·grind
   rw[←List.drop_drop,O];rfl
 grind
variable {P:Program} {ρ:Ren} {G:bA}
end Go.Tp
namespace Go.Proofs.YtmpmgmmcaghacaaGreatDoor
open Go.Tp Go.Shelf
def encS (l:List (List UInt8)):List ak:=l.map fun b=>.flat (.string ⟨⟨b⟩⟩)
def Zx:List (List UInt8):=[[88,97],[88,98],[88,99],[88,100]]
def H5:List (List UInt8):=[[],[97,32,98],[113,117,111,116,101,32,34,32,97,110,100,32,92],[126],[40,110,111,116,32,97,32,108,105,115,116,41],[59,32,110,111,32,99,111,109,109,101,110,116]]
def AP:List (List UInt8):=[[102],[103],[104]]
def JK:List (List UInt8):=[[105,116,101,109],[114,97,100,105,117,115],[102,105,114,115,116],[105,110,110,101,114],[112,97,114,116],[110,111,110,101]]
def Po:List (List UInt8):=[[],[97,100,100],[115,117,98],[109,117,108],[108,101,115,115],[110,111,116],[99,111,110,99,97,116],[115,97,109,101]]
def lq:List (List UInt8):=[[73,110,116],[66,111,111,108],[83,116,114,105,110,103],[78,105,108]]
def tG:List (List UInt8):=[[65,110,121],[78,101,118,101,114],[116,117,112,108,101],[117,110,105,111,110],[101,120,105,115,116,115]]
def cM:bA:=fun g=>match g with|1=>some [.slice (encS H5)]|2=>some [.slice (encS AP)]|3=>some [.slice (encS JK)]|4=>some [.slice (encS Po)]|5=>some [.slice (encS lq)]|8=>some [.slice (encS tG)]|6=>some (agl .u64 Go.Lib.pow10Tab)|_=>none
theorem JS:(env bW.nA).Ok Tryz.prog:=by rw[Ri];exact Zz
noncomputable abbrev ba:=env bW.nA
abbrev ej:=Exit→aa→Prop
def Ue:lH:=fun g a b c=>
 match g with
 | 72=>RC a b c
 | 44=>WB a b c
 | 77=>QR a b c
 | _=>none
theorem QM:Lays.n240 Tryz.prog Tryz.jM:=
 {mixed:=Tryz.bZ.mixed,f240:=Tryz.bZ.f240,f276:=Tryz.bZ.f276,
  t0:=Tryz.bZ.t0,a0:=Tryz.bZ.a0,z0:=Tryz.bZ.z0,v0:=Tryz.bZ.v0,
  t4:=Tryz.bZ.t4,a4:=Tryz.bZ.a4,z4:=Tryz.bZ.z4,v4:=Tryz.bZ.v4,
  t9:=Tryz.bZ.t9,a9:=Tryz.bZ.a9,z9:=Tryz.bZ.z9,v9:=Tryz.bZ.v9,
  t20:=Tryz.bZ.t20,a20:=Tryz.bZ.a20,z20:=Tryz.bZ.z20,v20:=Tryz.bZ.v20,
  t70:=Tryz.bZ.t70,a70:=Tryz.bZ.a70,z70:=Tryz.bZ.z70,v70:=Tryz.bZ.v70,
  t72:=Tryz.bZ.t72,a72:=Tryz.bZ.a72,z72:=Tryz.bZ.z72,v72:=Tryz.bZ.v72,
  t164:=Tryz.bZ.t164,a164:=Tryz.bZ.a164,z164:=Tryz.bZ.z164,v164:=Tryz.bZ.v164 }
theorem Ud:Kg Tryz.prog cM Ue:=by
 intro f a b c r h;unfold Ue at h
 split at h
 ·exact ZU (ρ:=Tryz.jM) QM Tryz.my.toX72 rfl h
 ·exact adJ (ρ:=Tryz.qm) Tryz.Ug Tryz.vj rfl h
 ·exact ZS (ρ:=Tryz.jM) Tryz.bZ Tryz.my h
 grind
noncomputable def X:lH:=C8 ba cM bV bi JE.find Ue 3000 60
theorem dE:Kg Tryz.prog cM X:=fun f a b c r h=>xA 3000 JS uD (M:=Ue) Ud 60 f a b c r h
theorem UT (e B:List Nat) {g:FuncId} {x:qS} (d:JE.find g=some x) {a:List ac} {b:Heap} {c:Nat} {r:eX} (h:(Pf (Sv e) (Sv B) ba cM bV bi x g a b c).Ok Tryz.prog cM (fun y=>y=r)) :
  ay Tryz.prog cM g a b c (XQ r):=Du (KJ JS uD d (fun _ _=>h))
abbrev KD:=cL Tryz.prog cM
abbrev KC:=ay Tryz.prog cM
theorem co (d B:List Nat) {g:FuncId} {x:qS} {a:List ac} {b:Heap} {c:Nat} {r:eX} (h:(Pf (Sv d) (Sv B) ba cM bV bi x g a b c).Ok Tryz.prog cM (fun y=>y=r)) (e:JE.find g=some x:=by kernel_rfl):ay Tryz.prog cM g a b c (XQ r):=UT d B e h
theorem aq (a B:List Nat) {H:Hints} {n:Nat} {live:Nat->Nat} {c:Code} {f:ab} {T:ej}
  (h:(tL (Sv a) (Sv B) ba cM H n live c f (fun r=>.fin r)).Ok Tryz.prog cM (fun r=>T r.1 (r.2.al n))) (e:dh H c=true:=by kernel_rfl):cL Tryz.prog cM c T (f.al n):=Mz JS live e h
abbrev ae (g:FuncId) (a:List ac) (v:ac):Prop:=ay Tryz.prog cM g a [] 0 (XQ ⟨v,[],0⟩)
def i64 (n:Int):ak:=.flat (.int .i64 n)
def sb (b:List UInt8):ak:=.flat (.string ⟨⟨b⟩⟩)
def nl:ak:=.flat (.slice none 0 0)
def sl:List ak->ak
 | []=>nl
 | d::r=>.slice (d::r)
inductive Ty where
 |mk (k:Int) (nm:List UInt8) (ix:Int) (args:List Ty)
mutual
def Ty.cells:Ty->List ak
 | .mk k n x a=>[i64 k,sb n,i64 x,sl (ax a)]
def ax:List Ty->List ak
 | []=>[]
 | t::r=>.agg t.cells::ax r
end
def Ty.enc (t:Ty):ak:=.agg t.cells
theorem qz:∀l:List Ty,ax l=l.map Ty.enc
 | []=>by simp[ax]
 | t::r=>by simp[ax,qz r,Ty.enc]
variable {i:Nat} {k:Int} {l:List Ty} {n:List UInt8} {p:Ty->Bool} {t:Ty}
theorem aH (l:List Ty):(ax l).length=l.length:=by simp[qz]
theorem Rq (h:l[i]?=some t):(ax l)[i]?=some t.enc:=by simp[qz,h]
mutual
def Ty.size:Ty->Nat
 | .mk _ _ _ a=>aQ a+1
def aQ:List Ty->Nat
 | []=>0
 | t::r=>t.size+aQ r
end
theorem ld {l:List Ty} {i:Nat} {t:Ty} (h:l[i]?=some t):aQ (l.take (i+1))=aQ (l.take i)+t.size:=by
 induction l generalizing i <;> grind[aQ]
theorem tx (i:Nat):aQ (l.take i)<=aQ l:=by
 induction l generalizing i with
 | nil=>grind
 | cons x r a=>
  cases i <;> grind[aQ]
theorem wrap_add {n m:Nat} (h:n+m < 9223372036854775808):an .i64 (ofNat n+ofNat m)=ofNat (n+m):=by
 rw[cQ];exact wrap_i64 (by grind) (by grind)
noncomputable def tiT:TI:=match Go.Tp.elemOf ba 38 with|some t=>t|none=>default
theorem NU:Go.Tp.elemOf ba 38=some tiT:=by kernel_rfl
theorem yP:tiT.size=4:=by kernel_rfl
theorem pF {l:List Ty} {i:Nat} {t:Ty} (h:l[i]?=some t):ap ba 38 [.dat (.slice (ax l)),.dat (.flat (.int .i64 (ofNat i)))]=some ⟨.ref t.cells,.keep⟩:=
 pd NU rfl (Rq h) (by cases t;rfl) (by decide)
theorem get_mem (h:i < (ax l).length):∃t,l[i]?=some t/\t∈l:=by
 simp_all[aH]
noncomputable def VW:Hints:=⟨bV,P8,bi,rowsOf bi 175⟩
def mz (l:List Ty) (i n:Int):ab:=⟨[(9,iv i),(8,iv (ofNat (ax l).length)),(7,.dat (.slice (ax l))),(3,iv n)],[],[],0⟩
def qV (l:List Ty) (n:Int):ab:=⟨[(10,bv false),(9,iv (ofNat (ax l).length)),(8,iv (ofNat (ax l).length)),(7,.dat (.slice (ax l))),(3,iv n)],[],[],0⟩
theorem S4 {k:Int} {nm:List UInt8} {ix:Int} {l:List Ty} (ih:∀t∈l,ae 175 [.dat t.enc] (iv (ofNat t.size))) (hb:aQ l < 1000000000) :
  ae 175 [.dat (.agg [i64 k,sb nm,i64 ix,.slice (ax l)])] (iv (ofNat (aQ l+1))):=by
 have hlen:l.length<=aQ l:=by
  clear ih hb
  induction l with
  | nil=>simp[aQ]
  | cons t r ih=>cases t;simp only[List.length_cons,aQ,Ty.size];omega
 refine co [] [] (x:=.of Tryz.f175 P8 yt) ?_;refine iF (n:=vP) (c:=roundOf Tryz.f175 0) (f:=mz l (ofNat 0) (ofNat (1+aQ (l.take 0)))) (L:=fun e s=>e=.exit 0/\s=(qV l (ofNat (1+aQ l))).al vP) (by kernel_rfl) (by kernel_rfl) ?_ ?_
 ·refine cA (St:=fun i=>(mz l (ofNat i) (ofNat (1+aQ (l.take i)))).al vP) (ax l).length ?_ ?_ (i:=0) (Nat.zero_le _)
  ·intro i hi;obtain⟨t,ht,hm⟩:=get_mem hi;have hs:=ld ht;have hle:=tx (l:=l) (i+1);rw[aH] at hi;have hi':i < (ax l).length:=by rw[aH];exact hi
   have e:xU (fun s=>s=(mz l (ofNat (i+1)) (ofNat (1+aQ (l.take (i+1))))).al vP) (fun e s=>e=.exit 0/\s=(qV l (ofNat (1+aQ l))).al vP) .normal
     ((mz l (an .i64 (ofNat i+1)) (an .i64 (ofNat (1+aQ (l.take i))+ofNat t.size))).al vP):=by
    rw[bb (by omega),wrap_add (by omega),hs];show _=_;rw[Nat.add_assoc]
   have hc:=ih t hm;clear hs hle ih hb hlen;obtain⟨k2,lR,ix2,a2⟩:=t
   rcases a2 with _|⟨b,c⟩ <;>
   ·refine aq [10] [11] (H:=VW) (live:=yt) ?_;refine bn (b:=true) (br hi') (by kernel_rfl) ?_;refine oo (pF ht) (on hc ?_);exact bS (ex:=.normal) (mz l (an .i64 (ofNat i+1)) (an .i64 (ofNat (1+aQ (l.take i))+ofNat (Ty.size _)))) (by kernel_rfl) (by kernel_rfl) e
  refine aq [10] [11] (H:=VW) (live:=yt) ?_;refine bn (b:=false) (cj (i:=(ax l).length) (L:=(ax l).length) (by omega)) (by kernel_rfl) ?_;refine bS (ex:=.exit 0) (qV l (ofNat (1+aQ (l.take (ax l).length)))) (by kernel_rfl) (by kernel_rfl) ⟨rfl,?_⟩;rw[aH,List.take_length]
 rintro e s ⟨rfl,rfl⟩;refine⟨_,rfl,fX (a:=⟨iv (ofNat (1+aQ l)),[],0⟩) (by kernel_rfl) ?_⟩;rw[Nat.add_comm]
theorem Ou {x:Int}:ae 175 [.dat (.agg [i64 k,sb n,i64 x,nl])] (iv (ofNat 1)):=dE _ _ _ _ _ (by kernel_rfl)
mutual
theorem RP:∀t:Ty,t.size < 1000000000->ae 175 [.dat t.enc] (iv (ofNat t.size))
 | .mk k n x [],_=>Ou
 | .mk k n x (t::r),h=>by
  have b:aQ (t::r) < 1000000000:=by grind[Ty.size]
  have:=@S4 k n x (t::r) (LS (t::r) b) b
  exact this
theorem LS:∀l:List Ty,aQ l < 1000000000->∀t∈l,ae 175 [.dat t.enc] (iv (ofNat t.size))
 | [],_,t,T=>by grind
 | u::r,h,t,T=>by
  simp only[aQ] at h
  rcases List.mem_cons.1 T with a|T
  ·rw[a];exact RP u (by omega)
  exact LS r (by omega) t T
end
mutual
def Ty.depth:Ty->Nat
 | .mk _ _ _ a=>lN a+1
def lN:List Ty->Nat
 | []=>0
 | t::r=>max t.depth (lN r)
end
theorem xD (h:l[i]?=some t):lN (l.take (i+1))=max (lN (l.take i)) t.depth:=by
 induction l generalizing i with
 | nil=>grind
 | cons x r a=>
  cases i <;> grind[lN]
mutual
theorem oS:∀t:Ty,t.depth<=t.size
 | .mk _ _ _ a=>by simp only[Ty.depth,Ty.size];have:=jR a;omega
theorem jR:∀l:List Ty,lN l<=aQ l
 | []=>by simp[lN]
 | t::r=>by simp only[lN,aQ];have:=oS t;have:=jR r;omega
end
theorem abY {n m:Nat}:bW.nA.mx (ofNat n) (ofNat m)=ofNat (max n m):=by
 show (match aF (ofNat n) (ofNat m) with|true=>ofNat m|false=>ofNat n)=_;rw[gv]
 grind
theorem gw (l:List Ty):l.length<=aQ l:=by
 induction l with
 | nil=>grind
 | cons t r a=>cases t;grind[aQ,Ty.size]
noncomputable def Q1:Hints:=⟨bV,P8,bi,rowsOf bi 176⟩
theorem Rv {k:Int} {nm:List UInt8} {ix:Int} {l:List Ty} (ih:∀t∈l,ae 176 [.dat t.enc] (iv (ofNat t.depth))) (hb:aQ l < 1000000000) :
  ae 176 [.dat (.agg [i64 k,sb nm,i64 ix,.slice (ax l)])] (iv (ofNat (lN l+1))):=by
 have hlen:=gw l;have hdl:=jR l;rw[←bb (by omega)];refine co [] [] (x:=.of Tryz.f176 P8 yt) ?_;refine iF (n:=vO) (c:=roundOf Tryz.f176 0) (f:=mz l (ofNat 0) (ofNat (lN (l.take 0)))) (L:=fun e s=>e=.exit 0/\s=(qV l (ofNat (lN l))).al vO) (by kernel_rfl) (by kernel_rfl) ?_ ?_
 ·refine cA (St:=fun i=>(mz l (ofNat i) (ofNat (lN (l.take i)))).al vO) (ax l).length ?_ ?_ (i:=0) (Nat.zero_le _)
  ·intro i hi;obtain⟨t,ht,hm⟩:=get_mem hi;have e:xU (fun s=>s=(mz l (ofNat (i+1)) (ofNat (lN (l.take (i+1))))).al vO) (fun e s=>e=.exit 0/\s=(qV l (ofNat (lN l))).al vO) .normal
     ((mz l (an .i64 (ofNat i+1)) (bW.nA.mx (ofNat (lN (l.take i))) (ofNat t.depth))).al vO):=by
    rw[aH] at hi;rw[bb (by omega),abY,xD ht];rfl
   have hc:=ih t hm;clear ih hb hlen hdl;obtain⟨k2,lR,ix2,a2⟩:=t
   rcases a2 with _|⟨b,c⟩ <;>
   ·refine aq [10] [11] (H:=Q1) (live:=yt) ?_;refine bn (b:=true) (br hi) (by kernel_rfl) ?_;refine oo (pF ht) (on hc ?_);exact bS (ex:=.normal) (mz l (an .i64 (ofNat i+1)) (bW.nA.mx (ofNat (lN (l.take i))) (ofNat (Ty.depth _)))) (by kernel_rfl) (by kernel_rfl) e
  refine aq [10] [11] (H:=Q1) (live:=yt) ?_;refine bn (b:=false) (cj (i:=(ax l).length) (L:=(ax l).length) (by omega)) (by kernel_rfl) ?_;refine bS (ex:=.exit 0) (qV l (ofNat (lN (l.take (ax l).length)))) (by kernel_rfl) (by kernel_rfl) ⟨rfl,?_⟩;rw[aH,List.take_length]
 rintro e s ⟨rfl,rfl⟩;exact⟨_,rfl,fX (by kernel_rfl) rfl⟩
theorem Nf {x:Int}:ae 176 [.dat (.agg [i64 k,sb n,i64 x,nl])] (iv (ofNat 1)):=dE _ _ _ _ _ (by kernel_rfl)
mutual
theorem LV:∀t:Ty,t.size < 1000000000->ae 176 [.dat t.enc] (iv (ofNat t.depth))
 | .mk k n x [],_=>Nf
 | .mk k n x (t::r),h=>by
  have b:aQ (t::r) < 1000000000:=by grind[Ty.size]
  have:=@Rv k n x (t::r) (Hz (t::r) b) b
  exact this
theorem Hz:∀l:List Ty,aQ l < 1000000000->∀t∈l,ae 176 [.dat t.enc] (iv (ofNat t.depth))
 | [],_,t,T=>by grind
 | u::r,h,t,T=>by
  simp only[aQ] at h
  rcases List.mem_cons.1 T with a|T
  ·rw[a];exact LV u (by omega)
  exact Hz r (by omega) t T
end
def ey (k:Int) (i:Nat):Nat:=if aB k 6=true/\i=1 then 1 else 0
mutual
def Ty.closed:Ty->Nat->Bool
 | .mk k _ x a,u=>!(aB k 5&&!aF x (ofNat u))&&fA k 0 a u
def fA (k:Int):Nat->List Ty->Nat->Bool
 | _,[],_=>true
 | i,t::r,u=>t.closed (u+ey k i)&&fA k (i+1) r u
end
theorem Dl (k:Int) (n:List UInt8) (f:Int) (a:ak) (A:a=nl∨∃d,a=.slice d) (i:Nat):ae 196 [.dat (.agg [i64 k,sb n,i64 f,a]),iv (ofNat i)] (iv (ofNat (ey k i))):=by
 rcases A with rfl|⟨d,rfl⟩ <;>
 ·refine co [7,10] [] (x:=.of Tryz.f196 P8 Lf) ?_;refine Gi (c:=aB k 6) (by kernel_rfl) (fun e=>?_) (fun e=>?_)
  ·refine Gi (c:=aB (ofNat i) (ofNat 1)) (by kernel_rfl) (fun b=>?_) (fun b=>?_)
   ·rw[A0,decide_eq_true_eq] at b
    have:ey k i=1:=by grind[ey]
    rw[this];exact fi
   rw[A0,decide_eq_false_iff_not] at b
   have:ey k i=0:=by grind[ey]
   rw[this];exact fi
  have:ey k i=0:=by grind[ey]
  rw[this];exact fi
noncomputable def Ew:Hints:=⟨bV,Ab,bi,rowsOf bi 204⟩
def ab3 (k:Int) (n:List UInt8) (x:Int) (l:List Ty):Heap:=[(.loc 2,.cells [iv k,.dat (sb n),iv x,.dat (.slice (ax l))])]
def SZ (k:Int) (n:List UInt8) (x:Int) (l:List Ty) (u:Nat) (i:Int):ab:=⟨[(19,iv i),(18,iv (ofNat (ax l).length)),(17,.dat (.slice (ax l))),(2,.ptr (.loc 2) 0),(1,iv (ofNat u))],ab3 k n x l,[],0⟩
def Ol (k:Int) (n:List UInt8) (x:Int) (l:List Ty) (u:Nat):ab:=⟨[(20,bv false),(19,iv (ofNat (ax l).length)),(18,iv (ofNat (ax l).length)),(17,.dat (.slice (ax l))),(2,.ptr (.loc 2) 0),(1,iv (ofNat u))],ab3 k n x l,[],0⟩
def Om:ab:=⟨[(4,bv false)],[],[],0⟩
theorem iP (h:l[i]?=some t):l.drop i=t::l.drop (i+1):=by
 obtain⟨a,rfl⟩:=List.getElem?_eq_some_iff.1 h;simp_all
theorem Hq {k:Int} {nm:List UInt8} {ix:Int} {l:List Ty} {u:Nat} (ih:∀t∈l,∀v,v<=u+1->ae 204 [.dat t.enc,iv (ofNat v)] (bv (t.closed v))) (hb:aQ l < 1000000000) (hu:u < 2000000000) :
  KD (.loop (roundOf Tryz.f204 0)) (fun e s=>(e=.exit 0/\fA k 0 l u=true/\s=(Ol k nm ix l u).al jg)∨(e=.ret/\fA k 0 l u=false/\s=Om.al jg)) ((SZ k nm ix l u (ofNat 0)).al jg):=by
 have hlen:=gw l;refine cV (St:=fun i=>(SZ k nm ix l u (ofNat i)).al jg) (fun i=>fA k 0 l u=fA k i (l.drop i) u) (ax l).length ?_ ?_ (i:=0) (Nat.zero_le _) rfl
 ·intro i hi hI;obtain⟨t,ht,hm⟩:=get_mem hi;have hcl:fA k i (l.drop i) u=(t.closed (u+ey k i)&&fA k (i+1) (l.drop (i+1)) u):=by rw[iP ht];rfl
  have hbn:ey k i<=1:=by unfold ey;split <;> omega
  have hc:ae 204 [.dat t.enc,iv (an .i64 (ofNat u+ofNat (ey k i)))] (bv (t.closed (u+ey k i))):=by
   rw[wrap_add (by omega)];exact ih t hm _ (by omega)
  have hw:an .i64 (ofNat i+1)=ofNat (i+1):=bb (by rw[aH] at hi;omega);have hbi:=Dl k nm ix (.slice (ax l)) (.inr ⟨_,rfl⟩) i;generalize ht2:t.closed (u+ey k i)=tc at hc hcl;clear ih hb hlen hu hbn ht2;obtain⟨k2,lR,ix2,a2⟩:=t
  rcases a2 with _|⟨b,c⟩ <;> cases tc <;>
  ·refine aq [20] [22] (H:=Ew) (live:=re) ?_;refine bn (b:=true) (br hi) (by kernel_rfl) ?_;refine oo (pF ht) (on hbi (on hc ?_))
   first
    |exact bS (ex:=.normal) (SZ k nm ix l u (an .i64 (ofNat i+1))) (by kernel_rfl) (by kernel_rfl) ⟨by rw[hw],by rw[hI,hcl];rfl⟩
    |exact bS (ex:=.ret) Om (by kernel_rfl) (by kernel_rfl) (.inr ⟨rfl,by rw[hI,hcl];rfl,rfl⟩)
 intro hI;have h1:fA k 0 l u=true:=by
  rw[hI,aH,List.drop_length];rfl
 refine aq [20] [22] (H:=Ew) (live:=re) ?_;refine bn (b:=false) (cj (i:=(ax l).length) (L:=(ax l).length) (by omega)) (by kernel_rfl) ?_;exact bS (ex:=.exit 0) (Ol k nm ix l u) (by kernel_rfl) (by kernel_rfl) (.inl ⟨rfl,h1,rfl⟩)
theorem B7 (k:Int) (n:List UInt8) (x:Int) (l:List Ty) (u:Nat):(Ty.mk k n x l).closed u=(!(aB k 5&&!aF x (ofNat u))&&fA k 0 l u):=by rw[Ty.closed]
theorem Nn {c:List UInt8} {a:Int} {u:Nat} (w:∀t∈l,∀v,v<=u+1->ae 204 [.dat t.enc,iv (ofNat v)] (bv (t.closed v))) (d:aQ l < 1000000000) (r:u < 2000000000) :
  ae 204 [.dat (.agg [i64 k,sb c,i64 a,.slice (ax l)]),iv (ofNat u)] (bv ((Ty.mk k c a l).closed u)):=by
 have p:=@Hq k c a _ _ w d r;have j:∀f:Bool,f=aB k 5->∀g:Bool,g=!aF a (ofNat u)->ae 204 [.dat (.agg [i64 k,sb c,i64 a,.slice (ax l)]),iv (ofNat u)] (bv (!(f&&g)&&fA k 0 l u)):=by
  intro f G g i;refine co [9,14] [] (x:=.of Tryz.f204 Ab re) ?_;refine bn (b:=f) G.symm (by kernel_rfl) ?_;have m:∀{q:Qy eX} (o:q.Gw.al jg=(SZ k c a l u (ofNat 0)).al jg) (e:q.CT=some (jg,roundOf Tryz.f204 0))
    (E:(q.ofL (.exit 0,Ol k c a l u)).JL=some ⟨bv true,[],0⟩) (F:(q.ofL (.ret,Om)).JL=some ⟨bv false,[],0⟩),q.Ok Tryz.prog cM (fun y=>y=⟨bv (fA k 0 l u),[],0⟩):=by
   intro q o e E F;refine iF (n:=jg) e o p ?_;rintro z s (⟨rfl,h,rfl⟩|⟨rfl,h,rfl⟩)
   ·rw[h];exact⟨_,rfl,fX E rfl⟩
   rw[h];exact⟨_,rfl,fX F rfl⟩
  cases f with
  | false=>exact m (by kernel_rfl) (by kernel_rfl) (by kernel_rfl) (by kernel_rfl)
  | true=>
   refine bn (b:=g) i.symm (by kernel_rfl) ?_
   cases g
   ·exact m (by kernel_rfl) (by kernel_rfl) (by kernel_rfl) (by kernel_rfl)
   exact fi
 exact j _ rfl _ rfl
def Vv (k:Int) (n:List UInt8) (x:Int) (u:Nat):ab:=⟨[(19,iv 0),(18,iv 0),(17,.dat nl),(2,.ptr (.loc 2) 0),(1,iv (ofNat u))],[(.loc 2,.cells [iv k,.dat (sb n),iv x,.dat nl])],[],0⟩
def On (k:Int) (n:List UInt8) (x:Int) (u:Nat):ab:=⟨[(20,bv false),(19,iv 0),(18,iv 0),(17,.dat nl),(2,.ptr (.loc 2) 0),(1,iv (ofNat u))],[(.loc 2,.cells [iv k,.dat (sb n),iv x,.dat nl])],[],0⟩
theorem Hp (k:Int) (n:List UInt8) (x:Int) (u:Nat):iO X ba cM Ew jg re 3000 (.loop (roundOf Tryz.f204 0)) (Vv k n x u)=some (.exit 0,On k n x u):=by kernel_rfl
theorem JY (k:Int) (c:List UInt8) (a:Int) (u:Nat):ae 204 [.dat (.agg [i64 k,sb c,i64 a,nl]),iv (ofNat u)] (bv ((Ty.mk k c a []).closed u)):=by
 have h:∀d:Bool,d=aB k 5->∀f:Bool,f=!aF a (ofNat u)->ae 204 [.dat (.agg [i64 k,sb c,i64 a,nl]),iv (ofNat u)] (bv (!(d&&f)&&fA k 0 [] u)):=by
  intro d G f g;refine co [9,14] [] (x:=.of Tryz.f204 Ab re) ?_;refine bn (b:=d) G.symm (by kernel_rfl) ?_;have i:∀{q:Qy eX} (j:q.Gw.al jg=(Vv k c a u).al jg) (e:q.CT=some (jg,roundOf Tryz.f204 0))
    (E:(q.ofL (.exit 0,On k c a u)).JL=some ⟨bv true,[],0⟩),q.Ok Tryz.prog cM (fun y=>y=⟨bv true,[],0⟩):=by
   intro q j e E;refine iF (n:=jg) e j (RL JS dE 3000 (by kernel_rfl) (Hp k c a u)) ?_;rintro l s ⟨rfl,rfl⟩;exact⟨_,rfl,fX E rfl⟩
  cases d with
  | false=>exact i (by kernel_rfl) (by kernel_rfl) (by kernel_rfl)
  | true=>
   refine bn (b:=f) g.symm (by kernel_rfl) ?_
   cases f
   ·exact i (by kernel_rfl) (by kernel_rfl) (by kernel_rfl)
   exact fi
 exact h _ rfl _ rfl
mutual
theorem HB:∀(t:Ty) (u:Nat),t.size < 1000000000->u+t.depth < 2000000000->ae 204 [.dat t.enc,iv (ofNat u)] (bv (t.closed u))
 | .mk k nm ix [],u,_,_=>JY k nm ix u
 | .mk k nm ix (t::r),u,h,hu=>by
  have h2:aQ (t::r) < 1000000000:=by simp only[Ty.size] at h;omega
  have h3:u+1+lN (t::r) < 2000000000:=by simp only[Ty.depth] at hu;omega
  exact Nn (l:=t::r) (fun x hx v hv=>wA (t::r) v h2 (by omega) x hx) h2 (by omega)
theorem wA:∀(l:List Ty) (u:Nat),aQ l < 1000000000->u+lN l < 2000000000->∀t∈l,ae 204 [.dat t.enc,iv (ofNat u)] (bv (t.closed u))
 | [],_,_,_,t,ht=>by simp at ht
 | x::r,u,h,hu,t,ht=>by
  simp only[aQ] at h;simp only[lN] at hu
  rcases List.mem_cons.1 ht with h1|ht
  ·rw[h1];exact HB x u (by omega) (by omega)
  exact wA r u (by omega) (by omega) t ht
end
mutual
def Ty.thin:Ty->Prop
 | .mk _ _ _ l=>l.length < 1000000000/\tt l
def tt:List Ty->Prop
 | []=>True
 | t::r=>t.thin/\tt r
end
mutual
theorem DG:∀t:Ty,t.size < 1000000000->t.thin
 | .mk _ _ _ l,h=>by
  simp only[Ty.size] at h
  have:=gw l
  exact⟨by omega,Fg l (by omega)⟩
theorem Fg:∀l:List Ty,aQ l < 1000000000->tt l
 | [],_=>by simp[tt]
 | t::r,h=>by
  simp only[aQ] at h;exact⟨DG t (by omega),Fg r (by omega)⟩
end
theorem Bh (e B:List Nat) {g:FuncId} {x:qS} (d:JE.find g=some x) {a:List ac} {b:Heap} {c:Nat} {T:eX->Prop} (h:(Pf (Sv e) (Sv B) ba cM bV bi x g a b c).Ok Tryz.prog cM T) :
  KC g a b c (fun v h m=>T ⟨v,h,m⟩):=KJ JS uD d (fun _ _=>h)
def pe (b:Bool) (v:ac):Prop:=∃j:Int,v=iv j/\aF j (ofNat 0)=!b
theorem HG (h:l[i]?=some t):(l.drop i).any p=(p t||(l.drop (i+1)).any p):=by rw[iP h];rfl
noncomputable def yy:Hints:=⟨bV,P8,bi,rowsOf bi 205⟩
def iM:ac:=.fn (.func 209) [] []
def jx (l:List Ty) (i:Int):ab:=⟨[(8,iv i),(7,iv (ofNat (ax l).length)),(0,.dat (.slice (ax l))),(1,iM)],[],[],0⟩
def pK (l:List Ty):ab:=⟨[(9,bv false),(8,iv (ofNat (ax l).length)),(7,iv (ofNat (ax l).length)),(0,.dat (.slice (ax l))),(1,iM)],[],[],0⟩
def pL (i:Nat):ab:=⟨[(4,iv (ofNat i))],[],[],0⟩
theorem xZ (hp:∀t∈l,ae 209 [.dat t.enc] (bv (p t))) (hb:l.length < 1000000000) :
  KC 205 [.dat (.slice (ax l)),iM] [] 0 (fun v h m=>pe (l.any p) v/\h=[]/\m=0):=by
 have hl:KD (.loop (roundOf Tryz.f205 0)) (fun e s=>(e=.exit 0/\l.any p=false/\s=(pK l).al mF)∨(e=.ret/\l.any p=true/\∃i:Nat,s=(pL i).al mF)) ((jx l (ofNat 0)).al mF):=by
  refine cV (St:=fun i=>(jx l (ofNat i)).al mF) (fun i=>l.any p=(l.drop i).any p) (ax l).length ?_ ?_ (i:=0) (Nat.zero_le _) rfl
  ·intro i hi hI;obtain⟨t,ht,hm⟩:=get_mem hi;have ha:=HG (p:=p) ht;have hw:an .i64 (ofNat i+1)=ofNat (i+1):=bb (by rw[aH] at hi;omega);have hc:=hp t hm;generalize ht2:p t=tc at hc ha;clear hp hb ht2;obtain⟨k2,lR,ix2,a2⟩:=t
   rcases a2 with _|⟨b,c⟩ <;> cases tc <;>
   ·refine aq [9] [14] (H:=yy) (live:=ov) ?_;refine bn (b:=true) (br hi) (by kernel_rfl) ?_;refine oo (pF ht) (on hc ?_)
    first
     |exact bS (ex:=.normal) (jx l (an .i64 (ofNat i+1))) (by kernel_rfl) (by kernel_rfl) ⟨by rw[hw],by rw[hI,ha];rfl⟩
     |exact bS (ex:=.ret) (pL i) (by kernel_rfl) (by kernel_rfl) (.inr ⟨rfl,by rw[hI,ha];rfl,i,rfl⟩)
  intro hI;have h1:l.any p=false:=by rw[hI,aH,List.drop_length];rfl
  refine aq [9] [14] (H:=yy) (live:=ov) ?_;refine bn (b:=false) (cj (i:=(ax l).length) (L:=(ax l).length) (by omega)) (by kernel_rfl) ?_;exact bS (ex:=.exit 0) (pK l) (by kernel_rfl) (by kernel_rfl) (.inl ⟨rfl,h1,rfl⟩)
 clear hp hb;refine Bh [] [] (x:=qS.of Tryz.f205 P8 ov) (T:=fun r=>pe (l.any p) r.val/\r.heap=[]/\r.next=0) (by kernel_rfl) ?_;refine iF (n:=mF) (c:=roundOf Tryz.f205 0) (f:=jx l (ofNat 0)) (by kernel_rfl) (by kernel_rfl) hl ?_;rintro ex s (⟨rfl,hc,rfl⟩|⟨rfl,hc,i,rfl⟩)
 ·rw[hc];exact⟨_,rfl,fX (a:=⟨iv (-1),[],0⟩) (by kernel_rfl) ⟨⟨_,rfl,rfl⟩,rfl,rfl⟩⟩
 rw[hc];exact⟨_,rfl,fX (a:=⟨iv (ofNat i),[],0⟩) (by kernel_rfl) ⟨⟨_,rfl,cj (by omega)⟩,rfl,rfl⟩⟩
theorem B1 (w:∀t∈l,ae 209 [.dat t.enc] (bv (p t))) (d:l.length < 1000000000) :
  ae 193 [.dat (sl (ax l)),iM] (bv (l.any p)):=by
 cases l with
 | nil=>exact dE _ _ _ _ _ (by kernel_rfl)
 | cons t r=>
  have h:=xZ w d;generalize (t::r).any p=c at h;refine co [8] [] (x:=.of Tryz.f193 P8 T5) ?_;refine Ja (Q:=pe c) h (by kernel_rfl) (by kernel_rfl) (by rintro v ⟨j,rfl,_⟩;rfl) ?_;rintro v ⟨j,rfl,e⟩ _;refine bn (b:=c) (c:=!aF j (ofNat 0)) (by grind) (by kernel_rfl) ?_;exact fX (a:=⟨bv c,[],0⟩) (by cases c <;> kernel_rfl) rfl
def gQ:ac:=.fn (.func 194) [] []
def iu (l:List Ty) (i:Int):ab:=⟨[(8,iv i),(7,iv (ofNat (ax l).length)),(0,.dat (.slice (ax l))),(1,gQ)],[],[],0⟩
def pg (l:List Ty):ab:=⟨[(9,bv false),(8,iv (ofNat (ax l).length)),(7,iv (ofNat (ax l).length)),(0,.dat (.slice (ax l))),(1,gQ)],[],[],0⟩
def ph (i:Nat):ab:=⟨[(4,iv (ofNat i))],[],[],0⟩
theorem vZ (hp:∀t∈l,ae 194 [.dat t.enc] (bv (p t))) (hb:l.length < 1000000000) :
  KC 205 [.dat (.slice (ax l)),gQ] [] 0 (fun v h m=>pe (l.any p) v/\h=[]/\m=0):=by
 have hl:KD (.loop (roundOf Tryz.f205 0)) (fun e s=>(e=.exit 0/\l.any p=false/\s=(pg l).al mF)∨(e=.ret/\l.any p=true/\∃i:Nat,s=(ph i).al mF)) ((iu l (ofNat 0)).al mF):=by
  refine cV (St:=fun i=>(iu l (ofNat i)).al mF) (fun i=>l.any p=(l.drop i).any p) (ax l).length ?_ ?_ (i:=0) (Nat.zero_le _) rfl
  ·intro i hi hI;obtain⟨t,ht,hm⟩:=get_mem hi;have ha:=HG (p:=p) ht;have hw:an .i64 (ofNat i+1)=ofNat (i+1):=bb (by rw[aH] at hi;omega);have hc:=hp t hm;generalize ht2:p t=tc at hc ha;clear hp hb ht2;obtain⟨k2,lR,ix2,a2⟩:=t
   rcases a2 with _|⟨b,c⟩ <;> cases tc <;>
   ·refine aq [9] [14] (H:=yy) (live:=ov) ?_;refine bn (b:=true) (br hi) (by kernel_rfl) ?_;refine oo (pF ht) (on hc ?_)
    first
     |exact bS (ex:=.normal) (iu l (an .i64 (ofNat i+1))) (by kernel_rfl) (by kernel_rfl) ⟨by rw[hw],by rw[hI,ha];rfl⟩
     |exact bS (ex:=.ret) (ph i) (by kernel_rfl) (by kernel_rfl) (.inr ⟨rfl,by rw[hI,ha];rfl,i,rfl⟩)
  intro hI;have h1:l.any p=false:=by rw[hI,aH,List.drop_length];rfl
  refine aq [9] [14] (H:=yy) (live:=ov) ?_;refine bn (b:=false) (cj (i:=(ax l).length) (L:=(ax l).length) (by omega)) (by kernel_rfl) ?_;exact bS (ex:=.exit 0) (pg l) (by kernel_rfl) (by kernel_rfl) (.inl ⟨rfl,h1,rfl⟩)
 clear hp hb;refine Bh [] [] (x:=qS.of Tryz.f205 P8 ov) (T:=fun r=>pe (l.any p) r.val/\r.heap=[]/\r.next=0) (by kernel_rfl) ?_;refine iF (n:=mF) (c:=roundOf Tryz.f205 0) (f:=iu l (ofNat 0)) (by kernel_rfl) (by kernel_rfl) hl ?_;rintro ex s (⟨rfl,hc,rfl⟩|⟨rfl,hc,i,rfl⟩)
 ·rw[hc];exact⟨_,rfl,fX (a:=⟨iv (-1),[],0⟩) (by kernel_rfl) ⟨⟨_,rfl,rfl⟩,rfl,rfl⟩⟩
 rw[hc];exact⟨_,rfl,fX (a:=⟨iv (ofNat i),[],0⟩) (by kernel_rfl) ⟨⟨_,rfl,cj (by omega)⟩,rfl,rfl⟩⟩
theorem Bu (w:∀t∈l,ae 194 [.dat t.enc] (bv (p t))) (d:l.length < 1000000000) :
  ae 193 [.dat (sl (ax l)),gQ] (bv (l.any p)):=by
 cases l with
 | nil=>exact dE _ _ _ _ _ (by kernel_rfl)
 | cons t r=>
  have h:=vZ w d;generalize (t::r).any p=c at h;refine co [8] [] (x:=.of Tryz.f193 P8 T5) ?_;refine Ja (Q:=pe c) h (by kernel_rfl) (by kernel_rfl) (by rintro v ⟨j,rfl,_⟩;rfl) ?_;rintro v ⟨j,rfl,e⟩ _;refine bn (b:=c) (c:=!aF j (ofNat 0)) (by grind) (by kernel_rfl) ?_;exact fX (a:=⟨bv c,[],0⟩) (by cases c <;> kernel_rfl) rfl
mutual
def Ty.plain:Ty->Bool
 | .mk k n x a=>aB k 5||(Ty.mk k n x a).closed 0||(aB k 2&&!gT a)
def gT:List Ty->Bool
 | []=>false
 | t::r=>!t.plain||gT r
end
theorem Dt:∀l:List Ty,gT l=l.any (fun t=>!t.plain)
 | []=>by simp[gT]
 | t::r=>by simp[gT,Dt r]
theorem xE {k:Int} {nm:List UInt8} {ix:Int} {l:List Ty} (hp:∀t∈l,ae 210 [.dat t.enc] (bv t.plain)) (hb:l.length < 1000000000):ae 203 [.dat (Ty.mk k nm ix l).enc] (bv (!gT l)):=by
 have h1:∀t∈l,ae 209 [.dat t.enc] (bv (!t.plain)):=by
  intro t ht;have hc:=hp t ht;generalize t.plain=c at hc;obtain⟨k2,lR,ix2,a2⟩:=t
  rcases a2 with _|⟨b,d⟩ <;> cases c <;>
  ·refine co [] [] (x:=.of Tryz.f209 P8 QG) ?_;exact on hc fi
 have h2:=B1 h1 hb;rw[Dt];generalize l.any (fun t=>!t.plain)=c at h2
 rcases l with _|⟨b,d⟩ <;> cases c <;>
 ·refine co [] [] (x:=.of Tryz.f203 P8 QG) ?_;exact on h2 fi
theorem IH {c:Int} (w:∀t∈l,ae 210 [.dat t.enc] (bv t.plain)) (s:(Ty.mk k n c l).size < 1000000000):ae 210 [.dat (Ty.mk k n c l).enc] (bv (Ty.mk k n c l).plain):=by
 have m:l.length < 1000000000:=by grind[gw,Ty.size]
 have a:=HB (Ty.mk k n c l) 0 s (by have:=oS (Ty.mk k n c l);omega);have f:=@xE k n c _ w m;have e:(Ty.mk k n c l).plain=(aB k 5||(Ty.mk k n c l).closed 0||(aB k 2&&!gT l)):=by rw[Ty.plain]
 rw[e];generalize (Ty.mk k n c l).closed 0=i at a;generalize (!gT l)=h at f;generalize G:aB k 5=g;generalize j:aB k 2=q
 rcases l with _|⟨b,d⟩ <;>
 ·refine co [5,13] [] (x:=.of Tryz.f210 P8 QG) ?_;refine ob G ?_
  cases g
  ·refine on a ?_
   cases i
   ·refine ob j ?_
    cases q with
    | false=>exact fi
    | true=>
     refine on f ?_
     cases h <;> exact fi
   exact fi
  exact fi
mutual
theorem UW:∀t:Ty,t.size < 1000000000->ae 210 [.dat t.enc] (bv t.plain)
 | .mk k n b l,h=>IH (Bj l (by grind[Ty.size])) h
theorem Bj:∀l:List Ty,aQ l < 1000000000->∀t∈l,ae 210 [.dat t.enc] (bv t.plain)
 | [],_,t,T=>by grind
 | x::r,h,t,T=>by
  simp only[aQ] at h
  rcases List.mem_cons.1 T with a|T
  ·rw[a];exact UW x (by omega)
  exact Bj r (by omega) t T
end
def jA (n:Nat):Bool:=(Nat.ble 97 n&&Nat.ble n 122)||(Nat.ble 65 n&&Nat.ble n 90)
def B6 (n:Nat):Bool:=jA n||(Nat.ble 48 n&&Nat.ble n 57)||Nat.beq n 95||Nat.beq n 45
def lY (n:Nat):Bool:=!Nat.beq n 45&&B6 n
def isIdent:List UInt8->Bool
 | []=>false
 | c::r=>Nat.ble (r.length+1) 24&&jA c.toNat&&(c::r).all (fun c=>lY c.toNat)
def GC (n:Nat):ac:=.dat (.flat (.int .u8 (ofNat n)))
def HI (p:Nat->Bool):Nat->Bool
 | 0=>true
 | k+1=>p k&&HI p k
theorem rC {p:Nat->Bool}:∀{k:Nat},HI p k=true->∀i,i < k->p i=true
 | 0,_,i,b=>by omega
 | k+1,h,i,b=>by
  simp only[HI,Bool.and_eq_true] at h
  rcases Nat.lt_or_ge i k with a|a
  ·exact rC h.2 i a
  grind
def aqT (c:Bool):Option eX->Bool
 | some ⟨.dat (.flat (.bool b)),[],0⟩=>match b with|true=>c|false=>!c
 | _=>false
theorem qD {c:Bool} {r:Option eX} (h:aqT c r=true):r=some ⟨bv c,[],0⟩:=by
 unfold aqT at h
 grind
theorem Jn:HI (fun n=>aqT (jA n) (X 142 [GC n] [] 0)) 256=true:=by kernel_rfl
theorem J2 (c:UInt8):ae 142 [GC c.toNat] (bv (jA c.toNat)):=dE _ _ _ _ _ (qD (rC Jn _ c.toNat_lt))
theorem MU:HI (fun n=>aqT (lY n) (X 144 [GC n] [] 0)) 256=true:=by kernel_rfl
theorem RU (c:UInt8):ae 144 [GC c.toNat] (bv (lY c.toNat)):=dE _ _ _ _ _ (qD (rC MU _ c.toNat_lt))
theorem adv:ba.desc 9=some .string:=by kernel_rfl
theorem aou {b:List UInt8} {c:UInt8} (h:b[i]?=some c):qP ba 9 [.dat (sb b),.dat (.flat (.int .i64 (ofNat i)))]=some ⟨GC c.toNat,.keep⟩:=by
 have J:bW.nA.byte ⟨⟨b⟩⟩ (ofNat i)=some c:=Ur h;have w:ba.pr=bW.nA:=rfl;simp only[qP,sb,adv,w,J];rfl
def fnI:ac:=.fn (.func 144) [] []
noncomputable def QZ:Hints:=⟨bV,P8,bi,rowsOf bi 143⟩
def SY (b:List UInt8) (i:Int):ab:=⟨[(5,iv i),(0,.dat (sb b)),(1,fnI)],[],[],0⟩
def Vt (b:List UInt8):ab:=⟨[(9,bv false),(5,iv (ofNat b.length)),(0,.dat (sb b)),(1,fnI)],[],[],0⟩
def Vu:ab:=⟨[(4,bv false)],[],[],0⟩
theorem UX {b:List UInt8} (hb:b.length < 1000000000):ae 143 [.dat (sb b),fnI] (bv (b.all (fun c=>lY c.toNat))):=by
 have hl:KD (.loop (roundOf Tryz.f143 0)) (fun e s=>(e=.exit 0/\b.all (fun c=>lY c.toNat)=true/\s=(Vt b).al Aq)∨(e=.ret/\b.all (fun c=>lY c.toNat)=false/\s=Vu.al Aq)) ((SY b (ofNat 0)).al Aq):=by
  refine cV (St:=fun i=>(SY b (ofNat i)).al Aq) (fun i=>b.all (fun c=>lY c.toNat)=(b.drop i).all (fun c=>lY c.toNat)) b.length ?_ ?_ (i:=0) (Nat.zero_le _) rfl
  ·intro i hi hI;have hg:b[i]?=some b[i]:=List.getElem?_eq_getElem hi;have hd:(b.drop i).all (fun c=>lY c.toNat)=(lY b[i].toNat&&(b.drop (i+1)).all (fun c=>lY c.toNat)):=by rw[List.drop_eq_getElem_cons hi];rfl
   have hw:an .i64 (ofNat i+1)=ofNat (i+1):=bb (by omega);have hc:=RU b[i];generalize b[i]=c at hg hd hc;generalize lY c.toNat=tc at hd hc;refine aq [9] [15] (H:=QZ) (live:=aqG) ?_;refine bn (b:=true) (br hi) (by kernel_rfl) ?_;refine oo (aou hg) (on hc ?_)
   cases tc
   ·exact bS (ex:=.ret) Vu (by kernel_rfl) (by kernel_rfl) (.inr ⟨rfl,by rw[hI,hd];rfl,rfl⟩)
   exact bS (ex:=.normal) (SY b (an .i64 (ofNat i+1))) (by kernel_rfl) (by kernel_rfl) ⟨by rw[hw],by rw[hI,hd];rfl⟩
  intro hI;have h1:b.all (fun c=>lY c.toNat)=true:=by rw[hI,List.drop_length];rfl
  refine aq [9] [15] (H:=QZ) (live:=aqG) ?_;refine bn (b:=false) (cj (i:=b.length) (L:=b.length) (by omega)) (by kernel_rfl) ?_;exact bS (ex:=.exit 0) (Vt b) (by kernel_rfl) (by kernel_rfl) (.inl ⟨rfl,h1,rfl⟩)
 generalize b.all (fun c=>lY c.toNat)=c at hl;refine co [] [] (x:=.of Tryz.f143 P8 aqG) ?_;refine iF (n:=Aq) (c:=roundOf Tryz.f143 0) (f:=SY b (ofNat 0)) (by kernel_rfl) (by kernel_rfl) hl ?_;rintro ex s (⟨rfl,rfl,rfl⟩|⟨rfl,rfl,rfl⟩) <;>
 ·exact⟨_,rfl,fX (by kernel_rfl) rfl⟩
theorem Dj (b:List UInt8):ae 99 [.dat (sb b)] (bv (isIdent b)):=by
 cases b with
 | nil=>exact dE _ _ _ _ _ (by kernel_rfl)
 | cons c r=>
  have hev:Nat.ble (r.length+1) 24=true->ae 143 [.dat (sb (c::r)),fnI] (bv ((c::r).all (fun c=>lY c.toNat))):=fun h=>UX (by have:=fD h;simp;omega)
  have hle:=J2 c;have e:isIdent (c::r)=(Nat.ble (r.length+1) 24&&jA c.toNat&&(c::r).all (fun c=>lY c.toNat)):=rfl;rw[e];generalize (c::r).all (fun c=>lY c.toNat)=ca at hev;generalize jA c.toNat=cl at hle;have hlt:aF (ofNat 24) (ofNat (r.length+1))=!Nat.ble (r.length+1) 24:=by
   rw[gv]
   by_cases h:24 < r.length+1
   ·rw[decide_eq_true h,show Nat.ble (r.length+1) 24=false from by rw[Bool.eq_false_iff];intro e;have:=fD e;omega];rfl
   rw[decide_eq_false h,gC (by omega)];rfl
  generalize Nat.ble (r.length+1) 24=cb at hlt hev;refine co [8] [12] (x:=.of Tryz.f99 P8 QH) ?_;refine bn (b:=cb) (c:=!aF (ofNat 24) (ofNat (r.length+1))) (by rw[hlt];simp) (by kernel_rfl) ?_
  cases cb with
  | false=>exact fi
  | true=>
   refine oo (aou (b:=c::r) (i:=0) rfl) (on hle ?_)
   cases cl with
   | false=>exact fi
   | true=>
    refine on (hev rfl) ?_
    cases ca <;> exact fi
def aeh (b:List UInt8):Bool:=tG.any (fun r=>jP b r)
noncomputable def ri:Hints:=⟨bV,P8,bi,rowsOf bi 208⟩
def Fp (b:List UInt8) (i:Int):ab:=⟨[(8,iv i),(7,iv 5),(0,.dat (.slice (encS tG))),(1,.dat (sb b))],[],[],0⟩
def Vr (b:List UInt8):ab:=⟨[(9,bv false),(8,iv 5),(7,iv 5),(0,.dat (.slice (encS tG))),(1,.dat (sb b))],[],[],0⟩
def Cp (i:Nat):ab:=⟨[(4,iv (ofNat i))],[],[],0⟩
theorem RT (b:List UInt8):KC 208 [.dat (.slice (encS tG)),.dat (sb b)] [] 0 (fun v h m=>pe (aeh b) v/\h=[]/\m=0):=by
 have l:KD (.loop (roundOf Tryz.f208 0)) (fun e s=>(e=.exit 0/\aeh b=false/\s=(Vr b).al Ao)∨(e=.ret/\aeh b=true/\∃i:Nat,s=(Cp i).al Ao)) ((Fp b (ofNat 0)).al Ao):=by
  refine cV (St:=fun i=>(Fp b (ofNat i)).al Ao) (fun i=>aeh b=(tG.drop i).any (fun r=>jP b r)) 5 ?_ ?_ (i:=0) (Nat.zero_le _) rfl
  ·intro i p d;have g:i=0∨i=1∨i=2∨i=3∨i=4:=by omega
   have D:(tG.drop i).any (fun r=>jP b r)=(jP b (tG.getD i [])||(tG.drop (i+1)).any (fun r=>jP b r)):=by rcases g with rfl|rfl|rfl|rfl|rfl <;> rfl
   rw[D] at d;clear D;generalize j:jP b (tG.getD i [])=k at d
   rcases g with rfl|rfl|rfl|rfl|rfl
   ·refine aq [16] [] (H:=ri) (live:=ov) (ob j ?_)
    cases k
    ·exact bS (ex:=.normal) (Fp b (ofNat (0+1))) (by kernel_rfl) (by kernel_rfl) ⟨rfl,d⟩
    exact bS (ex:=.ret) (Cp 0) (by kernel_rfl) (by kernel_rfl) (.inr ⟨rfl,d,0,rfl⟩)
   ·refine aq [16] [] (H:=ri) (live:=ov) (ob j ?_)
    cases k
    ·exact bS (ex:=.normal) (Fp b (ofNat (1+1))) (by kernel_rfl) (by kernel_rfl) ⟨rfl,d⟩
    exact bS (ex:=.ret) (Cp 1) (by kernel_rfl) (by kernel_rfl) (.inr ⟨rfl,d,1,rfl⟩)
   ·refine aq [16] [] (H:=ri) (live:=ov) (ob j ?_)
    cases k
    ·exact bS (ex:=.normal) (Fp b (ofNat (2+1))) (by kernel_rfl) (by kernel_rfl) ⟨rfl,d⟩
    exact bS (ex:=.ret) (Cp 2) (by kernel_rfl) (by kernel_rfl) (.inr ⟨rfl,d,2,rfl⟩)
   ·refine aq [16] [] (H:=ri) (live:=ov) (ob j ?_)
    cases k
    ·exact bS (ex:=.normal) (Fp b (ofNat (3+1))) (by kernel_rfl) (by kernel_rfl) ⟨rfl,d⟩
    exact bS (ex:=.ret) (Cp 3) (by kernel_rfl) (by kernel_rfl) (.inr ⟨rfl,d,3,rfl⟩)
   refine aq [16] [] (H:=ri) (live:=ov) (ob j ?_)
   cases k
   ·exact bS (ex:=.normal) (Fp b (ofNat (4+1))) (by kernel_rfl) (by kernel_rfl) ⟨rfl,d⟩
   exact bS (ex:=.ret) (Cp 4) (by kernel_rfl) (by kernel_rfl) (.inr ⟨rfl,d,4,rfl⟩)
  intro d;have o:aeh b=false:=by rw[d];rfl
  refine aq [16] [] (H:=ri) (live:=ov) ?_;exact bS (ex:=.exit 0) (Vr b) (by kernel_rfl) (by kernel_rfl) (.inl ⟨rfl,o,rfl⟩)
 generalize aeh b=c at l;refine Bh [] [] (x:=qS.of Tryz.f208 P8 ov) (T:=fun r=>pe c r.val/\r.heap=[]/\r.next=0) (by kernel_rfl) ?_;refine iF (n:=Ao) (c:=roundOf Tryz.f208 0) (f:=Fp b (ofNat 0)) (by kernel_rfl) (by kernel_rfl) l ?_;rintro ex s (⟨rfl,rfl,rfl⟩|⟨rfl,rfl,i,rfl⟩)
 ·exact⟨_,rfl,fX (a:=⟨iv (-1),[],0⟩) (by kernel_rfl) ⟨⟨_,rfl,rfl⟩,rfl,rfl⟩⟩
 exact⟨_,rfl,fX (a:=⟨iv (ofNat i),[],0⟩) (by kernel_rfl) ⟨⟨_,rfl,cj (by omega)⟩,rfl,rfl⟩⟩
theorem HA (b:List UInt8):ae 202 [.dat (.slice (encS tG)),.dat (sb b)] (bv (aeh b)):=by
 have h:=RT b;generalize aeh b=c at h;refine co [8] [] (x:=.of Tryz.f202 P8 T5) ?_;refine Ja (Q:=pe c) h (by kernel_rfl) (by kernel_rfl) (by rintro v ⟨j,rfl,_⟩;rfl) ?_;rintro v ⟨j,rfl,hj⟩ _;refine bn (b:=c) (c:=!aF j (ofNat 0)) (by grind) (by kernel_rfl) ?_
 cases c <;> exact fi
def fP (x y:Int):Int:=match aF x y with|true=>-1|false=>(match aF y x with|true=>1|false=>0)
def qB (x y:List UInt8):Int:=match ML x y with|true=>-1|false=>(match !(ML x y||jP x y) with|true=>1|false=>0)
def BH:List Int->Int
 | []=>0
 | x::r=>match aB x 0 with|true=>BH r|false=>x
theorem eu (x:Int):aB x x=true:=by rw[cN];simp
theorem A4 (x:List UInt8):jP x x=true:=by rw[wu];simp
theorem RX (x:Int):ae 172 [iv x] (bv false):=by
 refine co [5] [] (x:=.of Tryz.f172 P8 QH) ?_;refine bn (b:=false) (c:=!aB x x) (by rw[eu];rfl) (by kernel_rfl) ?_;exact fi
theorem RW (x:List UInt8):ae 190 [.dat (sb x)] (bv false):=by
 refine co [5] [] (x:=.of Tryz.f190 P8 QH) ?_;refine bn (b:=false) (c:=!jP x x) (by rw[A4];rfl) (by kernel_rfl) ?_;exact fi
theorem J3 (x y:Int):ae 164 [iv x,iv y] (iv (fP x y)):=by
 unfold fP;generalize c:aF x y=a;generalize d:aF y x=b;refine co [16,19] [] (x:=.of Tryz.f164 P8 Ln) ?_;refine on (RX x) (on (RX y) (ob c ?_))
 cases a
 ·refine ob d ?_
  cases b <;> exact fi
 exact fi
theorem ZV (x y:List UInt8):ae 165 [.dat (sb x),.dat (sb y)] (iv (qB x y)):=by
 unfold qB;generalize d:(!(ML x y||jP x y))=b;generalize c:ML x y=a;refine co [16,19] [] (x:=.of Tryz.f165 P8 Ln) ?_;refine on (RW x) (on (RW y) (ob c ?_))
 cases a
 ·refine ob d ?_
  cases b <;> exact fi
 exact fi
noncomputable def hOr:Hints:=⟨bV,P8,bi,rowsOf bi 163⟩
def Ij (a b c d:Int) (i:Int):ab:=⟨[(8,iv i),(7,iv 4),(6,.dat (.slice [i64 a,i64 b,i64 c,i64 d])),(3,iv 0)],[],[],0⟩
def Vp (a b c d:Int):ab:=⟨[(9,bv false),(8,iv 4),(7,iv 4),(6,.dat (.slice [i64 a,i64 b,i64 c,i64 d])),(3,iv 0)],[],[],0⟩
def Fm (a:Int):ab:=⟨[(2,iv a)],[],[],0⟩
theorem afe (a b c d:Int):ae 163 [.dat (.slice [i64 a,i64 b,i64 c,i64 d])] (iv (BH [a,b,c,d])):=by
 have l:KD (.loop (roundOf Tryz.f163 0)) (fun e s=>(e=.exit 0/\BH [a,b,c,d]=0/\s=(Vp a b c d).al Ap)∨(e=.ret/\s=(Fm (BH [a,b,c,d])).al Ap)) ((Ij a b c d (ofNat 0)).al Ap):=by
  refine cV (St:=fun i=>(Ij a b c d (ofNat i)).al Ap) (fun i=>BH [a,b,c,d]=BH ([a,b,c,d].drop i)) 4 ?_ ?_ (i:=0) (Nat.zero_le _) rfl
  ·intro i o h;have g:i=0∨i=1∨i=2∨i=3:=by omega
   have D:BH ([a,b,c,d].drop i)=(match aB ([a,b,c,d].getD i 0) 0 with|true=>BH ([a,b,c,d].drop (i+1))|false=>[a,b,c,d].getD i 0):=by rcases g with rfl|rfl|rfl|rfl <;> rfl
   rw[D] at h;clear D;generalize j:aB ([a,b,c,d].getD i 0) 0=k at h
   rcases g with rfl|rfl|rfl|rfl
   ·refine aq [14] [] (H:=hOr) (live:=oz) ?_;refine bn (b:=!k) (c:=!aB ([a,b,c,d].getD 0 0) 0) (by rw[j]) (by kernel_rfl) ?_
    cases k with
    | false=>exact bS (ex:=.ret) (Fm ([a,b,c,d].getD 0 0)) (by kernel_rfl) (by kernel_rfl) (.inr ⟨rfl,by rw[h]⟩)
    | true=>exact bS (ex:=.normal) (Ij a b c d (ofNat (0+1))) (by kernel_rfl) (by kernel_rfl) ⟨rfl,h⟩
   ·refine aq [14] [] (H:=hOr) (live:=oz) ?_;refine bn (b:=!k) (c:=!aB ([a,b,c,d].getD 1 0) 0) (by rw[j]) (by kernel_rfl) ?_
    cases k with
    | false=>exact bS (ex:=.ret) (Fm ([a,b,c,d].getD 1 0)) (by kernel_rfl) (by kernel_rfl) (.inr ⟨rfl,by rw[h]⟩)
    | true=>exact bS (ex:=.normal) (Ij a b c d (ofNat (1+1))) (by kernel_rfl) (by kernel_rfl) ⟨rfl,h⟩
   ·refine aq [14] [] (H:=hOr) (live:=oz) ?_;refine bn (b:=!k) (c:=!aB ([a,b,c,d].getD 2 0) 0) (by rw[j]) (by kernel_rfl) ?_
    cases k with
    | false=>exact bS (ex:=.ret) (Fm ([a,b,c,d].getD 2 0)) (by kernel_rfl) (by kernel_rfl) (.inr ⟨rfl,by rw[h]⟩)
    | true=>exact bS (ex:=.normal) (Ij a b c d (ofNat (2+1))) (by kernel_rfl) (by kernel_rfl) ⟨rfl,h⟩
   refine aq [14] [] (H:=hOr) (live:=oz) ?_;refine bn (b:=!k) (c:=!aB ([a,b,c,d].getD 3 0) 0) (by rw[j]) (by kernel_rfl) ?_
   cases k with
   | false=>exact bS (ex:=.ret) (Fm ([a,b,c,d].getD 3 0)) (by kernel_rfl) (by kernel_rfl) (.inr ⟨rfl,by rw[h]⟩)
   | true=>exact bS (ex:=.normal) (Ij a b c d (ofNat (3+1))) (by kernel_rfl) (by kernel_rfl) ⟨rfl,h⟩
  intro h;have m:BH [a,b,c,d]=0:=by rw[h];rfl
  refine aq [14] [] (H:=hOr) (live:=oz) ?_;exact bS (ex:=.exit 0) (Vp a b c d) (by kernel_rfl) (by kernel_rfl) (.inl ⟨rfl,m,rfl⟩)
 generalize BH [a,b,c,d]=r at l;refine co [] [] (x:=.of Tryz.f163 P8 oz) ?_;refine iF (n:=Ap) (c:=roundOf Tryz.f163 0) (f:=Ij a b c d (ofNat 0)) (by kernel_rfl) (by kernel_rfl) l ?_;rintro ex s (⟨rfl,rfl,rfl⟩|⟨rfl,rfl⟩)
 ·exact⟨_,rfl,fX (by kernel_rfl) rfl⟩
 exact⟨_,rfl,fX (by kernel_rfl) rfl⟩
mutual
def oT:Ty->Ty->Int
 | .mk k n c l,.mk K d a b=>match aB (BH [fP k K,qB n d,fP c a,fP (ofNat (ax l).length) (ofNat (ax b).length)]) 0 with
  | true=>rM l b
  | false=>BH [fP k K,qB n d,fP c a,fP (ofNat (ax l).length) (ofNat (ax b).length)]
def rM:List Ty->List Ty->Int
 | t::r,u::v=>match aB (oT t u) 0 with|true=>rM r v|false=>oT t u
 | _,_=>0
end
def acb (k:Int) (n:List UInt8) (b:Int) (l:List Ty) (K:Int) (d:List UInt8) (a:Int) (c:List Ty):Int:=BH [fP k K,qB n d,fP b a,fP (ofNat (ax l).length) (ofNat (ax c).length)]
theorem qy {x:Int} (h:aB x 0=true):x=0:=by rw[cN] at h;grind
theorem Aj:∀{l:List Int},BH l=0->∀x∈l,x=0
 | [],_,x,b=>by grind
 | y::r,h,x,b=>by
  unfold BH at h
  split at h
  ·rename_i c
   rcases List.mem_cons.1 b with a|b
   ·grind[qy]
   exact Aj h x b
  grind[eu]
theorem ww {x y:Int} (h:fP x y=0):x=y:=by
 unfold fP at h
 cases a:aF x y with
 | true=>grind
 | false=>
  rw[a] at h
  cases b:aF y x with
  | true=>grind
  | false=>
   rw[dA] at a b;grind
theorem AK {c:Int} {K:Int} {d:List UInt8} {b:Int} {l2:List Ty} (h:aB (acb k n c l K d b l2) 0=true):l.length=l2.length:=by
 have a:=Aj (qy h) (fP (ofNat (ax l).length) (ofNat (ax l2).length)) (by simp);grind[ww,aH]
def nF (l b:List Ty) (a:Int):Nat->Int
 | 0=>a
 | i+1=>match l[i]?,b[i]? with|some t,some u=>oT t u|_,_=>0
noncomputable def qp:Hints:=⟨bV,Ed,bi,rowsOf bi 119⟩
def rX (k:Int) (n:List UInt8) (b:Int) (l:List Ty) (K:Int) (d:List UInt8) (a:Int) (c:List Ty):Heap:=[(.loc 3,.cells [iv K,.dat (sb d),iv a,.dat (.slice (ax c))]),(.loc 2,.cells [iv k,.dat (sb n),iv b,.dat (.slice (ax l))])]
def pN (lo:Heap) (i c:Int):ab:=⟨[(6,iv i),(5,iv c),(3,.ptr (.loc 3) 0),(2,.ptr (.loc 2) 0)],lo,[],0⟩
def kZ (lo:Heap) (i c:Int):ab:=⟨[(39,bv false),(6,iv i),(5,iv c),(3,.ptr (.loc 3) 0),(2,.ptr (.loc 2) 0)],lo,[],0⟩
theorem RM {q:Int} {K:Int} {r:List UInt8} {c:Int} {l2:List Ty} {a:Int} (w:aB a 0=true->l.length=l2.length)
  (P:∀t∈l,∀u∈l2,ae 119 [.dat t.enc,.dat u.enc] (iv (oT t u))) (d:l.length < 1000000000) :
  KD (.loop (roundOf Tryz.f119 0)) (fun e s=>e=.exit 0/\∃i:Nat,s=(kZ (rX k n q l K r c l2) (ofNat i) (match aB a 0 with|true=>rM l l2|false=>a)).al gY) ((pN (rX k n q l K r c l2) (ofNat 0) a).al gY):=by
 generalize z:(match aB a 0 with|true=>rM l l2|false=>a)=f;refine cV (St:=fun i=>(pN (rX k n q l K r c l2) (ofNat i) (nF l l2 a i)).al gY) (fun i=>(0 < i->aB a 0=true)/\f=(match aB (nF l l2 a i) 0 with|true=>rM (l.drop i) (l2.drop i)|false=>nF l l2 a i)) (ax l).length ?_ ?_ (i:=0) (Nat.zero_le _) ⟨fun h=>absurd h (Nat.lt_irrefl 0),z.symm⟩
 ·rintro i D ⟨I,p⟩;have m:aB (nF l l2 a i) 0=true->aB a 0=true:=by
   intro h
   cases i with
   | zero=>exact h
   | succ i=>exact I (Nat.succ_pos i)
  obtain⟨t,T,O⟩:=get_mem D;have E:=D;rw[aH] at E;have V:an .i64 (ofNat i+1)=ofNat (i+1):=bb (by omega);generalize C:nF l l2 a i=x at p m;generalize g:aB x 0=B at p m
  cases B with
  | false=>
   refine aq [32,38] [45,50] (H:=qp) (live:=oA) (ob g ?_);refine bS (ex:=.exit 0) (kZ (rX k n q l K r c l2) (ofNat i) x) (by kernel_rfl) (by kernel_rfl) ⟨rfl,i,?_⟩;rw[p]
  | true=>
   have U:=w (m rfl);have A:l2[i]?=some l2[i]:=List.getElem?_eq_getElem (by omega);have y:l2[i]∈l2:=List.getElem_mem _;generalize l2[i]=u at A y;have N:=P t O u y;have v:nF l l2 a (i+1)=oT t u:=by simp only[nF,T,A]
   have j:f=(match aB (nF l l2 a (i+1)) 0 with|true=>rM (l.drop (i+1)) (l2.drop (i+1))|false=>nF l l2 a (i+1)):=by
    rw[p,v];show rM (l.drop i) (l2.drop i)=_;rw[iP T,iP A,rM]
   have J:=m rfl;rw[v] at j;have e:xU (fun s=>s=(pN (rX k n q l K r c l2) (ofNat (i+1)) (nF l l2 a (i+1))).al gY/\(0 < i+1->aB a 0=true)/\f=(match aB (nF l l2 a (i+1)) 0 with|true=>rM (l.drop (i+1)) (l2.drop (i+1))|false=>nF l l2 a (i+1)))
     (fun e s=>e=.exit 0/\∃i:Nat,s=(kZ (rX k n q l K r c l2) (ofNat i) f).al gY) .normal ((pN (rX k n q l K r c l2) (an .i64 (ofNat i+1)) (oT t u)).al gY):=by
    rw[V,v];exact⟨rfl,fun _=>J,j⟩
   generalize oT t u=S at N e;have F:=pF T;have G:=pF A;clear P w p v j I m A y T O;obtain⟨M,Z,W,Q⟩:=t;obtain⟨k4,ad,Y,R⟩:=u
   rcases Q with _|⟨b3,d3⟩ <;> rcases R with _|⟨b4,d4⟩ <;>
   ·refine aq [32,38] [45,50] (H:=qp) (live:=oA) (ob g ?_);refine bn (b:=true) (br D) (by kernel_rfl) ?_;refine oo F (oo G (on N ?_));exact bS (ex:=.normal) (pN (rX k n q l K r c l2) (an .i64 (ofNat i+1)) S) (by kernel_rfl) (by kernel_rfl) e
 rintro⟨I,p⟩;generalize C:nF l l2 a (ax l).length=x at p;generalize g:aB x 0=B at p;refine aq [32,38] [45,50] (H:=qp) (live:=oA) (ob g ?_)
 cases B with
 | false=>
  refine bS (ex:=.exit 0) (kZ (rX k n q l K r c l2) (ofNat (ax l).length) x) (by kernel_rfl) (by kernel_rfl) ⟨rfl,(ax l).length,?_⟩;rw[p]
 | true=>
  have o:x=f:=by
   rw[p,aH,List.drop_length];exact qy g
  refine bn (b:=false) (cj (i:=(ax l).length) (L:=(ax l).length) (by omega)) (by kernel_rfl) ?_;refine bS (ex:=.exit 0) (kZ (rX k n q l K r c l2) (ofNat (ax l).length) x) (by kernel_rfl) (by kernel_rfl) ⟨rfl,(ax l).length,?_⟩;rw[o]
def jY (k:Int) (n:List UInt8) (d:Int) (a:ak) (K:Int) (e:List UInt8) (b:Int) (c:ak):Heap:=[(.loc 3,.cells [iv K,.dat (sb e),iv b,.dat c]),(.loc 2,.cells [iv k,.dat (sb n),iv d,.dat a])]
theorem LP (k:Int) (n:List UInt8) (g:Int) (K:Int) (h:List UInt8) (a:Int) (f:ak) (A:f=nl∨∃l,f=.slice l) (d:Int) :
  KD (.loop (roundOf Tryz.f119 0)) (fun e s=>e=.exit 0/\∃i:Nat,s=(kZ (jY k n g nl K h a f) (ofNat i) d).al gY) ((pN (jY k n g nl K h a f) (ofNat 0) d).al gY):=by
 refine cA (St:=fun _=>(pN (jY k n g nl K h a f) (ofNat 0) d).al gY) 0 (fun i o=>absurd o (Nat.not_lt_zero i)) ?_ (i:=0) (Nat.le_refl _);generalize j:aB d 0=m
 rcases A with rfl|⟨l,rfl⟩ <;>
 ·refine aq [32,38] [45,50] (H:=qp) (live:=oA) (ob j ?_)
  cases m with
  | false=>exact bS (ex:=.exit 0) (kZ (jY k n g nl K h a _) (ofNat 0) d) (by kernel_rfl) (by kernel_rfl) ⟨rfl,0,rfl⟩
  | true=>
   refine bn (b:=false) (c:=aF (ofNat 0) (ofNat 0)) rfl (by kernel_rfl) ?_;exact bS (ex:=.exit 0) (kZ (jY k n g nl K h a _) (ofNat 0) d) (by kernel_rfl) (by kernel_rfl) ⟨rfl,0,rfl⟩
theorem US (k:Int) (n:List UInt8) (d:Int) (c:List ak) (K:Int) (f:List UInt8) (a:Int) (b:Int) (g:aB b 0=false) :
  KD (.loop (roundOf Tryz.f119 0)) (fun e s=>e=.exit 0/\∃i:Nat,s=(kZ (jY k n d (.slice c) K f a nl) (ofNat i) b).al gY) ((pN (jY k n d (.slice c) K f a nl) (ofNat 0) b).al gY):=by
 refine cA (St:=fun _=>(pN (jY k n d (.slice c) K f a nl) (ofNat 0) b).al gY) 0 (fun i h=>absurd h (Nat.not_lt_zero i)) ?_ (i:=0) (Nat.le_refl _);refine aq [32,38] [45,50] (H:=qp) (live:=oA) (ob g ?_);exact bS (ex:=.exit 0) (kZ (jY k n d (.slice c) K f a nl) (ofNat 0) b) (by kernel_rfl) (by kernel_rfl) ⟨rfl,0,rfl⟩
theorem EL {k:Int} {nm:List UInt8} {ix:Int} {a:ak} {k2:Int} {lR:List UInt8} {ix2:Int} {a2:ak} (ha:a=nl∨∃es,a=.slice es) (ha2:a2=nl∨∃es,a2=.slice es) {n m:Nat} {r:Int}
  (hn:a=nl/\n=0∨∃es,a=.slice es/\n=es.length) (hm:a2=nl/\m=0∨∃es,a2=.slice es/\m=es.length)
  (hl:KD (.loop (roundOf Tryz.f119 0)) (fun e s=>e=.exit 0/\∃i:Nat,s=(kZ (jY k nm ix a k2 lR ix2 a2) (ofNat i) r).al gY)
   ((pN (jY k nm ix a k2 lR ix2 a2) (ofNat 0) (BH [fP k k2,qB nm lR,fP ix ix2,fP (ofNat n) (ofNat m)])).al gY)) :
  ae 119 [.dat (.agg [i64 k,sb nm,i64 ix,a]),.dat (.agg [i64 k2,sb lR,i64 ix2,a2])] (iv r):=by
 have h1:=J3 k k2;have h2:=ZV nm lR;have h3:=J3 ix ix2;have h4:=J3 (ofNat n) (ofNat m);generalize fP k k2=x1 at h1 hl;generalize qB nm lR=x2 at h2 hl;generalize fP ix ix2=x3 at h3 hl;generalize fP (ofNat n) (ofNat m)=x4 at h4 hl;have h5:=afe x1 x2 x3 x4;generalize BH [x1,x2,x3,x4]=c0 at h5 hl;clear ha ha2
 rcases hn with⟨rfl,rfl⟩|⟨es,rfl,rfl⟩ <;> rcases hm with⟨rfl,rfl⟩|⟨es2,rfl,rfl⟩ <;>
 ·refine co [] [] (x:=.of Tryz.f119 Ed oA) ?_;refine on h1 (on h2 (on h3 (on h4 (on h5 ?_))));refine iF (n:=gY) (c:=roundOf Tryz.f119 0) (f:=pN (jY k nm ix _ k2 lR ix2 _) (ofNat 0) c0) (by kernel_rfl) (by kernel_rfl) hl ?_;rintro ex s ⟨rfl,i,rfl⟩;exact⟨_,rfl,fX (by kernel_rfl) rfl⟩
theorem EK {nm:List UInt8} {ix:Int} {k2:Int} {lR:List UInt8} {ix2:Int} {l2:List Ty} (ih:∀t∈l,∀u∈l2,ae 119 [.dat t.enc,.dat u.enc] (iv (oT t u))) (hb:l.length < 1000000000) :
  ae 119 [.dat (Ty.mk k nm ix l).enc,.dat (Ty.mk k2 lR ix2 l2).enc] (iv (oT (.mk k nm ix l) (.mk k2 lR ix2 l2))):=by
 rw[oT]
 cases l with
 | nil=>
  have hr:(match aB (BH [fP k k2,qB nm lR,fP ix ix2,fP (ofNat (ax []).length) (ofNat (ax l2).length)]) 0 with|true=>rM [] l2|false=>BH [fP k k2,qB nm lR,fP ix ix2,fP (ofNat (ax []).length) (ofNat (ax l2).length)])=BH [fP k k2,qB nm lR,fP ix ix2,fP (ofNat (ax []).length) (ofNat (ax l2).length)]:=by
   split
   ·rename_i h;rw[qy h,rM];simp
   rfl
  rw[hr]
  cases l2 with
  | nil=>exact @EL _ _ _ nl _ _ _ nl (.inl rfl) (.inl rfl) 0 0 _ (.inl ⟨rfl,rfl⟩) (.inl ⟨rfl,rfl⟩) (LP k nm ix k2 lR ix2 nl (.inl rfl) _)
  | cons u v=>exact @EL _ _ _ nl _ _ _ (.slice (ax (u::v))) (.inl rfl) (.inr ⟨_,rfl⟩) 0 ((ax (u::v)).length) _ (.inl ⟨rfl,rfl⟩) (.inr ⟨_,rfl,rfl⟩) (LP k nm ix k2 lR ix2 _ (.inr ⟨_,rfl⟩) _)
 | cons t r=>
  cases l2 with
  | nil=>
   have hcz:aB (BH [fP k k2,qB nm lR,fP ix ix2,fP (ofNat (ax (t::r)).length) (ofNat (ax []).length)]) 0=false:=by
    rw[Bool.eq_false_iff];intro h
    have:=AK (l:=t::r) (l2:=[]) h
    simp at this
   rw[hcz];exact @EL _ _ _ (.slice (ax (t::r))) _ _ _ nl (.inr ⟨_,rfl⟩) (.inl rfl) ((ax (t::r)).length) 0 _ (.inr ⟨_,rfl,rfl⟩) (.inl ⟨rfl,rfl⟩) (US k nm ix _ k2 lR ix2 _ hcz)
  | cons u v=>
   exact @EL _ _ _ (.slice (ax (t::r))) _ _ _ (.slice (ax (u::v))) (.inr ⟨_,rfl⟩) (.inr ⟨_,rfl⟩) ((ax (t::r)).length) ((ax (u::v)).length) _ (.inr ⟨_,rfl,rfl⟩) (.inr ⟨_,rfl,rfl⟩)
    (RM (l:=t::r) (l2:=u::v) (fun h=>AK (l:=t::r) (l2:=u::v) h) ih hb)
mutual
theorem Bk:∀(t u:Ty),t.thin->ae 119 [.dat t.enc,.dat u.enc] (iv (oT t u))
 | .mk k nm ix l,.mk k2 lR ix2 l2,h=>by
  simp only[Ty.thin] at h;exact EK (fun t ht u _=>xF l h.2 t ht u) h.1
theorem xF:∀(l:List Ty),tt l->∀t∈l,∀u:Ty,ae 119 [.dat t.enc,.dat u.enc] (iv (oT t u))
 | [],_,t,T,_=>by simp at T
 | x::r,h,t,T,u=>by
  simp only[tt] at h
  rcases List.mem_cons.1 T with a|T
  ·rw[a];exact Bk x u h.1
  exact xF r h.2 t T u
end
def NC (t u:Ty):Bool:=aB (oT t u) 0
theorem RV (t u:Ty) (h:t.thin):ae 82 [.dat t.enc,.dat u.enc] (bv (NC t u)):=by
 have e:=Bk t u h;unfold NC;generalize oT t u=c at e;generalize a:aB c 0=f;clear h;obtain⟨M,j,g,b⟩:=t;obtain⟨p,k,i,d⟩:=u
 rcases b with _|⟨l,n⟩ <;> rcases d with _|⟨m,o⟩ <;>
 ·refine co [8] [] (x:=.of Tryz.f82 P8 Qs) ?_;refine on e (ob a ?_)
  cases f <;> exact fi
theorem UY (t u:Ty) (h:t.size < 1000000000):ae 82 [.dat t.enc,.dat u.enc] (bv (NC t u)):=RV t u (DG t h)
def abQ:List Ty->ac
 | []=>.dat nl
 | t::r=>.own (ax (t::r))
theorem Rp {d:ak} (h:d∈ax l):∃t,d=Ty.enc t:=by
 grind[qz]
theorem A7 (a b:List Ty):ax (a++b)=ax a++ax b:=by simp[qz]
theorem Nb (t:Ty):t.enc.cells.length=4:=by cases t;rfl
theorem A6 (l:List Ty):sizedB 4 (ax l)=true:=kM (fun d D=>by grind[Rp,Nb])
theorem JT (l:List Ty):fy (ax l)=false:=by
 cases l with
 | nil=>rfl
 | cons t r=>cases t;rfl
theorem U5 {pre:List Ty} (l:pre.length < 1000000000):bB ba false 38 [.own (ax pre),.dat (.slice [t.enc])] none=some ⟨.own (ax (pre++[t])),.keep⟩:=by
 rw[A7];refine uX (i:=tiT) (ds:=[t.enc]) (k:=3) NU rfl yP ?_ ?_ (by kernel_rfl) ?_ ?_ ?_ (by simp)
 ·exact A6 [t]
 ·grind[A6]
 ·have a:tiT.bytes<=1000:=fD (by kernel_rfl);rw[aH]
  calc (pre.length+1)*tiT.bytes<=1000000000*1000:=Nat.mul_le_mul (by omega) a
   _<=140737488355328:=by decide
 ·rw[aH];simp[lim];omega
 unfold amL;rw[show ax pre++[t.enc]=ax (pre++[t]) by rw[A7];rfl,JT]
theorem Fi {α:Type} {l:List α} {t:α} (h:l[i]?=some t):l.take (i+1)=l.take i++[t]:=by rw[List.take_add_one,h];rfl
mutual
def Ty.fY:Ty->Prop
 | .mk k _ x a=>(aB k 5=true->aF x 9223372036854775808=true)/\fg a
def fg:List Ty->Prop
 | []=>True
 | t::r=>t.fY/\fg r
end
structure Z8 where
 nm:List UInt8
 ty:Ty
structure vh where
 nm:List UInt8
 ar:Int
 sup:Ty
 sK:Bool
 fl:List Z8
def bl (b:Bool):ak:=.flat (.bool b)
def Z8.cells (f:Z8):List ak:=sb f.nm::f.ty.cells
def Z8.enc (f:Z8):ak:=.agg f.cells
def BZ:List Z8->List ak
 | []=>[]
 | f::r=>f.enc::BZ r
def vh.cells (d:vh):List ak:=sb d.nm::i64 d.ar::(d.sup.cells++[bl d.sK,sl (BZ d.fl)])
def vh.enc (d:vh):ak:=.agg d.cells
def ae9 (n:List UInt8) (u k:Int) (b:List UInt8) (a:Int) (d:List ak) (e:Bool) (c:List ak):ak:=.agg [sb n,i64 u,i64 k,sb b,i64 a,sl d,bl e,sl c]
theorem uA {r n k:Nat} (h:k < n):ap ba 112 [.win (.out r) 8 0 n,iv (ofNat k)]=some ⟨.ptr (.out r) (0+k*8),.keep⟩:=by
 have a:ap ba 112 [.win (.out r) 8 0 n,iv (ofNat k)]=(if (Nat.blt k n&&Nat.beq 8 8)=true then some ⟨.ptr (.out r) (0+k*8),.keep⟩ else none):=by kernel_rfl
 simp_all
def isS {α:Type} (o:Option α):Bool:=match o with|some _=>true|none=>false
theorem kT {α:Type} {l:List α} {t:α} (h:l[i]?=some t):l.drop i=t::l.drop (i+1):=by
 obtain⟨a,rfl⟩:=List.getElem?_eq_some_iff.1 h;simp_all
def Ty.gN (t:Ty):Prop:=t.size < 100000000/\t.fY
def vh.gN (d:vh):Prop:=d.sup.gN/\(∀f∈d.fl,f.ty.gN)/\d.fl.length < 1000000000
end Go.Proofs.YtmpmgmmcaghacaaGreatDoor
namespace Go.Proofs
open Go.Shelf
def Tryz.MS:Go.Shelf.Ren:=⟨fun|21=>207|27=>212|28=>213|35=>214|39=>215|n=>n,fun|22=>22|3=>3|4=>4|0=>0|n=>n,fun|n=>n⟩
theorem Tryz.VR:Go.Proofs.Lays2.n21 Tryz.prog Tryz.MS:={
 mixed:=by kernel_rfl
 f21:=Tryz.func207.trans (congrArg some (by kernel_rfl))
 f27:=Tryz.func212.trans (congrArg some (by kernel_rfl))
 f28:=Tryz.func213.trans (congrArg some (by kernel_rfl))
 f35:=Tryz.func214.trans (congrArg some (by kernel_rfl))
 f39:=Tryz.func215.trans (congrArg some (by kernel_rfl))
 t0:=Tryz.underlying0
 a0:=Tryz.isAgg0
 z0:=Tryz.sizeOf0
 v0:=Tryz.zeroValue0
 t3:=Tryz.underlying3
 a3:=Tryz.isAgg3
 z3:=Tryz.sizeOf3
 v3:=Tryz.zeroValue3
 t4:=Tryz.underlying4
 a4:=Tryz.isAgg4
 z4:=Tryz.sizeOf4
 v4:=Tryz.zeroValue4
 t22:=Tryz.underlying22
 a22:=Tryz.isAgg22
 z22:=Tryz.sizeOf22
 v22:=Tryz.zeroValue22
 i3:=by kernel_rfl }
def Tryz.RZ:Go.Shelf.Ren:=⟨fun|25=>206|31=>132|32=>211|37=>172|n=>n,fun|22=>22|3=>3|4=>4|40=>134|0=>0|n=>n,fun|n=>n⟩
theorem Tryz.aff:Go.Proofs.Lays2.n25 Tryz.prog Tryz.RZ:={
 mixed:=by kernel_rfl
 f25:=Tryz.func206.trans (congrArg some (by kernel_rfl))
 f31:=Tryz.func132.trans (congrArg some (by kernel_rfl))
 f32:=Tryz.func211.trans (congrArg some (by kernel_rfl))
 f37:=Tryz.func172.trans (congrArg some (by kernel_rfl))
 t0:=Tryz.underlying0
 a0:=Tryz.isAgg0
 z0:=Tryz.sizeOf0
 v0:=Tryz.zeroValue0
 t3:=Tryz.underlying3
 a3:=Tryz.isAgg3
 z3:=Tryz.sizeOf3
 v3:=Tryz.zeroValue3
 t4:=Tryz.underlying4
 a4:=Tryz.isAgg4
 z4:=Tryz.sizeOf4
 v4:=Tryz.zeroValue4
 t22:=Tryz.underlying22
 a22:=Tryz.isAgg22
 z22:=Tryz.sizeOf22
 v22:=Tryz.zeroValue22
 t40:=Tryz.underlying134
 a40:=Tryz.isAgg134
 z40:=Tryz.sizeOf134
 v40:=Tryz.zeroValue134 }
end Go.Proofs
namespace Go.Tp
open Go.Proofs Go.Shelf Go.RowKit
def cH (l:List Int):List ac:=l.map iv
def ints (l:List Int):List Value:=l.map (Value.int .i64)
section
theorem oD {w:World} {R:Own} {N:Name->Option Nat}:∀{l:List Int} {c:List Value} {B:List Nat},ah w R N (cH l) c B->c=ints l/\B=[]/\∀x∈l,bJ (.int .i64 x)=true
 | [],c,B,h=>by obtain⟨rfl,rfl⟩:=aM h;simp[ints]
 | x::l,c,B,h=>by
  obtain⟨v,d,r,Q,rfl,rfl,a,b⟩:=au h;obtain⟨rfl,rfl,f⟩:=oD b;obtain⟨rfl,a⟩:=a;cases a with
  | flat e=>exact⟨rfl,rfl,by grind⟩
theorem Es {w:World} {R:Own} {N:Name->Option Nat}:∀{l:List Int},(∀x∈l,bJ (.int .i64 x)=true)->ah w R N (cH l) (ints l) []
 | [],_=>aP
 | x::l,h=>by
  have a:ai w R N (iv x) (.int .i64 x) []:=by
   simp only[ai];exact⟨trivial,.flat (h x (by simp))⟩
  exact aD (b1:=[]) (b2:=[]) a (Es (l:=l) (fun y b=>h y (by grind)))
theorem uy {l:List Int}:∀v∈ints l,v.oneCell'=true:=by
 intro v V;obtain⟨x,_,rfl⟩:=List.mem_map.1 V;rfl
theorem ab7 {l:List Int} {j:Nat} {v:Value} (h:(ints l)[j]?=some v):∃x,l[j]?=some x/\v=.int .i64 x:=by
 grind[ints]
theorem aeP {w:World} {b a:Nat} {c:Array Value} {e:TypeId} {f:Nat×Nat} (d:w.heap[b]?=some (.cells c e f)) {v:Value} (h:c.toList[a]?=some v):w.cell? ⟨b,a,none⟩=some v:=by
 rw[Array.getElem?_toList] at h;simp[World.cell?,d,h]
theorem iB {w:World} (b o:Nat) (e:TypeId) (c:List Value) (d:Array Value) (J:w.heap[b]?=some (.cells d e (0,0))) (f:o+c.length<=d.size) (a:∀u∈c,u.oneCell'=true) :
  w.setCells b o c=w.setRow b (d.toList.take o++c++d.toList.drop (o+c.length)).toArray:=by
 have g:∀j,j < c.length->(w.cell? ⟨b,o+0+j,none⟩).isSome=true:=by
  intro j l;rw[aeP J (v:=d.toList[o+0+j]'(by grind)) (by simp)];rfl
 have h:∀j,j < c.length->w.frozen? ⟨b,o+0+j,none⟩=false:=by
  intro j _;simp[World.frozen?,J]
 have i:=run_storeCells_cells (P:=default) b o c 0 w g h a;have k:=run_storeCells_at default b o e c 0 d w J (by grind) a;grind
end
section
variable {P:Program} {l:List Int} {w:World} {x:Int}
theorem qn {R:Own} {g:Nat} {a:Array Value} {t:TypeId} (J:w.heap[g]?=some (.cells a t (0,0))) (b:Array Value) (f:b.size=a.size) (e:∀j,j < a.size->R g j) (c:0 < a.size) (B:List Nat) (d:g∉B):bp w R (w.setRow g b) R B:=
 jH J b f (fun _ _ h=>h) (fun _ _ _ h=>h) (fun k i=>by
  grind) ⟨0,e 0 c⟩ B d
theorem vU {b:World} {R a:Own} {B:List Nat} (k:bp w.drew R b a B):bp w R b a B:=
 ⟨⟨k.step.os,k.step.tape,k.step.output,k.step.size,k.step.block,k.step.cell,k.step.sizes⟩,k.same⟩
theorem Jr {R:Own} (q:Nat) (B:List Nat):bp w R (w.drewN q) R B:=
 ⟨⟨rfl,rfl,rfl,Nat.le_refl _,fun b _ h=>⟨rfl,h⟩,fun b a _ h=>⟨h,rfl⟩,fun b _=>rfl⟩,fun b _ _=>⟨rfl,fun _ h=>h⟩⟩
theorem RQ {ρ:Ren} {G:bA} (L:Lays2.n25 P ρ) (s:l.Pairwise (·<=·)) (hn:l.length < 1000000000) :
  ay P G (ρ.f 25) [.win (.out 0) 1 0 l.length,iv x] [(.out 0,.cells (cH l))] 1 (XQ ⟨.tup [iv (ofNat (l.countP (· < x))),bv (l.contains x)],[(.out 0,.cells (cH l))],1⟩):=by
 intro w R N D Y H z m f I J F hF;obtain⟨v0,r1,c0,d1,rfl,rfl,o,t⟩:=au m;obtain⟨X,r2,p,d2,rfl,rfl,a,K⟩:=au t;obtain⟨rfl,rfl⟩:=aM K;have g:=f;obtain⟨b,b1,b2,rfl,d,y,c⟩:=f;have c:b2=[]:=c;subst c;obtain⟨vs,Q,sp,v,M,Z,_⟩:=y;simp only[ai] at o a;obtain⟨rfl,A,C,u,rfl,T,_,S,W⟩:=o
 have:A=b:=by rw[d] at u;simpa using u.symm
 subst this;obtain⟨rfl,a⟩:=a;have a:eU w R X (.flat (.int .i64 x)):=a;have E:X=.int .i64 x:=by cases a with|flat _=>rfl
 have ae:bJ (.int .i64 x)=true:=by cases a with|flat h=>exact h
 subst E;obtain⟨af,ag,q1,q2,O,rfl,t,_⟩:=eL M;obtain⟨rfl,rfl,ad⟩:=oD t;have r:∀j,j < l.length->w.cell? ⟨A,0+j,none⟩=some (.int .i64 (l.getD j 0)):=by
  intro j V;refine aeP v ?_;rw[O,Nat.zero_add,List.getElem?_append_left (by simp[ints];exact V)];simp[ints,V]
 refine (Any.slices_BinarySearch_int L A 0 l.length C l x w (Nat.le_refl _) (by omega) r (by rw[List.take_length];exact s)).mono ?_;rintro e w' ⟨rfl,q,rfl⟩;rw[List.take_length];have k:∀B,bp w R (w.drewN q) R B:=Jr q;refine⟨_,_,_,1,R,N,[],_,rfl,⟨rfl,rfl,rfl⟩,?_,g.keep (k _),by simpa using I,J,k _,fun _ _ h=>h⟩;have i:∀n:Nat,n < 9223372036854775808->bJ (.int .i64 (ofNat n))=true:=by
  intro n hn;simp[bJ,IntKind.min,IntKind.max,IntKind.signed,IntKind.bits];omega
 have U:l.countP (· < x)<=l.length:=List.countP_le_length;simp only[ai];refine⟨[.int .i64 (ofNat (l.countP (· < x))),.bool (l.contains x)],rfl,?_⟩;refine aD (b1:=[]) (b2:=[]) ?_ (aD (b1:=[]) (b2:=[]) ?_ aP)
 ·simp only[ai];exact⟨trivial,.flat (i _ (by omega))⟩
 simp only[ai];exact⟨trivial,.flat rfl⟩
def fw (l:List Int) (i:Nat) (x:Int):List Int:=l.take i++x::l.drop i
theorem uz {i:Nat} (h:i<=l.length):(fw l i x).length=l.length+1:=by grind[fw]
theorem oG {i:Nat}:ints (fw l i x)=(ints l).take i++.int .i64 x::(ints l).drop i:=by simp_all[fw,ints]
theorem JA {i:Nat} (h:∀y∈l,bJ (.int .i64 y)=true) (X:bJ (.int .i64 x)=true):∀y∈fw l i x,bJ (.int .i64 y)=true:=by
 grind[fw]
theorem LB (l:List Int):cd (cH l)=false:=by
 rcases l with _|⟨a,_|⟨b,_|⟨c,r⟩⟩⟩ <;> rfl
theorem mY {w:World} {R:Own} {N:Name->Option Nat}:∀{n:Nat} {c:List Value} {B:List Nat},ah w R N (List.replicate n .undef) c B->B=[]/\c.length=n
 | 0,c,B,h=>by grind[aM]
 | n+1,c,B,h=>by
  obtain⟨v,d,r,Q,rfl,rfl,a,b⟩:=au h;obtain⟨rfl,f⟩:=mY b;grind[ai]
theorem yx {m:World} {R R':Own} {N:Name->Option Nat} {vb g cap:Nat} {f:TypeId} {arr rest:List Value} {z:List Nat}
  (H:∀o b,N (.out o)=some b->o < 2) (k:∀B,g∉B->bp w R m R' B) (E:g∉z) (L:g≠vb) (M:(vb::z).Nodup)
  (J:m.heap[g]?=some (.cells arr.toArray f (0,0))) (q:arr=ints l++rest) (D:∀y∈l,bJ (.int .i64 y)=true) (u:∀j,j < arr.length->R' g j) (I:arr.length=cap) (A:cap<=jq) (F:l.length<=cap)
  (V:aj w R (outs N) [(.out 1,.cells [iv x])] [vb]) (t:Value) (C:t=.slice (some ⟨g,0,none⟩) l.length cap) :
  ∃v p c d s r n e,Ending.returned t=.returned p/\XQ ⟨.win (.out 2) 1 0 l.length,[(.out 2,.cells (cH l)),(.out 1,.cells [iv x])],3⟩ v c d/\ai m s (outs r) v p n/\aj m s (outs r) c e ∧
   (n++(e++z)).Nodup/\(∀o b,r (.out o)=some b->o < d)/\bp w R m s z/\(∀o b,N (.out o)=some b->r (.out o)=some b):=by
 have i:=FG (N:=N) (b:=g) H;have G:g < m.heap.size:=bN J;refine⟨_,t,_,3,R',bX N (.out 2) g,[],[g,vb],rfl,⟨rfl,rfl,rfl⟩,?_,?_,?_,?_,k z E,fun o b h=>i _ _ h⟩
 ·simp only[ai];refine⟨trivial,g,cap,by simp[outs,bX],C,F,⟨by decide,A⟩,G,?_⟩;rw[dF J];grind
 ·refine⟨g,[],[vb],rfl,by simp[outs,bX],?_,(V.keep (k _ (by grind))).ext (Gb i)⟩;refine⟨arr.toArray,f,rest.length,J,?_,fun j O=>u j (by grind),fun h=>by grind[LB]⟩;have a:ah m R' (outs (bX N (.out 2) g)) (cH l) (ints l) []:=Es D;have K:=fK (w:=m) (R:=R') (N:=outs (bX N (.out 2) g)) rest;simpa [q] using ct a K
 all_goals grind[bX]
theorem Uo (B a b:List Value) (x c:Value) (i:Nat) (h:B.length=i):(B++c::a++b).take i++[x]++(B++c::a++b).drop (i+1)=B++x::(a++b):=by
 subst h;simp_all
theorem MR (A:List Value) (e x:Value) (b:List Value) (i:Nat) (h:i<=A.length) :
  ((A++e::b).take (i+1)++A.drop i++(A++e::b).drop (i+1+(A.drop i).length)).take i++[x]++((A++e::b).take (i+1)++A.drop i++(A++e::b).drop (i+1+(A.drop i).length)).drop (i+1)=A.take i++x::A.drop i++b:=by
 obtain⟨c,d,rfl,a⟩:∃c d,A=c++d/\c.length=i:=⟨A.take i,A.drop i,(List.take_append_drop i A).symm,by grind⟩;subst a;have E:(c++d).drop c.length=d:=by simp
 have F:(c++d).take c.length=c:=by simp
 rw[E,F];obtain⟨y,t,T⟩:∃y t,d++e::b=y::t:=by cases d <;> simp_all
 have f:(c++d++e::b).take (c.length+1)=c++[y]:=by grind
 have g:(c++d++e::b).drop (c.length+1+d.length)=b:=by
  have:c.length+1+d.length=(c++d).length+1:=by grind
  rw[this,List.drop_length_add_append];rfl
 grind
theorem RS {ρ:Ren} {G:bA} (L:Lays2.n21 P ρ) {i:Nat} (hi:i<=l.length) (hn:l.length < 1000000000) :
  ay P G (ρ.f 21) [.win (.out 0) 1 0 l.length,iv (ofNat i),.win (.out 1) 1 0 1] [(.out 0,.cells (cH l)),(.out 1,.cells [iv x])] 2
   (XQ ⟨.win (.out 2) 1 0 (fw l i x).length,[(.out 2,.cells (cH (fw l i x))),(.out 1,.cells [iv x])],3⟩):=by
 intro w R N cm dg H z bf bo a7 a8 cr hF;obtain⟨v0,r1,c0,d1,rfl,rfl,o,bx⟩:=au bf;obtain⟨v1,r2,p,d2,rfl,rfl,h1,b0⟩:=au bx;obtain⟨v2,r3,q,d3,rfl,rfl,h2,cx⟩:=au b0;obtain⟨rfl,rfl⟩:=aM cx;obtain⟨b,b1,Q,rfl,d,ce,C⟩:=bo;have O:=C;obtain⟨vb,b3,b4,rfl,c3,bw,C⟩:=C;have C:b4=[]:=C;subst C;obtain⟨vs,J,sp,t,cz,al,_⟩:=ce;obtain⟨c7,be,dk,T,cg,c8,_⟩:=bw;simp only[ai] at o h1 h2;obtain⟨rfl,W,cap,b8,rfl,da,⟨_,a4⟩,c9,cf⟩:=o
 have:W=b:=by rw[d] at b8;simpa using b8.symm
 subst this;obtain⟨rfl,I,vc,bc,rfl,dj,_,df,c4⟩:=h2
 have:I=vb:=by rw[c3] at bc;simpa using bc.symm
 subst this;obtain⟨rfl,h1⟩:=h1;have h1:eU w R v1 (.flat (.int .i64 (ofNat i))):=h1;have E:v1=.int .i64 (ofNat i):=by cases h1 with|flat _=>rfl
 subst E;obtain⟨dl,b6,q1,q2,a9,rfl,bx,cv⟩:=eL cz;obtain⟨rfl,rfl,cq⟩:=oD bx;obtain⟨dn,dp,q3,q4,c5,rfl,b0,cw⟩:=eL cg;obtain⟨rfl,rfl,bi⟩:=oD (l:=[x]) b0;have bi:=bi x (by simp);obtain⟨rfl,_⟩:=mY cv;obtain⟨rfl,_⟩:=mY cw;simp only[List.nil_append,List.append_nil,List.cons_append] at a7;have a1:W≠I:=by
  have:=(List.nodup_cons.1 a7).1
  simp only[List.mem_cons,not_or] at this;exact this.1
 have b9:W∉z:=by
  have:=(List.nodup_cons.1 a7).1
  simp only[List.mem_cons,not_or] at this;exact this.2
 have ag:(I::z).Nodup:=(List.nodup_cons.1 a7).2;have ch:vs.size=cap:=by rw[dF t] at cf;omega
 have m:(ints l).length=l.length:=by simp[ints]
 have Y:(fw l i x).length=l.length+1:=uz hi;have af:=JA (i:=i) cq bi;have ba:∀j v,[Value.int .i64 x][j]?=some v->w.cell? ⟨I,0+j,none⟩=some v:=by
  intro j v hj;refine aeP T ?_;rw[c5]
  cases j with
  | zero=>simpa [ints] using hj
  | succ j=>simp at hj
 have bg:∀j v,(ints l)[j]?=some v->w.cell? ⟨W,0+j,none⟩=some v:=by
  intro j v hj;refine aeP t ?_
  have:j < (ints l).length:=(List.getElem?_eq_some_iff.1 hj).1
  rw[a9,Nat.zero_add,List.getElem?_append_left this];exact hj
 have ad:∀v∈[Value.int .i64 x],v.oneCell'=true:=by intro v V;simp at V;subst V;rfl
 have a0:∀j,j < cap->(w.cell? ⟨W,0+j,none⟩).isSome=true:=by
  intro j hj;have cs:j < vs.toList.length:=by simp;omega
  rw[aeP t (v:=vs.toList[j]) (by rw[Nat.zero_add];exact List.getElem?_eq_getElem cs)];rfl
 have aq:∀j,w.frozen? ⟨W,j,none⟩=false:=by intro j;simp[World.frozen?,t]
 have ci:b6.length=cap - l.length:=by
  have:=congrArg List.length a9
  simp[m] at this;omega
 by_cases X:l.length+1<=cap
 ·
  obtain⟨u0,ae,rfl⟩:∃u0 ae,b6=u0::ae:=by
   cases b6 with
   | nil=>simp at ci;omega
   | cons a r=>exact⟨a,r,rfl⟩
  rcases Nat.lt_or_ge i l.length with bu|a5
  ·refine (Any2.slices_Insert_int_shift L W 0 l.length cap i I 0 1 vc (ints l) [.int .i64 x] w bu (by decide) X ?_ (Ne.symm a1) m rfl bg (fun j hj=>a0 j (by omega)) (fun j _=>aq _) ba uy ad be J c7.size vs.size ?_ ?_ ?_ ?_ ?_).mono ?_
   ·exact a4
   ·simp[World.shape?,T]
   ·simp[World.shape?,t]
   ·omega
   ·simp[World.frozen?,T]
   ·simp[World.frozen?,T]
   rintro e w' ⟨rfl,rfl⟩;have ar:(w.drew).heap[W]?=some (.cells vs J (0,0)):=t;have D:((ints l).drop i).length=l.length - i:=by simp[m]
   rw[iB (w:=w.drew) W (0+(i+1)) J ((ints l).drop i) vs ar (by rw[D];omega) (fun u hu=>uy u (List.mem_of_mem_drop hu))];obtain⟨f,S⟩:∃f,f=vs.toList.take (0+(i+1))++(ints l).drop i++vs.toList.drop (0+(i+1)+((ints l).drop i).length):=⟨_,rfl⟩;rw[←S];have U:f.length=cap:=by
    rw[S];simp[m];omega
   have ax:=setRow_heap w.drew W vs f.toArray J (0,0) ar;rw[iB (w:=w.drew.setRow W f.toArray) W (0+i) J [.int .i64 x] f.toArray ax (by simp[U];omega) ad];obtain⟨c,k⟩:∃c,c=f.toArray.toList.take (0+i)++[.int .i64 x]++f.toArray.toList.drop (0+i+[Value.int .i64 x].length):=⟨_,rfl⟩;rw[←k];have y:c.length=cap:=by
    rw[k];simp[U];omega
   have az:=setRow_heap (w.drew.setRow W f.toArray) W f.toArray c.toArray J (0,0) ax;refine yx (g:=W) (vb:=I) (cap:=cap) (arr:=c) (rest:=ae) (R':=R) a8 (fun B d=>?_) b9 a1 ag az ?_ af (fun j hj=>al j (by omega)) y a4 (by rw[Y];exact X) O _ (by rw[Y])
   ·refine vU (bp.trans (qn ar f.toArray (by simp[U,ch]) al (by omega) B d) (qn ax c.toArray (by simp[U,y]) (fun j hj=>al j (by simp[U] at hj;omega)) (by simp[U];omega) B d))
   -- the cells
   have V:vs.toList=ints l++(u0::ae):=a9;rw[k,S,V,oG];simp only[Nat.zero_add,List.toList_toArray,List.length_singleton];exact MR (ints l) u0 (.int .i64 x) ae i (by rw[m];omega)
  have bt:i=l.length:=by omega
  subst bt;refine (Any2.slices_Insert_int_end_room L W 0 l.length cap I 0 1 vc [.int .i64 x] w (by decide) X a4 rfl (fun j hj=>?_) (fun j _=>aq _) ba ad).mono ?_
  ·rw[Nat.add_assoc];exact a0 _ (by omega)
  rintro e w' ⟨rfl,rfl⟩;rw[iB (w:=w) W (0+l.length) J [.int .i64 x] vs t (by simp;omega) ad];obtain⟨c,k⟩:∃c,c=vs.toList.take (0+l.length)++[.int .i64 x]++vs.toList.drop (0+l.length+[Value.int .i64 x].length):=⟨_,rfl⟩;rw[←k];have y:c.length=cap:=by
   rw[k];simp;omega
  have az:=setRow_heap w W vs c.toArray J (0,0) t;refine yx (g:=W) (vb:=I) (cap:=cap) (arr:=c) (rest:=ae) (R':=R) a8 (fun B d=>qn t c.toArray (by simp[y,ch]) al (by omega) B d) b9 a1 ag az ?_ af (fun j hj=>al j (by omega)) y a4 (by rw[Y];exact X) O _ (by rw[Y]);have V:vs.toList=ints l++(u0::ae):=a9;rw[k,V,oG,Nat.zero_add,←m,List.take_left,List.take_length,List.drop_length,List.length_singleton,List.drop_length_add_append];simp
 -- a new row
 have cp:cap=l.length:=by omega
 subst cp;have a5:=grownCap_ge w (l.length+1) l.length (ρ.t 3);have bl:grownCap w (l.length+1) l.length (ρ.t 3)<=jq:=Nat.le_trans (grownCap_le_maxLen w (l.length+1) l.length (ρ.t 3) (by unfold maxLen;omega)) (by decide);generalize ca:grownCap w (l.length+1) l.length (ρ.t 3)=gc at a5 bl;have dc:W < w.heap.size:=bN t;have dd:I < w.heap.size:=bN T;have b5:∀n,(Builtin.zeroCells (Value.int .i64 0).cells n).toList.length=n:=fun n=>by simp[Builtin.zeroCells,Value.cells]
 have b7:w.heap.size∉z:=fun h=>by have:=hF _ h;omega
 have a2:∀j,R.more w.heap.size w.heap.size j:=fun j=>.inl rfl
 rcases Nat.lt_or_ge i l.length with bu|db
 ·refine (Any2.slices_Insert_int_grow L W 0 l.length l.length i I 0 1 vc (ints l) [.int .i64 x] w bu (by decide) (Nat.le_refl _) (by omega) (by omega) m rfl bg ba uy ad).mono ?_;rw[ca];rintro e w' ⟨rfl,rfl⟩;obtain⟨z1,ck⟩:∃z1,z1=(Builtin.zeroCells (Value.int .i64 0).cells (l.length+1 - i)).toList:=⟨_,rfl⟩;obtain⟨z2,cl⟩:∃z2,z2=(Builtin.zeroCells (Value.int .i64 0).cells (gc - (l.length+1))).toList:=⟨_,rfl⟩;have U:z1.length=l.length+1 - i:=by rw[ck,b5]
  have cb:z2.length=gc - (l.length+1):=by rw[cl,b5]
  obtain⟨s,am⟩:∃s,s=(ints l).take i++z1++z2:=⟨_,rfl⟩;have cn:(((ints l).take i).toArray++Builtin.zeroCells (Value.int .i64 0).cells (l.length+1 - i)++Builtin.zeroCells (Value.int .i64 0).cells (gc - (l.length+1)))=s.toArray:=by rw[am,ck,cl];simp
  rw[cn];have a6:s.length=gc:=by rw[am];simp[U,cb,m];omega
  have bk:((w.alloc (.cells s.toArray (ρ.t 3))).drew).heap[w.heap.size]?=some (.cells s.toArray (ρ.t 3) (0,0)):=heap_alloc_new w _;rw[iB (w:=(w.alloc (.cells s.toArray (ρ.t 3))).drew) w.heap.size i (ρ.t 3) [.int .i64 x] s.toArray bk (by simp[a6];omega) ad];obtain⟨f,S⟩:∃f,f=s.toArray.toList.take i++[.int .i64 x]++s.toArray.toList.drop (i+[Value.int .i64 x].length):=⟨_,rfl⟩;rw[←S];have y:f.length=gc:=by rw[S];simp[a6];omega
  have ar:=setRow_heap (w.alloc (.cells s.toArray (ρ.t 3))).drew w.heap.size s.toArray f.toArray (ρ.t 3) (0,0) bk;have av:(((w.alloc (.cells s.toArray (ρ.t 3))).drew.setRow w.heap.size f.toArray).drew).heap[w.heap.size]?=some (.cells f.toArray (ρ.t 3) (0,0)):=ar;have D:((ints l).drop i).length=l.length - i:=by simp[m]
  rw[iB (w:=((w.alloc (.cells s.toArray (ρ.t 3))).drew.setRow w.heap.size f.toArray).drew) w.heap.size (i+1) (ρ.t 3) ((ints l).drop i) f.toArray av (by rw[D];simp[y];omega) (fun u hu=>uy u (List.mem_of_mem_drop hu))];obtain⟨c,k⟩:∃c,c=f.toArray.toList.take (i+1)++(ints l).drop i++f.toArray.toList.drop (i+1+((ints l).drop i).length):=⟨_,rfl⟩;rw[←k];have cc:c.length=gc:=by rw[k];simp[y,m];omega
  have ax:=setRow_heap ((w.alloc (.cells s.toArray (ρ.t 3))).drew.setRow w.heap.size f.toArray).drew w.heap.size f.toArray c.toArray (ρ.t 3) (0,0) av;refine yx (g:=w.heap.size) (vb:=I) (cap:=gc) (arr:=c) (rest:=z2) (R':=R.more w.heap.size) a8 (fun B d=>?_) b7 (by omega) ag ax ?_ af (fun j _=>a2 j) cc bl (by rw[Y];exact a5) O _ (by rw[Y])
  ·have k1:bp w R (w.alloc (.cells s.toArray (ρ.t 3))) (R.more w.heap.size) B:=gx _ (fun b c6 d=>Own.qj d) B;have K:=qn (R:=R.more w.heap.size) bk f.toArray (by simp[a6,y]) (fun j _=>a2 j) (by simp[a6];omega) B d;have M:=qn (R:=R.more w.heap.size) av c.toArray (by simp[cc,y]) (fun j _=>a2 j) (by simp[y];omega) B d;exact k1.trans (vU (K.trans (vU M)))
  have e0:((ints l).take i).length=i:=by simp[m];omega
  obtain⟨zz,Z,hz⟩:∃zz Z,z1=zz::Z:=by
   cases z1 with
   | nil=>simp at U;omega
   | cons a r=>exact⟨a,r,rfl⟩
  have cu:Z.length=l.length - i:=by rw[hz] at U;simp at U;omega
  have E:f=(ints l).take i++.int .i64 x::(Z++z2):=by
   rw[S,am,hz];simp only[List.toList_toArray,List.length_singleton];exact Uo _ Z z2 (.int .i64 x) zz i e0
  rw[k,E,oG];simp only[List.toList_toArray];have F:((ints l).take i++.int .i64 x::(Z++z2)).take (i+1)=(ints l).take i++[.int .i64 x]:=by
   rw[List.take_append,e0];simp[List.take_take]
  have e3:((ints l).take i++.int .i64 x::(Z++z2)).drop (i+1+((ints l).drop i).length)=z2:=by
   have:i+1+((ints l).drop i).length=((ints l).take i).length+(1+Z.length):=by rw[e0,D,cu];omega
   rw[this,List.drop_length_add_append,Nat.add_comm 1,List.drop_succ_cons,List.drop_left]
  rw[F,e3];simp
 have bt:i=l.length:=by omega
 subst bt;refine (Any2.slices_Insert_int_end_grow L (some ⟨W,0,none⟩) l.length l.length I 0 1 vc (ints l) [.int .i64 x] w (by decide) (Nat.le_refl _) (by omega) (by omega) m rfl (by simp) (fun a A j v hj=>?_) ba ad).mono ?_
 ·simp only[Option.some.injEq] at A;subst A;rw[add_plain];exact bg j v hj
 rw[ca];rintro e w' ⟨rfl,rfl⟩;obtain⟨c,k⟩:∃c,c=(ints l++[.int .i64 x])++(Builtin.zeroCells (Value.int .i64 0).cells (gc - (l.length+1))).toList:=⟨_,rfl⟩;have a3:((ints l++[Value.int .i64 x]).toArray++Builtin.zeroCells (Value.int .i64 0).cells (gc - (l.length+1)))=c.toArray:=by rw[k];simp
 rw[a3];have y:c.length=gc:=by rw[k,List.length_append,b5];simp[m];omega
 have az:(w.drew.alloc (.cells c.toArray (ρ.t 3))).heap[w.heap.size]?=some (.cells c.toArray (ρ.t 3) (0,0)):=heap_alloc_new w.drew _;refine yx (g:=w.heap.size) (vb:=I) (cap:=gc) (arr:=c) (rest:=(Builtin.zeroCells (Value.int .i64 0).cells (gc - (l.length+1))).toList) (R':=R.more w.heap.size) a8 (fun B d=>gV _ (fun b c6 d=>Own.qj d) B) b7 (by omega) ag az ?_ af (fun j _=>a2 j) y bl (by rw[Y];exact a5) O _ (by rw[Y]);rw[k,oG,←m,List.take_length,List.drop_length]
theorem EU {ρ:Ren} {G:bA} (L:Lays2.n21 P ρ) :
  ay P G (ρ.f 21) [.dat (.flat (.slice none 0 0)),iv (ofNat 0),.win (.out 0) 1 0 1] [(.out 0,.cells [iv x])] 1
   (XQ ⟨.win (.out 1) 1 0 1,[(.out 1,.cells [iv x]),(.out 0,.cells [iv x])],2⟩):=by
 intro w R N Z a7 H z I u U W al hF;obtain⟨v0,r1,c0,d1,rfl,rfl,Q,av⟩:=au I;obtain⟨v1,r2,p,d2,rfl,rfl,a,M⟩:=au av;obtain⟨v2,r3,q,d3,rfl,rfl,Y,ax⟩:=au M;obtain⟨rfl,rfl⟩:=aM ax;have A:=u;obtain⟨vb,b3,b4,rfl,az,K,m⟩:=u;have m:b4=[]:=m;subst m;obtain⟨be,ad,bc,t,X,a4,_⟩:=K;simp only[ai] at Q a Y;obtain⟨rfl,Q⟩:=Q;have V:v0=.slice none 0 0:=by
  have Q:eU w R v0 (.flat (.slice none 0 0)):=Q
  cases Q with|flat _=>rfl
 subst V;obtain⟨rfl,r,vc,D,rfl,a9,_,a6,a0⟩:=Y
 have:r=vb:=by rw[az] at D;simpa using D.symm
 subst this;obtain⟨rfl,a⟩:=a;have a:eU w R v1 (.flat (.int .i64 (ofNat 0))):=a;have E:v1=.int .i64 (ofNat 0):=by cases a with|flat _=>rfl
 subst E;obtain⟨bf,bg,q3,q4,a2,rfl,M,ar⟩:=eL X;obtain⟨rfl,rfl,ag⟩:=oD (l:=[x]) M;obtain⟨rfl,_⟩:=mY ar;simp only[List.nil_append,List.append_nil] at U;have a1:∀j v,[Value.int .i64 x][j]?=some v->w.cell? ⟨r,0+j,none⟩=some v:=by
  intro j v hj;refine aeP t ?_;rw[a2]
  cases j with
  | zero=>simpa [ints] using hj
  | succ j=>simp at hj
 have ae:∀v∈[Value.int .i64 x],v.oneCell'=true:=by intro v V;simp at V;subst V;rfl
 have a5:r < w.heap.size:=bN t;have af:w.heap.size∉z:=fun h=>by have:=hF _ h;omega
 refine (Any2.slices_Insert_int_end_grow L none 0 0 r 0 1 vc [] [.int .i64 x] w (by decide) (Nat.le_refl _) (by omega) (by omega) rfl rfl (by simp) (by simp) a1 ae).mono ?_;have S:=grownCap_ge w (0+1) 0 (ρ.t 3);have T:grownCap w (0+1) 0 (ρ.t 3)<=jq:=Nat.le_trans (grownCap_le_maxLen w (0+1) 0 (ρ.t 3) (by unfold maxLen;omega)) (by decide);generalize a8:grownCap w (0+1) 0 (ρ.t 3)=F at S T;have a3:∀n,(Builtin.zeroCells (Value.int .i64 0).cells n).toList.length=n:=fun n=>by simp[Builtin.zeroCells,Value.cells]
 rintro e w' ⟨rfl,rfl⟩;obtain⟨i,s⟩:∃i,i=Value.int .i64 x::(Builtin.zeroCells (Value.int .i64 0).cells (F - (0+1))).toList:=⟨_,rfl⟩;have y:(([]++[Value.int .i64 x]).toArray++Builtin.zeroCells (Value.int .i64 0).cells (F - (0+1)))=i.toArray:=by
  apply Array.toList_inj.1
  rw[s];simp
 rw[y];have am:i.length=F:=by rw[s,List.length_cons,a3];omega
 have J:(w.drew.alloc (.cells i.toArray (ρ.t 3))).heap[w.heap.size]?=some (.cells i.toArray (ρ.t 3) (0,0)):=heap_alloc_new w.drew _;have k:∀B,bp w R (w.drew.alloc (.cells i.toArray (ρ.t 3))) (R.more w.heap.size) B:=fun B=>gV _ (fun b ba d=>Own.qj d) B
 have C:=FG (N:=N) (b:=w.heap.size) W;refine⟨_,_,_,2,R.more w.heap.size,bX N (.out 1) w.heap.size,[],[w.heap.size,r],rfl,⟨rfl,rfl,rfl⟩,?_,?_,?_,?_,k z,fun o b h=>C _ _ h⟩
 ·simp only[ai];refine⟨trivial,w.heap.size,F,by simp[outs,bX],rfl,S,⟨by decide,T⟩,bN J,?_⟩;rw[dF J];simp[am]
 ·refine⟨w.heap.size,[],[r],rfl,by simp[outs,bX],?_,((by simpa using A:aj w R (outs N) _ [r]).keep (k _)).ext (Gb C)⟩;refine⟨i.toArray,ρ.t 3,(Builtin.zeroCells (Value.int .i64 0).cells (F - (0+1))).toList.length,J,?_,fun j _=>.inl rfl,fun h=>by simp[cd] at h⟩;have Y:=fK (w:=w.drew.alloc (.cells i.toArray (ρ.t 3))) (R:=R.more w.heap.size) (N:=outs (bX N (.out 1) w.heap.size)) (Builtin.zeroCells (Value.int .i64 0).cells (F - (0+1))).toList;have f:ah (w.drew.alloc (.cells i.toArray (ρ.t 3))) (R.more w.heap.size) (outs (bX N (.out 1) w.heap.size)) (cH [x]) (ints [x]) []:=Es ag;have g:=ct f Y;have e:i.toArray.toList=ints [x]++(Builtin.zeroCells (Value.int .i64 0).cells (F - (0+1))).toList:=by rw[s];rfl
  rw[e];exact g
 ·simp only[List.nil_append,List.cons_append];refine List.nodup_cons.2 ⟨?_,U⟩;simp only[List.mem_cons,not_or];exact⟨by omega,af⟩
 intro o c O
 by_cases aq:o=1
 ·omega
 have:N (.out o)=some c:=by simpa [bX,aq] using O
 have:=W o c this
 omega
theorem ay.UD {G:bA} {g:FuncId} {n:List ac} {r m:Nat} {I:Heap} (h:ay P G g n [] 0 (XQ ⟨.win (.out r) 1 0 l.length,(.out r,.cells (cH l))::I,m⟩)) (hn:l.length<=lim) :
  ay P G g n [] 0 (XQ ⟨.dat (.slice (l.map fun x=>.flat (.int .i64 x))),[],0⟩):=by
 intro w R N q L H z A hh Z E J hF;refine (h w R N q L H z A hh Z E J hF).mono ?_;rintro e w' ⟨v,cv,hp,m',R',N',ax,al,rfl,⟨rfl,rfl,rfl⟩,V,W,p,ar,k,hN⟩;simp only[ai] at V;obtain⟨rfl,b,M,d,rfl,D,_,aq,av⟩:=V;obtain⟨t,b1,Q,rfl,B,F,ae⟩:=W
 have:t=b:=by rw[d] at B;simpa using B.symm
 subst this;obtain⟨vs,am,sp,C,af,az,_⟩:=F;obtain⟨a0,a1,q1,q2,ag,rfl,ad,_⟩:=eL af;obtain⟨rfl,rfl,U⟩:=oD ad;have S:t∉z:=by
  intro hm;have a:(t::((([]++q2)++Q)++z)).Nodup:=by simpa using p
  exact (List.nodup_cons.1 a).1 (List.mem_append_right _ hm)
 let R2:Own:=fun c f=>c≠t/\R' c f
 have Y:bp w' R' w' R2 z:=⟨⟨rfl,rfl,rfl,Nat.le_refl _,fun c _ s=>⟨rfl,fun f h=>s f h.2⟩,fun c f _ s=>⟨fun h=>s h.2,rfl⟩,fun _ _=>rfl⟩,fun c u _=>⟨rfl,fun f h=>⟨fun e=>S (e ▸ u),h⟩⟩⟩;refine⟨_,_,_,0,R2,fun m=>match m with|.loc i=>N' (.loc i)|.out _=>none,[],[],rfl,⟨rfl,rfl,rfl⟩,?_,rfl,?_,by intro o c O;simp at O,k.trans Y,?_⟩
 ·simp only[ai];refine⟨trivial,?_⟩;have hl:l.length=(l.map fun x=>ak.flat (.int .i64 x)).length:=by simp
  rw[hl];refine eU.slice t 0 M 1 _ (fun i _=>.int .i64 (l.getD i 0)) (by decide) ?_ (by simpa using D) (by simpa using hn) ?_ ?_
  ·intro e K;obtain⟨x,_,rfl⟩:=List.mem_map.1 K;rfl
  ·intro i j y hj
   have:j=0:=by omega
   subst this;simp only[List.length_map] at y;refine⟨?_,fun h=>h.1 rfl⟩;refine aeP C ?_;rw[ag,show 0+i*1+0=i by omega,List.getElem?_append_left (by simp[ints];exact y)];simp[ints,y]
  intro i j e c K u;simp only[List.getElem?_map,Option.map_eq_some_iff] at K;obtain⟨x,X,rfl⟩:=K;have T:c=.flat (.int .i64 x):=by
   have u:[ak.flat (.int .i64 x)][j]?=some c:=u
   cases j with
   | zero=>simpa using u.symm
   | succ j=>simp at u
  subst T;obtain⟨y,rfl⟩:=List.getElem?_eq_some_iff.1 X
  have:l.getD i 0=l[i]:=by simp[y]
  rw[this];exact .flat (U _ (List.getElem_mem y))
 ·have a:(t::((([]++q2)++Q)++z)).Nodup:=by simpa using p
  have h2:=(List.nodup_cons.1 a).2;simpa using (List.nodup_append.1 h2).2.1
 intro o c O
 have:=E o c O
 omega
end
end Go.Tp
