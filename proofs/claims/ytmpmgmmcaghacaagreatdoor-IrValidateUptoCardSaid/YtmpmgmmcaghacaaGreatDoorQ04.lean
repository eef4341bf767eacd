/- Part 4 of what the last text proves. -/
import Derived.Test.YtmpmgmmcaghacaaGreatDoorProg
import Derived.KernelRfl
import Derived.Ground.NamesProg
import Derived.Shelf.Strings.OnBuilder
import Derived.Shelf.SlMaps.Clone
import Derived.Shelf.SlicesE.Clone
import Derived.Shelf.SlicesE.Delete
import Derived.Ground.Names2Prog
import Derived.Shelf.Lays2
import Derived.Shelf.Slices.SearchI
import Derived.Shelf.Spec.SlicesInsert
import Derived.Shelf.Spec.SlicesInsertGrow
import Derived.Test.YtmpmgmmcaghacaaGreatDoorQ03
set_option linter.unusedVariables false
set_option linter.unusedSimpArgs false
open Int (ofNat)
set_option maxRecDepth 100000
set_option maxHeartbeats 4000000
namespace Go.Proofs.YtmpmgmmcaghacaaGreatDoor
open Go.Tp
noncomputable abbrev vP:=Tryz.f175.ntmps
noncomputable abbrev vO:=Tryz.f176.ntmps
noncomputable abbrev jg:=Tryz.f204.ntmps
noncomputable abbrev mF:=Tryz.f205.ntmps
noncomputable abbrev Aq:=Tryz.f143.ntmps
noncomputable abbrev Ao:=Tryz.f208.ntmps
noncomputable abbrev Ap:=Tryz.f163.ntmps
noncomputable abbrev gY:=Tryz.f119.ntmps
abbrev aaR:TI:=⟨.struct [(0,3),(1,3),(2,23),(3,24)],4,64,.agg #[.int .i64 0,.int .i64 0,.slice none 0 0,.slice none 0 0]⟩
abbrev aaQ:TI:=⟨.struct [(0,3),(1,9),(2,3),(3,38)],4,56,.agg #[.int .i64 0,.string ⟨#[]⟩,.int .i64 0,.slice none 0 0]⟩
abbrev aaP:TI:=⟨.struct [(0,3),(1,2),(2,9),(3,41)],4,56,.agg #[.int .i64 0,.int .i64 0,.string ⟨#[]⟩,.slice none 0 0]⟩
abbrev aaO:TI:=⟨.struct [(0,3),(1,3),(2,3),(3,3),(4,3),(5,9),(6,22),(7,40),(11,43)],15,192,.agg #[.int .i64 0,.int .i64 0,.int .i64 0,.int .i64 0,.int .i64 0,.string ⟨#[]⟩,.slice none 0 0,.int .i64 0,.string ⟨#[]⟩,.int .i64 0,.slice none 0 0,.int .i64 0,.int .i64 0,.string ⟨#[]⟩,.slice none 0 0]⟩
abbrev aaN:TI:=⟨.struct [(0,9),(1,3),(2,40),(6,4),(7,49)],8,112,.agg #[.string ⟨#[]⟩,.int .i64 0,.int .i64 0,.string ⟨#[]⟩,.int .i64 0,.slice none 0 0,.bool false,.slice none 0 0]⟩
abbrev aaM:TI:=⟨.struct [(0,3),(1,51),(9,9),(10,40),(14,3),(15,26),(19,9)],20,280,.agg #[.int .i64 0,.string ⟨#[]⟩,.int .i64 0,.int .i64 0,.string ⟨#[]⟩,.int .i64 0,.slice none 0 0,.bool false,.slice none 0 0,.string ⟨#[]⟩,.int .i64 0,.string ⟨#[]⟩,.int .i64 0,.slice none 0 0,.int .i64 0,.int .i64 0,.int .i64 0,.slice none 0 0,.slice none 0 0,.string ⟨#[]⟩]⟩
abbrev aaL:TI:=⟨.struct [(0,22),(1,3)],2,32,.agg #[.slice none 0 0,.int .i64 0]⟩
abbrev aaK:TI:=⟨.struct [(0,74),(1,75)],2,32,.agg #[.pointer none,.slice none 0 0]⟩
abbrev Vn:TI:=⟨.struct [(0,9),(1,4),(2,4),(3,4),(4,4),(5,4),(6,4),(7,4),(8,4),(9,4),(10,4),(11,4)],12,32,.agg #[.string ⟨#[]⟩,.bool false,.bool false,.bool false,.bool false,.bool false,.bool false,.bool false,.bool false,.bool false,.bool false,.bool false]⟩
abbrev Vm:TI:=⟨.struct [(0,4),(1,4),(2,4),(3,4),(4,4),(5,4),(6,4),(7,4)],8,8,.agg #[.bool false,.bool false,.bool false,.bool false,.bool false,.bool false,.bool false,.bool false]⟩
abbrev Vl:TI:=⟨.array 23 101,276,736,.agg (List.replicate 23 ([.string ⟨#[]⟩]++List.replicate 11 (.bool false))).flatten.toArray⟩
abbrev Vk:TI:=⟨.struct [(0,9),(1,40)],5,72,.agg #[.string ⟨#[]⟩,.int .i64 0,.string ⟨#[]⟩,.int .i64 0,.slice none 0 0]⟩
abbrev Vj:TI:=⟨.struct [(0,3),(1,3)],2,16,.agg #[.int .i64 0,.int .i64 0]⟩
abbrev Vi:TI:=⟨.array 24 5,24,24,.agg (List.replicate 24 (.int .u8 0)).toArray⟩
theorem aew:TI.ok Tryz.prog 2 ⟨.int .i64,1,8,.int .i64 0⟩:=⟨⟨Tryz.t2,by kernel_rfl,rfl,rfl,rfl,rfl⟩,Tryz.underlying2⟩
theorem aev:TI.ok Tryz.prog 3 ⟨.int .i64,1,8,.int .i64 0⟩:=⟨⟨Tryz.t3,by kernel_rfl,rfl,rfl,rfl,rfl⟩,Tryz.underlying3⟩
theorem aeu:TI.ok Tryz.prog 4 ⟨.bool,1,1,.bool false⟩:=⟨⟨Tryz.t4,by kernel_rfl,rfl,rfl,rfl,rfl⟩,Tryz.underlying4⟩
theorem aet:TI.ok Tryz.prog 5 ⟨.int .u8,1,1,.int .u8 0⟩:=⟨⟨Tryz.t5,by kernel_rfl,rfl,rfl,rfl,rfl⟩,Tryz.underlying5⟩
theorem aes:TI.ok Tryz.prog 9 ⟨.string,1,16,.string ⟨#[]⟩⟩:=⟨⟨Tryz.t9,by kernel_rfl,rfl,rfl,rfl,rfl⟩,Tryz.underlying9⟩
theorem aaH:TI.ok Tryz.prog 22 ⟨.slice 3,1,24,.slice none 0 0⟩:=⟨⟨Tryz.t22,by kernel_rfl,rfl,rfl,rfl,rfl⟩,Tryz.underlying22⟩
theorem aaG:TI.ok Tryz.prog 23 ⟨.slice 45,1,24,.slice none 0 0⟩:=⟨⟨Tryz.t23,by kernel_rfl,rfl,rfl,rfl,rfl⟩,Tryz.underlying23⟩
theorem aaF:TI.ok Tryz.prog 24 ⟨.slice 54,1,24,.slice none 0 0⟩:=⟨⟨Tryz.t24,by kernel_rfl,rfl,rfl,rfl,rfl⟩,Tryz.underlying24⟩
theorem aaE:TI.ok Tryz.prog 26 aaR:=⟨⟨Tryz.t26,by kernel_rfl,rfl,rfl,rfl,rfl⟩,⟨_,Tryz.underlying26,rfl,[(0,1),(1,1),(2,1),(3,1)],by kernel_rfl⟩⟩
theorem aaD:TI.ok Tryz.prog 28 ⟨.pointer,1,8,.pointer none⟩:=⟨⟨Tryz.t28,by kernel_rfl,rfl,rfl,rfl,rfl⟩,⟨_,Tryz.underlying28⟩⟩
theorem aaC:TI.ok Tryz.prog 32 ⟨.int .i64,1,8,.int .i64 0⟩:=⟨⟨Tryz.t32,by kernel_rfl,rfl,rfl,rfl,rfl⟩,Tryz.underlying32⟩
theorem aaB:TI.ok Tryz.prog 35 ⟨.slice 4,1,24,.slice none 0 0⟩:=⟨⟨Tryz.t35,by kernel_rfl,rfl,rfl,rfl,rfl⟩,Tryz.underlying35⟩
theorem aaA:TI.ok Tryz.prog 38 ⟨.slice 40,1,24,.slice none 0 0⟩:=⟨⟨Tryz.t38,by kernel_rfl,rfl,rfl,rfl,rfl⟩,Tryz.underlying38⟩
theorem aaz:TI.ok Tryz.prog 40 aaQ:=⟨⟨Tryz.t40,by kernel_rfl,rfl,rfl,rfl,rfl⟩,⟨_,Tryz.underlying40,rfl,[(0,1),(1,1),(2,1),(3,1)],by kernel_rfl⟩⟩
theorem aay:TI.ok Tryz.prog 41 ⟨.slice 43,1,24,.slice none 0 0⟩:=⟨⟨Tryz.t41,by kernel_rfl,rfl,rfl,rfl,rfl⟩,Tryz.underlying41⟩
theorem aax:TI.ok Tryz.prog 43 aaP:=⟨⟨Tryz.t43,by kernel_rfl,rfl,rfl,rfl,rfl⟩,⟨_,Tryz.underlying43,rfl,[(0,1),(1,1),(2,1),(3,1)],by kernel_rfl⟩⟩
theorem aaw:TI.ok Tryz.prog 45 aaO:=⟨⟨Tryz.t45,by kernel_rfl,rfl,rfl,rfl,rfl⟩,⟨_,Tryz.underlying45,rfl,[(0,1),(1,1),(2,1),(3,1),(4,1),(5,1),(6,1),(7,4),(11,4)],by kernel_rfl⟩⟩
theorem aav:TI.ok Tryz.prog 49 ⟨.slice 139,1,24,.slice none 0 0⟩:=⟨⟨Tryz.t49,by kernel_rfl,rfl,rfl,rfl,rfl⟩,Tryz.underlying49⟩
theorem aau:TI.ok Tryz.prog 51 aaN:=⟨⟨Tryz.t51,by kernel_rfl,rfl,rfl,rfl,rfl⟩,⟨_,Tryz.underlying51,rfl,[(0,1),(1,1),(2,4),(6,1),(7,1)],by kernel_rfl⟩⟩
theorem aat:TI.ok Tryz.prog 53 aaM:=⟨⟨Tryz.t53,by kernel_rfl,rfl,rfl,rfl,rfl⟩,⟨_,Tryz.underlying53,rfl,[(0,1),(1,8),(9,1),(10,4),(14,1),(15,4),(19,1)],by kernel_rfl⟩⟩
theorem aas:TI.ok Tryz.prog 54 ⟨.slice 53,1,24,.slice none 0 0⟩:=⟨⟨Tryz.t54,by kernel_rfl,rfl,rfl,rfl,rfl⟩,Tryz.underlying54⟩
theorem aar:TI.ok Tryz.prog 67 aaL:=⟨⟨Tryz.t67,by kernel_rfl,rfl,rfl,rfl,rfl⟩,⟨_,Tryz.underlying67,rfl,[(0,1),(1,1)],by kernel_rfl⟩⟩
theorem aaq:TI.ok Tryz.prog 70 ⟨.slice 9,1,24,.slice none 0 0⟩:=⟨⟨Tryz.t70,by kernel_rfl,rfl,rfl,rfl,rfl⟩,Tryz.underlying70⟩
theorem aap:TI.ok Tryz.prog 74 ⟨.pointer,1,8,.pointer none⟩:=⟨⟨Tryz.t74,by kernel_rfl,rfl,rfl,rfl,rfl⟩,⟨_,Tryz.underlying74⟩⟩
theorem aao:TI.ok Tryz.prog 75 ⟨.slice 5,1,24,.slice none 0 0⟩:=⟨⟨Tryz.t75,by kernel_rfl,rfl,rfl,rfl,rfl⟩,Tryz.underlying75⟩
theorem aan:TI.ok Tryz.prog 77 aaK:=⟨⟨Tryz.t77,by kernel_rfl,rfl,rfl,rfl,rfl⟩,⟨_,Tryz.underlying77,rfl,[(0,1),(1,1)],by kernel_rfl⟩⟩
theorem Ww:TI.ok Tryz.prog 101 Vn:=⟨⟨Tryz.t101,by kernel_rfl,rfl,rfl,rfl,rfl⟩,⟨_,Tryz.underlying101,rfl,[(0,1),(1,1),(2,1),(3,1),(4,1),(5,1),(6,1),(7,1),(8,1),(9,1),(10,1),(11,1)],by kernel_rfl⟩⟩
theorem Wv:TI.ok Tryz.prog 108 Vm:=⟨⟨Tryz.t108,by kernel_rfl,rfl,rfl,rfl,rfl⟩,⟨_,Tryz.underlying108,rfl,[(0,1),(1,1),(2,1),(3,1),(4,1),(5,1),(6,1),(7,1)],by kernel_rfl⟩⟩
theorem Wu:TI.ok Tryz.prog 112 ⟨.slice 51,1,24,.slice none 0 0⟩:=⟨⟨Tryz.t112,by kernel_rfl,rfl,rfl,rfl,rfl⟩,Tryz.underlying112⟩
theorem Wt:TI.ok Tryz.prog 122 ⟨.pointer,1,8,.pointer none⟩:=⟨⟨Tryz.t122,by kernel_rfl,rfl,rfl,rfl,rfl⟩,⟨_,Tryz.underlying122⟩⟩
theorem Ws:TI.ok Tryz.prog 131 Vl:=⟨⟨Tryz.t131,by kernel_rfl,rfl,rfl,rfl,rfl⟩,Tryz.underlying131⟩
theorem Wr:TI.ok Tryz.prog 134 ⟨.int .u64,1,8,.int .u64 0⟩:=⟨⟨Tryz.t134,by kernel_rfl,rfl,rfl,rfl,rfl⟩,Tryz.underlying134⟩
theorem Wq:TI.ok Tryz.prog 139 Vk:=⟨⟨Tryz.t139,by kernel_rfl,rfl,rfl,rfl,rfl⟩,⟨_,Tryz.underlying139,rfl,[(0,1),(1,4)],by kernel_rfl⟩⟩
theorem Wp:TI.ok Tryz.prog 142 ⟨.func,1,8,.nilFunc⟩:=⟨⟨Tryz.t142,by kernel_rfl,rfl,rfl,rfl,rfl⟩,⟨_,_,_,Tryz.underlying142⟩⟩
theorem Wo:TI.ok Tryz.prog 145 Vj:=⟨⟨Tryz.t145,by kernel_rfl,rfl,rfl,rfl,rfl⟩,⟨_,Tryz.underlying145,rfl,[(0,1),(1,1)],by kernel_rfl⟩⟩
theorem Wn:TI.ok Tryz.prog 146 ⟨.slice 145,1,24,.slice none 0 0⟩:=⟨⟨Tryz.t146,by kernel_rfl,rfl,rfl,rfl,rfl⟩,Tryz.underlying146⟩
theorem Wm:TI.ok Tryz.prog 162 ⟨.int .u64,1,8,.int .u64 0⟩:=⟨⟨Tryz.t162,by kernel_rfl,rfl,rfl,rfl,rfl⟩,Tryz.underlying162⟩
theorem Wl:TI.ok Tryz.prog 170 ⟨.int .i64,1,8,.int .i64 0⟩:=⟨⟨Tryz.t170,by kernel_rfl,rfl,rfl,rfl,rfl⟩,Tryz.underlying170⟩
theorem Wk:TI.ok Tryz.prog 178 ⟨.int .u32,1,4,.int .u32 0⟩:=⟨⟨Tryz.t178,by kernel_rfl,rfl,rfl,rfl,rfl⟩,Tryz.underlying178⟩
theorem Wj:TI.ok Tryz.prog 182 ⟨.func,1,8,.nilFunc⟩:=⟨⟨Tryz.t182,by kernel_rfl,rfl,rfl,rfl,rfl⟩,⟨_,_,_,Tryz.underlying182⟩⟩
theorem Wi:TI.ok Tryz.prog 186 Vi:=⟨⟨Tryz.t186,by kernel_rfl,rfl,rfl,rfl,rfl⟩,Tryz.underlying186⟩
theorem Wh:TI.ok Tryz.prog 195 ⟨.int .u64,1,8,.int .u64 0⟩:=⟨⟨Tryz.t195,by kernel_rfl,rfl,rfl,rfl,rfl⟩,Tryz.underlying195⟩
theorem Wg:TI.ok Tryz.prog 199 ⟨.pointer,1,8,.pointer none⟩:=⟨⟨Tryz.t199,by kernel_rfl,rfl,rfl,rfl,rfl⟩,⟨_,Tryz.underlying199⟩⟩
theorem Wf:TI.ok Tryz.prog 202 ⟨.struct [(0,22)],1,24,.agg #[.slice none 0 0]⟩:=⟨⟨Tryz.t202,by kernel_rfl,rfl,rfl,rfl,rfl⟩,⟨_,Tryz.underlying202,rfl,[(0,1)],by kernel_rfl⟩⟩
theorem We:TI.ok Tryz.prog 204 ⟨.pointer,1,8,.pointer none⟩:=⟨⟨Tryz.t204,by kernel_rfl,rfl,rfl,rfl,rfl⟩,⟨_,Tryz.underlying204⟩⟩
def Vg:Tr:=(.node (.node (.node (.node (.node (.node .nil 2 ⟨.int .i64,1,8,.int .i64 0⟩ .nil) 3 ⟨.int .i64,1,8,.int .i64 0⟩ .nil) 4 ⟨.bool,1,1,.bool false⟩ (.node (.node .nil 5 ⟨.int .u8,1,1,.int .u8 0⟩ .nil) 9 ⟨.string,1,16,.string ⟨#[]⟩⟩ .nil)) 22 ⟨.slice 3,1,24,.slice none 0 0⟩ (.node (.node (.node .nil 23 ⟨.slice 45,1,24,.slice none 0 0⟩ .nil) 24 ⟨.slice 54,1,24,.slice none 0 0⟩ .nil) 26 aaR (.node (.node .nil 28 ⟨.pointer,1,8,.pointer none⟩ .nil) 32 ⟨.int .i64,1,8,.int .i64 0⟩ .nil))) 35 ⟨.slice 4,1,24,.slice none 0 0⟩ (.node (.node (.node (.node .nil 38 ⟨.slice 40,1,24,.slice none 0 0⟩ .nil) 40 aaQ .nil) 41 ⟨.slice 43,1,24,.slice none 0 0⟩ (.node (.node .nil 43 aaP .nil) 45 aaO .nil)) 49 ⟨.slice 139,1,24,.slice none 0 0⟩ (.node (.node (.node .nil 51 aaN .nil) 53 aaM .nil) 54 ⟨.slice 53,1,24,.slice none 0 0⟩ (.node .nil 67 aaL .nil)))) 70 ⟨.slice 9,1,24,.slice none 0 0⟩ (.node (.node (.node (.node (.node .nil 74 ⟨.pointer,1,8,.pointer none⟩ .nil) 75 ⟨.slice 5,1,24,.slice none 0 0⟩ .nil) 77 aaK (.node (.node .nil 101 Vn .nil) 108 Vm .nil)) 112 ⟨.slice 51,1,24,.slice none 0 0⟩ (.node (.node (.node .nil 122 ⟨.pointer,1,8,.pointer none⟩ .nil) 131 Vl .nil) 134 ⟨.int .u64,1,8,.int .u64 0⟩ (.node (.node .nil 139 Vk .nil) 142 ⟨.func,1,8,.nilFunc⟩ .nil))) 145 Vj (.node (.node (.node (.node .nil 146 ⟨.slice 145,1,24,.slice none 0 0⟩ .nil) 162 ⟨.int .u64,1,8,.int .u64 0⟩ .nil) 170 ⟨.int .i64,1,8,.int .i64 0⟩ (.node (.node .nil 178 ⟨.int .u32,1,4,.int .u32 0⟩ .nil) 182 ⟨.func,1,8,.nilFunc⟩ .nil)) 186 Vi (.node (.node (.node .nil 195 ⟨.int .u64,1,8,.int .u64 0⟩ .nil) 199 ⟨.pointer,1,8,.pointer none⟩ .nil) 202 ⟨.struct [(0,22)],1,24,.agg #[.slice none 0 0]⟩ (.node .nil 204 ⟨.pointer,1,8,.pointer none⟩ .nil)))))
theorem NN:Vg.HN Tryz.prog:=(Tr.ag (Tr.ag (Tr.ag (Tr.ag (Tr.ag (Tr.ag Tr.all_nil aew Tr.all_nil) aev Tr.all_nil) aeu (Tr.ag (Tr.ag Tr.all_nil aet Tr.all_nil) aes Tr.all_nil)) aaH (Tr.ag (Tr.ag (Tr.ag Tr.all_nil aaG Tr.all_nil) aaF Tr.all_nil) aaE (Tr.ag (Tr.ag Tr.all_nil aaD Tr.all_nil) aaC Tr.all_nil))) aaB (Tr.ag (Tr.ag (Tr.ag (Tr.ag Tr.all_nil aaA Tr.all_nil) aaz Tr.all_nil) aay (Tr.ag (Tr.ag Tr.all_nil aax Tr.all_nil) aaw Tr.all_nil)) aav (Tr.ag (Tr.ag (Tr.ag Tr.all_nil aau Tr.all_nil) aat Tr.all_nil) aas (Tr.ag Tr.all_nil aar Tr.all_nil)))) aaq (Tr.ag (Tr.ag (Tr.ag (Tr.ag (Tr.ag Tr.all_nil aap Tr.all_nil) aao Tr.all_nil) aan (Tr.ag (Tr.ag Tr.all_nil Ww Tr.all_nil) Wv Tr.all_nil)) Wu (Tr.ag (Tr.ag (Tr.ag Tr.all_nil Wt Tr.all_nil) Ws Tr.all_nil) Wr (Tr.ag (Tr.ag Tr.all_nil Wq Tr.all_nil) Wp Tr.all_nil))) Wo (Tr.ag (Tr.ag (Tr.ag (Tr.ag Tr.all_nil Wn Tr.all_nil) Wm Tr.all_nil) Wl (Tr.ag (Tr.ag Tr.all_nil Wk Tr.all_nil) Wj Tr.all_nil)) Wi (Tr.ag (Tr.ag (Tr.ag Tr.all_nil Wh Tr.all_nil) Wg Tr.all_nil) Wf (Tr.ag Tr.all_nil We Tr.all_nil)))))
def efn (f:Nat):Bool:=Nat.ble 0 f&&Nat.ble f 215&&!(match f with|0=>true|1=>true|111=>true|189=>true|212=>true|_=>false)
def ety (t:Nat):Option TI:=match t with
  | 0=>none
  | t=>Vg.find t
def env (pr:bW):bz:=⟨ety,efn,pr⟩
theorem Zr:(List.range 216).all (fun k=>!(efn (0+k))||Zs Tryz.prog (0+k))=true:=by kernel_rfl
theorem Nd (f:Nat) (h:efn f=true):0≤f∧f≤215:=by
  unfold efn at h;simp only[Bool.and_eq_true,Nat.ble_eq] at h;exact h.1
theorem adq (f:Nat) (h:efn f=true):Zs Tryz.prog f=true:=by
  have hb:=Nd f h;have h1:=List.all_eq_true.1 Zr (f - 0) (List.mem_range.2 (by omega));rw[show 0+(f - 0)=f by omega] at h1;rw[h,Bool.not_true,Bool.false_or] at h1;exact h1
theorem Zz:(env bW.nc).Ok Tryz.prog where
  ty t i h:=by
    have h:ety t=some i:=h;unfold ety at h
    split at h
    · simp at h
    · exact Tr.EF NN h
  fn f h:=by
    have h1:=adq f h;unfold Zs at h1
    split at h1
    · rename_i g hg;simp at h1;exact⟨g,hg,by simp[h1.1],by simpa using h1.2⟩
    · simp at h1
  mixed:=by kernel_rfl
  nc:=rfl
def bV:FuncId→Bool:=fun f=>match f with|207=>true|_=>false
def bi:FuncId→Bool:=fun f=>match f with|4000000=>true|1000011=>true|1000015=>true|1000021=>true|1000024=>true|1000026=>true|1000027=>true|1000040=>true|1000068=>true|1000071=>true|1000195=>true|2000042=>true|2000075=>true|2000076=>true|2000086=>true|2000104=>true|2000113=>true|2000114=>true|_=>false
def qQ (n:Nat):Nat×Bool:=(n,false)
def lL (n:Nat):Nat×Bool:=(n,true)
def lv (l:List Nat) (n:Nat):Nat:=(l[n]?).getD 0
abbrev Fk (k:FuncId) (f:Func) (o:Nat→aw):Prop:=LN Tryz.prog bV bi k f o
def XA:Nat→aw:=fun n=>match n with|2=>⟨[qQ 0,qQ 2,qQ 4,lL 1,lL 3],some 4,[],[5]⟩|3=>⟨[lL 0,qQ 1,qQ 2,qQ 4,lL 3,lL 5,qQ 6,qQ 7,qQ 8,qQ 9,qQ 11,lL 10],none,[],[12,13,14,15]⟩|_=>default
def VO:Nat→Nat:=lv [3,34,96,16]
theorem ae3:Fk 3 Tryz.f3 XA:=ao Tryz.func3 (by kernel_rfl)
def Tw:Nat→aw:=fun n=>match n with|2=>⟨[qQ 0,qQ 1,qQ 2,qQ 3,lL 4,qQ 5,qQ 6],none,[],[7]⟩|6=>⟨[qQ 0,qQ 1,qQ 2,qQ 3,qQ 4,lL 5,qQ 6,qQ 7,lL 8,qQ 9],none,[1],[10]⟩|11=>⟨[qQ 0,qQ 1,qQ 2,qQ 3,qQ 4,qQ 5,qQ 6,qQ 7,qQ 8,lL 9,qQ 10,lL 11,qQ 12],none,[1],[13]⟩|_=>default
def CV:Nat→Nat:=lv [19,51,51,115,67108979,115,115,177,433,35184372089265,433,433,561,295147905179352826416,560,48,16]
theorem ae2:Fk 9 Tryz.f9 Tw:=ao Tryz.func9 (by kernel_rfl)
def P8:Nat→aw:=fun _=>default
def QH:Nat→Nat:=lv [1,4]
theorem adp:Fk 10 Tryz.f10 P8:=ao Tryz.func10 (by kernel_rfl)
def KU:Nat→aw:=fun n=>match n with|3=>⟨[],some 0,[],[]⟩|7=>⟨[qQ 0,qQ 1,qQ 2,lL 3,qQ 4,qQ 5,lL 6,qQ 7],none,[1],[8]⟩|19=>⟨[qQ 0,qQ 1,qQ 2,qQ 3,qQ 4,lL 5,qQ 6,qQ 7,qQ 8,qQ 9],none,[],[10]⟩|21=>⟨[],some 0,[],[]⟩|25=>⟨[qQ 0,qQ 1,qQ 3,qQ 6,qQ 7,qQ 8,qQ 9,lL 2,lL 4,qQ 5,lL 10,qQ 11,qQ 12,qQ 13,qQ 14,qQ 15],none,[],[16]⟩|33=>⟨[qQ 0,qQ 1,qQ 2,qQ 5,lL 3,qQ 4,lL 6,qQ 7,qQ 8,qQ 9,lL 10,qQ 11],none,[1],[12]⟩|_=>default
def dP:Nat→Nat:=lv [25,57,57,49,113,241,536871153,48,275414778097,48,70369281048817,48,18014399046353137,48,2305843009750565105,48,590295810359242522865,48,151115727451829183709425,48,618970019642690137986433265,48,40564819207303340847895039443185,48,5192296858534827628530496866091249,48,1361129467683753853853498429727609716849,48,43556142965880123323311949751266867937393,48,1393796574908163946345982392040523130994801,48,178405961588244985132285746181186892047843377,48,16]
theorem ado:Fk 11 Tryz.f11 KU:=ao Tryz.func11 (by kernel_rfl)
def VM:Nat→aw:=fun _=>default
def XV:Nat→Nat:=lv [0,2,1]
theorem adn:Fk 12 Tryz.f12 VM:=ao Tryz.func12 (by kernel_rfl)
def P2:Nat→aw:=fun _=>default
def QG:Nat→Nat:=lv [2,4]
theorem adm:Fk 13 Tryz.f13 P2:=ao Tryz.func13 (by kernel_rfl)
def PV:Nat→aw:=fun _=>default
def QF:Nat→Nat:=lv [2,4]
theorem adl:Fk 14 Tryz.f14 PV:=ao Tryz.func14 (by kernel_rfl)
def VL:Nat→aw:=fun n=>match n with|4=>⟨[qQ 0,qQ 1,qQ 5,qQ 6,lL 2,qQ 3,qQ 4,lL 7,qQ 8,qQ 9],none,[],[10]⟩|8=>⟨[qQ 0,qQ 3,lL 1,qQ 2,lL 4,qQ 5,qQ 6],none,[],[7]⟩|_=>default
def XU:Nat→Nat:=lv [2,258,4,10,10,14680072,31457288,14680120,14680072,14680072,4]
theorem adk:Fk 17 Tryz.f17 VL:=ao Tryz.func17 (by kernel_rfl)
def Ac:Nat→aw:=fun n=>match n with|6=>⟨[qQ 0,qQ 1,qQ 2,qQ 3,qQ 4,qQ 5,qQ 6,qQ 7,qQ 8,qQ 9],none,[],[10,11]⟩|11=>⟨[qQ 0,qQ 1,qQ 2,qQ 3,qQ 4,qQ 5,qQ 6,qQ 7,qQ 8,qQ 9],none,[],[10,11]⟩|_=>default
def jk:Nat→Nat:=lv [12,68719476748,16,44,2199023255596,44,36028797018964012,16,76,1152921504606847052,76,18889465931478580854860,16,16]
theorem adj:Fk 20 Tryz.f20 Ac:=ao Tryz.func20 (by kernel_rfl)
def PD:Nat→aw:=fun _=>default
def QE:Nat→Nat:=lv [3,3,515,1,16]
theorem adi:Fk 28 Tryz.f28 PD:=ao Tryz.func28 (by kernel_rfl)
def PC:Nat→aw:=fun _=>default
def QD:Nat→Nat:=lv [6,32774,16,38,102,4194406,12583014,16,272629862,272629862,16,2147483750,38,4398046511138,32,16]
theorem adh:Fk 29 Tryz.f29 PC:=ao Tryz.func29 (by kernel_rfl)
def PB:Nat→aw:=fun n=>match n with|1=>⟨[qQ 0,qQ 1,qQ 2,qQ 3,qQ 4,qQ 5,qQ 6,qQ 7,qQ 8,qQ 9],none,[],[]⟩|4=>⟨[qQ 0,qQ 1,qQ 2,qQ 3,qQ 4,qQ 5,qQ 6,qQ 7,qQ 8,qQ 9,qQ 10,qQ 11],none,[],[12,13]⟩|_=>default
def QC:Nat→Nat:=lv [3,16387,16,3,16]
theorem adg:Fk 32 Tryz.f32 PB:=ao Tryz.func32 (by kernel_rfl)
def tP:Nat→aw:=fun n=>match n with|6=>⟨[qQ 0,qQ 1,qQ 2,qQ 3,qQ 7,lL 4,qQ 5,qQ 6,qQ 8],none,[],[9]⟩|11=>⟨[qQ 0,qQ 1,qQ 2,qQ 3,qQ 7,qQ 8,qQ 9,qQ 10,lL 4,qQ 5,qQ 6,qQ 11],none,[],[12]⟩|16=>⟨[qQ 0,qQ 1,qQ 2,lL 3,lL 4,qQ 5,lL 6,qQ 7],none,[1],[8]⟩|17=>⟨[qQ 0,qQ 1,qQ 2,qQ 3,qQ 7,qQ 8,qQ 9,qQ 10,lL 4,qQ 5,qQ 6,qQ 11],none,[],[12]⟩|_=>default
def ou:Nat→Nat:=lv [19,51,32819,98355,16,16810035,16,34359738419,16,113,2251799813685361,16,209,465,295147905179352826321,465,465,16]
theorem adf:Fk 33 Tryz.f33 tP:=ao Tryz.func33 (by kernel_rfl)
def fU:Nat→aw:=fun n=>match n with|15=>⟨[qQ 0,qQ 1,qQ 2,qQ 3,qQ 4,qQ 5,qQ 9,lL 6,lL 7,lL 8,lL 10,lL 11,lL 12],none,[],[2000000,13,14]⟩|17=>⟨[qQ 0,qQ 1,qQ 2,qQ 3,qQ 4,qQ 5,qQ 9,lL 6,lL 7,lL 8,lL 10,lL 11,lL 12],none,[],[2000000,13,14]⟩|26=>⟨[qQ 0,qQ 1,qQ 2,qQ 3,qQ 4,qQ 8,qQ 9,qQ 10,qQ 13,lL 5,lL 6,lL 7,lL 11,lL 12,lL 14],none,[],[2000000,15,16,17,18]⟩|_=>default
def eG:Nat→Nat:=lv [271,783,7951,134225679,402661135,768,34493964047,768,2199157481231,4864,9007199254745856,768,72057594172153615,768,1180591620717545529103,768,19342813113834066929524495,768,316912650057057350374310022927,768,324518553658426726783156154797839,768,166153499473114484112975882669264655,768,170141183460469231731687303716018327311,170141183460469231731687303716018327311,768,89202980794122492566142873090593446158143247,768,5708990770823839524233143877797980545665208079,768,1461501637330902918203684832716283019656066764555,1461501637330902918203684832716283019656066764555,1461501637330902918203684832716283019656066764555,768,93536104789177786765035829293842113257979816969995,748288838313422294120286634350736906063837462004489,256,768,47890485652059026823698344598447161988085597702457091,768,3064991081731777716716694054300618367237478244367206147,768,256]
theorem ade:Fk 34 Tryz.f34 fU:=ao Tryz.func34 (by kernel_rfl)
def PA:Nat→aw:=fun n=>match n with|1=>⟨[qQ 0,qQ 1,qQ 2,qQ 3,qQ 4,qQ 5,qQ 6,qQ 7,qQ 8,qQ 9],none,[],[]⟩|4=>⟨[qQ 0,qQ 1,qQ 2,qQ 3,qQ 4,qQ 5,qQ 6,qQ 7,qQ 8,qQ 9,qQ 10],none,[],[11]⟩|_=>default
def QB:Nat→Nat:=lv [1,4097,4,1,4]
theorem adb:Fk 35 Tryz.f35 PA:=ao Tryz.func35 (by kernel_rfl)
def KT:Nat→aw:=fun _=>default
def El:Nat→Nat:=lv [7,135,391,2439,391,391,64]
theorem ada:Fk 36 Tryz.f36 KT:=ao Tryz.func36 (by kernel_rfl)
def KS:Nat→aw:=fun n=>match n with|8=>⟨[qQ 0,qQ 1,qQ 2,qQ 3,lL 4,qQ 5,qQ 6,qQ 7],none,[],[8]⟩|12=>⟨[qQ 0,qQ 1,qQ 2,qQ 3,lL 4,qQ 5,qQ 6,qQ 7],none,[],[8]⟩|26=>⟨[qQ 0,qQ 1,qQ 2,qQ 3,qQ 4,lL 5,qQ 6,lL 7,qQ 8],none,[1],[9]⟩|_=>default
def eW:Nat→Nat:=lv [19,51,4147,12339,51,266291,51,8388659,51,34359738419,51,2199023255603,51,115,2251799813685363,6755399441055859,6755399441055859,115,146366987889541235,144115188075855987,115,4611686018427388019,115,243,2361183241434822607091,243,243,16]
theorem ac9:Fk 37 Tryz.f37 KS:=ao Tryz.func37 (by kernel_rfl)
def zZ:Nat→aw:=fun _=>default
def lp:Nat→Nat:=lv [6,16390,16,17179869190,16,1008806316530991110,2161727821137838086,1008806316530991174,74795782611369197574,16,1008806316530991110,134,154742504910672534362390534,16,4332790137498830962146934786,9284550294640352061743431682,4332790137498830962146935810,281631358937424012539550760962,598544008994481362913726562306,281631358937424012539550765058,281631358937424012539550769154,40846450566240764860434053341186,16,281631358937424012539550760962,4332790137498830962146934786,16]
theorem ac8:Fk 38 Tryz.f38 zZ:=ao Tryz.func38 (by kernel_rfl)
def zY:Nat→aw:=fun n=>match n with|9=>⟨[qQ 0,qQ 1,qQ 2,qQ 3,qQ 4,qQ 5],none,[],[6,7]⟩|_=>default
def ka:Nat→Nat:=lv [6,1073741830,16,38,4503599627370534,16,102,36028797018964070,102,36893488147419103334,16,134,77371252455336267181195270,16,262,2475880078570760549798248710,262,774,2535301200456458802993406411526,774,1798,20769187434139310514121985316882182,2822,2658455991569831745807614120560691974,16,174224571863520493293247799005065324266246,16,16]
theorem ac7:Fk 39 Tryz.f39 zY:=ao Tryz.func39 (by kernel_rfl)
def Pz:Nat→aw:=fun _=>default
def QA:Nat→Nat:=lv [6,38,102,358,1073742178,352,4398046511392,256,256,16]
theorem ac6:Fk 40 Tryz.f40 Pz:=ao Tryz.func40 (by kernel_rfl)
def VK:Nat→aw:=fun _=>default
def XT:Nat→Nat:=lv [3,3,2,48]
theorem ac5:Fk 41 Tryz.f41 VK:=ao Tryz.func41 (by kernel_rfl)
def VJ:Nat→aw:=fun _=>default
def XS:Nat→Nat:=lv [1,4]
theorem ac4:Fk 42 Tryz.f42 VJ:=ao Tryz.func42 (by kernel_rfl)
def VI:Nat→aw:=fun n=>match n with|7=>⟨[qQ 0,qQ 1,qQ 2,qQ 3,qQ 4,qQ 5,qQ 6,lL 7],none,[0],[8]⟩|14=>⟨[qQ 0,qQ 1,qQ 2,lL 3,qQ 4,lL 5],none,[0],[6]⟩|16=>⟨[qQ 0,qQ 1,qQ 2,lL 3,qQ 4,lL 5],none,[0],[6]⟩|18=>⟨[qQ 0,qQ 1,qQ 2,lL 3,qQ 4,lL 5],none,[0],[6]⟩|_=>default
def XR:Nat→Nat:=lv [2,10,42,106,106,234,268435690,106,234,234,140737488355562,234,106,590295810358705651818,106,151115727451828646838378,106,38685626227668133590597730,98,69324642199981295394350956640,148552804714245632987894906976,69324642199981295394350957152,69324642199981295394350956640,69324642199981295394350956640,4]
theorem ac3:Fk 43 Tryz.f43 VI:=ao Tryz.func43 (by kernel_rfl)
def VH:Nat→aw:=fun n=>match n with|1=>⟨[],none,[],[1000000]⟩|_=>default
def XP:Nat→Nat:=lv [1,4]
theorem ac2:Fk 44 Tryz.f44 VH:=ao Tryz.func44 (by kernel_rfl)
def KR:Nat→aw:=fun _=>default
def Jm:Nat→Nat:=lv [5,21,8589934613,12,12]
theorem ac1:Fk 58 Tryz.f58 KR:=ao Tryz.func58 (by kernel_rfl)
def VG:Nat→aw:=fun _=>default
def XO:Nat→Nat:=lv [5,0]
theorem ac0:Fk 59 Tryz.f59 VG:=ao Tryz.func59 (by kernel_rfl)
def Py:Nat→aw:=fun n=>match n with|6=>⟨[qQ 0,qQ 1,qQ 2,qQ 3,qQ 4,qQ 5,qQ 6,qQ 7,qQ 8,qQ 9],none,[],[]⟩|11=>⟨[qQ 0,qQ 1,qQ 2,qQ 3,qQ 4,qQ 5,qQ 6,qQ 7,qQ 8,qQ 9],none,[],[]⟩|_=>default
def Qz:Nat→Nat:=lv [1,257,4,9,8201,9,33554441,25,57,4294967353,57,17592186044473,57,57,9,4,4]
theorem acZ:Fk 60 Tryz.f60 Py:=ao Tryz.func60 (by kernel_rfl)
def Gd:Nat→aw:=fun n=>match n with|6=>⟨[qQ 0,qQ 1,qQ 2,qQ 3,qQ 5,qQ 6,qQ 8,qQ 9,qQ 10,lL 4,lL 7],none,[],[2000000,11,12]⟩|_=>default
def Az:Nat→Nat:=lv [3,35,131107,35,2147483683,16,16]
theorem acY:Fk 61 Tryz.f61 Gd:=ao Tryz.func61 (by kernel_rfl)
def Px:Nat→aw:=fun _=>default
def Qw:Nat→Nat:=lv [5,12,28,4,140,4,1036,4,8204,4,65548,4,524300,4,4194316,4,33554444,4,268435468,4,2147483660,2147483660,4,34359738380,34359738380,34359738380,4,1099511627788,4,8796093022220,8796093022220,8796093022220,4,281474976710660,4,4]
theorem acX:Fk 62 Tryz.f62 Px:=ao Tryz.func62 (by kernel_rfl)
def Pw:Nat→aw:=fun _=>default
def Qv:Nat→Nat:=lv [5,4]
theorem acW:Fk 63 Tryz.f63 Pw:=ao Tryz.func63 (by kernel_rfl)
def Pv:Nat→aw:=fun _=>default
def Qu:Nat→Nat:=lv [19,16]
theorem acV:Fk 64 Tryz.f64 Pv:=ao Tryz.func64 (by kernel_rfl)
def VF:Nat→aw:=fun n=>match n with|2=>⟨[qQ 0,qQ 1,qQ 2,qQ 4,qQ 5,qQ 6,qQ 15,qQ 23,qQ 24,qQ 29,qQ 30,qQ 34,qQ 35,lL 3,qQ 7,lL 8,qQ 9,lL 10,lL 11,qQ 12,qQ 13,qQ 14,lL 16,qQ 17,lL 18,lL 19,qQ 20,qQ 21,qQ 22,lL 25,qQ 26,qQ 27,qQ 28,lL 31,qQ 32,lL 33,lL 36,qQ 37,qQ 38,qQ 39,qQ 40],none,[],[41]⟩|_=>default
def XN:Nat→Nat:=lv [0,2,1]
theorem acU:Fk 65 Tryz.f65 VF:=ao Tryz.func65 (by kernel_rfl)
def CO:Nat→aw:=fun n=>match n with|7=>⟨[qQ 0,qQ 1,qQ 2,qQ 3,lL 4,qQ 5,qQ 6,qQ 7],none,[],[8]⟩|_=>default
def Ay:Nat→Nat:=lv [5,21,53,4,277,4,8197,4,4]
theorem acT:Fk 66 Tryz.f66 CO:=ao Tryz.func66 (by kernel_rfl)
def CN:Nat→aw:=fun _=>default
def Ax:Nat→Nat:=lv [12,108,8232,16,536870952,16,281474976710696,16,16]
theorem acS:Fk 67 Tryz.f67 CN:=ao Tryz.func67 (by kernel_rfl)
def KQ:Nat→aw:=fun n=>match n with|8=>⟨[qQ 0,qQ 1,qQ 2,qQ 3,qQ 4,qQ 5,qQ 6,qQ 7,qQ 8,qQ 13,lL 9,qQ 10,qQ 11,qQ 12],some 13,[],[14,15]⟩|13=>⟨[qQ 0,qQ 1,qQ 2,qQ 3,qQ 4],none,[],[5,6]⟩|_=>default
def sQ:Nat→Nat:=lv [2,10,393226,917514,393242,6007970311177464399593053377393092789519040313920906478274001054376438955780064786436506915359139851848751592380062434656128045220390533560030622036902777239174093763071503037240861837822833492492949164080677447758537004594076278337349131603119783669637745357773063360862965613063819825095212997834689723550502107245144446984007416542923780801007351473039820459592446938552791665595986438966489665598373601412615261325064676112813683911206349137698850059186518524272198317082679297054001323628532623348424448475564693063006306207546440236296699456971289848191080875531625394251200217448195742202739514027157006454526167667709143260148080530872190163681906718518245085016843170513012534380063193087422920719540951439752422821967751215272341617520765834785952652995848030852353104939113582850309241602438007762451052149963003703105351014801237252269804979151251796236118220480543568258095500427784433103662784674926162582140270376273380760442227459464896807284164859183621223368672550698666866307163971123382709873762399561858388610414896797080260833959654635476235994256713673875003759557110393608184822979621213645918758695948628991875483187631644794171910025584651618601047603055024070071089961148476720491645751287825422317360852300274785890249401791901942646831698190015422761601092056219622440379176225266586609227030858387004150020032088969743492642207904917009322376701710089591371559799624853057153668478870631589370438677580311030064047534766688610960363319824351269745916630955905960334973206131903928584603378903244627568148645019690,67502122,393322,393450,9223372036855169130,393258,393258,393322,393834,9903520314283042199193387626,393258,393258,394346,394282,10633823966279326983230456482243150890,4,340282366920938463463374607431768605738,393258,393226,4]
theorem acR:Fk 68 Tryz.f68 KQ:=ao Tryz.func68 (by kernel_rfl)
def Pu:Nat→aw:=fun _=>default
def Qt:Nat→Nat:=lv [6,38,16,16390,16,16777222,16,16]
theorem acQ:Fk 69 Tryz.f69 Pu:=ao Tryz.func69 (by kernel_rfl)
def cF:Nat→aw:=fun n=>match n with|4=>⟨[qQ 0,qQ 1,qQ 2,qQ 3,qQ 4,qQ 5,qQ 6,qQ 7,qQ 8,qQ 9,qQ 10,qQ 11,qQ 12,qQ 13,qQ 14,qQ 15,qQ 16,qQ 17,qQ 18,qQ 19,qQ 20,qQ 21,qQ 22,qQ 23,qQ 24,qQ 25,qQ 26,qQ 27,qQ 28,qQ 29,qQ 30,qQ 31,qQ 32,qQ 33,qQ 34,qQ 35,qQ 36,qQ 37,qQ 38,qQ 39,qQ 40,qQ 41,qQ 42,qQ 43,qQ 44,qQ 45,qQ 46,qQ 47,qQ 48,qQ 49,qQ 50,qQ 51,qQ 52,qQ 53,qQ 54,qQ 55,qQ 56,qQ 57,qQ 58,qQ 59,qQ 60,qQ 61,qQ 62,qQ 63,qQ 64,qQ 65,lL 66,lL 67,qQ 68,qQ 69,qQ 70,qQ 71,qQ 72,qQ 73,qQ 74,qQ 75,qQ 76,qQ 77,qQ 78],none,[],[79,80,81,82]⟩|11=>⟨[qQ 0,qQ 1,qQ 2,qQ 3,qQ 4,qQ 5],none,[],[6,7]⟩|_=>default
def bu:Nat→Nat:=lv [12,44,131116,16,1267650600228229401496703205420,16,174224571863520493293247799005065324265516,16,108,5575186299632655785383929568162090376495212,108,5708990770823839524233143877797980545530986604,16,98079714615416886934934209737619787751599303819750539276,16,392318858461667547739736838950479151006397215279002157068,1176956575385002643219210516851437453019191645837006471180,1176956575385002643219210516851437453019191645837006471180,16,12855896672930383871883436475568251299328630347477621684568076,16,13479973333967638755795175091249552175769051362276683455830807281676,16,13803492693581519893727973392101790641741168423491779507540327449755660,16,113078212145816597485649898509214332752695808350518764326180012161729822728,113078212145816597093331040047546785012958969400039613319782796882727665672,16,16]
theorem acP:Fk 70 Tryz.f70 cF:=ao Tryz.func70 (by kernel_rfl)
def KP:Nat→aw:=fun _=>default
def jZ:Nat→Nat:=lv [2,10,26,16394,26,58,1048634,58,122,250,506,536871418,506,506,122,576460752303423546,58,520,73786976294838206984,520,9444732965739290427912,4,4]
theorem acO:Fk 71 Tryz.f71 KP:=ao Tryz.func71 (by kernel_rfl)
def VE:Nat→aw:=fun _=>default
def XM:Nat→Nat:=lv [65,0,524288]
theorem acN:Fk 72 Tryz.f72 VE:=ao Tryz.func72 (by kernel_rfl)
def VD:Nat→aw:=fun _=>default
def XL:Nat→Nat:=lv [1,4]
theorem acM:Fk 73 Tryz.f73 VD:=ao Tryz.func73 (by kernel_rfl)
def VC:Nat→aw:=fun n=>match n with|1=>⟨[qQ 0,qQ 1,lL 2,qQ 3,qQ 4,lL 5],none,[0],[6]⟩|_=>default
def XK:Nat→Nat:=lv [38,0]
theorem acL:Fk 74 Tryz.f74 VC:=ao Tryz.func74 (by kernel_rfl)
def VB:Nat→aw:=fun _=>default
def XJ:Nat→Nat:=lv [3,4099,12291,16,32771,16,35,4194339,536870947,35,35,3848290697251,8246337208355,3848290697379,566798244118691,3848290697379,3848290697251,3848290697251,291,259,259,64563604257983430914,138350580552821637378,64563604257983431938,64563604257983431938,64563604257983430914,64563604257983430914,16]
theorem acK:Fk 77 Tryz.f77 VB:=ao Tryz.func77 (by kernel_rfl)
def Pt:Nat→aw:=fun _=>default
def Qs:Nat→Nat:=lv [12,16]
theorem acJ:Fk 82 Tryz.f82 Pt:=ao Tryz.func82 (by kernel_rfl)
def Ps:Nat→aw:=fun _=>default
def Qr:Nat→Nat:=lv [12,16]
theorem acI:Fk 86 Tryz.f86 Ps:=ao Tryz.func86 (by kernel_rfl)
def KO:Nat→aw:=fun n=>match n with|6=>⟨[qQ 0,qQ 1,qQ 2,qQ 3,qQ 4,qQ 5,qQ 6,qQ 7,qQ 8,qQ 9],none,[],[10,11]⟩|_=>default
def Jl:Nat→Nat:=lv [12,8589934604,16,44,274877906988,44,4503599627370540,16,16]
theorem acH:Fk 87 Tryz.f87 KO:=ao Tryz.func87 (by kernel_rfl)
def VA:Nat→aw:=fun n=>match n with|17=>⟨[qQ 0,qQ 1,qQ 2,qQ 3,qQ 4,qQ 5,qQ 6,qQ 7,qQ 8,qQ 9,qQ 10,qQ 11],none,[],[12,13,14]⟩|_=>default
def XI:Nat→Nat:=lv [271,783,1807,8390415,0,536872719,0,34359740175,1807,1807,7951,1125899906850575,3855,3855,7951,295147905179352829711,4722366482869645217551,154742504910672534362394383,8973,783,50191,17935,214543,475663,10384593717069655257060992658915855,17167,17165,783,17167,17163,783]
theorem acG:Fk 92 Tryz.f92 VA:=ao Tryz.func92 (by kernel_rfl)
def Vz:Nat→aw:=fun _=>default
def XH:Nat→Nat:=lv [1,4,4]
theorem acF:Fk 93 Tryz.f93 Vz:=ao Tryz.func93 (by kernel_rfl)
def gd:Nat→aw:=fun n=>match n with|7=>⟨[qQ 0,qQ 1,lL 2,qQ 3,qQ 4],none,[],[5,6]⟩|29=>⟨[qQ 0,qQ 1,qQ 2,qQ 3,qQ 4,qQ 5,qQ 6,lL 7,qQ 8,lL 9,qQ 10],none,[1],[11]⟩|35=>⟨[qQ 0,qQ 1,qQ 2,qQ 3,qQ 4,qQ 5,qQ 6,lL 7],none,[],[8,9]⟩|_=>default
def eF:Nat→Nat:=lv [271,783,2097935,783,4194575,12583183,12583183,256,4299161871,256,34363932943,34363932943,549755814159,256,256,562949957615887,562949957615887,562949957615887,256,288230376155906319,288230376155906319,256,37778931862957165904143,37778931862957165904143,1295,3343,7439,9671406556917033397656847,7439,7439,256,316912650057057350374175801615,8463,10141204801825835211973625651471,8463,256,332306998946228968225951765070086400,256,256]
theorem acE:Fk 94 Tryz.f94 gd:=ao Tryz.func94 (by kernel_rfl)
def Pr:Nat→aw:=fun _=>default
def Qq:Nat→Nat:=lv [5,4]
theorem acD:Fk 95 Tryz.f95 Pr:=ao Tryz.func95 (by kernel_rfl)
def KN:Nat→aw:=fun _=>default
def Jk:Nat→Nat:=lv [19,16]
theorem acC:Fk 96 Tryz.f96 KN:=ao Tryz.func96 (by kernel_rfl)
def Gc:Nat→aw:=fun _=>default
def sO:Nat→Nat:=lv [56,176,57520,123056,58032,16834736,64,57520,1200,64]
theorem acB:Fk 97 Tryz.f97 Gc:=ao Tryz.func97 (by kernel_rfl)
def xg:Nat→aw:=fun _=>default
def sN:Nat→Nat:=lv [12,76,204,204,16,2097228,16,2147483724,16,2199023255628,16,18014398509482056,18014398509481992,16,16]
theorem acA:Fk 98 Tryz.f98 xg:=ao Tryz.func98 (by kernel_rfl)
def Pq:Nat→aw:=fun _=>default
def Qp:Nat→Nat:=lv [1,4]
theorem acz:Fk 99 Tryz.f99 Pq:=ao Tryz.func99 (by kernel_rfl)
def Eg:Nat→aw:=fun _=>default
def Ep:Nat→Nat:=lv [2,4]
theorem Zp:Fk 100 Tryz.f100 Eg:=ao Tryz.func100 (by kernel_rfl)
def I8:Nat→aw:=fun _=>default
def Ly:Nat→Nat:=lv [2,4]
theorem Zo:Fk 101 Tryz.f101 I8:=ao Tryz.func101 (by kernel_rfl)
def Ai:Nat→aw:=fun _=>default
def ur:Nat→Nat:=lv [2,131074,4,524290,1572866,4,34078722,4,134742018,4,137438953474,10,8796093022218,10,2251799813685258,4,4,4]
theorem Zn:Fk 102 Tryz.f102 Ai:=ao Tryz.func102 (by kernel_rfl)
def vM:Nat→aw:=fun _=>default
def uq:Nat→Nat:=lv [2,4]
theorem Zm:Fk 103 Tryz.f103 vM:=ao Tryz.func103 (by kernel_rfl)
def Ee:Nat→aw:=fun _=>default
def Eo:Nat→Nat:=lv [1,1]
theorem Zl:Fk 104 Tryz.f104 Ee:=ao Tryz.func104 (by kernel_rfl)
def I7:Nat→aw:=fun _=>default
def Lx:Nat→Nat:=lv [6,16]
theorem Zk:Fk 105 Tryz.f105 I7:=ao Tryz.func105 (by kernel_rfl)
def Ah:Nat→aw:=fun _=>default
def um:Nat→Nat:=lv [1,131073,4,9,2097161,9,17179869193,4,4]
theorem Zj:Fk 106 Tryz.f106 Ah:=ao Tryz.func106 (by kernel_rfl)
def I6:Nat→aw:=fun _=>default
def Lw:Nat→Nat:=lv [2,10,4,4096,4,4]
theorem Zi:Fk 107 Tryz.f107 I6:=ao Tryz.func107 (by kernel_rfl)
def I5:Nat→aw:=fun _=>default
def Lv:Nat→Nat:=lv [2,4]
theorem Zh:Fk 108 Tryz.f108 I5:=ao Tryz.func108 (by kernel_rfl)
def Ag:Nat→aw:=fun _=>default
def uj:Nat→Nat:=lv [2,4294967298,4,10,137438953482,10,2251799813685258,4,9007199254740994,27021597764222978,27021597764222978,4,153122387330596866,4,147573952589676412930,4,4]
theorem Zg:Fk 109 Tryz.f109 Ag:=ao Tryz.func109 (by kernel_rfl)
def I4:Nat→aw:=fun _=>default
def Lu:Nat→Nat:=lv [1,4]
theorem Zf:Fk 110 Tryz.f110 I4:=ao Tryz.func110 (by kernel_rfl)
def P7:Nat→aw:=fun _=>default
def Uc:Nat→Nat:=lv [3,2051,131073,16,33,97,8388705,97,225,161,17179869344,160,16,16,512,16]
theorem Ze:Fk 112 Tryz.f112 P7:=ao Tryz.func112 (by kernel_rfl)
def Ed:Nat→aw:=fun n=>match n with|1=>⟨[qQ 0,qQ 1,qQ 2,qQ 3,qQ 5,qQ 6,qQ 7,qQ 8,qQ 10,qQ 11,qQ 12,qQ 13,qQ 15,qQ 16,qQ 17,qQ 18,qQ 19,qQ 20,lL 4,lL 9,lL 14],none,[],[21,22,23,24]⟩|5=>⟨[qQ 0,qQ 1,qQ 2,qQ 3,qQ 4,qQ 5,qQ 6,qQ 7,qQ 8,qQ 9],none,[],[10,11]⟩|_=>default
def oA:Nat→Nat:=lv [12,44,108,549755813996,108,108,16]
theorem Zd:Fk 119 Tryz.f119 Ed:=ao Tryz.func119 (by kernel_rfl)
def qb:Nat→aw:=fun n=>match n with|12=>⟨[qQ 0,qQ 1,qQ 2,qQ 3,qQ 4,qQ 5,qQ 6,qQ 7,qQ 8,qQ 9],none,[],[10,11]⟩|_=>default
def ku:Nat→Nat:=lv [12,140,16,524300,16,2147483660,16,8796093022220,16,44,9223372036854775852,44,108,302231454903657293676652,16,16]
theorem Zc:Fk 123 Tryz.f123 qb:=ao Tryz.func123 (by kernel_rfl)
def P6:Nat→aw:=fun n=>match n with|4=>⟨[qQ 0,qQ 1,qQ 2,qQ 3,qQ 4,qQ 5,qQ 6,qQ 7,qQ 8,qQ 9,qQ 10,qQ 11,qQ 12],none,[],[13,14]⟩|6=>⟨[],some 999999,[],[]⟩|_=>default
def Ub:Nat→Nat:=lv [71,4167,71,199,1073742023,199,199]
theorem Zb:Fk 126 Tryz.f126 P6:=ao Tryz.func126 (by kernel_rfl)
def P5:Nat→aw:=fun n=>match n with|10=>⟨[],some 999999,[],[]⟩|_=>default
def Ua:Nat→Nat:=lv [71,199,449,961,525249,961,961,1217,1073743041,1217,1217,1217]
theorem Za:Fk 127 Tryz.f127 P5:=ao Tryz.func127 (by kernel_rfl)
def P4:Nat→aw:=fun n=>match n with|10=>⟨[],some 999999,[],[]⟩|_=>default
def T9:Nat→Nat:=lv [67,32835,195,451,963,8589935555,963,1987,8796093024195,1987,963]
theorem Y9:Fk 128 Tryz.f128 P4:=ao Tryz.func128 (by kernel_rfl)
def P3:Nat→aw:=fun _=>default
def T8:Nat→Nat:=lv [7,259,771,1795,3843,7937,4294975233,17179876865,7681,7681,7681,2560,562949953423360,192,2814749767108608,192,18014398509484032,192]
theorem Y8:Fk 129 Tryz.f129 P3:=ao Tryz.func129 (by kernel_rfl)
def P1:Nat→aw:=fun n=>match n with|3=>⟨[qQ 0,qQ 1,qQ 2,qQ 3,qQ 4,qQ 5,qQ 6,qQ 7,qQ 8,qQ 9,qQ 10,qQ 11,qQ 12,lL 13,qQ 14,lL 15],none,[],[]⟩|_=>default
def T7:Nat→Nat:=lv [69,193,8385,193,193,193]
theorem Y7:Fk 130 Tryz.f130 P1:=ao Tryz.func130 (by kernel_rfl)
def P0:Nat→aw:=fun n=>match n with|5=>⟨[qQ 0,qQ 1,qQ 2,qQ 3,qQ 4,qQ 5,qQ 6,qQ 7,qQ 8,qQ 9,qQ 10,qQ 11,qQ 12],none,[],[13,14,15]⟩|11=>⟨[],some 999999,[],[]⟩|16=>⟨[qQ 0,qQ 1,qQ 2,qQ 3,qQ 4,qQ 5,qQ 6,qQ 7,qQ 8],none,[],[9,10]⟩|17=>⟨[],some 999999,[],[]⟩|22=>⟨[qQ 0,qQ 1,qQ 2,qQ 3,qQ 4,qQ 5,qQ 6,qQ 7,qQ 8],none,[],[9,10]⟩|23=>⟨[],some 999999,[],[]⟩|_=>default
def T6:Nat→Nat:=lv [7,135,391,16775,391,4294967687,391,137438953863,64,2199023255943,64,391,2305843009213694343,903,36893488147419104135,903,302231454903657293677447,903,316912650057057350374175801735,1415,10141204801825835211973625644423,1415,83076749736557242056487941267522951,1415,64]
theorem Y6:Fk 131 Tryz.f131 P0:=ao Tryz.func131 (by kernel_rfl)
def PZ:Nat→aw:=fun _=>default
def T5:Nat→Nat:=lv [3,16]
theorem Y5:Fk 132 Tryz.f132 PZ:=ao Tryz.func132 (by kernel_rfl)
def PY:Nat→aw:=fun n=>match n with|1=>⟨[qQ 0,qQ 1,qQ 2,qQ 3,qQ 4,qQ 5,qQ 6,qQ 7,qQ 8,qQ 9,qQ 10,qQ 11,qQ 12,lL 13,qQ 14,lL 15],none,[],[]⟩|3=>⟨[qQ 0,qQ 1,qQ 2,qQ 3,qQ 4,qQ 5,qQ 6,qQ 7,qQ 8,qQ 9,qQ 10,qQ 11],none,[],[12,13,14]⟩|5=>⟨[qQ 0,qQ 1,qQ 2,qQ 3,qQ 4,qQ 5,qQ 6,qQ 7,qQ 8,qQ 9,qQ 10,qQ 11],none,[],[12,13]⟩|8=>⟨[qQ 0,qQ 1,qQ 2,qQ 3,qQ 4,qQ 5,qQ 6,qQ 7,qQ 8,qQ 9,qQ 10,qQ 11,qQ 12,lL 13,qQ 14,lL 15],none,[],[]⟩|_=>default
def T4:Nat→Nat:=lv [15,7,1539,8796093023747,1539,576460752303425027,1539,18446744073709553155,1539,1539,1539,256]
theorem Y4:Fk 133 Tryz.f133 PY:=ao Tryz.func133 (by kernel_rfl)
def PX:Nat→aw:=fun n=>match n with|1=>⟨[qQ 0,qQ 1,qQ 2,qQ 3,qQ 4,qQ 5,qQ 6,qQ 7,qQ 8,qQ 9,qQ 10,qQ 11,qQ 12,lL 13,qQ 14,lL 15],none,[],[]⟩|3=>⟨[qQ 0,qQ 1,qQ 2,qQ 3,qQ 4,qQ 5,qQ 6,qQ 7,qQ 8,qQ 9,qQ 10,qQ 11],none,[],[12,13]⟩|5=>⟨[qQ 0,qQ 1,qQ 2,qQ 3,qQ 4,qQ 5,qQ 6,qQ 7,qQ 8,qQ 9,qQ 10,qQ 11],none,[],[12,13,14]⟩|8=>⟨[qQ 0,qQ 1,qQ 2,qQ 3,qQ 4,qQ 5,qQ 6,qQ 7,qQ 8,qQ 9,qQ 10,qQ 11,qQ 12,lL 13,qQ 14,lL 15],none,[],[]⟩|10=>⟨[qQ 0,qQ 1,qQ 2,qQ 3,qQ 4,qQ 5,qQ 6,qQ 7,qQ 8,qQ 9,qQ 10,qQ 11,qQ 12,lL 13,qQ 14,lL 15],none,[],[]⟩|13=>⟨[qQ 0,qQ 1,qQ 2,qQ 3,qQ 4,qQ 5,qQ 6,qQ 7,qQ 8,qQ 9,qQ 10,qQ 11],none,[],[12,13]⟩|15=>⟨[qQ 0,qQ 1,qQ 2,qQ 3,qQ 4,qQ 5,qQ 6,qQ 7,qQ 8,qQ 9,qQ 10,qQ 11],none,[],[12,13,14]⟩|18=>⟨[qQ 0,qQ 1,qQ 2,qQ 3,qQ 4,qQ 5,qQ 6,qQ 7,qQ 8,qQ 9,qQ 10,qQ 11,qQ 12,lL 13,qQ 14,lL 15],none,[],[]⟩|21=>⟨[qQ 0,qQ 1,qQ 2,qQ 3,qQ 4,qQ 5,qQ 6,qQ 7,qQ 8,qQ 9,qQ 10,qQ 11,qQ 12,lL 13,qQ 14,lL 15],none,[],[]⟩|_=>default
def T3:Nat→Nat:=lv [15,7,3075,8796093025283,3075,1152921504606850051,3075,36893488147419106307,2048,768,3075,3075,3075,5192296858534827628530496329223171,3075,680564733841876926926749214863536425987,3075,21778071482940061661655974875633165536259,3075,3075,3075,2048,768]
theorem Y3:Fk 134 Tryz.f134 PX:=ao Tryz.func134 (by kernel_rfl)
def PW:Nat→aw:=fun _=>default
def T2:Nat→Nat:=lv [5,21,1,5,261,5,5,16389,5,5,4]
theorem Y2:Fk 136 Tryz.f136 PW:=ao Tryz.func136 (by kernel_rfl)
def Af:Nat→aw:=fun n=>match n with|9=>⟨[qQ 0,qQ 1,qQ 2,qQ 3,qQ 4,qQ 5,qQ 6,lL 7,qQ 8,lL 9,qQ 10],none,[1],[11]⟩|_=>default
def uh:Nat→Nat:=lv [271,783,525071,256,1295,3343,7439,68719484175,7439,7439,256]
theorem Y1:Fk 137 Tryz.f137 Af:=ao Tryz.func137 (by kernel_rfl)
def I3:Nat→aw:=fun _=>default
def Lt:Nat→Nat:=lv [5,4]
theorem Y0:Fk 138 Tryz.f138 I3:=ao Tryz.func138 (by kernel_rfl)
def I2:Nat→aw:=fun _=>default
def Ls:Nat→Nat:=lv [28,16]
theorem YZ:Fk 139 Tryz.f139 I2:=ao Tryz.func139 (by kernel_rfl)
def I1:Nat→aw:=fun _=>default
def Lr:Nat→Nat:=lv [1,1]
theorem YY:Fk 140 Tryz.f140 I1:=ao Tryz.func140 (by kernel_rfl)
def I0:Nat→aw:=fun _=>default
def Lq:Nat→Nat:=lv [7,32]
theorem YX:Fk 141 Tryz.f141 I0:=ao Tryz.func141 (by kernel_rfl)
def PU:Nat→aw:=fun _=>default
def T1:Nat→Nat:=lv [1,4]
theorem YW:Fk 142 Tryz.f142 PU:=ao Tryz.func142 (by kernel_rfl)
def Ec:Nat→aw:=fun _=>default
def yu:Nat→Nat:=lv [3,35,547,35,131107,16,16]
theorem YV:Fk 143 Tryz.f143 Ec:=ao Tryz.func143 (by kernel_rfl)
def PT:Nat→aw:=fun _=>default
def T0:Nat→Nat:=lv [1,4]
theorem YU:Fk 144 Tryz.f144 PT:=ao Tryz.func144 (by kernel_rfl)
def PS:Nat→aw:=fun _=>default
def TZ:Nat→Nat:=lv [1,4]
theorem YT:Fk 145 Tryz.f145 PS:=ao Tryz.func145 (by kernel_rfl)
def IZ:Nat→aw:=fun _=>default
def Lp:Nat→Nat:=lv [2,10,4,4096,4,4]
theorem YS:Fk 146 Tryz.f146 IZ:=ao Tryz.func146 (by kernel_rfl)
def Eb:Nat→aw:=fun _=>default
def En:Nat→Nat:=lv [2,10,8,4]
theorem YR:Fk 147 Tryz.f147 Eb:=ao Tryz.func147 (by kernel_rfl)
def PR:Nat→aw:=fun _=>default
def TY:Nat→Nat:=lv [1,4]
theorem YQ:Fk 148 Tryz.f148 PR:=ao Tryz.func148 (by kernel_rfl)
def PQ:Nat→aw:=fun _=>default
def TX:Nat→Nat:=lv [1,4]
theorem YP:Fk 149 Tryz.f149 PQ:=ao Tryz.func149 (by kernel_rfl)
def PO:Nat→aw:=fun _=>default
def TW:Nat→Nat:=lv [1,4]
theorem YO:Fk 150 Tryz.f150 PO:=ao Tryz.func150 (by kernel_rfl)
def Ea:Nat→aw:=fun _=>default
def ug:Nat→Nat:=lv [2,10,26,538,26,26,4]
theorem YN:Fk 151 Tryz.f151 Ea:=ao Tryz.func151 (by kernel_rfl)
def D9:Nat→aw:=fun _=>default
def ue:Nat→Nat:=lv [2,10,26,538,26,26,4]
theorem YM:Fk 152 Tryz.f152 D9:=ao Tryz.func152 (by kernel_rfl)
def fM:Nat→aw:=fun _=>default
def dH:Nat→Nat:=lv [2,10,67108874,4,268435466,4,805306378,805306378,4,17448304650,4,281475245146122,4611686018427387914,4,26,36893488147419103258,26,18889465931478580854810,4,37778931862957430145034,302231454903657293676554,4,604462909807314855788554,4835703278458516698824714,4,9671406556917033397649418,19807040628566084398385987594,4,42,158456325028528675187087900714,42,81129638414606681695789005144106,4,4]
theorem YL:Fk 153 Tryz.f153 fM:=ao Tryz.func153 (by kernel_rfl)
def IY:Nat→aw:=fun _=>default
def Lo:Nat→Nat:=lv [2,4]
theorem YK:Fk 154 Tryz.f154 IY:=ao Tryz.func154 (by kernel_rfl)
def PN:Nat→aw:=fun _=>default
def TV:Nat→Nat:=lv [1,17,4,4]
theorem YJ:Fk 155 Tryz.f155 PN:=ao Tryz.func155 (by kernel_rfl)
def D8:Nat→aw:=fun _=>default
def oz:Nat→Nat:=lv [1,9,456,968,488,16872,4,456,4]
theorem YI:Fk 163 Tryz.f163 D8:=ao Tryz.func163 (by kernel_rfl)
def IX:Nat→aw:=fun _=>default
def Ln:Nat→Nat:=lv [3,35,99,2115,4096,16,16,8195,16,65539,16,524288,16,16]
theorem YH:Fk 164 Tryz.f164 IX:=ao Tryz.func164 (by kernel_rfl)
def IW:Nat→aw:=fun _=>default
def Lm:Nat→Nat:=lv [3,35,99,2115,4096,16,16,8195,16,65539,16,524288,16,16]
theorem YG:Fk 165 Tryz.f165 IW:=ao Tryz.func165 (by kernel_rfl)
def PM:Nat→aw:=fun _=>default
def TU:Nat→Nat:=lv [1,8,4,4]
theorem YF:Fk 166 Tryz.f166 PM:=ao Tryz.func166 (by kernel_rfl)
def PL:Nat→aw:=fun n=>match n with|3=>⟨[qQ 0,qQ 1,qQ 2,qQ 3,qQ 4,qQ 5,qQ 6,qQ 7,qQ 8,qQ 9,qQ 10,qQ 11,qQ 12,qQ 13,qQ 14,qQ 15,qQ 16,qQ 17],none,[],[18,19]⟩|5=>⟨[qQ 0,qQ 1,qQ 2,qQ 3,qQ 4,qQ 5,qQ 6,qQ 7,qQ 8,qQ 9,qQ 10,qQ 11],none,[],[12,13]⟩|6=>⟨[],some 999999,[],[]⟩|_=>default
def TT:Nat→Nat:=lv [269,781,66317,68719477517,781,4503599627371277,525,269]
theorem YE:Fk 167 Tryz.f167 PL:=ao Tryz.func167 (by kernel_rfl)
def PK:Nat→aw:=fun _=>default
def TS:Nat→Nat:=lv [7,64]
theorem YD:Fk 170 Tryz.f170 PK:=ao Tryz.func170 (by kernel_rfl)
def PJ:Nat→aw:=fun _=>default
def TR:Nat→Nat:=lv [31,31,23,4,1024]
theorem YC:Fk 171 Tryz.f171 PJ:=ao Tryz.func171 (by kernel_rfl)
def IV:Nat→aw:=fun _=>default
def Ll:Nat→Nat:=lv [1,4]
theorem YB:Fk 172 Tryz.f172 IV:=ao Tryz.func172 (by kernel_rfl)
def qa:Nat→aw:=fun n=>match n with|5=>⟨[qQ 0,qQ 1,lL 2,qQ 3,qQ 4],none,[],[5,6]⟩|_=>default
def oy:Nat→Nat:=lv [271,783,4879,256,8389391,256,4294967567,256,256]
theorem YA:Fk 173 Tryz.f173 qa:=ao Tryz.func173 (by kernel_rfl)
def PI:Nat→aw:=fun _=>default
def TQ:Nat→Nat:=lv [1,4]
theorem Yz:Fk 174 Tryz.f174 PI:=ao Tryz.func174 (by kernel_rfl)
def D7:Nat→aw:=fun _=>default
def yt:Nat→Nat:=lv [2,10,904,1928,936,904,904,4]
theorem Yy:Fk 175 Tryz.f175 D7:=ao Tryz.func175 (by kernel_rfl)
def D6:Nat→aw:=fun _=>default
def yr:Nat→Nat:=lv [2,10,904,1928,936,904,904,4]
theorem Yx:Fk 176 Tryz.f176 D6:=ao Tryz.func176 (by kernel_rfl)
def IU:Nat→aw:=fun _=>default
def Lk:Nat→Nat:=lv [2,4]
theorem Yw:Fk 177 Tryz.f177 IU:=ao Tryz.func177 (by kernel_rfl)
def vL:Nat→aw:=fun n=>match n with|6=>⟨[qQ 0,qQ 1,qQ 2,qQ 3,qQ 6,lL 4,qQ 5],none,[],[7]⟩|_=>default
def rf:Nat→Nat:=lv [14,65550,14,117440526,251658254,117440718,117440526,117440526]
theorem Yv:Fk 178 Tryz.f178 vL:=ao Tryz.func178 (by kernel_rfl)
def PH:Nat→aw:=fun _=>default
def TP:Nat→Nat:=lv [1,4]
theorem Yu:Fk 179 Tryz.f179 PH:=ao Tryz.func179 (by kernel_rfl)
def IT:Nat→aw:=fun _=>default
def Lj:Nat→Nat:=lv [1,4]
theorem Yt:Fk 180 Tryz.f180 IT:=ao Tryz.func180 (by kernel_rfl)
def D5:Nat→aw:=fun _=>default
def uc:Nat→Nat:=lv [2,1026,4,10,32778,10,16777226,4,4]
theorem Ys:Fk 181 Tryz.f181 D5:=ao Tryz.func181 (by kernel_rfl)
def vK:Nat→aw:=fun n=>match n with|6=>⟨[qQ 0,qQ 1,qQ 2,qQ 3,qQ 4,qQ 5,qQ 6,qQ 7,qQ 10,lL 8,qQ 9],none,[],[11,12]⟩|_=>default
def ow:Nat→Nat:=lv [14,65550,14,142,134217870,142,142,64]
theorem Yr:Fk 182 Tryz.f182 vK:=ao Tryz.func182 (by kernel_rfl)
def IS:Nat→aw:=fun _=>default
def Li:Nat→Nat:=lv [1,4]
theorem Yq:Fk 190 Tryz.f190 IS:=ao Tryz.func190 (by kernel_rfl)
def PG:Nat→aw:=fun n=>match n with|1=>⟨[qQ 0,qQ 1,qQ 2,qQ 3,qQ 4,qQ 5,qQ 6,qQ 7],none,[],[8]⟩|_=>default
def TO:Nat→Nat:=lv [15,262158,6,768,768]
theorem Yp:Fk 191 Tryz.f191 PG:=ao Tryz.func191 (by kernel_rfl)
def IQ:Nat→aw:=fun _=>default
def Lh:Nat→Nat:=lv [2,1048578,4,4194306,12582914,12582914,4,1077936130,4,4503599631564802,4,288230376155906050,4,18446744073713745922,4,1208925819614629174706178,4,4]
theorem Yo:Fk 192 Tryz.f192 IQ:=ao Tryz.func192 (by kernel_rfl)
def D4:Nat→aw:=fun _=>default
def Em:Nat→Nat:=lv [3,16]
theorem Yn:Fk 193 Tryz.f193 D4:=ao Tryz.func193 (by kernel_rfl)
def IP:Nat→aw:=fun _=>default
def Lg:Nat→Nat:=lv [2,4]
theorem Ym:Fk 194 Tryz.f194 IP:=ao Tryz.func194 (by kernel_rfl)
def Ae:Nat→aw:=fun _=>default
def yq:Nat→Nat:=lv [51,65555,0]
theorem Yl:Fk 195 Tryz.f195 Ae:=ao Tryz.func195 (by kernel_rfl)
def IN:Nat→aw:=fun _=>default
def Lf:Nat→Nat:=lv [6,2048,16,16]
theorem Yk:Fk 196 Tryz.f196 IN:=ao Tryz.func196 (by kernel_rfl)
def Ad:Nat→aw:=fun n=>match n with|6=>⟨[qQ 0,qQ 1,qQ 2,qQ 3,qQ 5,qQ 6,qQ 8,qQ 9,qQ 10,lL 4,lL 7],none,[],[2000000,11,12]⟩|_=>default
def ub:Nat→Nat:=lv [3,35,131107,35,2147483683,16,16]
theorem Yj:Fk 197 Tryz.f197 Ad:=ao Tryz.func197 (by kernel_rfl)
def IM:Nat→aw:=fun _=>default
def Le:Nat→Nat:=lv [6,2048,16,16]
theorem Yi:Fk 198 Tryz.f198 IM:=ao Tryz.func198 (by kernel_rfl)
def IL:Nat→aw:=fun _=>default
def Ld:Nat→Nat:=lv [3,16]
theorem Yh:Fk 202 Tryz.f202 IL:=ao Tryz.func202 (by kernel_rfl)
def IK:Nat→aw:=fun _=>default
def Lc:Nat→Nat:=lv [2,4]
theorem Yg:Fk 203 Tryz.f203 IK:=ao Tryz.func203 (by kernel_rfl)
def Ab:Nat→aw:=fun n=>match n with|6=>⟨[qQ 0,qQ 1,qQ 2,qQ 3,lL 4,qQ 5],none,[],[6,7]⟩|_=>default
def re:Nat→Nat:=lv [6,32774,16,917510,1966086,917606,2148401158,16,917510,16]
theorem Yf:Fk 204 Tryz.f204 Ab:=ao Tryz.func204 (by kernel_rfl)
def Aa:Nat→aw:=fun _=>default
def ov:Nat→Nat:=lv [3,387,899,419,65955,16,387,16]
theorem Ye:Fk 205 Tryz.f205 Aa:=ao Tryz.func205 (by kernel_rfl)
def PF:Nat→aw:=fun _=>default
def TN:Nat→Nat:=lv [3,67,451,33219,963,134218691,451,451,48]
theorem Yd:Fk 206 Tryz.f206 PF:=ao Tryz.func206 (by kernel_rfl)
def D3:Nat→aw:=fun _=>default
def mc:Nat→Nat:=lv [3,387,899,419,65955,16,387,16]
theorem Yc:Fk 208 Tryz.f208 D3:=ao Tryz.func208 (by kernel_rfl)
def IJ:Nat→aw:=fun _=>default
def Lb:Nat→Nat:=lv [2,4]
theorem Yb:Fk 209 Tryz.f209 IJ:=ao Tryz.func209 (by kernel_rfl)
def II:Nat→aw:=fun _=>default
def La:Nat→Nat:=lv [2,4]
theorem Ya:Fk 210 Tryz.f210 II:=ao Tryz.func210 (by kernel_rfl)
def PE:Nat→aw:=fun _=>default
def TM:Nat→Nat:=lv [1,4]
theorem X9:Fk 211 Tryz.f211 PE:=ao Tryz.func211 (by kernel_rfl)
noncomputable def JE:aT:=(.node (.node (.node (.node (.node (.node (.node (.node .nil 3 Tryz.f3 XA VO .nil) 9 Tryz.f9 Tw CV .nil) 10 Tryz.f10 P8 QH (.node .nil 11 Tryz.f11 KU dP .nil)) 12 Tryz.f12 VM XV (.node (.node .nil 13 Tryz.f13 P2 QG .nil) 14 Tryz.f14 PV QF (.node .nil 17 Tryz.f17 VL XU .nil))) 20 Tryz.f20 Ac jk (.node (.node (.node .nil 28 Tryz.f28 PD QE .nil) 29 Tryz.f29 PC QD (.node .nil 32 Tryz.f32 PB QC .nil)) 33 Tryz.f33 tP ou (.node (.node .nil 34 Tryz.f34 fU eG .nil) 35 Tryz.f35 PA QB (.node .nil 36 Tryz.f36 KT El .nil)))) 37 Tryz.f37 KS eW (.node (.node (.node (.node (.node .nil 38 Tryz.f38 zZ lp .nil) 39 Tryz.f39 zY ka .nil) 40 Tryz.f40 Pz QA (.node .nil 41 Tryz.f41 VK XT .nil)) 42 Tryz.f42 VJ XS (.node (.node .nil 43 Tryz.f43 VI XR .nil) 44 Tryz.f44 VH XP (.node .nil 58 Tryz.f58 KR Jm .nil))) 59 Tryz.f59 VG XO (.node (.node (.node .nil 60 Tryz.f60 Py Qz .nil) 61 Tryz.f61 Gd Az (.node .nil 62 Tryz.f62 Px Qw .nil)) 63 Tryz.f63 Pw Qv (.node (.node .nil 64 Tryz.f64 Pv Qu .nil) 65 Tryz.f65 VF XN (.node .nil 66 Tryz.f66 CO Ay .nil))))) 67 Tryz.f67 CN Ax (.node (.node (.node (.node (.node (.node .nil 68 Tryz.f68 KQ sQ .nil) 69 Tryz.f69 Pu Qt .nil) 70 Tryz.f70 cF bu (.node .nil 71 Tryz.f71 KP jZ .nil)) 72 Tryz.f72 VE XM (.node (.node .nil 73 Tryz.f73 VD XL .nil) 74 Tryz.f74 VC XK (.node .nil 77 Tryz.f77 VB XJ .nil))) 82 Tryz.f82 Pt Qs (.node (.node (.node .nil 86 Tryz.f86 Ps Qr .nil) 87 Tryz.f87 KO Jl (.node .nil 92 Tryz.f92 VA XI .nil)) 93 Tryz.f93 Vz XH (.node (.node .nil 94 Tryz.f94 gd eF .nil) 95 Tryz.f95 Pr Qq (.node .nil 96 Tryz.f96 KN Jk .nil)))) 97 Tryz.f97 Gc sO (.node (.node (.node (.node .nil 98 Tryz.f98 xg sN .nil) 99 Tryz.f99 Pq Qp (.node .nil 100 Tryz.f100 Eg Ep .nil)) 101 Tryz.f101 I8 Ly (.node (.node .nil 102 Tryz.f102 Ai ur .nil) 103 Tryz.f103 vM uq (.node .nil 104 Tryz.f104 Ee Eo .nil))) 105 Tryz.f105 I7 Lx (.node (.node (.node .nil 106 Tryz.f106 Ah um .nil) 107 Tryz.f107 I6 Lw (.node .nil 108 Tryz.f108 I5 Lv .nil)) 109 Tryz.f109 Ag uj (.node (.node .nil 110 Tryz.f110 I4 Lu .nil) 112 Tryz.f112 P7 Uc (.node .nil 119 Tryz.f119 Ed oA .nil)))))) 123 Tryz.f123 qb ku (.node (.node (.node (.node (.node (.node (.node .nil 126 Tryz.f126 P6 Ub .nil) 127 Tryz.f127 P5 Ua .nil) 128 Tryz.f128 P4 T9 (.node .nil 129 Tryz.f129 P3 T8 .nil)) 130 Tryz.f130 P1 T7 (.node (.node .nil 131 Tryz.f131 P0 T6 .nil) 132 Tryz.f132 PZ T5 (.node .nil 133 Tryz.f133 PY T4 .nil))) 134 Tryz.f134 PX T3 (.node (.node (.node .nil 136 Tryz.f136 PW T2 .nil) 137 Tryz.f137 Af uh (.node .nil 138 Tryz.f138 I3 Lt .nil)) 139 Tryz.f139 I2 Ls (.node (.node .nil 140 Tryz.f140 I1 Lr .nil) 141 Tryz.f141 I0 Lq (.node .nil 142 Tryz.f142 PU T1 .nil)))) 143 Tryz.f143 Ec yu (.node (.node (.node (.node .nil 144 Tryz.f144 PT T0 .nil) 145 Tryz.f145 PS TZ (.node .nil 146 Tryz.f146 IZ Lp .nil)) 147 Tryz.f147 Eb En (.node (.node .nil 148 Tryz.f148 PR TY .nil) 149 Tryz.f149 PQ TX (.node .nil 150 Tryz.f150 PO TW .nil))) 151 Tryz.f151 Ea ug (.node (.node (.node .nil 152 Tryz.f152 D9 ue .nil) 153 Tryz.f153 fM dH (.node .nil 154 Tryz.f154 IY Lo .nil)) 155 Tryz.f155 PN TV (.node (.node .nil 163 Tryz.f163 D8 oz .nil) 164 Tryz.f164 IX Ln (.node .nil 165 Tryz.f165 IW Lm .nil))))) 166 Tryz.f166 PM TU (.node (.node (.node (.node (.node (.node .nil 167 Tryz.f167 PL TT .nil) 170 Tryz.f170 PK TS .nil) 171 Tryz.f171 PJ TR (.node .nil 172 Tryz.f172 IV Ll .nil)) 173 Tryz.f173 qa oy (.node (.node .nil 174 Tryz.f174 PI TQ .nil) 175 Tryz.f175 D7 yt (.node .nil 176 Tryz.f176 D6 yr .nil))) 177 Tryz.f177 IU Lk (.node (.node (.node .nil 178 Tryz.f178 vL rf .nil) 179 Tryz.f179 PH TP (.node .nil 180 Tryz.f180 IT Lj .nil)) 181 Tryz.f181 D5 uc (.node (.node .nil 182 Tryz.f182 vK ow .nil) 190 Tryz.f190 IS Li (.node .nil 191 Tryz.f191 PG TO .nil)))) 192 Tryz.f192 IQ Lh (.node (.node (.node (.node .nil 193 Tryz.f193 D4 Em .nil) 194 Tryz.f194 IP Lg (.node .nil 195 Tryz.f195 Ae yq .nil)) 196 Tryz.f196 IN Lf (.node (.node .nil 197 Tryz.f197 Ad ub .nil) 198 Tryz.f198 IM Le (.node .nil 202 Tryz.f202 IL Ld .nil))) 203 Tryz.f203 IK Lc (.node (.node (.node .nil 204 Tryz.f204 Ab re .nil) 205 Tryz.f205 Aa ov (.node .nil 206 Tryz.f206 PF TN .nil)) 208 Tryz.f208 D3 mc (.node (.node .nil 209 Tryz.f209 IJ Lb .nil) 210 Tryz.f210 II La (.node .nil 211 Tryz.f211 PE TM .nil)))))))
theorem uD:Z9 Tryz.prog bV bi JE.find:=aT.ok (aT.ag (aT.ag (aT.ag (aT.ag (aT.ag (aT.ag (aT.ag (aT.ag aT.all_nil ae3 aT.all_nil) ae2 aT.all_nil) adp (aT.ag aT.all_nil ado aT.all_nil)) adn (aT.ag (aT.ag aT.all_nil adm aT.all_nil) adl (aT.ag aT.all_nil adk aT.all_nil))) adj (aT.ag (aT.ag (aT.ag aT.all_nil adi aT.all_nil) adh (aT.ag aT.all_nil adg aT.all_nil)) adf (aT.ag (aT.ag aT.all_nil ade aT.all_nil) adb (aT.ag aT.all_nil ada aT.all_nil)))) ac9 (aT.ag (aT.ag (aT.ag (aT.ag (aT.ag aT.all_nil ac8 aT.all_nil) ac7 aT.all_nil) ac6 (aT.ag aT.all_nil ac5 aT.all_nil)) ac4 (aT.ag (aT.ag aT.all_nil ac3 aT.all_nil) ac2 (aT.ag aT.all_nil ac1 aT.all_nil))) ac0 (aT.ag (aT.ag (aT.ag aT.all_nil acZ aT.all_nil) acY (aT.ag aT.all_nil acX aT.all_nil)) acW (aT.ag (aT.ag aT.all_nil acV aT.all_nil) acU (aT.ag aT.all_nil acT aT.all_nil))))) acS (aT.ag (aT.ag (aT.ag (aT.ag (aT.ag (aT.ag aT.all_nil acR aT.all_nil) acQ aT.all_nil) acP (aT.ag aT.all_nil acO aT.all_nil)) acN (aT.ag (aT.ag aT.all_nil acM aT.all_nil) acL (aT.ag aT.all_nil acK aT.all_nil))) acJ (aT.ag (aT.ag (aT.ag aT.all_nil acI aT.all_nil) acH (aT.ag aT.all_nil acG aT.all_nil)) acF (aT.ag (aT.ag aT.all_nil acE aT.all_nil) acD (aT.ag aT.all_nil acC aT.all_nil)))) acB (aT.ag (aT.ag (aT.ag (aT.ag aT.all_nil acA aT.all_nil) acz (aT.ag aT.all_nil Zp aT.all_nil)) Zo (aT.ag (aT.ag aT.all_nil Zn aT.all_nil) Zm (aT.ag aT.all_nil Zl aT.all_nil))) Zk (aT.ag (aT.ag (aT.ag aT.all_nil Zj aT.all_nil) Zi (aT.ag aT.all_nil Zh aT.all_nil)) Zg (aT.ag (aT.ag aT.all_nil Zf aT.all_nil) Ze (aT.ag aT.all_nil Zd aT.all_nil)))))) Zc (aT.ag (aT.ag (aT.ag (aT.ag (aT.ag (aT.ag (aT.ag aT.all_nil Zb aT.all_nil) Za aT.all_nil) Y9 (aT.ag aT.all_nil Y8 aT.all_nil)) Y7 (aT.ag (aT.ag aT.all_nil Y6 aT.all_nil) Y5 (aT.ag aT.all_nil Y4 aT.all_nil))) Y3 (aT.ag (aT.ag (aT.ag aT.all_nil Y2 aT.all_nil) Y1 (aT.ag aT.all_nil Y0 aT.all_nil)) YZ (aT.ag (aT.ag aT.all_nil YY aT.all_nil) YX (aT.ag aT.all_nil YW aT.all_nil)))) YV (aT.ag (aT.ag (aT.ag (aT.ag aT.all_nil YU aT.all_nil) YT (aT.ag aT.all_nil YS aT.all_nil)) YR (aT.ag (aT.ag aT.all_nil YQ aT.all_nil) YP (aT.ag aT.all_nil YO aT.all_nil))) YN (aT.ag (aT.ag (aT.ag aT.all_nil YM aT.all_nil) YL (aT.ag aT.all_nil YK aT.all_nil)) YJ (aT.ag (aT.ag aT.all_nil YI aT.all_nil) YH (aT.ag aT.all_nil YG aT.all_nil))))) YF (aT.ag (aT.ag (aT.ag (aT.ag (aT.ag (aT.ag aT.all_nil YE aT.all_nil) YD aT.all_nil) YC (aT.ag aT.all_nil YB aT.all_nil)) YA (aT.ag (aT.ag aT.all_nil Yz aT.all_nil) Yy (aT.ag aT.all_nil Yx aT.all_nil))) Yw (aT.ag (aT.ag (aT.ag aT.all_nil Yv aT.all_nil) Yu (aT.ag aT.all_nil Yt aT.all_nil)) Ys (aT.ag (aT.ag aT.all_nil Yr aT.all_nil) Yq (aT.ag aT.all_nil Yp aT.all_nil)))) Yo (aT.ag (aT.ag (aT.ag (aT.ag aT.all_nil Yn aT.all_nil) Ym (aT.ag aT.all_nil Yl aT.all_nil)) Yk (aT.ag (aT.ag aT.all_nil Yj aT.all_nil) Yi (aT.ag aT.all_nil Yh aT.all_nil))) Yg (aT.ag (aT.ag (aT.ag aT.all_nil Yf aT.all_nil) Ye (aT.ag aT.all_nil Yd aT.all_nil)) Yc (aT.ag (aT.ag aT.all_nil Yb aT.all_nil) Ya (aT.ag aT.all_nil X9 aT.all_nil)))))))
end Go.Proofs.YtmpmgmmcaghacaaGreatDoor
namespace Go.Proofs
open Go.Shelf
def Tryz.qm:Go.Shelf.Ren:=⟨fun|169=>44|n=>n,fun|70=>74|9=>9|0=>0|72=>77|37=>75|127=>122|3=>3|5=>5|n=>n,fun|n=>n⟩
theorem Tryz.Ug:Go.Proofs.Lays.n169 Tryz.prog Tryz.qm:={
 mixed:=by kernel_rfl
 f169:=Tryz.func44.trans (congrArg some (by kernel_rfl))
 t0:=Tryz.underlying0
 a0:=Tryz.isAgg0
 z0:=Tryz.sizeOf0
 v0:=Tryz.zeroValue0
 t3:=Tryz.underlying3
 a3:=Tryz.isAgg3
 z3:=Tryz.sizeOf3
 v3:=Tryz.zeroValue3
 t9:=Tryz.underlying9
 a9:=Tryz.isAgg9
 z9:=Tryz.sizeOf9
 v9:=Tryz.zeroValue9
 t37:=Tryz.underlying75
 a37:=Tryz.isAgg75
 z37:=Tryz.sizeOf75
 v37:=Tryz.zeroValue75
 t70:=Tryz.underlying74
 a70:=Tryz.isAgg74
 z70:=Tryz.sizeOf74
 v70:=Tryz.zeroValue74
 t72:=Tryz.underlying77
 a72:=Tryz.isAgg77
 z72:=Tryz.sizeOf77
 v72:=Tryz.zeroValue77
 t127:=Tryz.underlying122
 a127:=Tryz.isAgg122
 z127:=Tryz.sizeOf122
 v127:=Tryz.zeroValue122 }
theorem Tryz.vj:Builder.Extra Tryz.prog Tryz.qm:={
 sizeBuilder:=by kernel_rfl
 liesBuilder:=by kernel_rfl
 t5:=Tryz.underlying5
 a5:=Tryz.isAgg5
 z5:=Tryz.sizeOf5
 v5:=Tryz.zeroValue5
 infoByte:=by kernel_rfl
 cellsByte:=by kernel_rfl
 sizeByte:=by kernel_rfl
 neB5:=by decide }
def Tryz.jM:Go.Shelf.Ren:=⟨fun|156=>77|165=>116|166=>41|169=>44|240=>72|241=>162|276=>111|277=>189|n=>n,fun|31=>70|9=>9|3=>3|4=>4|0=>0|20=>20|72=>77|76=>80|70=>74|37=>75|75=>79|127=>122|164=>151|5=>5|80=>84|n=>n,fun|n=>n⟩
theorem Tryz.bZ:Go.Proofs.Lays.n156 Tryz.prog Tryz.jM:={
 mixed:=by kernel_rfl
 f156:=Tryz.func77.trans (congrArg some (by kernel_rfl))
 f165:=Tryz.func116.trans (congrArg some (by kernel_rfl))
 f166:=Tryz.func41.trans (congrArg some (by kernel_rfl))
 f169:=Tryz.func44.trans (congrArg some (by kernel_rfl))
 f240:=Tryz.func72.trans (congrArg some (by kernel_rfl))
 f241:=Tryz.func162.trans (congrArg some (by kernel_rfl))
 f276:=Tryz.func111.trans (congrArg some (by kernel_rfl))
 f277:=Tryz.func189.trans (congrArg some (by kernel_rfl))
 t0:=Tryz.underlying0
 a0:=Tryz.isAgg0
 z0:=Tryz.sizeOf0
 v0:=Tryz.zeroValue0
 t3:=Tryz.underlying3
 a3:=Tryz.isAgg3
 z3:=Tryz.sizeOf3
 v3:=Tryz.zeroValue3
 t4:=Tryz.underlying4
 a4:=Tryz.isAgg4
 z4:=Tryz.sizeOf4
 v4:=Tryz.zeroValue4
 t9:=Tryz.underlying9
 a9:=Tryz.isAgg9
 z9:=Tryz.sizeOf9
 v9:=Tryz.zeroValue9
 t20:=Tryz.underlying20
 a20:=Tryz.isAgg20
 z20:=Tryz.sizeOf20
 v20:=Tryz.zeroValue20
 t31:=Tryz.underlying70
 a31:=Tryz.isAgg70
 z31:=Tryz.sizeOf70
 v31:=Tryz.zeroValue70
 t37:=Tryz.underlying75
 a37:=Tryz.isAgg75
 z37:=Tryz.sizeOf75
 v37:=Tryz.zeroValue75
 t70:=Tryz.underlying74
 a70:=Tryz.isAgg74
 z70:=Tryz.sizeOf74
 v70:=Tryz.zeroValue74
 t72:=Tryz.underlying77
 a72:=Tryz.isAgg77
 z72:=Tryz.sizeOf77
 v72:=Tryz.zeroValue77
 t75:=Tryz.underlying79
 a75:=Tryz.isAgg79
 z75:=Tryz.sizeOf79
 v75:=Tryz.zeroValue79
 t76:=Tryz.underlying80
 a76:=Tryz.isAgg80
 z76:=Tryz.sizeOf80
 v76:=Tryz.zeroValue80
 t127:=Tryz.underlying122
 a127:=Tryz.isAgg122
 z127:=Tryz.sizeOf122
 v127:=Tryz.zeroValue122
 t164:=Tryz.underlying151
 a164:=Tryz.isAgg151
 z164:=Tryz.sizeOf151
 v164:=Tryz.zeroValue151 }
theorem Tryz.my:Builder.Extra Tryz.prog Tryz.jM:={
 sizeBuilder:=by kernel_rfl
 liesBuilder:=by kernel_rfl
 t5:=Tryz.underlying5
 a5:=Tryz.isAgg5
 z5:=Tryz.sizeOf5
 v5:=Tryz.zeroValue5
 infoByte:=by kernel_rfl
 cellsByte:=by kernel_rfl
 sizeByte:=by kernel_rfl
 neB5:=by decide }
end Go.Proofs
namespace Go.Tp
open Go.Proofs Go.Shelf Go.RowKit Go.Maps
section
variable {P:Program} {ρ:Ren} {G:bA}
theorem FG {N:Name->Option Nat} {next b:Nat} (hnx:∀o b,N (.out o)=some b->o < next):∀m c,N m=some c->bX N (.out next) b m=some c:=fun m c hm=>by
 have hne:m≠.out next:=by
  rintro rfl
  have:=hnx next c hm
  omega
 simp[bX,hne,hm]
theorem Gb {N N':Name->Option Nat} (h:∀m c,N m=some c->N' m=some c):∀m c,outs N m=some c->outs N' m=some c:=fun m c hm=>by
 cases m with
 | loc i=>simp[outs] at hm
 | out o=>exact h _ _ hm
end
end Go.Tp
namespace Go.Tp
open Go.Proofs Go.Shelf Go.RowKit
section
variable {P:Program} {ρ:Ren} {G:bA}
def RC (args:List ac) (heap:Heap) (next:Nat):Option eX:=
 match args with
 | [.ptr (.out k) 0]=>(match qJ (.out k) heap with
  | some (.cells [.dat (.flat (.pointer none)),q])=>(match E2 q with|true=>some ⟨.tup [],qG (.out k) (.cells [.ptr (.out k) 0,q]) heap,next⟩|false=>none)
  | some (.cells [.ptr (.out m) 0,q])=>(match Nat.beq m k&&E2 q with|true=>some ⟨.tup [],heap,next⟩|false=>none)
  | _=>none)
 | _=>none
theorem rA {w:World} {R:Own} {N:Name->Option Nat} {p q:ac} {b:Nat} {b1:List Nat} (h:aI w R N (.cells [p,q]) b b1) (hp:yw p=true) (hq:E2 q=true) :
  ∃v0 v1 c0 c1,w.heap[b]?=some (.cells #[v0,v1] sj (0,0))/\b1=c0++c1/\ai w R N p v0 c0/\ai w R N q v1 c1/\∀j,j < 2->R b j:=by
 obtain⟨vs,elem,sp,hblk,hr,hR,hsh⟩:=h;obtain⟨rfl,rfl⟩:=hsh (gK.2 ⟨p,_,rfl,hp,hq⟩);simp only[List.replicate_zero,List.append_nil] at hr;obtain⟨v0,r1,c0,d1,e1,rfl,h0,hr1⟩:=au hr;obtain⟨v1,r2,c1,d2,rfl,rfl,h1,hr2⟩:=au hr1;obtain⟨rfl,rfl⟩:=aM hr2;have hvs:vs=#[v0,v1]:=by apply Array.toList_inj.1;rw[e1]
 subst hvs;exact⟨v0,v1,c0,c1,hblk,by simp,h0,h1,fun j hj=>hR j (by simpa using hj)⟩
theorem KW {w:World} {R:Own} {N:Name->Option Nat} {k:Nat} {cargs:List Value} {bs:List Nat} (h:ah w R (outs N) [.ptr (.out k) 0] cargs bs) :
  ∃b,N (.out k)=some b/\cargs=[.pointer (some ⟨b,0,none⟩)]/\bs=[]:=by
 obtain⟨v,vs',b1,b2,rfl,rfl,h1,h2⟩:=au h;obtain⟨rfl,rfl⟩:=aM h2;simp only[ai] at h1;obtain⟨rfl,b,hb,rfl⟩:=h1;exact⟨b,by simpa [outs] using hb,rfl,rfl⟩
theorem ZU (L:Lays.n240 P ρ) (X:Builder.X72 P ρ) (hT:ρ.t 72=sj) {args:List ac} {heap:Heap} {next:Nat} {r:eX} (h:RC args heap next=some r):ay P G (ρ.f 240) args heap next (XQ r):=by
 unfold RC at h
 split at h
 rotate_left
 ·simp at h
 rename_i k;rw[jS] at h;intro w R N cargs bsA bsH bsF hargs hheap hnd hnx hglob hF;obtain⟨b,hb,rfl,rfl⟩:=KW hargs
 split at h
 ·rename_i q hget
  split at h
  rotate_left
  ·simp at h
  rename_i hq;simp only[Option.some.injEq] at h;subst h;obtain⟨pre,b',b1,post,rfl,hb',hobj,hset⟩:=aj.split hheap hget
  have:b'=b:=by simp only[outs] at hb';rw[hb] at hb';simpa using hb'.symm
  subst this;obtain⟨v0,v1,c0,c1,hblk,rfl,h0,h1,hR⟩:=rA hobj rfl hq;obtain⟨rfl,rfl,_⟩:=aC h0;have hcell:w.cell? ⟨b',0,none⟩=some (.pointer none):=by simp[World.cell?,hblk]
  have hshape:w.shape? b'=some ((ρ.t 72),2):=by simp[World.shape?,hblk,hT]
  have hfz:w.frozen? ⟨b',0,none⟩=false:=by simp[World.frozen?,hblk]
  refine (Any.Builder_copyCheck_fresh L X b' w hcell hshape hfz).mono ?_;rintro e w' ⟨rfl,rfl⟩;rw[setCell_eq_setRow w b' 0 _ _ _ _ hblk];have hnd2:=hnd;simp only[List.nil_append] at hnd2;have hbn:∀c∈c1++(pre++(post++bsF)),c≠b':=by
   intro c hc e;subst e;have hp:((pre++(c::([]++c1))++post)++bsF).Perm (c::(c1++(pre++(post++bsF)))):=by
    rw[List.perm_iff_count];intro q;simp only[List.count_append,List.count_cons,List.count_nil];omega
   exact (List.nodup_cons.1 (hp.nodup_iff.1 hnd2)).1 hc
  have hk:∀bs:List Nat,b'∉bs->bp w R (w.setRow b' ((#[Value.pointer none,v1]).setIfInBounds 0 (.pointer (some ⟨b',0,none⟩)))) R bs:=fun bs hbs=>
   jH hblk _ (by simp) (fun _ _ h=>h) (fun _ _ _ h=>h) (fun off hnR=>by
    have:¬off < 2:=fun hlt=>hnR (hR off hlt)
    rw[Array.getElem?_eq_none (by simp;omega),Array.getElem?_eq_none (by simp;omega)]) ⟨0,hR 0 (by omega)⟩ bs hbs
  have hobj':aI (w.setRow b' ((#[Value.pointer none,v1]).setIfInBounds 0 (.pointer (some ⟨b',0,none⟩)))) R (outs N) (.cells [.ptr (.out k) 0,q]) b' ([]++c1):=by
   refine⟨_,sj,0,setRow_heap w b' _ _ _ _ hblk,?_,fun j hj=>hR j (by simpa using hj),fun _=>⟨rfl,rfl⟩⟩;have q1:ai (w.setRow b' ((#[Value.pointer none,v1]).setIfInBounds 0 (.pointer (some ⟨b',0,none⟩)))) R (outs N) (.ptr (.out k) 0) (.pointer (some ⟨b',0,none⟩)) []:=by
    simp only[ai];exact⟨trivial,b',by simpa [outs] using hb,rfl⟩
   have q2:ai (w.setRow b' ((#[Value.pointer none,v1]).setIfInBounds 0 (.pointer (some ⟨b',0,none⟩)))) R (outs N) q v1 c1:=by
    exact h1.keep (hk c1 (fun hc=>hbn b' (by simp[hc]) rfl))
   simpa using aD q1 (aD q2 aP)
  have hH:=hset _ R _ ([]++c1) (hk (pre++post) (fun hc=>hbn b' (by simp at hc ⊢;rcases hc with h|h <;> simp[h]) rfl)) hobj';refine⟨.tup [],.tuple #[],_,next,R,N,[],_,rfl,⟨rfl,rfl,rfl⟩,by simp[ai,ah],by rw[nI];exact hH,by simpa using hnd,hnx,hk bsF (fun hc=>hbn b' (by simp[hc]) rfl),fun _ _ h=>h⟩
 ·rename_i m q hget
  split at h
  ·rename_i hm0;simp only[Bool.and_eq_true] at hm0;obtain⟨hm,hq⟩:=hm0;simp only[Option.some.injEq] at h;subst h;have hmk:m=k:=Nat.eq_of_beq_eq_true hm;subst hmk;obtain⟨pre,b',b1,post,rfl,hb',hobj,hset⟩:=aj.split hheap hget
   have:b'=b:=by simp only[outs] at hb';rw[hb] at hb';simpa using hb'.symm
   subst this;obtain⟨v0,v1,c0,c1,hblk,rfl,h0,h1,hR⟩:=rA hobj rfl hq;simp only[ai] at h0;obtain⟨rfl,b2,hb2,rfl⟩:=h0
   have:b2=b':=by simp only[outs] at hb2;rw[hb] at hb2;simpa using hb2.symm
   subst this;have hcell:w.cell? ⟨b2,0,none⟩=some (.pointer (some ⟨b2,0,none⟩)):=by simp[World.cell?,hblk]
   refine (Any.Builder_copyCheck_used L X b2 w hcell).mono ?_;rintro e w' ⟨rfl,rfl⟩;exact⟨.tup [],.tuple #[],_,next,R,N,[],_,rfl,⟨rfl,rfl,rfl⟩,by simp[ai,ah],hheap,by simpa using hnd,hnx,aZ _,fun _ _ h=>h⟩
  simp at h
 simp at h
def wB:List ak->Option (List UInt8)
 | []=>some []
 | .flat (.int .u8 (.ofNat n))::r=>(match wB r with|some l=>some (UInt8.ofNat n::l)|none=>none)
 | _=>none
def WB (args:List ac) (heap:Heap) (next:Nat):Option eX:=
 match args with
 | [.ptr (.out k) 0]=>(match qJ (.out k) heap with
  | some (.cells [p,.own (e::es)])=>(match yw p,wB (e::es) with
   | true,some l=>some ⟨.dat (.flat (.string ⟨⟨l⟩⟩)),qG (.out k) (.cells [p,.dat (.slice (e::es))]) heap,next⟩
   | _,_=>none)
  | some (.cells [p,.dat (.flat (.slice none 0 0))])=>(match yw p with
   | true=>some ⟨.dat (.flat (.string .empty)),heap,next⟩
   | false=>none)
  | _=>none)
 | _=>none
theorem xG:∀{es:List ak} {l:List UInt8},wB es=some l->l.length=es.length/\∀(j:Nat) x,l[j]?=some x->∃n:Nat,es[j]?=some (.flat (.int .u8 (.ofNat n)))/\x=UInt8.ofNat n
 | [],l,h=>by simp[wB] at h;subst h;exact⟨rfl,fun j x hj=>by simp at hj⟩
 | d::r,l,h=>by
  unfold wB at h
  split at h
  ·simp at *
  ·rename_i n r' heq;simp at heq;obtain⟨rfl,rfl⟩:=heq
   split at h
   ·rename_i l' hl';simp at h;subst h;obtain⟨h1,h2⟩:=xG hl';refine⟨by simp[h1],fun j x hj=>?_⟩
    cases j with
    | zero=>simp at hj;exact⟨n,rfl,hj.symm⟩
    | succ j=>simpa using h2 j x (by simpa using hj)
   simp at h
  simp at h
theorem SK {n:Nat} (h:bJ (.int .u8 (ofNat n))=true):((UInt8.ofNat n).toNat:Int)=ofNat n:=by
 simp only[bJ,Bool.and_eq_true,decide_eq_true_eq] at h;have h2:IntKind.u8.max=255:=by decide
 rw[h2] at h
 have:n < 256:=by have:=h.2;simp at this;omega
 simp[Nat.mod_eq_of_lt this]
set_option maxHeartbeats 2000000 in
set_option maxRecDepth 100000 in
theorem DI (L:Lays.n169 P ρ) (X:Builder.Extra P ρ) (T:TypeId) (b g cap:Nat) (p:Value) (cur:Array Value) (l:List UInt8) (w:World) (h0:l≠[]) (hbk:w.heap[b]?=some (.cells #[p,.slice (some ⟨g,0,none⟩) l.length cap] T (0,0)))
  (hg:w.heap[g]?=some (.cells cur (ρ.t 5) (0,0))) (hcap:l.length<=cap) (hlc:l.length<=cur.size) (hmax:l.length<=maxLen) (hby:∀(j:Nat) x,l[j]?=some x->w.cell? ⟨g,j,none⟩=some (.int .u8 x.toNat)) :
  Calls P (ρ.f 169) #[.pointer (some ⟨b,0,none⟩)] w fun e w'=>e=.returned (.string ⟨l.toArray⟩)/\w'=w.drew.freeze ⟨g,0,none⟩ l.length:=by
 have hl0:l.length≠0:=by simpa using h0
 have c1:w.drew.cell? ⟨b,1,none⟩=some (.slice (some ⟨g,0,none⟩) l.length cap):=by
  have:w.drew.heap[b]?=some (.cells #[p,.slice (some ⟨g,0,none⟩) l.length cap] T (0,0)):=hbk
  rw[Lib.cell_of_heap this];rfl
 have hSD:(Builtin.unsafeSliceData_ #[(ρ.t 37)] (ρ.t 127) #[.slice (some ⟨g,0,none⟩) l.length cap]).run P w.drew=.ok (.pointer (some ⟨g,0,none⟩)) w.drew:=
  Lib.run_unsafeSliceData_row _ _ _ _ _ _ (by omega)
 have hUS:(Builtin.unsafeString_ #[(ρ.t 127),(ρ.t 3)] (ρ.t 9) #[.pointer (some ⟨g,0,none⟩),.int .i64 l.length]).run P w.drew=.ok (.string ⟨l.toArray⟩) (w.drew.freeze ⟨g,0,none⟩ l.length):=by
  refine Lib.run_unsafeString_row w.drew (ρ.t 127) (ρ.t 3) (ρ.t 9) (ρ.t 5) L.t127 X.cellsByte g cur.size (by have hg':w.drew.heap[g]?=some (.cells cur (ρ.t 5) (0,0)):=hg;simp[World.shape?,hg']) l h0 (by omega) (by unfold maxLen at hmax;omega) ?_;intro j x hx;rw[add_plain,Nat.zero_add];exact hby j x hx
 have mixed:=L.mixed;have t72:=L.t72;have a72:=L.a72;have z72:=L.z72;have v72:=L.v72;have u72:=run_underlying L.t72;have t70:=L.t70;have a70:=L.a70;have z70:=L.z70;have v70:=L.v70;have u70:=run_underlying L.t70;have t37:=L.t37;have a37:=L.a37;have z37:=L.z37;have v37:=L.v37;have u37:=run_underlying L.t37;have t127:=L.t127;have a127:=L.a127;have z127:=L.z127;have v127:=L.v127;have u127:=run_underlying L.t127;have t3:=L.t3;have a3:=L.a3;have z3:=L.z3;have v3:=L.v3;have u3:=run_underlying L.t3;have t9:=L.t9;have a9:=L.a9;have z9:=L.z9;have v9:=L.v9;have u9:=run_underlying L.t9;have t5:=X.t5;have a5:=X.a5;have z5:=X.z5;have v5:=X.v5;have u5:=run_underlying X.t5
 go_enter L.f169,Body.n169_ntmps ρ
 go_wp2
 go_region_o
 all_goals (go_wp2;go_ret;exact⟨rfl,rfl⟩)
set_option maxHeartbeats 2000000 in
set_option maxRecDepth 100000 in
theorem H4 (L:Lays.n169 P ρ) (X:Builder.Extra P ρ) (T:TypeId) (b:Nat) (p:Value) (w:World) (hbk:w.heap[b]?=some (.cells #[p,.slice none 0 0] T (0,0))) :
  Calls P (ρ.f 169) #[.pointer (some ⟨b,0,none⟩)] w fun e w'=>e=.returned (.string .empty)/\w'=w.drew:=by
 have c1:w.drew.cell? ⟨b,1,none⟩=some (.slice none 0 0):=by
  have:w.drew.heap[b]?=some (.cells #[p,.slice none 0 0] T (0,0)):=hbk
  rw[Lib.cell_of_heap this];rfl
 have hSD:(Builtin.unsafeSliceData_ #[(ρ.t 37)] (ρ.t 127) #[.slice none 0 0]).run P w.drew=.ok (.pointer none) w.drew:=rfl;have hUS:(Builtin.unsafeString_ #[(ρ.t 127),(ρ.t 3)] (ρ.t 9) #[.pointer none,.int .i64 0]).run P w.drew=.ok (.string .empty) w.drew:=
  Lib.run_unsafeString_none (w:=w.drew) (ρ.t 127) (ρ.t 3) (ρ.t 9) none
 have mixed:=L.mixed;have t72:=L.t72;have a72:=L.a72;have z72:=L.z72;have v72:=L.v72;have u72:=run_underlying L.t72;have t70:=L.t70;have a70:=L.a70;have z70:=L.z70;have v70:=L.v70;have u70:=run_underlying L.t70;have t37:=L.t37;have a37:=L.a37;have z37:=L.z37;have v37:=L.v37;have u37:=run_underlying L.t37;have t127:=L.t127;have a127:=L.a127;have z127:=L.z127;have v127:=L.v127;have u127:=run_underlying L.t127;have t3:=L.t3;have a3:=L.a3;have z3:=L.z3;have v3:=L.v3;have u3:=run_underlying L.t3;have t9:=L.t9;have a9:=L.a9;have z9:=L.z9;have v9:=L.v9;have u9:=run_underlying L.t9;have t5:=X.t5;have a5:=X.a5;have z5:=X.z5;have v5:=X.v5;have u5:=run_underlying X.t5
 go_enter L.f169,Body.n169_ntmps ρ
 go_wp2
 go_region_o
 all_goals (go_wp2;go_ret;exact⟨rfl,rfl⟩)
theorem mg {w:World} {g n c:Nat} (h:c≠g):(w.freeze ⟨g,0,none⟩ n).heap[c]?=w.heap[c]?:=by
 unfold World.freeze
 split
 ·rfl
 simp only[Array.getElem?_modify];rw[if_neg (fun e=>h e.symm)]
theorem wi {w:World} {g n:Nat} {cs:Array Value} {t:TypeId} (h:w.heap[g]?=some (.cells cs t (0,0))):∃fr,(w.freeze ⟨g,0,none⟩ n).heap[g]?=some (.cells cs t fr):=by
 unfold World.freeze
 split
 ·exact⟨_,h⟩
 refine⟨(0,0+n),?_⟩;simp only[Array.getElem?_modify,if_pos,h,Option.map_some];simp
theorem Js {w:World} {R:Own} (bs:List Nat):bp w R w.drew R bs:=
 ⟨⟨rfl,rfl,rfl,Nat.le_refl _,fun _ _ h=>⟨rfl,h⟩,fun _ _ _ h=>⟨h,rfl⟩,fun _ _=>rfl⟩,fun _ _ _=>⟨rfl,fun _ h=>h⟩⟩
theorem GY {w:World} {g n:Nat}:(w.freeze ⟨g,0,none⟩ n).heap.size=w.heap.size:=by
 unfold World.freeze
 split <;> simp
theorem GZ {w:World} {g n:Nat}:(w.freeze ⟨g,0,none⟩ n).os=w.os/\(w.freeze ⟨g,0,none⟩ n).tape=w.tape/\(w.freeze ⟨g,0,none⟩ n).output=w.output:=by
 unfold World.freeze
 split <;> simp
theorem GA {w:World} {R:Own} {g n:Nat} {cs:Array Value} {t:TypeId} (hg:w.heap[g]?=some (.cells cs t (0,0))) (hR:∃off,R g off) (bs:List Nat) (hb:g∉bs):bp w R (w.drew.freeze ⟨g,0,none⟩ n) R bs:=by
 have hg':w.drew.heap[g]?=some (.cells cs t (0,0)):=hg;obtain⟨fr,hfr⟩:=wi (n:=n) hg';obtain⟨e1,e2,e3⟩:=GZ (w:=w.drew) (g:=g) (n:=n);have hoth:∀c,c≠g->(w.drew.freeze ⟨g,0,none⟩ n).heap[c]?=w.heap[c]?:=fun c hc=>mg hc
 refine⟨⟨e1,e2,e3,?_,?_,?_,?_⟩,?_⟩
 ·rw[GY];exact Nat.le_refl _
 ·intro c _ hno;obtain⟨off,ho⟩:=hR;exact⟨hoth c (fun e=>hno off (e ▸ ho)),hno⟩
 ·intro c off _ hno;refine⟨hno,?_⟩
  by_cases hc:c=g
  ·subst hc;simp only[World.cell?,hg,hfr]
  exact World.cell?_of_block (a:=⟨c,off,none⟩) (hoth c hc)
 ·intro c _
  by_cases hc:c=g
  ·subst hc;simp only[eD,hg,hfr]
  exact fe (hoth c hc)
 intro c hc _;exact⟨hoth c (fun e=>hb (e ▸ hc)),fun _ h=>h⟩
theorem N4 (L:Lays.n169 P ρ) (X:Builder.Extra P ρ) (hB:ρ.t 5=mQ) {w:World} {R:Own} {N:Name->Option Nat} {heap:Heap} {next k b:Nat} {p:ac} {d:ak} {es:List ak} {l:List UInt8} {bsH bsF:List Nat}
  (hb:N (.out k)=some b) (hheap:aj w R (outs N) heap bsH) (hnd:([]++(bsH++bsF)).Nodup) (hnx:∀o b,N (.out o)=some b->o < next)
  (hget:eA (.out k) heap=some (.cells [p,.own (d::es)])) (hp:yw p=true) (hl:wB (d::es)=some l) :
  Calls P (ρ.f 169) #[.pointer (some ⟨b,0,none⟩)] w fun e w'=>∃v cv heap' next' R' N' bsV bsH',e=.returned cv/\XQ ⟨.dat (.flat (.string ⟨⟨l⟩⟩)),qG (.out k) (.cells [p,.dat (.slice (d::es))]) heap,next⟩ v heap' next'/\ai w' R' (outs N') v cv bsV/\aj w' R' (outs N') heap' bsH' ∧
   (bsV++(bsH'++bsF)).Nodup/\(∀o b,N' (.out o)=some b->o < next')/\bp w R w' R' bsF/\(∀o b,N (.out o)=some b->N' (.out o)=some b):=by
 obtain⟨pre,b',b1,post,rfl,hb',hobj,hset⟩:=aj.split hheap hget
 have:b'=b:=by simp only[outs] at hb';rw[hb] at hb';simpa using hb'.symm
 subst this;obtain⟨v0,v1,c0,c1,hblk,rfl,h0,h1,hR⟩:=rA hobj hp rfl;replace h1:=cy h1;obtain⟨hll,hle⟩:=xG hl
 rcases lg h1 with⟨_,he,_⟩|⟨g,cap,s,cur,t,rfl,rfl,hg,hs0,hs,hcap,_,hin,hrep,hsp,hty⟩
 ·simp at he
 have hd:∃n:Nat,d=.flat (.int .u8 (.ofNat n)):=by
  cases l with
  | nil=>simp at hll
  | cons x l=>obtain⟨n,hn,_⟩:=hle 0 x rfl;simp at hn;exact⟨n,hn⟩
 obtain⟨n0,rfl⟩:=hd;have hs1:s=1:=by have:=hs _ (List.mem_cons_self ..);simpa [ak.cells] using this.symm
 subst hs1;have htb:t=mQ:=(hty rfl).1;have hfr:=(hty rfl).2;subst htb;obtain⟨g',off',cap',cells,hv,_,hcs,hcell⟩:=kP hrep (by simp) hs;simp at hv;obtain⟨⟨rfl,rfl⟩,rfl⟩:=hv;have hfl:(ak.flat (.int .u8 (.ofNat n0))::es).flatMap ak.cells=ak.flat (.int .u8 (.ofNat n0))::es:=by
  have key:∀es':List ak,(∀e∈es',∃n:Nat,e=.flat (.int .u8 (.ofNat n)))->es'.flatMap ak.cells=es':=by
   intro es'
   induction es' with
   | nil=>intro _;rfl
   | cons e es' ih=>
    intro hall;obtain⟨n,rfl⟩:=hall e (by simp);simp only[List.flatMap_cons,ak.cells,List.singleton_append];rw[ih (fun e he=>hall e (by simp[he]))]
  refine key _ (fun e he=>?_);obtain⟨j,hj⟩:=List.getElem?_of_mem he;have hjl:j < l.length:=by
   rw[hll]
   rcases Nat.lt_or_ge j (ak.flat (.int .u8 (.ofNat n0))::es).length with h'|h'
   ·exact h'
   rw[List.getElem?_eq_none h'] at hj;simp at hj
  obtain⟨n,hn,_⟩:=hle j l[j] (by simp);rw[hj] at hn;simp at hn;exact⟨n,hn⟩
 rw[hfl] at hcs;have hby:∀(j:Nat) x,l[j]?=some x->w.cell? ⟨g,j,none⟩=some (.int .u8 x.toNat):=by
  intro j x hx;obtain⟨n,hn,rfl⟩:=hle j x hx;obtain⟨v,hv,hrv⟩:=qX hcs hn;have hc:=(hcell j v hv).1
  cases hrv with
  | flat hfv=>
   rw[Nat.zero_add] at hc;rw[hc,SK hfv]
 have hlen:(ak.flat (.int .u8 (.ofNat n0))::es).length=l.length:=hll.symm;have hlim:=(eU.pH hrep);simp only[yd] at hlim;rw[hlen] at hblk hcap hlim hsp;have hnd2:=hnd;simp only[List.nil_append] at hnd2;have hperm:((pre++(b'::(c0++[g]))++post)++bsF).Perm (g::(b'::(c0++(pre++(post++bsF))))):=by
  rw[List.perm_iff_count];intro q;simp only[List.count_append,List.count_cons,List.count_nil];omega
 have hnd3:=hperm.nodup_iff.1 hnd2;have hgn:∀c∈b'::(c0++(pre++(post++bsF))),c≠g:=fun c hc e=>(List.nodup_cons.1 hnd3).1 (e ▸ hc)
 have hlc:l.length<=cur.size:=by have:l.length*1<=cap*1:=Nat.mul_le_mul_right _ hcap;omega
 refine (DI L X sj b' g cap v0 cur l w (by intro e;rw[e] at hll;simp at hll) hblk (by rw[hB];exact hg) hcap hlc (by unfold maxLen;have:=hlim.1;unfold lim at this;omega) hby).mono ?_;rintro e w' ⟨rfl,rfl⟩;have hRg:∃off,R g off:=⟨cur.size,hfr _ (Nat.le_refl _)⟩;have hk:∀bs:List Nat,g∉bs->bp w R (w.drew.freeze ⟨g,0,none⟩ l.length) R bs:=fun bs hbs=>GA hg hRg bs hbs
 have hblk':(w.drew.freeze ⟨g,0,none⟩ l.length).heap[b']?=some (.cells #[v0,.slice (some ⟨g,0,none⟩) l.length cap] sj (0,0)):=by
  rw[mg (hgn b' (by simp))];exact hblk
 have hobj':aI (w.drew.freeze ⟨g,0,none⟩ l.length) R (outs N) (.cells [p,.dat (.slice (.flat (.int .u8 (.ofNat n0))::es))]) b' (c0++[]):=by
  refine⟨_,sj,0,hblk',?_,fun j hj=>hR j (by simpa using hj),fun _=>⟨rfl,rfl⟩⟩;have q1:=h0.keep (hk c0 (fun hc=>hgn g (by simp[hc]) rfl));have q2:ai (w.drew.freeze ⟨g,0,none⟩ l.length) R (outs N) (.dat (.slice (.flat (.int .u8 (.ofNat n0))::es))) (.slice (some ⟨g,0,none⟩) l.length cap) []:=by
   have:=hrep.step (hk [] (by simp)).step
   rw[hlen] at this;exact bQ (d:=.slice _) this
  simpa using aD q1 (aD q2 aP)
 have hH:=hset _ R _ (c0++[]) (hk (pre++post) (fun hc=>hgn g (by simp at hc ⊢;rcases hc with h|h <;> simp[h]) rfl)) hobj';refine⟨_,.string ⟨l.toArray⟩,_,next,R,N,[],_,rfl,⟨rfl,rfl,rfl⟩,?_,by rw[nI];exact hH,?_,hnx,hk bsF (fun hc=>hgn g (by simp[hc]) rfl),fun _ _ h=>h⟩
 ·refine bC ?_;simp only[bJ,decide_eq_true_eq];have h2:=hlim.1;unfold lim at h2
  have:(ByteArray.mk ⟨l⟩).size=l.length:=rfl
  rw[this];omega
 simp only[List.nil_append,List.append_nil];have hp2:(b'::(c0++(pre++(post++bsF)))).Perm ((pre++(b'::c0)++post)++bsF):=by
  rw[List.perm_iff_count];intro q;simp only[List.count_append,List.count_cons];omega
 exact hp2.nodup_iff.1 (List.nodup_cons.1 hnd3).2
theorem adJ (L:Lays.n169 P ρ) (X:Builder.Extra P ρ) (hB:ρ.t 5=mQ) {args:List ac} {heap:Heap} {next:Nat} {r:eX} (h:WB args heap next=some r):ay P G (ρ.f 169) args heap next (XQ r):=by
 unfold WB at h
 split at h
 rotate_left
 ·simp at h
 rename_i k;rw[jS] at h;intro w R N cargs bsA bsH bsF hargs hheap hnd hnx hglob hF;obtain⟨b,hb,rfl,rfl⟩:=KW hargs
 split at h
 ·rename_i p d es hget;revert h;intro h
  split at h
  rotate_left
  ·simp at h
  rename_i l hp hl;simp only[Option.some.injEq] at h;subst h;exact N4 L X hB hb hheap hnd hnx hget hp hl
 ·rename_i p hget
  split at h
  rotate_left
  ·simp at h
  rename_i hp;simp only[Option.some.injEq] at h;subst h;obtain⟨pre,b',b1,post,rfl,hb',hobj,hset⟩:=aj.split hheap hget
  have:b'=b:=by simp only[outs] at hb';rw[hb] at hb';simpa using hb'.symm
  subst this;obtain⟨v0,v1,c0,c1,hblk,rfl,h0,h1,hR⟩:=rA hobj hp rfl;obtain⟨_,rfl,_⟩:=aC h1;refine (H4 L X sj b' v0 w hblk).mono ?_;rintro e w' ⟨rfl,rfl⟩;have hk:∀bs:List Nat,bp w R w.drew R bs:=fun bs=>Js bs
  exact⟨_,_,_,next,R,N,[],_,rfl,⟨rfl,rfl,rfl⟩,bC rfl,hheap.keep (hk _),by simpa using hnd,hnx,hk bsF,fun _ _ h=>h⟩
 simp at h
def yV:List ak->Option (List ByteArray)
 | []=>some []
 | .flat (.string s)::r=>(match yV r with|some l=>some (s::l)|none=>none)
 | _=>none
def uu (sep:List UInt8):List ByteArray->List UInt8
 | []=>[]
 | [x]=>x.data.toList
 | x::r=>x.data.toList++(sep++uu sep r)
theorem AF (sep:List UInt8):∀xs:List ByteArray,uu sep xs=Lib.join (xs.map (·.data.toList)) sep
 | []=>rfl
 | [x]=>by simp only[uu,List.map_cons,List.map_nil];rw[Lib.join_one]
 | x::y::r=>by
  have ih:=AF sep (y::r);simp only[uu,List.map_cons] at ih ⊢;rw[Lib.join_cons] at ih ⊢;rw[ih];simp[Lib.joinTail]
def QR (args:List ac) (heap:Heap) (next:Nat):Option eX:=
 match args with
 | [a,.dat (.flat (.string sep))]=>(match nz a with
  | .dat (.slice es)=>(match yV es with
   | some xs=>(match Nat.ble (uu sep.data.toList xs).length 140737488355328&&Nat.ble xs.length 140737488355328 with
    | true=>some ⟨.dat (.flat (.string ⟨⟨uu sep.data.toList xs⟩⟩)),heap,next⟩
    | false=>none)
   | none=>none)
  | _=>none)
 | _=>none
theorem wU:∀{es:List ak} {xs:List ByteArray},yV es=some xs->xs.length=es.length/\∀(j:Nat) x,xs[j]?=some x->es[j]?=some (.flat (.string x))
 | [],l,h=>by simp[yV] at h;subst h;exact⟨rfl,fun j x hj=>by simp at hj⟩
 | d::r,l,h=>by
  unfold yV at h
  split at h
  ·simp at *
  ·rename_i s r' heq;simp at heq;obtain⟨rfl,rfl⟩:=heq
   split at h
   ·rename_i l' hl';simp at h;subst h;obtain⟨h1,h2⟩:=wU hl';refine⟨by simp[h1],fun j x hj=>?_⟩
    cases j with
    | zero=>simp at hj;simp[hj]
    | succ j=>simpa using h2 j x (by simpa using hj)
   simp at h
  simp at h
theorem AE {w w':World} {R:Own} (h:Below w.heap.size w w') (bs:List Nat):bp w R w' (fun b off=>b < w.heap.size/\R b off) bs:=
 ⟨⟨h.os,h.tape,h.output,h.size,fun b hb hno=>⟨h.block b hb,fun off hr=>hno off hr.2⟩,fun b off hb hno=>⟨fun hr=>hno hr.2,World.cell?_of_block (a:=⟨b,off,none⟩) (h.block b hb)⟩,fun b hb=>fe (h.block b hb)⟩,
  fun b _ hb=>⟨h.block b hb,fun off hr=>⟨hb,hr⟩⟩⟩
theorem ZS (L:Lays.n156 P ρ) (X:Builder.Extra P ρ) {args:List ac} {heap:Heap} {next:Nat} {r:eX} (h:QR args heap next=some r):ay P G (ρ.f 156) args heap next (XQ r):=by
 unfold QR at h
 split at h
 rotate_left
 ·simp at h
 rename_i a sep
 split at h
 rotate_left
 ·simp at h
 rename_i es hnz
 split at h
 rotate_left
 ·simp at h
 rename_i xs hxs
 split at h
 rotate_left
 ·simp at h
 rename_i hc;simp only[Bool.and_eq_true,Nat.ble_eq] at hc;simp only[Option.some.injEq] at h;subst h;intro w R N cargs bsA bsH bsF hargs hheap hnd hnx hglob hF;obtain⟨v0,r1,c0,d1,rfl,rfl,h0,hr1⟩:=au hargs;obtain⟨v1,r2,c1,d2,rfl,rfl,h1,hr2⟩:=au hr1;obtain⟨rfl,rfl⟩:=aM hr2;replace h0:=kj h0;rw[hnz] at h0;obtain⟨rfl,hxr⟩:=dG h0;obtain⟨rfl,rfl,_⟩:=aC h1;obtain⟨hxl,hxe⟩:=wU hxs;have fin:∀{w':World},Below w.heap.size w w'->∃v cv heap' next' R' N' bsV bsH',Ending.returned (.string ⟨(Lib.join (xs.map (·.data.toList)) sep.data.toList).toArray⟩)=.returned cv/\XQ ⟨.dat (.flat (.string ⟨⟨uu sep.data.toList xs⟩⟩)),heap,next⟩ v heap' next'/\ai w' R' (outs N') v cv bsV/\aj w' R' (outs N') heap' bsH' ∧
   (bsV++(bsH'++bsF)).Nodup/\(∀o b,N' (.out o)=some b->o < next')/\bp w R w' R' bsF/\(∀o b,N (.out o)=some b->N' (.out o)=some b):=by
  intro w' hb;refine⟨_,_,_,next,_,N,[],bsH,rfl,⟨rfl,rfl,rfl⟩,?_,hheap.keep (AE hb bsH),by simpa using hnd,hnx,AE hb bsF,fun _ _ h=>h⟩;rw[←AF];refine bC ?_;simp only[bJ,decide_eq_true_eq]
  have:(ByteArray.mk ⟨uu sep.data.toList xs⟩).size=(uu sep.data.toList xs).length:=rfl
  rw[this];omega
 by_cases hne:es=[]
 ·subst hne;have hx0:xs=[]:=by simpa using hxl
  subst hx0;have hv:∃a c,v0=.slice a 0 c:=by cases hxr with|nil a c=>exact⟨a,c,rfl⟩|slice b off cap s es vs=>exact⟨_,_,rfl⟩
  obtain⟨a,c,rfl⟩:=hv;refine (Any.strings_Join_none L X a c sep w).mono ?_;rintro e w' ⟨rfl,rfl⟩;exact fin (Below.refl _ _)
 have hs1:∀d∈es,d.cells.length=1:=by
  intro d hd;obtain⟨j,hj⟩:=List.getElem?_of_mem hd;have hjl:j < xs.length:=by
   rw[hxl]
   rcases Nat.lt_or_ge j es.length with h'|h'
   ·exact h'
   rw[List.getElem?_eq_none h'] at hj;simp at hj
  have:=hxe j xs[j] (by simp)
  rw[hj] at this;simp at this;rw[this];rfl
 obtain⟨bk,off,cap,cells,rfl,hcap,hcs,hcell⟩:=kP hxr hne hs1;have hfl:es.flatMap ak.cells=es:=by
  have key:∀(es':List ak),(∀e∈es',∃s,e=ak.flat (.string s))->es'.flatMap ak.cells=es':=by
   intro es'
   induction es' with
   | nil=>intro _;rfl
   | cons e es' ih=>
    intro hall;obtain⟨s,rfl⟩:=hall e (by simp);simp only[List.flatMap_cons,ak.cells,List.singleton_append];rw[ih (fun e he=>hall e (by simp[he]))]
  refine key _ (fun e he=>?_);obtain⟨j,hj⟩:=List.getElem?_of_mem he;have hjl:j < xs.length:=by
   rw[hxl]
   rcases Nat.lt_or_ge j es.length with h'|h'
   ·exact h'
   rw[List.getElem?_eq_none h'] at hj;simp at hj
  have:=hxe j xs[j] (by simp)
  rw[hj] at this;simp at this;exact⟨_,this⟩
 rw[hfl] at hcs;have hcells:∀(j:Nat) x,xs[j]?=some x->w.cell? ⟨bk,off+j,none⟩=some (.string x):=by
  intro j x hx;obtain⟨v,hv,hrv⟩:=qX hcs (hxe j x hx);have hc:=(hcell j v hv).1
  cases hrv with
  | flat _=>exact hc
 have hpos:0 < xs.length:=by
  rcases Nat.eq_zero_or_pos xs.length with h'|h'
  ·rw[hxl] at h';exact absurd (List.eq_nil_of_length_eq_zero h') hne
  exact h'
 have hbk:bk < w.heap.size:=by
  have:=hcells 0 xs[0] (by simp)
  exact block_lt_of_cell this
 rw[←hxl];refine (Any.strings_Join L X bk off cap xs sep w hcells hbk hc.2 (by rw[hxl];exact hcap) (by rw[←AF];exact hc.1)).mono ?_;rintro e w' ⟨rfl,hb⟩;exact fin hb
end
end Go.Tp
namespace Go.Proofs.YtmpmgmmcaghacaaGreatDoor
open Go.Tp Go.Shelf
def encS (l:List (List UInt8)):List ak:=l.map fun b=>.flat (.string ⟨⟨b⟩⟩)
def Zx:List (List UInt8):=[[88,97],[88,98],[88,99],[88,100]]
def HH:List (List UInt8):=[[66,111,120],[73,110,116],[80,97,105,114],[65],[120,95,49],[],[116,117,112,108,101],[65,110,121],[49,120],[97,45,98],[97,98,99,100,101,102,103,104,105,106,107,108,109,110,111,112,113,114,115,116,117,118,119,120,121]]
def H5:List (List UInt8):=[[],[97,32,98],[113,117,111,116,101,32,34,32,97,110,100,32,92],[126],[40,110,111,116,32,97,32,108,105,115,116,41],[59,32,110,111,32,99,111,109,109,101,110,116]]
def AP:List (List UInt8):=[[102],[103],[104]]
def JK:List (List UInt8):=[[105,116,101,109],[114,97,100,105,117,115],[102,105,114,115,116],[105,110,110,101,114],[112,97,114,116],[110,111,110,101]]
def Po:List (List UInt8):=[[],[97,100,100],[115,117,98],[109,117,108],[108,101,115,115],[110,111,116],[99,111,110,99,97,116],[115,97,109,101]]
def lq:List (List UInt8):=[[73,110,116],[66,111,111,108],[83,116,114,105,110,103],[78,105,108]]
def tG:List (List UInt8):=[[65,110,121],[78,101,118,101,114],[116,117,112,108,101],[117,110,105,111,110],[101,120,105,115,116,115]]
def cM:bA:=fun g=>match g with|0=>some [.slice (encS HH)]|1=>some [.slice (encS H5)]|2=>some [.slice (encS AP)]|3=>some [.slice (encS JK)]|4=>some [.slice (encS Po)]|5=>some [.slice (encS lq)]|8=>some [.slice (encS tG)]|_=>none
theorem JS:(env bW.nA).Ok Tryz.prog:=by rw[Ri];exact Zz
noncomputable abbrev ba:=env bW.nA
abbrev ej:=Exit→aa→Prop
def Ue:lH:=fun g args heap next=>
 match g with
 | 72=>RC args heap next
 | 44=>WB args heap next
 | 77=>QR args heap next
 | _=>none
theorem QM:Lays.n240 Tryz.prog Tryz.jM:=
 {mixed:=Tryz.bZ.mixed,f240:=Tryz.bZ.f240,f276:=Tryz.bZ.f276,
  t0:=Tryz.bZ.t0,a0:=Tryz.bZ.a0,z0:=Tryz.bZ.z0,v0:=Tryz.bZ.v0,
  t4:=Tryz.bZ.t4,a4:=Tryz.bZ.a4,z4:=Tryz.bZ.z4,v4:=Tryz.bZ.v4,
  t9:=Tryz.bZ.t9,a9:=Tryz.bZ.a9,z9:=Tryz.bZ.z9,v9:=Tryz.bZ.v9,
  t20:=Tryz.bZ.t20,a20:=Tryz.bZ.a20,z20:=Tryz.bZ.z20,v20:=Tryz.bZ.v20,
  t70:=Tryz.bZ.t70,a70:=Tryz.bZ.a70,z70:=Tryz.bZ.z70,v70:=Tryz.bZ.v70,
  t72:=Tryz.bZ.t72,a72:=Tryz.bZ.a72,z72:=Tryz.bZ.z72,v72:=Tryz.bZ.v72,
  t164:=Tryz.bZ.t164,a164:=Tryz.bZ.a164,z164:=Tryz.bZ.z164,v164:=Tryz.bZ.v164 }
theorem Ud:Kg Tryz.prog cM Ue:=by
 intro f args heap next r h;unfold Ue at h
 split at h
 ·exact ZU (ρ:=Tryz.jM) QM Tryz.my.toX72 rfl h
 ·exact adJ (ρ:=Tryz.qm) Tryz.Ug Tryz.vj rfl h
 ·exact ZS (ρ:=Tryz.jM) Tryz.bZ Tryz.my h
 simp at h
noncomputable def X:lH:=C8 ba cM bV bi JE.find Ue 3000 60
theorem dE:Kg Tryz.prog cM X:=fun f args heap next r h=>xA 3000 JS uD (M:=Ue) Ud 60 f args heap next r h
theorem UT (ls bs:List Nat) {g:FuncId} {x:qS} (hx:JE.find g=some x) {args:List ac} {heap:Heap} {next:Nat} {r:eX} (h:(Pf (Sv ls) (Sv bs) ba cM bV bi x g args heap next).Ok Tryz.prog cM (fun y=>y=r)) :
  ay Tryz.prog cM g args heap next (XQ r):=Du (KJ JS uD hx (fun _ _=>h))
abbrev KD:=cL Tryz.prog cM
abbrev KC:=ay Tryz.prog cM
theorem co (ls bs:List Nat) {g:FuncId} {x:qS} {args:List ac} {heap:Heap} {next:Nat} {r:eX} (h:(Pf (Sv ls) (Sv bs) ba cM bV bi x g args heap next).Ok Tryz.prog cM (fun y=>y=r)) (hx:JE.find g=some x:=by kernel_rfl):ay Tryz.prog cM g args heap next (XQ r):=UT ls bs hx h
theorem aq (ls bs:List Nat) {H:Hints} {n:Nat} {live:Nat->Nat} {c:Code} {f:ab} {T:ej}
  (h:(tL (Sv ls) (Sv bs) ba cM H n live c f (fun r=>.fin r)).Ok Tryz.prog cM (fun r=>T r.1 (r.2.al n))) (hc:dh H c=true:=by kernel_rfl):cL Tryz.prog cM c T (f.al n):=Mz JS live hc h
theorem abT {α:Type} {T:α->Prop} {q:Qy α} {c b:Bool} (hc:c=b) (e:q.Bo=some (!c)) (h:(q.Z4 (!b)).Ok Tryz.prog cM T):q.Ok Tryz.prog cM T:=bn (by rw[hc]) e h
abbrev ae (g:FuncId) (args:List ac) (v:ac):Prop:=ay Tryz.prog cM g args [] 0 (XQ ⟨v,[],0⟩)
def i64 (n:Int):ak:=.flat (.int .i64 n)
def sb (b:List UInt8):ak:=.flat (.string ⟨⟨b⟩⟩)
def nl:ak:=.flat (.slice none 0 0)
def sl:List ak->ak
 | []=>nl
 | d::r=>.slice (d::r)
inductive Ty where
 |mk (k:Int) (nm:List UInt8) (ix:Int) (args:List Ty)
mutual
def Ty.cells:Ty->List ak
 | .mk k nm ix args=>[i64 k,sb nm,i64 ix,sl (ax args)]
def ax:List Ty->List ak
 | []=>[]
 | t::r=>.agg t.cells::ax r
end
def Ty.enc (t:Ty):ak:=.agg t.cells
theorem qz:∀l:List Ty,ax l=l.map Ty.enc
 | []=>by simp[ax]
 | t::r=>by simp[ax,qz r,Ty.enc]
theorem aH (l:List Ty):(ax l).length=l.length:=by simp[qz]
theorem Rq {l:List Ty} {i:Nat} {t:Ty} (h:l[i]?=some t):(ax l)[i]?=some t.enc:=by simp[qz,h]
mutual
def Ty.size:Ty->Nat
 | .mk _ _ _ args=>aQ args+1
def aQ:List Ty->Nat
 | []=>0
 | t::r=>t.size+aQ r
end
theorem ld {l:List Ty} {i:Nat} {t:Ty} (h:l[i]?=some t):aQ (l.take (i+1))=aQ (l.take i)+t.size:=by
 induction l generalizing i with
 | nil=>simp at h
 | cons x r ih=>
  cases i with
  | zero=>simp at h;subst h;simp[aQ]
  | succ i=>
   simp at h;simp only[List.take_succ_cons,aQ];rw[ih h];omega
theorem tx {l:List Ty} (i:Nat):aQ (l.take i)<=aQ l:=by
 induction l generalizing i with
 | nil=>simp[aQ]
 | cons x r ih=>
  cases i with
  | zero=>simp[aQ]
  | succ i=>simp only[List.take_succ_cons,aQ];have:=ih i;omega
theorem wrap_add {n m:Nat} (h:n+m < 9223372036854775808):an .i64 (ofNat n+ofNat m)=ofNat (n+m):=by
 rw[cQ];exact wrap_i64 (by simp;omega) (by simp;omega)
noncomputable def tiT:TI:=match Go.Tp.elemOf ba 38 with|some t=>t|none=>default
theorem NU:Go.Tp.elemOf ba 38=some tiT:=by kernel_rfl
theorem yP:tiT.size=4:=by kernel_rfl
theorem pF {l:List Ty} {i:Nat} {t:Ty} (h:l[i]?=some t):ap ba 38 [.dat (.slice (ax l)),.dat (.flat (.int .i64 (ofNat i)))]=some ⟨.ref t.cells,.keep⟩:=
 pd NU rfl (Rq h) (by rw[yP];cases t;rfl) (by rw[yP];decide)
theorem get_mem {l:List Ty} {i:Nat} (h:i < (ax l).length):∃t,l[i]?=some t/\t∈l:=by
 rw[aH] at h;exact⟨l[i],List.getElem?_eq_getElem h,List.getElem_mem h⟩
noncomputable def VW:Hints:=⟨bV,D7,bi,rowsOf bi 175⟩
def mz (l:List Ty) (i n:Int):ab:=⟨[(9,iv i),(8,iv (ofNat (ax l).length)),(7,.dat (.slice (ax l))),(3,iv n)],[],[],0⟩
def qV (l:List Ty) (n:Int):ab:=⟨[(10,bv false),(9,iv (ofNat (ax l).length)),(8,iv (ofNat (ax l).length)),(7,.dat (.slice (ax l))),(3,iv n)],[],[],0⟩
theorem S4 {k:Int} {nm:List UInt8} {ix:Int} {l:List Ty} (ih:∀t∈l,ae 175 [.dat t.enc] (iv (ofNat t.size))) (hb:aQ l < 1000000000) :
  ae 175 [.dat (.agg [i64 k,sb nm,i64 ix,.slice (ax l)])] (iv (ofNat (aQ l+1))):=by
 have hlen:l.length<=aQ l:=by
  clear ih hb
  induction l with
  | nil=>simp[aQ]
  | cons t r ih=>cases t;simp only[List.length_cons,aQ,Ty.size];omega
 refine co [] [] (x:=.of Tryz.f175 D7 yt) ?_;refine iF (n:=vP) (c:=roundOf Tryz.f175 0) (f:=mz l (ofNat 0) (ofNat (1+aQ (l.take 0)))) (L:=fun e s=>e=.exit 0/\s=(qV l (ofNat (1+aQ l))).al vP) (by kernel_rfl) (by kernel_rfl) ?_ ?_
 ·refine bm (St:=fun i=>(mz l (ofNat i) (ofNat (1+aQ (l.take i)))).al vP) (ax l).length ?_ ?_ (i:=0) (Nat.zero_le _)
  ·intro i hi;obtain⟨t,ht,hm⟩:=get_mem hi;have hs:=ld ht;have hle:=tx (l:=l) (i+1);rw[aH] at hi;have hi':i < (ax l).length:=by rw[aH];exact hi
   have e:xU (fun s=>s=(mz l (ofNat (i+1)) (ofNat (1+aQ (l.take (i+1))))).al vP) (fun e s=>e=.exit 0/\s=(qV l (ofNat (1+aQ l))).al vP) .normal
     ((mz l (an .i64 (ofNat i+1)) (an .i64 (ofNat (1+aQ (l.take i))+ofNat t.size))).al vP):=by
    rw[bb (by omega),wrap_add (by omega),hs];show _=_;rw[Nat.add_assoc]
   have hc:=ih t hm;clear hs hle ih hb hlen;obtain⟨k2,nm2,ix2,a2⟩:=t
   rcases a2 with _|⟨b,c⟩ <;>
   ·refine aq [10] [11] (H:=VW) (live:=yt) ?_;refine bn (b:=true) (br hi') (by kernel_rfl) ?_;refine oo (pF ht) (on hc ?_);exact bS (ex:=.normal) (mz l (an .i64 (ofNat i+1)) (an .i64 (ofNat (1+aQ (l.take i))+ofNat (Ty.size _)))) (by kernel_rfl) (by kernel_rfl) e
  refine aq [10] [11] (H:=VW) (live:=yt) ?_;refine bn (b:=false) (cj (i:=(ax l).length) (L:=(ax l).length) (by omega)) (by kernel_rfl) ?_;refine bS (ex:=.exit 0) (qV l (ofNat (1+aQ (l.take (ax l).length)))) (by kernel_rfl) (by kernel_rfl) ⟨rfl,?_⟩;rw[aH,List.take_length]
 rintro e s ⟨rfl,rfl⟩;refine⟨_,rfl,fX (a:=⟨iv (ofNat (1+aQ l)),[],0⟩) (by kernel_rfl) ?_⟩;rw[Nat.add_comm]
theorem Ou {k:Int} {nm:List UInt8} {ix:Int}:ae 175 [.dat (.agg [i64 k,sb nm,i64 ix,nl])] (iv (ofNat 1)):=dE _ _ _ _ _ (by kernel_rfl)
mutual
theorem RP:∀t:Ty,t.size < 1000000000->ae 175 [.dat t.enc] (iv (ofNat t.size))
 | .mk k nm ix [],_=>Ou
 | .mk k nm ix (t::r),h=>by
  have h2:aQ (t::r) < 1000000000:=by simp only[Ty.size] at h;omega
  have:=@S4 k nm ix (t::r) (LS (t::r) h2) h2
  exact this
theorem LS:∀l:List Ty,aQ l < 1000000000->∀t∈l,ae 175 [.dat t.enc] (iv (ofNat t.size))
 | [],_,t,ht=>by simp at ht
 | u::r,h,t,ht=>by
  simp only[aQ] at h
  rcases List.mem_cons.1 ht with h1|ht
  ·rw[h1];exact RP u (by omega)
  exact LS r (by omega) t ht
end
mutual
def Ty.depth:Ty->Nat
 | .mk _ _ _ args=>db args+1
def db:List Ty->Nat
 | []=>0
 | t::r=>max t.depth (db r)
end
theorem xD {l:List Ty} {i:Nat} {t:Ty} (h:l[i]?=some t):db (l.take (i+1))=max (db (l.take i)) t.depth:=by
 induction l generalizing i with
 | nil=>simp at h
 | cons x r ih=>
  cases i with
  | zero=>simp at h;subst h;simp[db]
  | succ i=>
   simp at h;simp only[List.take_succ_cons,db];rw[ih h,Nat.max_assoc]
mutual
theorem oS:∀t:Ty,t.depth<=t.size
 | .mk _ _ _ args=>by simp only[Ty.depth,Ty.size];have:=jR args;omega
theorem jR:∀l:List Ty,db l<=aQ l
 | []=>by simp[db,aQ]
 | t::r=>by simp only[db,aQ];have:=oS t;have:=jR r;omega
end
theorem abY {n m:Nat}:bW.nA.mx (ofNat n) (ofNat m)=ofNat (max n m):=by
 show (match aF (ofNat n) (ofNat m) with|true=>ofNat m|false=>ofNat n)=_;rw[gv]
 by_cases h:n < m
 ·rw[decide_eq_true h];simp;omega
 rw[decide_eq_false h];simp;omega
theorem gw (l:List Ty):l.length<=aQ l:=by
 induction l with
 | nil=>simp[aQ]
 | cons t r ih=>cases t;simp only[List.length_cons,aQ,Ty.size];omega
noncomputable def Q1:Hints:=⟨bV,D6,bi,rowsOf bi 176⟩
theorem Rv {k:Int} {nm:List UInt8} {ix:Int} {l:List Ty} (ih:∀t∈l,ae 176 [.dat t.enc] (iv (ofNat t.depth))) (hb:aQ l < 1000000000) :
  ae 176 [.dat (.agg [i64 k,sb nm,i64 ix,.slice (ax l)])] (iv (ofNat (db l+1))):=by
 have hlen:=gw l;have hdl:=jR l;rw[←bb (by omega)];refine co [] [] (x:=.of Tryz.f176 D6 yr) ?_;refine iF (n:=vO) (c:=roundOf Tryz.f176 0) (f:=mz l (ofNat 0) (ofNat (db (l.take 0)))) (L:=fun e s=>e=.exit 0/\s=(qV l (ofNat (db l))).al vO) (by kernel_rfl) (by kernel_rfl) ?_ ?_
 ·refine bm (St:=fun i=>(mz l (ofNat i) (ofNat (db (l.take i)))).al vO) (ax l).length ?_ ?_ (i:=0) (Nat.zero_le _)
  ·intro i hi;obtain⟨t,ht,hm⟩:=get_mem hi;have e:xU (fun s=>s=(mz l (ofNat (i+1)) (ofNat (db (l.take (i+1))))).al vO) (fun e s=>e=.exit 0/\s=(qV l (ofNat (db l))).al vO) .normal
     ((mz l (an .i64 (ofNat i+1)) (bW.nA.mx (ofNat (db (l.take i))) (ofNat t.depth))).al vO):=by
    rw[aH] at hi;rw[bb (by omega),abY,xD ht];rfl
   have hc:=ih t hm;clear ih hb hlen hdl;obtain⟨k2,nm2,ix2,a2⟩:=t
   rcases a2 with _|⟨b,c⟩ <;>
   ·refine aq [10] [11] (H:=Q1) (live:=yr) ?_;refine bn (b:=true) (br hi) (by kernel_rfl) ?_;refine oo (pF ht) (on hc ?_);exact bS (ex:=.normal) (mz l (an .i64 (ofNat i+1)) (bW.nA.mx (ofNat (db (l.take i))) (ofNat (Ty.depth _)))) (by kernel_rfl) (by kernel_rfl) e
  refine aq [10] [11] (H:=Q1) (live:=yr) ?_;refine bn (b:=false) (cj (i:=(ax l).length) (L:=(ax l).length) (by omega)) (by kernel_rfl) ?_;refine bS (ex:=.exit 0) (qV l (ofNat (db (l.take (ax l).length)))) (by kernel_rfl) (by kernel_rfl) ⟨rfl,?_⟩;rw[aH,List.take_length]
 rintro e s ⟨rfl,rfl⟩;exact⟨_,rfl,fX (by kernel_rfl) rfl⟩
theorem Nf {k:Int} {nm:List UInt8} {ix:Int}:ae 176 [.dat (.agg [i64 k,sb nm,i64 ix,nl])] (iv (ofNat 1)):=dE _ _ _ _ _ (by kernel_rfl)
mutual
theorem LV:∀t:Ty,t.size < 1000000000->ae 176 [.dat t.enc] (iv (ofNat t.depth))
 | .mk k nm ix [],_=>Nf
 | .mk k nm ix (t::r),h=>by
  have h2:aQ (t::r) < 1000000000:=by simp only[Ty.size] at h;omega
  have:=@Rv k nm ix (t::r) (Hz (t::r) h2) h2
  exact this
theorem Hz:∀l:List Ty,aQ l < 1000000000->∀t∈l,ae 176 [.dat t.enc] (iv (ofNat t.depth))
 | [],_,t,ht=>by simp at ht
 | u::r,h,t,ht=>by
  simp only[aQ] at h
  rcases List.mem_cons.1 ht with h1|ht
  ·rw[h1];exact LV u (by omega)
  exact Hz r (by omega) t ht
end
def ey (k:Int) (i:Nat):Nat:=if aB k 6=true/\i=1 then 1 else 0
mutual
def Ty.closed:Ty->Nat->Bool
 | .mk k _ ix args,u=>!(aB k 5&&!aF ix (ofNat u))&&fA k 0 args u
def fA (k:Int):Nat->List Ty->Nat->Bool
 | _,[],_=>true
 | i,t::r,u=>t.closed (u+ey k i)&&fA k (i+1) r u
end
theorem Dl (k:Int) (nm:List UInt8) (ix:Int) (a:ak) (ha:a=nl∨∃es,a=.slice es) (i:Nat):ae 196 [.dat (.agg [i64 k,sb nm,i64 ix,a]),iv (ofNat i)] (iv (ofNat (ey k i))):=by
 rcases ha with rfl|⟨es,rfl⟩ <;>
 ·refine co [7,10] [] (x:=.of Tryz.f196 IN Lf) ?_;refine Gi (c:=aB k 6) (by kernel_rfl) (fun h6=>?_) (fun h6=>?_)
  ·refine Gi (c:=aB (ofNat i) (ofNat 1)) (by kernel_rfl) (fun h1=>?_) (fun h1=>?_)
   ·rw[A0,decide_eq_true_eq] at h1
    have:ey k i=1:=by unfold ey;rw[if_pos ⟨h6,h1⟩]
    rw[this];exact fi
   rw[A0,decide_eq_false_iff_not] at h1
   have:ey k i=0:=by unfold ey;rw[if_neg (fun h=>h1 h.2)]
   rw[this];exact fi
  have:ey k i=0:=by unfold ey;rw[if_neg (fun h=>by rw[h6] at h;simp at h)]
  rw[this];exact fi
noncomputable def Ew:Hints:=⟨bV,Ab,bi,rowsOf bi 204⟩
def ab3 (k:Int) (nm:List UInt8) (ix:Int) (l:List Ty):Heap:=[(.loc 2,.cells [iv k,.dat (sb nm),iv ix,.dat (.slice (ax l))])]
def SZ (k:Int) (nm:List UInt8) (ix:Int) (l:List Ty) (u:Nat) (i:Int):ab:=⟨[(19,iv i),(18,iv (ofNat (ax l).length)),(17,.dat (.slice (ax l))),(2,.ptr (.loc 2) 0),(1,iv (ofNat u))],ab3 k nm ix l,[],0⟩
def Ol (k:Int) (nm:List UInt8) (ix:Int) (l:List Ty) (u:Nat):ab:=⟨[(20,bv false),(19,iv (ofNat (ax l).length)),(18,iv (ofNat (ax l).length)),(17,.dat (.slice (ax l))),(2,.ptr (.loc 2) 0),(1,iv (ofNat u))],ab3 k nm ix l,[],0⟩
def Om:ab:=⟨[(4,bv false)],[],[],0⟩
theorem iP {l:List Ty} {i:Nat} {t:Ty} (h:l[i]?=some t):l.drop i=t::l.drop (i+1):=by
 obtain⟨hi,rfl⟩:=List.getElem?_eq_some_iff.1 h;exact List.drop_eq_getElem_cons hi
theorem Hq {k:Int} {nm:List UInt8} {ix:Int} {l:List Ty} {u:Nat} (ih:∀t∈l,∀v,v<=u+1->ae 204 [.dat t.enc,iv (ofNat v)] (bv (t.closed v))) (hb:aQ l < 1000000000) (hu:u < 2000000000) :
  KD (.loop (roundOf Tryz.f204 0)) (fun e s=>(e=.exit 0/\fA k 0 l u=true/\s=(Ol k nm ix l u).al jg)∨(e=.ret/\fA k 0 l u=false/\s=Om.al jg)) ((SZ k nm ix l u (ofNat 0)).al jg):=by
 have hlen:=gw l;refine cV (St:=fun i=>(SZ k nm ix l u (ofNat i)).al jg) (fun i=>fA k 0 l u=fA k i (l.drop i) u) (ax l).length ?_ ?_ (i:=0) (Nat.zero_le _) rfl
 ·intro i hi hI;obtain⟨t,ht,hm⟩:=get_mem hi;have hcl:fA k i (l.drop i) u=(t.closed (u+ey k i)&&fA k (i+1) (l.drop (i+1)) u):=by rw[iP ht];rfl
  have hbn:ey k i<=1:=by unfold ey;split <;> omega
  have hc:ae 204 [.dat t.enc,iv (an .i64 (ofNat u+ofNat (ey k i)))] (bv (t.closed (u+ey k i))):=by
   rw[wrap_add (by omega)];exact ih t hm _ (by omega)
  have hw:an .i64 (ofNat i+1)=ofNat (i+1):=bb (by rw[aH] at hi;omega);have hbi:=Dl k nm ix (.slice (ax l)) (.inr ⟨_,rfl⟩) i;generalize ht2:t.closed (u+ey k i)=tc at hc hcl;clear ih hb hlen hu hbn ht2;obtain⟨k2,nm2,ix2,a2⟩:=t
  rcases a2 with _|⟨b,c⟩ <;> cases tc <;>
  ·refine aq [20] [22] (H:=Ew) (live:=re) ?_;refine bn (b:=true) (br hi) (by kernel_rfl) ?_;refine oo (pF ht) (on hbi (on hc ?_))
   first
    |exact bS (ex:=.normal) (SZ k nm ix l u (an .i64 (ofNat i+1))) (by kernel_rfl) (by kernel_rfl) ⟨by rw[hw],by rw[hI,hcl];rfl⟩
    |exact bS (ex:=.ret) Om (by kernel_rfl) (by kernel_rfl) (.inr ⟨rfl,by rw[hI,hcl];rfl,rfl⟩)
 intro hI;have h1:fA k 0 l u=true:=by
  rw[hI,aH,List.drop_length];rfl
 refine aq [20] [22] (H:=Ew) (live:=re) ?_;refine bn (b:=false) (cj (i:=(ax l).length) (L:=(ax l).length) (by omega)) (by kernel_rfl) ?_;exact bS (ex:=.exit 0) (Ol k nm ix l u) (by kernel_rfl) (by kernel_rfl) (.inl ⟨rfl,h1,rfl⟩)
theorem B7 (k:Int) (nm:List UInt8) (ix:Int) (l:List Ty) (u:Nat):(Ty.mk k nm ix l).closed u=(!(aB k 5&&!aF ix (ofNat u))&&fA k 0 l u):=by rw[Ty.closed]
theorem Nn {k:Int} {nm:List UInt8} {ix:Int} {l:List Ty} {u:Nat} (ih:∀t∈l,∀v,v<=u+1->ae 204 [.dat t.enc,iv (ofNat v)] (bv (t.closed v))) (hb:aQ l < 1000000000) (hu:u < 2000000000) :
  ae 204 [.dat (.agg [i64 k,sb nm,i64 ix,.slice (ax l)]),iv (ofNat u)] (bv ((Ty.mk k nm ix l).closed u)):=by
 have hl:=@Hq k nm ix _ _ ih hb hu;rw[B7];clear ih hb hu;have key:∀c5:Bool,c5=aB k 5->∀cu:Bool,cu=!aF ix (ofNat u)->ae 204 [.dat (.agg [i64 k,sb nm,i64 ix,.slice (ax l)]),iv (ofNat u)] (bv (!(c5&&cu)&&fA k 0 l u)):=by
  intro c5 h5 cu hcu;refine co [9,14] [] (x:=.of Tryz.f204 Ab re) ?_;refine bn (b:=c5) h5.symm (by kernel_rfl) ?_;have go:∀{q:Qy eX} (hs:q.Gw.al jg=(SZ k nm ix l u (ofNat 0)).al jg) (e:q.CT=some (jg,roundOf Tryz.f204 0))
    (e1:(q.ofL (.exit 0,Ol k nm ix l u)).JL=some ⟨bv true,[],0⟩) (e2:(q.ofL (.ret,Om)).JL=some ⟨bv false,[],0⟩),q.Ok Tryz.prog cM (fun y=>y=⟨bv (fA k 0 l u),[],0⟩):=by
   intro q hs e e1 e2;refine iF (n:=jg) e hs hl ?_;rintro ex s (⟨rfl,hc,rfl⟩|⟨rfl,hc,rfl⟩)
   ·rw[hc];exact⟨_,rfl,fX e1 rfl⟩
   rw[hc];exact⟨_,rfl,fX e2 rfl⟩
  cases c5 with
  | false=>exact go (by kernel_rfl) (by kernel_rfl) (by kernel_rfl) (by kernel_rfl)
  | true=>
   refine bn (b:=cu) hcu.symm (by kernel_rfl) ?_
   cases cu
   ·exact go (by kernel_rfl) (by kernel_rfl) (by kernel_rfl) (by kernel_rfl)
   exact fi
 exact key _ rfl _ rfl
def Vv (k:Int) (nm:List UInt8) (ix:Int) (u:Nat):ab:=⟨[(19,iv 0),(18,iv 0),(17,.dat nl),(2,.ptr (.loc 2) 0),(1,iv (ofNat u))],[(.loc 2,.cells [iv k,.dat (sb nm),iv ix,.dat nl])],[],0⟩
def On (k:Int) (nm:List UInt8) (ix:Int) (u:Nat):ab:=⟨[(20,bv false),(19,iv 0),(18,iv 0),(17,.dat nl),(2,.ptr (.loc 2) 0),(1,iv (ofNat u))],[(.loc 2,.cells [iv k,.dat (sb nm),iv ix,.dat nl])],[],0⟩
theorem Hp (k:Int) (nm:List UInt8) (ix:Int) (u:Nat):iO X ba cM Ew jg re 3000 (.loop (roundOf Tryz.f204 0)) (Vv k nm ix u)=some (.exit 0,On k nm ix u):=by kernel_rfl
theorem JY (k:Int) (nm:List UInt8) (ix:Int) (u:Nat):ae 204 [.dat (.agg [i64 k,sb nm,i64 ix,nl]),iv (ofNat u)] (bv ((Ty.mk k nm ix []).closed u)):=by
 rw[B7];have key:∀c5:Bool,c5=aB k 5->∀cu:Bool,cu=!aF ix (ofNat u)->ae 204 [.dat (.agg [i64 k,sb nm,i64 ix,nl]),iv (ofNat u)] (bv (!(c5&&cu)&&fA k 0 [] u)):=by
  intro c5 h5 cu hcu;refine co [9,14] [] (x:=.of Tryz.f204 Ab re) ?_;refine bn (b:=c5) h5.symm (by kernel_rfl) ?_;have go:∀{q:Qy eX} (hs:q.Gw.al jg=(Vv k nm ix u).al jg) (e:q.CT=some (jg,roundOf Tryz.f204 0))
    (e1:(q.ofL (.exit 0,On k nm ix u)).JL=some ⟨bv true,[],0⟩),q.Ok Tryz.prog cM (fun y=>y=⟨bv true,[],0⟩):=by
   intro q hs e e1;refine iF (n:=jg) e hs (RL JS dE 3000 (by kernel_rfl) (Hp k nm ix u)) ?_;rintro ex s ⟨rfl,rfl⟩;exact⟨_,rfl,fX e1 rfl⟩
  cases c5 with
  | false=>exact go (by kernel_rfl) (by kernel_rfl) (by kernel_rfl)
  | true=>
   refine bn (b:=cu) hcu.symm (by kernel_rfl) ?_
   cases cu
   ·exact go (by kernel_rfl) (by kernel_rfl) (by kernel_rfl)
   exact fi
 exact key _ rfl _ rfl
mutual
theorem HB:∀(t:Ty) (u:Nat),t.size < 1000000000->u+t.depth < 2000000000->ae 204 [.dat t.enc,iv (ofNat u)] (bv (t.closed u))
 | .mk k nm ix [],u,_,_=>JY k nm ix u
 | .mk k nm ix (t::r),u,h,hu=>by
  have h2:aQ (t::r) < 1000000000:=by simp only[Ty.size] at h;omega
  have h3:u+1+db (t::r) < 2000000000:=by simp only[Ty.depth] at hu;omega
  exact Nn (l:=t::r) (fun x hx v hv=>wA (t::r) v h2 (by omega) x hx) h2 (by omega)
theorem wA:∀(l:List Ty) (u:Nat),aQ l < 1000000000->u+db l < 2000000000->∀t∈l,ae 204 [.dat t.enc,iv (ofNat u)] (bv (t.closed u))
 | [],_,_,_,t,ht=>by simp at ht
 | x::r,u,h,hu,t,ht=>by
  simp only[aQ] at h;simp only[db] at hu
  rcases List.mem_cons.1 ht with h1|ht
  ·rw[h1];exact HB x u (by omega) (by omega)
  exact wA r u (by omega) (by omega) t ht
end
mutual
def Ty.thin:Ty->Prop
 | .mk _ _ _ l=>l.length < 1000000000/\tt l
def tt:List Ty->Prop
 | []=>True
 | t::r=>t.thin/\tt r
end
mutual
theorem DG:∀t:Ty,t.size < 1000000000->t.thin
 | .mk _ _ _ l,h=>by
  simp only[Ty.size] at h
  have:=gw l
  simp only[Ty.thin];exact⟨by omega,Fg l (by omega)⟩
theorem Fg:∀l:List Ty,aQ l < 1000000000->tt l
 | [],_=>by simp[tt]
 | t::r,h=>by
  simp only[aQ] at h;simp only[tt];exact⟨DG t (by omega),Fg r (by omega)⟩
end
theorem Bh (ls bs:List Nat) {g:FuncId} {x:qS} (hx:JE.find g=some x) {args:List ac} {heap:Heap} {next:Nat} {T:eX->Prop} (h:(Pf (Sv ls) (Sv bs) ba cM bV bi x g args heap next).Ok Tryz.prog cM T) :
  KC g args heap next (fun v h m=>T ⟨v,h,m⟩):=KJ JS uD hx (fun _ _=>h)
def pe (b:Bool) (v:ac):Prop:=∃j:Int,v=iv j/\aF j (ofNat 0)=!b
theorem HG {l:List Ty} {p:Ty->Bool} {i:Nat} {t:Ty} (h:l[i]?=some t):(l.drop i).any p=(p t||(l.drop (i+1)).any p):=by rw[iP h];rfl
noncomputable def yy:Hints:=⟨bV,Aa,bi,rowsOf bi 205⟩
def iM:ac:=.fn (.func 209) [] []
def jx (l:List Ty) (i:Int):ab:=⟨[(8,iv i),(7,iv (ofNat (ax l).length)),(0,.dat (.slice (ax l))),(1,iM)],[],[],0⟩
def pK (l:List Ty):ab:=⟨[(9,bv false),(8,iv (ofNat (ax l).length)),(7,iv (ofNat (ax l).length)),(0,.dat (.slice (ax l))),(1,iM)],[],[],0⟩
def pL (i:Nat):ab:=⟨[(4,iv (ofNat i))],[],[],0⟩
theorem xZ {l:List Ty} {p:Ty->Bool} (hp:∀t∈l,ae 209 [.dat t.enc] (bv (p t))) (hb:l.length < 1000000000) :
  KC 205 [.dat (.slice (ax l)),iM] [] 0 (fun v h m=>pe (l.any p) v/\h=[]/\m=0):=by
 have hl:KD (.loop (roundOf Tryz.f205 0)) (fun e s=>(e=.exit 0/\l.any p=false/\s=(pK l).al mF)∨(e=.ret/\l.any p=true/\∃i:Nat,s=(pL i).al mF)) ((jx l (ofNat 0)).al mF):=by
  refine cV (St:=fun i=>(jx l (ofNat i)).al mF) (fun i=>l.any p=(l.drop i).any p) (ax l).length ?_ ?_ (i:=0) (Nat.zero_le _) rfl
  ·intro i hi hI;obtain⟨t,ht,hm⟩:=get_mem hi;have ha:=HG (p:=p) ht;have hw:an .i64 (ofNat i+1)=ofNat (i+1):=bb (by rw[aH] at hi;omega);have hc:=hp t hm;generalize ht2:p t=tc at hc ha;clear hp hb ht2;obtain⟨k2,nm2,ix2,a2⟩:=t
   rcases a2 with _|⟨b,c⟩ <;> cases tc <;>
   ·refine aq [9] [14] (H:=yy) (live:=ov) ?_;refine bn (b:=true) (br hi) (by kernel_rfl) ?_;refine oo (pF ht) (on hc ?_)
    first
     |exact bS (ex:=.normal) (jx l (an .i64 (ofNat i+1))) (by kernel_rfl) (by kernel_rfl) ⟨by rw[hw],by rw[hI,ha];rfl⟩
     |exact bS (ex:=.ret) (pL i) (by kernel_rfl) (by kernel_rfl) (.inr ⟨rfl,by rw[hI,ha];rfl,i,rfl⟩)
  intro hI;have h1:l.any p=false:=by rw[hI,aH,List.drop_length];rfl
  refine aq [9] [14] (H:=yy) (live:=ov) ?_;refine bn (b:=false) (cj (i:=(ax l).length) (L:=(ax l).length) (by omega)) (by kernel_rfl) ?_;exact bS (ex:=.exit 0) (pK l) (by kernel_rfl) (by kernel_rfl) (.inl ⟨rfl,h1,rfl⟩)
 clear hp hb;refine Bh [] [] (x:=qS.of Tryz.f205 Aa ov) (T:=fun r=>pe (l.any p) r.val/\r.heap=[]/\r.next=0) (by kernel_rfl) ?_;refine iF (n:=mF) (c:=roundOf Tryz.f205 0) (f:=jx l (ofNat 0)) (by kernel_rfl) (by kernel_rfl) hl ?_;rintro ex s (⟨rfl,hc,rfl⟩|⟨rfl,hc,i,rfl⟩)
 ·rw[hc];exact⟨_,rfl,fX (a:=⟨iv (-1),[],0⟩) (by kernel_rfl) ⟨⟨_,rfl,rfl⟩,rfl,rfl⟩⟩
 rw[hc];exact⟨_,rfl,fX (a:=⟨iv (ofNat i),[],0⟩) (by kernel_rfl) ⟨⟨_,rfl,cj (by omega)⟩,rfl,rfl⟩⟩
theorem B1 {l:List Ty} {p:Ty->Bool} (hp:∀t∈l,ae 209 [.dat t.enc] (bv (p t))) (hb:l.length < 1000000000) :
  ae 193 [.dat (sl (ax l)),iM] (bv (l.any p)):=by
 cases l with
 | nil=>exact dE _ _ _ _ _ (by kernel_rfl)
 | cons t r=>
  have h:=xZ hp hb;generalize (t::r).any p=c at h;show ae 193 [.dat (.slice (ax (t::r))),iM] (bv c);refine co [8] [] (x:=.of Tryz.f193 D4 Em) ?_;refine Ja (Q:=pe c) h (by kernel_rfl) (by kernel_rfl) (by rintro v ⟨j,rfl,_⟩;rfl) ?_;rintro v ⟨j,rfl,hj⟩ _;refine bn (b:=c) (c:=!aF j (ofNat 0)) (by rw[hj];simp) (by kernel_rfl) ?_;exact fX (a:=⟨bv c,[],0⟩) (by cases c <;> kernel_rfl) rfl
def gQ:ac:=.fn (.func 194) [] []
def iu (l:List Ty) (i:Int):ab:=⟨[(8,iv i),(7,iv (ofNat (ax l).length)),(0,.dat (.slice (ax l))),(1,gQ)],[],[],0⟩
def pg (l:List Ty):ab:=⟨[(9,bv false),(8,iv (ofNat (ax l).length)),(7,iv (ofNat (ax l).length)),(0,.dat (.slice (ax l))),(1,gQ)],[],[],0⟩
def ph (i:Nat):ab:=⟨[(4,iv (ofNat i))],[],[],0⟩
theorem vZ {l:List Ty} {p:Ty->Bool} (hp:∀t∈l,ae 194 [.dat t.enc] (bv (p t))) (hb:l.length < 1000000000) :
  KC 205 [.dat (.slice (ax l)),gQ] [] 0 (fun v h m=>pe (l.any p) v/\h=[]/\m=0):=by
 have hl:KD (.loop (roundOf Tryz.f205 0)) (fun e s=>(e=.exit 0/\l.any p=false/\s=(pg l).al mF)∨(e=.ret/\l.any p=true/\∃i:Nat,s=(ph i).al mF)) ((iu l (ofNat 0)).al mF):=by
  refine cV (St:=fun i=>(iu l (ofNat i)).al mF) (fun i=>l.any p=(l.drop i).any p) (ax l).length ?_ ?_ (i:=0) (Nat.zero_le _) rfl
  ·intro i hi hI;obtain⟨t,ht,hm⟩:=get_mem hi;have ha:=HG (p:=p) ht;have hw:an .i64 (ofNat i+1)=ofNat (i+1):=bb (by rw[aH] at hi;omega);have hc:=hp t hm;generalize ht2:p t=tc at hc ha;clear hp hb ht2;obtain⟨k2,nm2,ix2,a2⟩:=t
   rcases a2 with _|⟨b,c⟩ <;> cases tc <;>
   ·refine aq [9] [14] (H:=yy) (live:=ov) ?_;refine bn (b:=true) (br hi) (by kernel_rfl) ?_;refine oo (pF ht) (on hc ?_)
    first
     |exact bS (ex:=.normal) (iu l (an .i64 (ofNat i+1))) (by kernel_rfl) (by kernel_rfl) ⟨by rw[hw],by rw[hI,ha];rfl⟩
     |exact bS (ex:=.ret) (ph i) (by kernel_rfl) (by kernel_rfl) (.inr ⟨rfl,by rw[hI,ha];rfl,i,rfl⟩)
  intro hI;have h1:l.any p=false:=by rw[hI,aH,List.drop_length];rfl
  refine aq [9] [14] (H:=yy) (live:=ov) ?_;refine bn (b:=false) (cj (i:=(ax l).length) (L:=(ax l).length) (by omega)) (by kernel_rfl) ?_;exact bS (ex:=.exit 0) (pg l) (by kernel_rfl) (by kernel_rfl) (.inl ⟨rfl,h1,rfl⟩)
 clear hp hb;refine Bh [] [] (x:=qS.of Tryz.f205 Aa ov) (T:=fun r=>pe (l.any p) r.val/\r.heap=[]/\r.next=0) (by kernel_rfl) ?_;refine iF (n:=mF) (c:=roundOf Tryz.f205 0) (f:=iu l (ofNat 0)) (by kernel_rfl) (by kernel_rfl) hl ?_;rintro ex s (⟨rfl,hc,rfl⟩|⟨rfl,hc,i,rfl⟩)
 ·rw[hc];exact⟨_,rfl,fX (a:=⟨iv (-1),[],0⟩) (by kernel_rfl) ⟨⟨_,rfl,rfl⟩,rfl,rfl⟩⟩
 rw[hc];exact⟨_,rfl,fX (a:=⟨iv (ofNat i),[],0⟩) (by kernel_rfl) ⟨⟨_,rfl,cj (by omega)⟩,rfl,rfl⟩⟩
theorem Bu {l:List Ty} {p:Ty->Bool} (hp:∀t∈l,ae 194 [.dat t.enc] (bv (p t))) (hb:l.length < 1000000000) :
  ae 193 [.dat (sl (ax l)),gQ] (bv (l.any p)):=by
 cases l with
 | nil=>exact dE _ _ _ _ _ (by kernel_rfl)
 | cons t r=>
  have h:=vZ hp hb;generalize (t::r).any p=c at h;show ae 193 [.dat (.slice (ax (t::r))),gQ] (bv c);refine co [8] [] (x:=.of Tryz.f193 D4 Em) ?_;refine Ja (Q:=pe c) h (by kernel_rfl) (by kernel_rfl) (by rintro v ⟨j,rfl,_⟩;rfl) ?_;rintro v ⟨j,rfl,hj⟩ _;refine bn (b:=c) (c:=!aF j (ofNat 0)) (by rw[hj];simp) (by kernel_rfl) ?_;exact fX (a:=⟨bv c,[],0⟩) (by cases c <;> kernel_rfl) rfl
mutual
def Ty.plain:Ty->Bool
 | .mk k nm ix args=>aB k 5||(Ty.mk k nm ix args).closed 0||(aB k 2&&!gT args)
def gT:List Ty->Bool
 | []=>false
 | t::r=>!t.plain||gT r
end
theorem Dt:∀l:List Ty,gT l=l.any (fun t=>!t.plain)
 | []=>by simp[gT]
 | t::r=>by simp[gT,Dt r]
theorem xE {k:Int} {nm:List UInt8} {ix:Int} {l:List Ty} (hp:∀t∈l,ae 210 [.dat t.enc] (bv t.plain)) (hb:l.length < 1000000000):ae 203 [.dat (Ty.mk k nm ix l).enc] (bv (!gT l)):=by
 have h1:∀t∈l,ae 209 [.dat t.enc] (bv (!t.plain)):=by
  intro t ht;have hc:=hp t ht;generalize t.plain=c at hc;obtain⟨k2,nm2,ix2,a2⟩:=t
  rcases a2 with _|⟨b,d⟩ <;> cases c <;>
  ·refine co [] [] (x:=.of Tryz.f209 IJ Lb) ?_;exact on hc fi
 have h2:=B1 h1 hb;rw[Dt];generalize l.any (fun t=>!t.plain)=c at h2
 rcases l with _|⟨b,d⟩ <;> cases c <;>
 ·refine co [] [] (x:=.of Tryz.f203 IK Lc) ?_;exact on h2 fi
theorem IH {k:Int} {nm:List UInt8} {ix:Int} {l:List Ty} (hp:∀t∈l,ae 210 [.dat t.enc] (bv t.plain)) (hs:(Ty.mk k nm ix l).size < 1000000000):ae 210 [.dat (Ty.mk k nm ix l).enc] (bv (Ty.mk k nm ix l).plain):=by
 have hb:l.length < 1000000000:=by have:=gw l;simp only[Ty.size] at hs;omega
 have h1:=HB (Ty.mk k nm ix l) 0 hs (by have:=oS (Ty.mk k nm ix l);omega);have h2:=@xE k nm ix _ hp hb;have e:(Ty.mk k nm ix l).plain=(aB k 5||(Ty.mk k nm ix l).closed 0||(aB k 2&&!gT l)):=by rw[Ty.plain]
 rw[e];clear e hp hs hb;generalize (Ty.mk k nm ix l).closed 0=cc at h1;generalize (!gT l)=ca at h2;generalize h5:aB k 5=c5;generalize h6:aB k 2=c2
 rcases l with _|⟨b,d⟩ <;>
 ·refine co [5,13] [] (x:=.of Tryz.f210 II La) ?_;refine ob h5 ?_
  cases c5
  ·refine on h1 ?_
   cases cc
   ·refine ob h6 ?_
    cases c2 with
    | false=>exact fi
    | true=>
     refine on h2 ?_
     cases ca <;> exact fi
   exact fi
  exact fi
mutual
theorem UW:∀t:Ty,t.size < 1000000000->ae 210 [.dat t.enc] (bv t.plain)
 | .mk k nm ix l,h=>IH (Bj l (by simp only[Ty.size] at h;omega)) h
theorem Bj:∀l:List Ty,aQ l < 1000000000->∀t∈l,ae 210 [.dat t.enc] (bv t.plain)
 | [],_,t,ht=>by simp at ht
 | x::r,h,t,ht=>by
  simp only[aQ] at h
  rcases List.mem_cons.1 ht with h1|ht
  ·rw[h1];exact UW x (by omega)
  exact Bj r (by omega) t ht
end
def jA (n:Nat):Bool:=(Nat.ble 97 n&&Nat.ble n 122)||(Nat.ble 65 n&&Nat.ble n 90)
def B6 (n:Nat):Bool:=jA n||(Nat.ble 48 n&&Nat.ble n 57)||Nat.beq n 95||Nat.beq n 45
def eg (n:Nat):Bool:=!Nat.beq n 45&&B6 n
def isIdent:List UInt8->Bool
 | []=>false
 | c::r=>Nat.ble (r.length+1) 24&&jA c.toNat&&(c::r).all (fun c=>eg c.toNat)
def GC (n:Nat):ac:=.dat (.flat (.int .u8 (ofNat n)))
def HI (p:Nat->Bool):Nat->Bool
 | 0=>true
 | k+1=>p k&&HI p k
theorem rC {p:Nat->Bool}:∀{k:Nat},HI p k=true->∀i,i < k->p i=true
 | 0,_,i,hi=>by omega
 | k+1,h,i,hi=>by
  simp only[HI,Bool.and_eq_true] at h
  rcases Nat.lt_or_ge i k with h1|h1
  ·exact rC h.2 i h1
  have:i=k:=by omega
  subst this;exact h.1
def Bm (c:Bool):Option eX->Bool
 | some ⟨.dat (.flat (.bool b)),[],0⟩=>match b with|true=>c|false=>!c
 | _=>false
theorem qD {c:Bool} {r:Option eX} (h:Bm c r=true):r=some ⟨bv c,[],0⟩:=by
 unfold Bm at h
 split at h
 ·rename_i b
  cases b <;> simp at h <;> subst h <;> rfl
 simp at h
theorem Jn:HI (fun n=>Bm (jA n) (X 142 [GC n] [] 0)) 256=true:=by kernel_rfl
theorem J2 (c:UInt8):ae 142 [GC c.toNat] (bv (jA c.toNat)):=dE _ _ _ _ _ (qD (rC Jn _ c.toNat_lt))
theorem MU:HI (fun n=>Bm (eg n) (X 144 [GC n] [] 0)) 256=true:=by kernel_rfl
theorem RU (c:UInt8):ae 144 [GC c.toNat] (bv (eg c.toNat)):=dE _ _ _ _ _ (qD (rC MU _ c.toNat_lt))
theorem adv:ba.desc 9=some .string:=by kernel_rfl
theorem nK {b:List UInt8} {i:Nat} {c:UInt8} (h:b[i]?=some c):qP ba 9 [.dat (sb b),.dat (.flat (.int .i64 (ofNat i)))]=some ⟨GC c.toNat,.keep⟩:=by
 have hg:bW.nA.byte ⟨⟨b⟩⟩ (ofNat i)=some c:=Ur h;have hp:ba.pr=bW.nA:=rfl;simp only[qP,sb,adv,hp,hg];rfl
def fnI:ac:=.fn (.func 144) [] []
noncomputable def QZ:Hints:=⟨bV,Ec,bi,rowsOf bi 143⟩
def SY (b:List UInt8) (i:Int):ab:=⟨[(5,iv i),(0,.dat (sb b)),(1,fnI)],[],[],0⟩
def Vt (b:List UInt8):ab:=⟨[(9,bv false),(5,iv (ofNat b.length)),(0,.dat (sb b)),(1,fnI)],[],[],0⟩
def Vu:ab:=⟨[(4,bv false)],[],[],0⟩
theorem UX {b:List UInt8} (hb:b.length < 1000000000):ae 143 [.dat (sb b),fnI] (bv (b.all (fun c=>eg c.toNat))):=by
 have hl:KD (.loop (roundOf Tryz.f143 0)) (fun e s=>(e=.exit 0/\b.all (fun c=>eg c.toNat)=true/\s=(Vt b).al Aq)∨(e=.ret/\b.all (fun c=>eg c.toNat)=false/\s=Vu.al Aq)) ((SY b (ofNat 0)).al Aq):=by
  refine cV (St:=fun i=>(SY b (ofNat i)).al Aq) (fun i=>b.all (fun c=>eg c.toNat)=(b.drop i).all (fun c=>eg c.toNat)) b.length ?_ ?_ (i:=0) (Nat.zero_le _) rfl
  ·intro i hi hI;have hg:b[i]?=some b[i]:=List.getElem?_eq_getElem hi;have hd:(b.drop i).all (fun c=>eg c.toNat)=(eg b[i].toNat&&(b.drop (i+1)).all (fun c=>eg c.toNat)):=by rw[List.drop_eq_getElem_cons hi];rfl
   have hw:an .i64 (ofNat i+1)=ofNat (i+1):=bb (by omega);have hc:=RU b[i];generalize b[i]=c at hg hd hc;generalize eg c.toNat=tc at hd hc;refine aq [9] [15] (H:=QZ) (live:=yu) ?_;refine bn (b:=true) (br hi) (by kernel_rfl) ?_;refine oo (nK hg) (on hc ?_)
   cases tc
   ·exact bS (ex:=.ret) Vu (by kernel_rfl) (by kernel_rfl) (.inr ⟨rfl,by rw[hI,hd];rfl,rfl⟩)
   exact bS (ex:=.normal) (SY b (an .i64 (ofNat i+1))) (by kernel_rfl) (by kernel_rfl) ⟨by rw[hw],by rw[hI,hd];rfl⟩
  intro hI;have h1:b.all (fun c=>eg c.toNat)=true:=by rw[hI,List.drop_length];rfl
  refine aq [9] [15] (H:=QZ) (live:=yu) ?_;refine bn (b:=false) (cj (i:=b.length) (L:=b.length) (by omega)) (by kernel_rfl) ?_;exact bS (ex:=.exit 0) (Vt b) (by kernel_rfl) (by kernel_rfl) (.inl ⟨rfl,h1,rfl⟩)
 generalize b.all (fun c=>eg c.toNat)=c at hl;refine co [] [] (x:=.of Tryz.f143 Ec yu) ?_;refine iF (n:=Aq) (c:=roundOf Tryz.f143 0) (f:=SY b (ofNat 0)) (by kernel_rfl) (by kernel_rfl) hl ?_;rintro ex s (⟨rfl,rfl,rfl⟩|⟨rfl,rfl,rfl⟩) <;>
 ·exact⟨_,rfl,fX (by kernel_rfl) rfl⟩
theorem Dj (b:List UInt8):ae 99 [.dat (sb b)] (bv (isIdent b)):=by
 cases b with
 | nil=>exact dE _ _ _ _ _ (by kernel_rfl)
 | cons c r=>
  have hev:Nat.ble (r.length+1) 24=true->ae 143 [.dat (sb (c::r)),fnI] (bv ((c::r).all (fun c=>eg c.toNat))):=fun h=>UX (by have:=fD h;simp;omega)
  have hle:=J2 c;have e:isIdent (c::r)=(Nat.ble (r.length+1) 24&&jA c.toNat&&(c::r).all (fun c=>eg c.toNat)):=rfl;rw[e];generalize (c::r).all (fun c=>eg c.toNat)=ca at hev;generalize jA c.toNat=cl at hle;have hlt:aF (ofNat 24) (ofNat (r.length+1))=!Nat.ble (r.length+1) 24:=by
   rw[gv]
   by_cases h:24 < r.length+1
   ·rw[decide_eq_true h,show Nat.ble (r.length+1) 24=false from by rw[Bool.eq_false_iff];intro e;have:=fD e;omega];rfl
   rw[decide_eq_false h,gC (by omega)];rfl
  generalize Nat.ble (r.length+1) 24=cb at hlt hev;refine co [8] [12] (x:=.of Tryz.f99 Pq Qp) ?_;refine bn (b:=cb) (c:=!aF (ofNat 24) (ofNat (r.length+1))) (by rw[hlt];simp) (by kernel_rfl) ?_
  cases cb with
  | false=>exact fi
  | true=>
   refine oo (nK (b:=c::r) (i:=0) rfl) (on hle ?_)
   cases cl with
   | false=>exact fi
   | true=>
    refine on (hev rfl) ?_
    cases ca <;> exact fi
def hJ (b:List UInt8):Bool:=tG.any (fun r=>jP b r)
noncomputable def ri:Hints:=⟨bV,D3,bi,rowsOf bi 208⟩
def Fp (b:List UInt8) (i:Int):ab:=⟨[(8,iv i),(7,iv 5),(0,.dat (.slice (encS tG))),(1,.dat (sb b))],[],[],0⟩
def Vr (b:List UInt8):ab:=⟨[(9,bv false),(8,iv 5),(7,iv 5),(0,.dat (.slice (encS tG))),(1,.dat (sb b))],[],[],0⟩
def Cp (i:Nat):ab:=⟨[(4,iv (ofNat i))],[],[],0⟩
theorem RT (b:List UInt8):KC 208 [.dat (.slice (encS tG)),.dat (sb b)] [] 0 (fun v h m=>pe (hJ b) v/\h=[]/\m=0):=by
 have hl:KD (.loop (roundOf Tryz.f208 0)) (fun e s=>(e=.exit 0/\hJ b=false/\s=(Vr b).al Ao)∨(e=.ret/\hJ b=true/\∃i:Nat,s=(Cp i).al Ao)) ((Fp b (ofNat 0)).al Ao):=by
  refine cV (St:=fun i=>(Fp b (ofNat i)).al Ao) (fun i=>hJ b=(tG.drop i).any (fun r=>jP b r)) 5 ?_ ?_ (i:=0) (Nat.zero_le _) rfl
  ·intro i hi hI;have hcases:i=0∨i=1∨i=2∨i=3∨i=4:=by omega
   have hd:(tG.drop i).any (fun r=>jP b r)=(jP b (tG.getD i [])||(tG.drop (i+1)).any (fun r=>jP b r)):=by rcases hcases with rfl|rfl|rfl|rfl|rfl <;> rfl
   rw[hd] at hI;clear hd;generalize hcw:jP b (tG.getD i [])=cw at hI
   rcases hcases with rfl|rfl|rfl|rfl|rfl
   ·refine aq [16] [] (H:=ri) (live:=mc) (ob hcw ?_)
    cases cw
    ·exact bS (ex:=.normal) (Fp b (ofNat (0+1))) (by kernel_rfl) (by kernel_rfl) ⟨rfl,hI⟩
    exact bS (ex:=.ret) (Cp 0) (by kernel_rfl) (by kernel_rfl) (.inr ⟨rfl,hI,0,rfl⟩)
   ·refine aq [16] [] (H:=ri) (live:=mc) (ob hcw ?_)
    cases cw
    ·exact bS (ex:=.normal) (Fp b (ofNat (1+1))) (by kernel_rfl) (by kernel_rfl) ⟨rfl,hI⟩
    exact bS (ex:=.ret) (Cp 1) (by kernel_rfl) (by kernel_rfl) (.inr ⟨rfl,hI,1,rfl⟩)
   ·refine aq [16] [] (H:=ri) (live:=mc) (ob hcw ?_)
    cases cw
    ·exact bS (ex:=.normal) (Fp b (ofNat (2+1))) (by kernel_rfl) (by kernel_rfl) ⟨rfl,hI⟩
    exact bS (ex:=.ret) (Cp 2) (by kernel_rfl) (by kernel_rfl) (.inr ⟨rfl,hI,2,rfl⟩)
   ·refine aq [16] [] (H:=ri) (live:=mc) (ob hcw ?_)
    cases cw
    ·exact bS (ex:=.normal) (Fp b (ofNat (3+1))) (by kernel_rfl) (by kernel_rfl) ⟨rfl,hI⟩
    exact bS (ex:=.ret) (Cp 3) (by kernel_rfl) (by kernel_rfl) (.inr ⟨rfl,hI,3,rfl⟩)
   refine aq [16] [] (H:=ri) (live:=mc) (ob hcw ?_)
   cases cw
   ·exact bS (ex:=.normal) (Fp b (ofNat (4+1))) (by kernel_rfl) (by kernel_rfl) ⟨rfl,hI⟩
   exact bS (ex:=.ret) (Cp 4) (by kernel_rfl) (by kernel_rfl) (.inr ⟨rfl,hI,4,rfl⟩)
  intro hI;have h1:hJ b=false:=by rw[hI];rfl
  refine aq [16] [] (H:=ri) (live:=mc) ?_;exact bS (ex:=.exit 0) (Vr b) (by kernel_rfl) (by kernel_rfl) (.inl ⟨rfl,h1,rfl⟩)
 generalize hJ b=c at hl;refine Bh [] [] (x:=qS.of Tryz.f208 D3 mc) (T:=fun r=>pe c r.val/\r.heap=[]/\r.next=0) (by kernel_rfl) ?_;refine iF (n:=Ao) (c:=roundOf Tryz.f208 0) (f:=Fp b (ofNat 0)) (by kernel_rfl) (by kernel_rfl) hl ?_;rintro ex s (⟨rfl,rfl,rfl⟩|⟨rfl,rfl,i,rfl⟩)
 ·exact⟨_,rfl,fX (a:=⟨iv (-1),[],0⟩) (by kernel_rfl) ⟨⟨_,rfl,rfl⟩,rfl,rfl⟩⟩
 exact⟨_,rfl,fX (a:=⟨iv (ofNat i),[],0⟩) (by kernel_rfl) ⟨⟨_,rfl,cj (by omega)⟩,rfl,rfl⟩⟩
theorem HA (b:List UInt8):ae 202 [.dat (.slice (encS tG)),.dat (sb b)] (bv (hJ b)):=by
 have h:=RT b;generalize hJ b=c at h;refine co [8] [] (x:=.of Tryz.f202 IL Ld) ?_;refine Ja (Q:=pe c) h (by kernel_rfl) (by kernel_rfl) (by rintro v ⟨j,rfl,_⟩;rfl) ?_;rintro v ⟨j,rfl,hj⟩ _;refine bn (b:=c) (c:=!aF j (ofNat 0)) (by rw[hj];simp) (by kernel_rfl) ?_
 cases c <;> exact fi
def fP (x y:Int):Int:=match aF x y with|true=>-1|false=>(match aF y x with|true=>1|false=>0)
def qB (x y:List UInt8):Int:=match ML x y with|true=>-1|false=>(match !(ML x y||jP x y) with|true=>1|false=>0)
def BH:List Int->Int
 | []=>0
 | x::r=>match aB x 0 with|true=>BH r|false=>x
theorem eu (x:Int):aB x x=true:=by rw[cN];simp
theorem A4 (x:List UInt8):jP x x=true:=by rw[wu];simp
theorem RX (x:Int):ae 172 [iv x] (bv false):=by
 refine co [5] [] (x:=.of Tryz.f172 IV Ll) ?_;refine bn (b:=false) (c:=!aB x x) (by rw[eu];rfl) (by kernel_rfl) ?_;exact fi
theorem RW (x:List UInt8):ae 190 [.dat (sb x)] (bv false):=by
 refine co [5] [] (x:=.of Tryz.f190 IS Li) ?_;refine bn (b:=false) (c:=!jP x x) (by rw[A4];rfl) (by kernel_rfl) ?_;exact fi
theorem J3 (x y:Int):ae 164 [iv x,iv y] (iv (fP x y)):=by
 unfold fP;generalize h1:aF x y=a;generalize h2:aF y x=b;refine co [16,19] [] (x:=.of Tryz.f164 IX Ln) ?_;refine on (RX x) (on (RX y) (ob h1 ?_))
 cases a
 ·refine ob h2 ?_
  cases b <;> exact fi
 exact fi
theorem ZV (x y:List UInt8):ae 165 [.dat (sb x),.dat (sb y)] (iv (qB x y)):=by
 unfold qB;generalize h2:(!(ML x y||jP x y))=b;generalize h1:ML x y=a;refine co [16,19] [] (x:=.of Tryz.f165 IW Lm) ?_;refine on (RW x) (on (RW y) (ob h1 ?_))
 cases a
 ·refine ob h2 ?_
  cases b <;> exact fi
 exact fi
noncomputable def hOr:Hints:=⟨bV,D8,bi,rowsOf bi 163⟩
def Ij (a b c d:Int) (i:Int):ab:=⟨[(8,iv i),(7,iv 4),(6,.dat (.slice [i64 a,i64 b,i64 c,i64 d])),(3,iv 0)],[],[],0⟩
def Vp (a b c d:Int):ab:=⟨[(9,bv false),(8,iv 4),(7,iv 4),(6,.dat (.slice [i64 a,i64 b,i64 c,i64 d])),(3,iv 0)],[],[],0⟩
def Fm (a:Int):ab:=⟨[(2,iv a)],[],[],0⟩
theorem afe (a b c d:Int):ae 163 [.dat (.slice [i64 a,i64 b,i64 c,i64 d])] (iv (BH [a,b,c,d])):=by
 have hl:KD (.loop (roundOf Tryz.f163 0)) (fun e s=>(e=.exit 0/\BH [a,b,c,d]=0/\s=(Vp a b c d).al Ap)∨(e=.ret/\s=(Fm (BH [a,b,c,d])).al Ap)) ((Ij a b c d (ofNat 0)).al Ap):=by
  refine cV (St:=fun i=>(Ij a b c d (ofNat i)).al Ap) (fun i=>BH [a,b,c,d]=BH ([a,b,c,d].drop i)) 4 ?_ ?_ (i:=0) (Nat.zero_le _) rfl
  ·intro i hi hI;have hcases:i=0∨i=1∨i=2∨i=3:=by omega
   have hd:BH ([a,b,c,d].drop i)=(match aB ([a,b,c,d].getD i 0) 0 with|true=>BH ([a,b,c,d].drop (i+1))|false=>[a,b,c,d].getD i 0):=by rcases hcases with rfl|rfl|rfl|rfl <;> rfl
   rw[hd] at hI;clear hd;generalize hcw:aB ([a,b,c,d].getD i 0) 0=cw at hI
   rcases hcases with rfl|rfl|rfl|rfl
   ·refine aq [14] [] (H:=hOr) (live:=oz) ?_;refine bn (b:=!cw) (c:=!aB ([a,b,c,d].getD 0 0) 0) (by rw[hcw]) (by kernel_rfl) ?_
    cases cw with
    | false=>exact bS (ex:=.ret) (Fm ([a,b,c,d].getD 0 0)) (by kernel_rfl) (by kernel_rfl) (.inr ⟨rfl,by rw[hI]⟩)
    | true=>exact bS (ex:=.normal) (Ij a b c d (ofNat (0+1))) (by kernel_rfl) (by kernel_rfl) ⟨rfl,hI⟩
   ·refine aq [14] [] (H:=hOr) (live:=oz) ?_;refine bn (b:=!cw) (c:=!aB ([a,b,c,d].getD 1 0) 0) (by rw[hcw]) (by kernel_rfl) ?_
    cases cw with
    | false=>exact bS (ex:=.ret) (Fm ([a,b,c,d].getD 1 0)) (by kernel_rfl) (by kernel_rfl) (.inr ⟨rfl,by rw[hI]⟩)
    | true=>exact bS (ex:=.normal) (Ij a b c d (ofNat (1+1))) (by kernel_rfl) (by kernel_rfl) ⟨rfl,hI⟩
   ·refine aq [14] [] (H:=hOr) (live:=oz) ?_;refine bn (b:=!cw) (c:=!aB ([a,b,c,d].getD 2 0) 0) (by rw[hcw]) (by kernel_rfl) ?_
    cases cw with
    | false=>exact bS (ex:=.ret) (Fm ([a,b,c,d].getD 2 0)) (by kernel_rfl) (by kernel_rfl) (.inr ⟨rfl,by rw[hI]⟩)
    | true=>exact bS (ex:=.normal) (Ij a b c d (ofNat (2+1))) (by kernel_rfl) (by kernel_rfl) ⟨rfl,hI⟩
   refine aq [14] [] (H:=hOr) (live:=oz) ?_;refine bn (b:=!cw) (c:=!aB ([a,b,c,d].getD 3 0) 0) (by rw[hcw]) (by kernel_rfl) ?_
   cases cw with
   | false=>exact bS (ex:=.ret) (Fm ([a,b,c,d].getD 3 0)) (by kernel_rfl) (by kernel_rfl) (.inr ⟨rfl,by rw[hI]⟩)
   | true=>exact bS (ex:=.normal) (Ij a b c d (ofNat (3+1))) (by kernel_rfl) (by kernel_rfl) ⟨rfl,hI⟩
  intro hI;have h1:BH [a,b,c,d]=0:=by rw[hI];rfl
  refine aq [14] [] (H:=hOr) (live:=oz) ?_;exact bS (ex:=.exit 0) (Vp a b c d) (by kernel_rfl) (by kernel_rfl) (.inl ⟨rfl,h1,rfl⟩)
 generalize BH [a,b,c,d]=r at hl;refine co [] [] (x:=.of Tryz.f163 D8 oz) ?_;refine iF (n:=Ap) (c:=roundOf Tryz.f163 0) (f:=Ij a b c d (ofNat 0)) (by kernel_rfl) (by kernel_rfl) hl ?_;rintro ex s (⟨rfl,rfl,rfl⟩|⟨rfl,rfl⟩)
 ·exact⟨_,rfl,fX (by kernel_rfl) rfl⟩
 exact⟨_,rfl,fX (by kernel_rfl) rfl⟩
mutual
def oT:Ty->Ty->Int
 | .mk k nm ix l,.mk k2 nm2 ix2 l2=>match aB (BH [fP k k2,qB nm nm2,fP ix ix2,fP (ofNat (ax l).length) (ofNat (ax l2).length)]) 0 with
  | true=>rM l l2
  | false=>BH [fP k k2,qB nm nm2,fP ix ix2,fP (ofNat (ax l).length) (ofNat (ax l2).length)]
def rM:List Ty->List Ty->Int
 | t::r,u::v=>match aB (oT t u) 0 with|true=>rM r v|false=>oT t u
 | _,_=>0
end
def acb (k:Int) (nm:List UInt8) (ix:Int) (l:List Ty) (k2:Int) (nm2:List UInt8) (ix2:Int) (l2:List Ty):Int:=BH [fP k k2,qB nm nm2,fP ix ix2,fP (ofNat (ax l).length) (ofNat (ax l2).length)]
theorem qy {x:Int} (h:aB x 0=true):x=0:=by rw[cN] at h;simpa using h
theorem Aj:∀{l:List Int},BH l=0->∀x∈l,x=0
 | [],_,x,hx=>by simp at hx
 | y::r,h,x,hx=>by
  unfold BH at h
  split at h
  ·rename_i hy
   rcases List.mem_cons.1 hx with h1|hx
   ·rw[h1];exact qy hy
   exact Aj h x hx
  rename_i hy;subst h;rw[eu] at hy;simp at hy
theorem ww {x y:Int} (h:fP x y=0):x=y:=by
 unfold fP at h
 cases h1:aF x y with
 | true=>rw[h1] at h;simp at h
 | false=>
  rw[h1] at h
  cases h2:aF y x with
  | true=>rw[h2] at h;simp at h
  | false=>
   rw[dA] at h1 h2;simp at h1 h2;omega
theorem AK {k:Int} {nm:List UInt8} {ix:Int} {l:List Ty} {k2:Int} {nm2:List UInt8} {ix2:Int} {l2:List Ty} (h:aB (acb k nm ix l k2 nm2 ix2 l2) 0=true):l.length=l2.length:=by
 have h1:=Aj (qy h) (fP (ofNat (ax l).length) (ofNat (ax l2).length)) (by simp);have h2:=ww h1;rw[aH,aH] at h2;exact Int.ofNat.inj h2
def nF (l l2:List Ty) (c0:Int):Nat->Int
 | 0=>c0
 | i+1=>match l[i]?,l2[i]? with|some t,some u=>oT t u|_,_=>0
noncomputable def qp:Hints:=⟨bV,Ed,bi,rowsOf bi 119⟩
def rX (k:Int) (nm:List UInt8) (ix:Int) (l:List Ty) (k2:Int) (nm2:List UInt8) (ix2:Int) (l2:List Ty):Heap:=[(.loc 3,.cells [iv k2,.dat (sb nm2),iv ix2,.dat (.slice (ax l2))]),(.loc 2,.cells [iv k,.dat (sb nm),iv ix,.dat (.slice (ax l))])]
def pN (lo:Heap) (i c:Int):ab:=⟨[(6,iv i),(5,iv c),(3,.ptr (.loc 3) 0),(2,.ptr (.loc 2) 0)],lo,[],0⟩
def kZ (lo:Heap) (i c:Int):ab:=⟨[(39,bv false),(6,iv i),(5,iv c),(3,.ptr (.loc 3) 0),(2,.ptr (.loc 2) 0)],lo,[],0⟩
theorem RM {k:Int} {nm:List UInt8} {ix:Int} {l:List Ty} {k2:Int} {nm2:List UInt8} {ix2:Int} {l2:List Ty} {c0:Int} (hlen:aB c0 0=true->l.length=l2.length)
  (ih:∀t∈l,∀u∈l2,ae 119 [.dat t.enc,.dat u.enc] (iv (oT t u))) (hb:l.length < 1000000000) :
  KD (.loop (roundOf Tryz.f119 0)) (fun e s=>e=.exit 0/\∃i:Nat,s=(kZ (rX k nm ix l k2 nm2 ix2 l2) (ofNat i) (match aB c0 0 with|true=>rM l l2|false=>c0)).al gY) ((pN (rX k nm ix l k2 nm2 ix2 l2) (ofNat 0) c0).al gY):=by
 generalize hfin:(match aB c0 0 with|true=>rM l l2|false=>c0)=fin;refine cV (St:=fun i=>(pN (rX k nm ix l k2 nm2 ix2 l2) (ofNat i) (nF l l2 c0 i)).al gY) (fun i=>(0 < i->aB c0 0=true)/\fin=(match aB (nF l l2 c0 i) 0 with|true=>rM (l.drop i) (l2.drop i)|false=>nF l l2 c0 i)) (ax l).length ?_ ?_ (i:=0) (Nat.zero_le _) ⟨fun h=>absurd h (Nat.lt_irrefl 0),hfin.symm⟩
 ·rintro i hi ⟨hz,hI⟩;have hz2:aB (nF l l2 c0 i) 0=true->aB c0 0=true:=by
   intro h
   cases i with
   | zero=>exact h
   | succ i=>exact hz (Nat.succ_pos i)
  obtain⟨t,ht,hm⟩:=get_mem hi;have hi2:=hi;rw[aH] at hi2;have hw:an .i64 (ofNat i+1)=ofNat (i+1):=bb (by omega);generalize hca:nF l l2 c0 i=ca at hI hz2;generalize hcz:aB ca 0=cz at hI hz2
  cases cz with
  | false=>
   refine aq [32,38] [45,50] (H:=qp) (live:=oA) (ob hcz ?_);refine bS (ex:=.exit 0) (kZ (rX k nm ix l k2 nm2 ix2 l2) (ofNat i) ca) (by kernel_rfl) (by kernel_rfl) ⟨rfl,i,?_⟩;rw[hI]
  | true=>
   have hle:=hlen (hz2 rfl);have hu:l2[i]?=some l2[i]:=List.getElem?_eq_getElem (by omega);have hmu:l2[i]∈l2:=List.getElem_mem _;generalize l2[i]=u at hu hmu;have hc:=ih t hm u hmu;have hat:nF l l2 c0 (i+1)=oT t u:=by simp only[nF,ht,hu]
   have hnew:fin=(match aB (nF l l2 c0 (i+1)) 0 with|true=>rM (l.drop (i+1)) (l2.drop (i+1))|false=>nF l l2 c0 (i+1)):=by
    rw[hI,hat];show rM (l.drop i) (l2.drop i)=_;rw[iP ht,iP hu,rM]
   have hz3:=hz2 rfl;rw[hat] at hnew;have e:xU (fun s=>s=(pN (rX k nm ix l k2 nm2 ix2 l2) (ofNat (i+1)) (nF l l2 c0 (i+1))).al gY/\(0 < i+1->aB c0 0=true)/\fin=(match aB (nF l l2 c0 (i+1)) 0 with|true=>rM (l.drop (i+1)) (l2.drop (i+1))|false=>nF l l2 c0 (i+1)))
     (fun e s=>e=.exit 0/\∃i:Nat,s=(kZ (rX k nm ix l k2 nm2 ix2 l2) (ofNat i) fin).al gY) .normal ((pN (rX k nm ix l k2 nm2 ix2 l2) (an .i64 (ofNat i+1)) (oT t u)).al gY):=by
    rw[hw,hat];exact⟨rfl,fun _=>hz3,hnew⟩
   generalize oT t u=cc at hc e;have hx1:=pF ht;have hx2:=pF hu;clear ih hlen hI hat hnew hz hz2 hu hmu ht hm;obtain⟨k3,nm3,ix3,a3⟩:=t;obtain⟨k4,nm4,ix4,a4⟩:=u
   rcases a3 with _|⟨b3,d3⟩ <;> rcases a4 with _|⟨b4,d4⟩ <;>
   ·refine aq [32,38] [45,50] (H:=qp) (live:=oA) (ob hcz ?_);refine bn (b:=true) (br hi) (by kernel_rfl) ?_;refine oo hx1 (oo hx2 (on hc ?_));exact bS (ex:=.normal) (pN (rX k nm ix l k2 nm2 ix2 l2) (an .i64 (ofNat i+1)) cc) (by kernel_rfl) (by kernel_rfl) e
 rintro⟨hz,hI⟩;generalize hca:nF l l2 c0 (ax l).length=ca at hI;generalize hcz:aB ca 0=cz at hI;refine aq [32,38] [45,50] (H:=qp) (live:=oA) (ob hcz ?_)
 cases cz with
 | false=>
  refine bS (ex:=.exit 0) (kZ (rX k nm ix l k2 nm2 ix2 l2) (ofNat (ax l).length) ca) (by kernel_rfl) (by kernel_rfl) ⟨rfl,(ax l).length,?_⟩;rw[hI]
 | true=>
  have h0:ca=fin:=by
   rw[hI,aH,List.drop_length];exact qy hcz
  refine bn (b:=false) (cj (i:=(ax l).length) (L:=(ax l).length) (by omega)) (by kernel_rfl) ?_;refine bS (ex:=.exit 0) (kZ (rX k nm ix l k2 nm2 ix2 l2) (ofNat (ax l).length) ca) (by kernel_rfl) (by kernel_rfl) ⟨rfl,(ax l).length,?_⟩;rw[h0]
def jY (k:Int) (nm:List UInt8) (ix:Int) (a:ak) (k2:Int) (nm2:List UInt8) (ix2:Int) (a2:ak):Heap:=[(.loc 3,.cells [iv k2,.dat (sb nm2),iv ix2,.dat a2]),(.loc 2,.cells [iv k,.dat (sb nm),iv ix,.dat a])]
theorem LP (k:Int) (nm:List UInt8) (ix:Int) (k2:Int) (nm2:List UInt8) (ix2:Int) (a2:ak) (ha:a2=nl∨∃es,a2=.slice es) (c0:Int) :
  KD (.loop (roundOf Tryz.f119 0)) (fun e s=>e=.exit 0/\∃i:Nat,s=(kZ (jY k nm ix nl k2 nm2 ix2 a2) (ofNat i) c0).al gY) ((pN (jY k nm ix nl k2 nm2 ix2 a2) (ofNat 0) c0).al gY):=by
 refine bm (St:=fun _=>(pN (jY k nm ix nl k2 nm2 ix2 a2) (ofNat 0) c0).al gY) 0 (fun i hi=>absurd hi (Nat.not_lt_zero i)) ?_ (i:=0) (Nat.le_refl _);generalize hcz:aB c0 0=cz
 rcases ha with rfl|⟨es,rfl⟩ <;>
 ·refine aq [32,38] [45,50] (H:=qp) (live:=oA) (ob hcz ?_)
  cases cz with
  | false=>exact bS (ex:=.exit 0) (kZ (jY k nm ix nl k2 nm2 ix2 _) (ofNat 0) c0) (by kernel_rfl) (by kernel_rfl) ⟨rfl,0,rfl⟩
  | true=>
   refine bn (b:=false) (c:=aF (ofNat 0) (ofNat 0)) rfl (by kernel_rfl) ?_;exact bS (ex:=.exit 0) (kZ (jY k nm ix nl k2 nm2 ix2 _) (ofNat 0) c0) (by kernel_rfl) (by kernel_rfl) ⟨rfl,0,rfl⟩
theorem US (k:Int) (nm:List UInt8) (ix:Int) (es:List ak) (k2:Int) (nm2:List UInt8) (ix2:Int) (c0:Int) (hcz:aB c0 0=false) :
  KD (.loop (roundOf Tryz.f119 0)) (fun e s=>e=.exit 0/\∃i:Nat,s=(kZ (jY k nm ix (.slice es) k2 nm2 ix2 nl) (ofNat i) c0).al gY) ((pN (jY k nm ix (.slice es) k2 nm2 ix2 nl) (ofNat 0) c0).al gY):=by
 refine bm (St:=fun _=>(pN (jY k nm ix (.slice es) k2 nm2 ix2 nl) (ofNat 0) c0).al gY) 0 (fun i hi=>absurd hi (Nat.not_lt_zero i)) ?_ (i:=0) (Nat.le_refl _);refine aq [32,38] [45,50] (H:=qp) (live:=oA) (ob hcz ?_);exact bS (ex:=.exit 0) (kZ (jY k nm ix (.slice es) k2 nm2 ix2 nl) (ofNat 0) c0) (by kernel_rfl) (by kernel_rfl) ⟨rfl,0,rfl⟩
theorem EL {k:Int} {nm:List UInt8} {ix:Int} {a:ak} {k2:Int} {nm2:List UInt8} {ix2:Int} {a2:ak} (ha:a=nl∨∃es,a=.slice es) (ha2:a2=nl∨∃es,a2=.slice es) {n m:Nat} {r:Int}
  (hn:a=nl/\n=0∨∃es,a=.slice es/\n=es.length) (hm:a2=nl/\m=0∨∃es,a2=.slice es/\m=es.length)
  (hl:KD (.loop (roundOf Tryz.f119 0)) (fun e s=>e=.exit 0/\∃i:Nat,s=(kZ (jY k nm ix a k2 nm2 ix2 a2) (ofNat i) r).al gY)
   ((pN (jY k nm ix a k2 nm2 ix2 a2) (ofNat 0) (BH [fP k k2,qB nm nm2,fP ix ix2,fP (ofNat n) (ofNat m)])).al gY)) :
  ae 119 [.dat (.agg [i64 k,sb nm,i64 ix,a]),.dat (.agg [i64 k2,sb nm2,i64 ix2,a2])] (iv r):=by
 have h1:=J3 k k2;have h2:=ZV nm nm2;have h3:=J3 ix ix2;have h4:=J3 (ofNat n) (ofNat m);generalize fP k k2=x1 at h1 hl;generalize qB nm nm2=x2 at h2 hl;generalize fP ix ix2=x3 at h3 hl;generalize fP (ofNat n) (ofNat m)=x4 at h4 hl;have h5:=afe x1 x2 x3 x4;generalize BH [x1,x2,x3,x4]=c0 at h5 hl;clear ha ha2
 rcases hn with⟨rfl,rfl⟩|⟨es,rfl,rfl⟩ <;> rcases hm with⟨rfl,rfl⟩|⟨es2,rfl,rfl⟩ <;>
 ·refine co [] [] (x:=.of Tryz.f119 Ed oA) ?_;refine on h1 (on h2 (on h3 (on h4 (on h5 ?_))));refine iF (n:=gY) (c:=roundOf Tryz.f119 0) (f:=pN (jY k nm ix _ k2 nm2 ix2 _) (ofNat 0) c0) (by kernel_rfl) (by kernel_rfl) hl ?_;rintro ex s ⟨rfl,i,rfl⟩;exact⟨_,rfl,fX (by kernel_rfl) rfl⟩
theorem EK {k:Int} {nm:List UInt8} {ix:Int} {l:List Ty} {k2:Int} {nm2:List UInt8} {ix2:Int} {l2:List Ty} (ih:∀t∈l,∀u∈l2,ae 119 [.dat t.enc,.dat u.enc] (iv (oT t u))) (hb:l.length < 1000000000) :
  ae 119 [.dat (Ty.mk k nm ix l).enc,.dat (Ty.mk k2 nm2 ix2 l2).enc] (iv (oT (.mk k nm ix l) (.mk k2 nm2 ix2 l2))):=by
 rw[oT]
 cases l with
 | nil=>
  have hr:(match aB (BH [fP k k2,qB nm nm2,fP ix ix2,fP (ofNat (ax []).length) (ofNat (ax l2).length)]) 0 with|true=>rM [] l2|false=>BH [fP k k2,qB nm nm2,fP ix ix2,fP (ofNat (ax []).length) (ofNat (ax l2).length)])=BH [fP k k2,qB nm nm2,fP ix ix2,fP (ofNat (ax []).length) (ofNat (ax l2).length)]:=by
   split
   ·rename_i h;rw[qy h,rM];simp
   rfl
  rw[hr]
  cases l2 with
  | nil=>exact @EL _ _ _ nl _ _ _ nl (.inl rfl) (.inl rfl) 0 0 _ (.inl ⟨rfl,rfl⟩) (.inl ⟨rfl,rfl⟩) (LP k nm ix k2 nm2 ix2 nl (.inl rfl) _)
  | cons u v=>exact @EL _ _ _ nl _ _ _ (.slice (ax (u::v))) (.inl rfl) (.inr ⟨_,rfl⟩) 0 ((ax (u::v)).length) _ (.inl ⟨rfl,rfl⟩) (.inr ⟨_,rfl,rfl⟩) (LP k nm ix k2 nm2 ix2 _ (.inr ⟨_,rfl⟩) _)
 | cons t r=>
  cases l2 with
  | nil=>
   have hcz:aB (BH [fP k k2,qB nm nm2,fP ix ix2,fP (ofNat (ax (t::r)).length) (ofNat (ax []).length)]) 0=false:=by
    rw[Bool.eq_false_iff];intro h
    have:=AK (l:=t::r) (l2:=[]) h
    simp at this
   rw[hcz];exact @EL _ _ _ (.slice (ax (t::r))) _ _ _ nl (.inr ⟨_,rfl⟩) (.inl rfl) ((ax (t::r)).length) 0 _ (.inr ⟨_,rfl,rfl⟩) (.inl ⟨rfl,rfl⟩) (US k nm ix _ k2 nm2 ix2 _ hcz)
  | cons u v=>
   exact @EL _ _ _ (.slice (ax (t::r))) _ _ _ (.slice (ax (u::v))) (.inr ⟨_,rfl⟩) (.inr ⟨_,rfl⟩) ((ax (t::r)).length) ((ax (u::v)).length) _ (.inr ⟨_,rfl,rfl⟩) (.inr ⟨_,rfl,rfl⟩)
    (RM (l:=t::r) (l2:=u::v) (fun h=>AK (l:=t::r) (l2:=u::v) h) ih hb)
mutual
theorem Bk:∀(t u:Ty),t.thin->ae 119 [.dat t.enc,.dat u.enc] (iv (oT t u))
 | .mk k nm ix l,.mk k2 nm2 ix2 l2,h=>by
  simp only[Ty.thin] at h;exact EK (fun t ht u _=>xF l h.2 t ht u) h.1
theorem xF:∀(l:List Ty),tt l->∀t∈l,∀u:Ty,ae 119 [.dat t.enc,.dat u.enc] (iv (oT t u))
 | [],_,t,ht,_=>by simp at ht
 | x::r,h,t,ht,u=>by
  simp only[tt] at h
  rcases List.mem_cons.1 ht with h1|ht
  ·rw[h1];exact Bk x u h.1
  exact xF r h.2 t ht u
end
def NC (t u:Ty):Bool:=aB (oT t u) 0
theorem RV (t u:Ty) (h:t.thin):ae 82 [.dat t.enc,.dat u.enc] (bv (NC t u)):=by
 have hc:=Bk t u h;unfold NC;generalize oT t u=c at hc;generalize hcz:aB c 0=cz;clear h;obtain⟨k3,nm3,ix3,a3⟩:=t;obtain⟨k4,nm4,ix4,a4⟩:=u
 rcases a3 with _|⟨b3,d3⟩ <;> rcases a4 with _|⟨b4,d4⟩ <;>
 ·refine co [8] [] (x:=.of Tryz.f82 Pt Qs) ?_;refine on hc (ob hcz ?_)
  cases cz <;> exact fi
theorem UY (t u:Ty) (h:t.size < 1000000000):ae 82 [.dat t.enc,.dat u.enc] (bv (NC t u)):=RV t u (DG t h)
def abQ:List Ty->ac
 | []=>.dat nl
 | t::r=>.own (ax (t::r))
theorem Rp {l:List Ty} {d:ak} (h:d∈ax l):∃t,d=Ty.enc t:=by
 rw[qz] at h;obtain⟨t,_,rfl⟩:=List.mem_map.1 h;exact⟨t,rfl⟩
theorem A7 (a b:List Ty):ax (a++b)=ax a++ax b:=by simp[qz]
theorem Nb (t:Ty):t.enc.cells.length=4:=by cases t;rfl
theorem A6 (l:List Ty):sizedB 4 (ax l)=true:=kM (fun d hd=>by obtain⟨t,rfl⟩:=Rp hd;exact Nb t)
theorem JT (l:List Ty):fy (ax l)=false:=by
 cases l with
 | nil=>rfl
 | cons t r=>cases t;rfl
theorem U5 {pre:List Ty} {t:Ty} (hl:pre.length < 1000000000):bB ba false 38 [.own (ax pre),.dat (.slice [t.enc])] none=some ⟨.own (ax (pre++[t])),.keep⟩:=by
 rw[A7];refine uX (i:=tiT) (ds:=[t.enc]) (k:=3) NU rfl yP ?_ ?_ (by kernel_rfl) ?_ ?_ ?_ (by simp)
 ·exact A6 [t]
 ·exact A6 pre
 ·have h1:tiT.bytes<=1000:=fD (by kernel_rfl);rw[aH]
  calc (pre.length+1)*tiT.bytes<=1000000000*1000:=Nat.mul_le_mul (by omega) h1
   _<=140737488355328:=by decide
 ·rw[aH];simp[lim];omega
 unfold jr;rw[show ax pre++[t.enc]=ax (pre++[t]) by rw[A7];rfl,JT]
theorem Fi {α:Type} {l:List α} {i:Nat} {t:α} (h:l[i]?=some t):l.take (i+1)=l.take i++[t]:=by rw[List.take_add_one,h];rfl
mutual
def Ty.fY:Ty->Prop
 | .mk k _ ix args=>(aB k 5=true->aF ix 9223372036854775808=true)/\fg args
def fg:List Ty->Prop
 | []=>True
 | t::r=>t.fY/\fg r
end
structure Z8 where
 nm:List UInt8
 ty:Ty
structure vh where
 nm:List UInt8
 ar:Int
 sup:Ty
 con:Bool
 fl:List Z8
def bl (b:Bool):ak:=.flat (.bool b)
def Z8.cells (f:Z8):List ak:=sb f.nm::f.ty.cells
def Z8.enc (f:Z8):ak:=.agg f.cells
def BZ:List Z8->List ak
 | []=>[]
 | f::r=>f.enc::BZ r
def vh.cells (d:vh):List ak:=sb d.nm::i64 d.ar::(d.sup.cells++[bl d.con,sl (BZ d.fl)])
def vh.enc (d:vh):ak:=.agg d.cells
def av (l:List ak):List ac:=l.map .dat
def abD:List vh->List ak
 | []=>[]
 | d::r=>d.cells++abD r
def ent (d:vh) (i:Nat):Go.Value×ak:=(.string ⟨⟨d.nm⟩⟩,i64 (ofNat i))
def aca:List vh->Nat->List (Go.Value×ak)
 | [],_=>[]
 | d::r,i=>ent d i::aca r (i+1)
def hP:ac:=.ptr (.out 1) 0
def hG (r:Nat) (cs:List ac) (es:List (Go.Value×ak)) (n:Nat):Heap:=[(.out r,.cells cs),(.out 1,.cells [.win (.out r) 8 0 n,.map (.out 0)]),(.out 0,.map es)]
def ae9 (nm:List UInt8) (ar k:Int) (nm2:List UInt8) (ix:Int) (la:List ak) (con:Bool) (lb:List ak):ak:=.agg [sb nm,i64 ar,i64 k,sb nm2,i64 ix,sl la,bl con,sl lb]
theorem uA {r n k:Nat} (h:k < n):ap ba 112 [.win (.out r) 8 0 n,iv (ofNat k)]=some ⟨.ptr (.out r) (0+k*8),.keep⟩:=by
 have h1:ap ba 112 [.win (.out r) 8 0 n,iv (ofNat k)]=(if (Nat.blt k n&&Nat.beq 8 8)=true then some ⟨.ptr (.out r) (0+k*8),.keep⟩ else none):=by kernel_rfl
 rw[h1,if_pos];simp[Nat.blt_eq,h]
def E2 {α:Type} (o:Option α):Bool:=match o with|some _=>true|none=>false
def hH (r:Nat) (ds:List vh) (tl:List ak):Heap:=hG r (av (abD ds++tl)) (aca ds 0) ds.length
theorem ay.zQ {g:FuncId} {args:List ac} {heap:Heap} {next:Nat} {Q Q':ac->Heap->Nat->Prop} (h:KC g args heap next Q) (hq:∀v h m,Q v h m->∃h2,h.Perm h2/\Q' v h2 m):KC g args heap next Q':=by
 intro w R N cargs bsA bsH bsF ha hh hnd hnx hg hF;refine (h w R N cargs bsA bsH bsF ha hh hnd hnx hg hF).mono ?_;rintro e w' ⟨v,cv,h1,next',R',N',bsV,bsH',rfl,hq1,hv,hh',hnd',hnx',hk,hN⟩;obtain⟨h2,hp,hq2⟩:=hq _ _ _ hq1;obtain⟨bs2,k1,k2⟩:=hh'.perm hp;refine⟨v,cv,h2,next',R',N',bsV,bs2,rfl,hq2,hv,k1,?_,hnx',hk,hN⟩;exact (List.Perm.nodup_iff (List.Perm.append_left _ (List.Perm.append_right _ k2))).1 hnd'
def box:Name×aL:=(.out 3,.cells [hP])
def hB (cs:List ak) (es:List (Go.Value×ak)) (n:Nat):Heap:=box::hG 2 (av cs) es n
theorem kT {α:Type} {l:List α} {i:Nat} {t:α} (h:l[i]?=some t):l.drop i=t::l.drop (i+1):=by
 obtain⟨hi,rfl⟩:=List.getElem?_eq_some_iff.1 h;exact List.drop_eq_getElem_cons hi
def Ty.gN (t:Ty):Prop:=t.size < 100000000/\t.fY
def vh.gN (d:vh):Prop:=d.sup.gN/\(∀f∈d.fl,f.ty.gN)/\d.fl.length < 1000000000
end Go.Proofs.YtmpmgmmcaghacaaGreatDoor
namespace Go.Proofs
open Go.Shelf
def Tryz.MS:Go.Shelf.Ren:=⟨fun|21=>207|27=>212|28=>213|35=>214|39=>215|n=>n,fun|22=>22|3=>3|4=>4|0=>0|n=>n,fun|n=>n⟩
theorem Tryz.VR:Go.Proofs.Lays2.n21 Tryz.prog Tryz.MS:={
 mixed:=by kernel_rfl
 f21:=Tryz.func207.trans (congrArg some (by kernel_rfl))
 f27:=Tryz.func212.trans (congrArg some (by kernel_rfl))
 f28:=Tryz.func213.trans (congrArg some (by kernel_rfl))
 f35:=Tryz.func214.trans (congrArg some (by kernel_rfl))
 f39:=Tryz.func215.trans (congrArg some (by kernel_rfl))
 t0:=Tryz.underlying0
 a0:=Tryz.isAgg0
 z0:=Tryz.sizeOf0
 v0:=Tryz.zeroValue0
 t3:=Tryz.underlying3
 a3:=Tryz.isAgg3
 z3:=Tryz.sizeOf3
 v3:=Tryz.zeroValue3
 t4:=Tryz.underlying4
 a4:=Tryz.isAgg4
 z4:=Tryz.sizeOf4
 v4:=Tryz.zeroValue4
 t22:=Tryz.underlying22
 a22:=Tryz.isAgg22
 z22:=Tryz.sizeOf22
 v22:=Tryz.zeroValue22
 i3:=by kernel_rfl }
def Tryz.RZ:Go.Shelf.Ren:=⟨fun|25=>206|31=>132|32=>211|37=>172|n=>n,fun|22=>22|3=>3|4=>4|40=>134|0=>0|n=>n,fun|n=>n⟩
theorem Tryz.aff:Go.Proofs.Lays2.n25 Tryz.prog Tryz.RZ:={
 mixed:=by kernel_rfl
 f25:=Tryz.func206.trans (congrArg some (by kernel_rfl))
 f31:=Tryz.func132.trans (congrArg some (by kernel_rfl))
 f32:=Tryz.func211.trans (congrArg some (by kernel_rfl))
 f37:=Tryz.func172.trans (congrArg some (by kernel_rfl))
 t0:=Tryz.underlying0
 a0:=Tryz.isAgg0
 z0:=Tryz.sizeOf0
 v0:=Tryz.zeroValue0
 t3:=Tryz.underlying3
 a3:=Tryz.isAgg3
 z3:=Tryz.sizeOf3
 v3:=Tryz.zeroValue3
 t4:=Tryz.underlying4
 a4:=Tryz.isAgg4
 z4:=Tryz.sizeOf4
 v4:=Tryz.zeroValue4
 t22:=Tryz.underlying22
 a22:=Tryz.isAgg22
 z22:=Tryz.sizeOf22
 v22:=Tryz.zeroValue22
 t40:=Tryz.underlying134
 a40:=Tryz.isAgg134
 z40:=Tryz.sizeOf134
 v40:=Tryz.zeroValue134 }
end Go.Proofs
namespace Go.Tp
open Go.Proofs Go.Shelf Go.RowKit
def cH (l:List Int):List ac:=l.map iv
def ints (l:List Int):List Value:=l.map (Value.int .i64)
section
variable {w:World} {R:Own} {N:Name->Option Nat}
theorem oD:∀{l:List Int} {us:List Value} {bs:List Nat},ah w R N (cH l) us bs->us=ints l/\bs=[]/\∀x∈l,bJ (.int .i64 x)=true
 | [],us,bs,h=>by obtain⟨rfl,rfl⟩:=aM h;simp[ints]
 | x::l,us,bs,h=>by
  have h:ah w R N (iv x::cH l) us bs:=h;obtain⟨v,vs',b1,b2,rfl,rfl,h1,h2⟩:=au h;obtain⟨rfl,rfl,h3⟩:=oD h2;simp only[ai] at h1;obtain⟨rfl,h1⟩:=h1;have h1:eU w R v (.flat (.int .i64 x)):=h1
  cases h1 with
  | flat hf=>exact⟨rfl,rfl,by rintro y hy;rcases List.mem_cons.1 hy with rfl|hy;exact hf;exact h3 y hy⟩
theorem Es:∀{l:List Int},(∀x∈l,bJ (.int .i64 x)=true)->ah w R N (cH l) (ints l) []
 | [],_=>aP
 | x::l,h=>by
  have h1:ai w R N (iv x) (.int .i64 x) []:=by
   simp only[ai];exact⟨trivial,.flat (h x (by simp))⟩
  exact aD (b1:=[]) (b2:=[]) h1 (Es (l:=l) (fun y hy=>h y (by simp[hy])))
theorem uy {l:List Int}:∀v∈ints l,v.oneCell'=true:=by
 intro v hv;obtain⟨x,_,rfl⟩:=List.mem_map.1 hv;rfl
theorem ab7 {l:List Int} {j:Nat} {v:Value} (h:(ints l)[j]?=some v):∃x,l[j]?=some x/\v=.int .i64 x:=by
 simp only[ints,List.getElem?_map,Option.map_eq_some_iff] at h;obtain⟨x,h1,h2⟩:=h;exact⟨x,h1,h2.symm⟩
theorem lC {b off:Nat} {vs:Array Value} {e:TypeId} {fr:Nat×Nat} (hb:w.heap[b]?=some (.cells vs e fr)) {v:Value} (h:vs.toList[off]?=some v):w.cell? ⟨b,off,none⟩=some v:=by
 rw[Array.getElem?_toList] at h;simp[World.cell?,hb,h]
theorem iB (b o:Nat) (e:TypeId) (news:List Value) (cur:Array Value) (hg:w.heap[b]?=some (.cells cur e (0,0))) (hfit:o+news.length<=cur.size) (h1:∀u∈news,u.oneCell'=true) :
  w.setCells b o news=w.setRow b (cur.toList.take o++news++cur.toList.drop (o+news.length)).toArray:=by
 have hc:∀j,j < news.length->(w.cell? ⟨b,o+0+j,none⟩).isSome=true:=by
  intro j hj;rw[lC hg (v:=cur.toList[o+0+j]'(by simp;omega)) (by simp)];rfl
 have hf:∀j,j < news.length->w.frozen? ⟨b,o+0+j,none⟩=false:=by
  intro j _;simp[World.frozen?,hg]
 have a1:=run_storeCells_cells (P:=default) b o news 0 w hc hf h1;have a2:=run_storeCells_at default b o e news 0 cur w hg (by simpa using hfit) h1;rw[a1] at a2;simp only[Nat.add_zero,Result.ok.injEq] at a2;exact a2.2
end
section
variable {P:Program} {ρ:Ren} {G:bA}
theorem qn {w:World} {R:Own} {g:Nat} {cur:Array Value} {t:TypeId} (hg:w.heap[g]?=some (.cells cur t (0,0))) (arr:Array Value) (hsz:arr.size=cur.size) (hRv:∀j,j < cur.size->R g j) (hpos:0 < cur.size) (bs:List Nat) (hb:g∉bs):bp w R (w.setRow g arr) R bs:=
 jH hg arr hsz (fun _ _ h=>h) (fun _ _ _ h=>h) (fun off hno=>by
  rw[Array.getElem?_eq_none (by
   rcases Nat.lt_or_ge off cur.size with h'|h'
   ·exact (hno (hRv off h')).elim
   ·omega),Array.getElem?_eq_none (by
   rcases Nat.lt_or_ge off cur.size with h'|h'
   ·exact (hno (hRv off h')).elim
   omega)]) ⟨0,hRv 0 hpos⟩ bs hb
theorem vU {w w':World} {R R':Own} {bs:List Nat} (k:bp w.drew R w' R' bs):bp w R w' R' bs:=
 ⟨⟨k.step.os,k.step.tape,k.step.output,k.step.size,k.step.block,k.step.cell,k.step.sizes⟩,k.same⟩
theorem Jr {w:World} {R:Own} (q:Nat) (bs:List Nat):bp w R (w.drewN q) R bs:=
 ⟨⟨rfl,rfl,rfl,Nat.le_refl _,fun b _ h=>⟨rfl,h⟩,fun b off _ h=>⟨h,rfl⟩,fun b _=>rfl⟩,fun b _ _=>⟨rfl,fun _ h=>h⟩⟩
theorem RQ (L:Lays2.n25 P ρ) {l:List Int} {x:Int} (hs:l.Pairwise (·<=·)) (hn:l.length < 1000000000) :
  ay P G (ρ.f 25) [.win (.out 0) 1 0 l.length,iv x] [(.out 0,.cells (cH l))] 1 (XQ ⟨.tup [iv (ofNat (l.countP (· < x))),bv (l.contains x)],[(.out 0,.cells (cH l))],1⟩):=by
 intro w R N cargs bsA bsH bsF hargs hheap hnd hnx hglob hF;obtain⟨v0,r1,c0,d1,rfl,rfl,h0,hr1⟩:=au hargs;obtain⟨v1,r2,c1,d2,rfl,rfl,h1,hr2⟩:=au hr1;obtain⟨rfl,rfl⟩:=aM hr2;have hheap0:=hheap;obtain⟨b,b1,b2,rfl,hb,hobj,hrest⟩:=hheap;have hrest:b2=[]:=hrest;subst hrest;obtain⟨vs,elem,sp,hblk,hrv,hRv,_⟩:=hobj;simp only[ai] at h0 h1;obtain⟨rfl,b',cap,hb',rfl,hcap,_,hblt,hrow⟩:=h0
 have:b'=b:=by rw[hb] at hb';simpa using hb'.symm
 subst this;obtain⟨rfl,h1⟩:=h1;have h1:eU w R v1 (.flat (.int .i64 x)):=h1;have e1:v1=.int .i64 x:=by cases h1 with|flat _=>rfl
 have hfx:bJ (.int .i64 x)=true:=by cases h1 with|flat h=>exact h
 subst e1;obtain⟨us1,us2,q1,q2,hus,rfl,hr1,_⟩:=eL hrv;obtain⟨rfl,rfl,hfl⟩:=oD hr1;have hcell:∀j,j < l.length->w.cell? ⟨b',0+j,none⟩=some (.int .i64 (l.getD j 0)):=by
  intro j hj;refine lC hblk ?_;rw[hus,Nat.zero_add,List.getElem?_append_left (by simp[ints];exact hj)];simp[ints,hj]
 refine (Any.slices_BinarySearch_int L b' 0 l.length cap l x w (Nat.le_refl _) (by omega) hcell (by rw[List.take_length];exact hs)).mono ?_;rintro e w' ⟨rfl,q,rfl⟩;rw[List.take_length];have hk:∀bs,bp w R (w.drewN q) R bs:=Jr q;refine⟨_,_,_,1,R,N,[],_,rfl,⟨rfl,rfl,rfl⟩,?_,hheap0.keep (hk _),by simpa using hnd,hnx,hk _,fun _ _ h=>h⟩;have hi:∀n:Nat,n < 9223372036854775808->bJ (.int .i64 (ofNat n))=true:=by
  intro n hn;simp[bJ,IntKind.min,IntKind.max,IntKind.signed,IntKind.bits];omega
 have hcnt:l.countP (· < x)<=l.length:=List.countP_le_length;simp only[ai];refine⟨[.int .i64 (ofNat (l.countP (· < x))),.bool (l.contains x)],rfl,?_⟩;refine aD (b1:=[]) (b2:=[]) ?_ (aD (b1:=[]) (b2:=[]) ?_ aP)
 ·simp only[ai];exact⟨trivial,.flat (hi _ (by omega))⟩
 simp only[ai];exact⟨trivial,.flat rfl⟩
def fw (l:List Int) (i:Nat) (x:Int):List Int:=l.take i++x::l.drop i
theorem uz {l:List Int} {i:Nat} {x:Int} (h:i<=l.length):(fw l i x).length=l.length+1:=by simp[fw];omega
theorem oG {l:List Int} {i:Nat} {x:Int}:ints (fw l i x)=(ints l).take i++.int .i64 x::(ints l).drop i:=by simp[fw,ints,List.map_take,List.map_drop]
theorem JA {l:List Int} {i:Nat} {x:Int} (h:∀y∈l,bJ (.int .i64 y)=true) (hx:bJ (.int .i64 x)=true):∀y∈fw l i x,bJ (.int .i64 y)=true:=by
 intro y hy;simp only[fw,List.mem_append,List.mem_cons] at hy
 rcases hy with hy|rfl|hy
 ·exact h y (List.mem_of_mem_take hy)
 ·exact hx
 exact h y (List.mem_of_mem_drop hy)
theorem LB (l:List Int):cd (cH l)=false:=by
 rcases l with _|⟨a,_|⟨b,_|⟨c,r⟩⟩⟩ <;> rfl
theorem mY {w:World} {R:Own} {N:Name->Option Nat}:∀{n:Nat} {us:List Value} {bs:List Nat},ah w R N (List.replicate n .undef) us bs->bs=[]/\us.length=n
 | 0,us,bs,h=>by obtain⟨rfl,rfl⟩:=aM h;exact⟨rfl,rfl⟩
 | n+1,us,bs,h=>by
  have h:ah w R N (.undef::List.replicate n .undef) us bs:=h;obtain⟨v,vs',b1,b2,rfl,rfl,h1,h2⟩:=au h;obtain⟨rfl,h3⟩:=mY h2;simp only[ai] at h1;subst h1;exact⟨rfl,by simp[h3]⟩
theorem yx {w w':World} {R R':Own} {N:Name->Option Nat} {vb g cap:Nat} {elem:TypeId} {arr rest:List Value} {l2:List Int} {x:Int} {bsF:List Nat}
  (hnx:∀o b,N (.out o)=some b->o < 2) (hk:∀bs,g∉bs->bp w R w' R' bs) (hgF:g∉bsF) (hgv:g≠vb) (hnd:(vb::bsF).Nodup)
  (hg:w'.heap[g]?=some (.cells arr.toArray elem (0,0))) (harr:arr=ints l2++rest) (hfl:∀y∈l2,bJ (.int .i64 y)=true) (hR':∀j,j < arr.length->R' g j) (hcap:arr.length=cap) (hcm:cap<=jq) (hl2:l2.length<=cap)
  (hv:aj w R (outs N) [(.out 1,.cells [iv x])] [vb]) (cv:Value) (hcv:cv=.slice (some ⟨g,0,none⟩) l2.length cap) :
  ∃v cv' heap' next' R2 N' bsV bsH',Ending.returned cv=.returned cv'/\XQ ⟨.win (.out 2) 1 0 l2.length,[(.out 2,.cells (cH l2)),(.out 1,.cells [iv x])],3⟩ v heap' next'/\ai w' R2 (outs N') v cv' bsV/\aj w' R2 (outs N') heap' bsH' ∧
   (bsV++(bsH'++bsF)).Nodup/\(∀o b,N' (.out o)=some b->o < next')/\bp w R w' R2 bsF/\(∀o b,N (.out o)=some b->N' (.out o)=some b):=by
 have hext:=FG (N:=N) (b:=g) hnx;have hlt:g < w'.heap.size:=bN hg;refine⟨_,cv,_,3,R',bX N (.out 2) g,[],[g,vb],rfl,⟨rfl,rfl,rfl⟩,?_,?_,?_,?_,hk bsF hgF,fun o b h=>hext _ _ h⟩
 ·simp only[ai];refine⟨trivial,g,cap,by simp[outs,bX],hcv,hl2,⟨by decide,hcm⟩,hlt,?_⟩;rw[dF hg];simp[hcap]
 ·refine⟨g,[],[vb],rfl,by simp[outs,bX],?_,(hv.keep (hk _ (by simpa using hgv))).ext (Gb hext)⟩;refine⟨arr.toArray,elem,rest.length,hg,?_,fun j hj=>hR' j (by simpa using hj),fun h=>by rw[LB] at h;simp at h⟩;have h1:ah w' R' (outs (bX N (.out 2) g)) (cH l2) (ints l2) []:=Es hfl;have h2:=fK (w:=w') (R:=R') (N:=outs (bX N (.out 2) g)) rest;simpa [harr] using ct h1 h2
 ·simp only[List.nil_append,List.cons_append];refine List.nodup_cons.2 ⟨?_,hnd⟩;simp only[List.mem_cons,not_or];exact⟨hgv,hgF⟩
 intro o c ho
 by_cases hne:o=2
 ·omega
 have:N (.out o)=some c:=by simpa [bX,hne] using ho
 have:=hnx o c this
 omega
theorem Uo (B z1 z2:List Value) (x zz:Value) (i:Nat) (h:B.length=i):(B++zz::z1++z2).take i++[x]++(B++zz::z1++z2).drop (i+1)=B++x::(z1++z2):=by
 subst h;have e1:(B++zz::z1++z2).take B.length=B:=by simp
 have e2:(B++zz::z1++z2).drop (B.length+1)=z1++z2:=by
  rw[List.append_assoc,List.drop_length_add_append];rfl
 rw[e1,e2];simp
theorem MR (A:List Value) (u0 x:Value) (us3:List Value) (i:Nat) (h:i<=A.length) :
  ((A++u0::us3).take (i+1)++A.drop i++(A++u0::us3).drop (i+1+(A.drop i).length)).take i++[x]++((A++u0::us3).take (i+1)++A.drop i++(A++u0::us3).drop (i+1+(A.drop i).length)).drop (i+1)=A.take i++x::A.drop i++us3:=by
 obtain⟨A1,A2,rfl,h1⟩:∃A1 A2,A=A1++A2/\A1.length=i:=⟨A.take i,A.drop i,(List.take_append_drop i A).symm,by simp;omega⟩;subst h1;have e1:(A1++A2).drop A1.length=A2:=by simp
 have e2:(A1++A2).take A1.length=A1:=by simp
 rw[e1,e2];obtain⟨y,t,ht⟩:∃y t,A2++u0::us3=y::t:=by cases A2 with|nil=>exact⟨_,_,rfl⟩|cons a r=>exact⟨_,_,rfl⟩
 have e3:(A1++A2++u0::us3).take (A1.length+1)=A1++[y]:=by rw[List.append_assoc,ht];simp[List.take_append];exact List.take_of_length_le (by omega)
 have e4:(A1++A2++u0::us3).drop (A1.length+1+A2.length)=us3:=by
  have:A1.length+1+A2.length=(A1++A2).length+1:=by simp;omega
  rw[this,List.drop_length_add_append];rfl
 rw[e3,e4];simp[List.take_append,List.drop_append]
theorem RS (L:Lays2.n21 P ρ) {l:List Int} {x:Int} {i:Nat} (hi:i<=l.length) (hn:l.length < 1000000000) :
  ay P G (ρ.f 21) [.win (.out 0) 1 0 l.length,iv (ofNat i),.win (.out 1) 1 0 1] [(.out 0,.cells (cH l)),(.out 1,.cells [iv x])] 2
   (XQ ⟨.win (.out 2) 1 0 (fw l i x).length,[(.out 2,.cells (cH (fw l i x))),(.out 1,.cells [iv x])],3⟩):=by
 intro w R N cargs bsA bsH bsF hargs hheap hnd hnx hglob hF;obtain⟨v0,r1,c0,d1,rfl,rfl,h0,hr1⟩:=au hargs;obtain⟨v1,r2,c1,d2,rfl,rfl,h1,hr2⟩:=au hr1;obtain⟨v2,r3,c2,d3,rfl,rfl,h2,hr3⟩:=au hr2;obtain⟨rfl,rfl⟩:=aM hr3;obtain⟨b,b1,b2,rfl,hb,hobj,hrest⟩:=hheap;have hrest0:=hrest;obtain⟨vb,b3,b4,rfl,hvb,hobjv,hrest⟩:=hrest;have hrest:b4=[]:=hrest;subst hrest;obtain⟨vs,elem,sp,hblk,hrv,hRv,_⟩:=hobj;obtain⟨vs2,elem2,sp2,hblk2,hrv2,hRv2,_⟩:=hobjv;simp only[ai] at h0 h1 h2;obtain⟨rfl,b',cap,hb',rfl,hcap,⟨_,hcm⟩,hblt,hrow⟩:=h0
 have:b'=b:=by rw[hb] at hb';simpa using hb'.symm
 subst this;obtain⟨rfl,vb',vc,hvb',rfl,hvc,_,hvlt,hvrow⟩:=h2
 have:vb'=vb:=by rw[hvb] at hvb';simpa using hvb'.symm
 subst this;obtain⟨rfl,h1⟩:=h1;have h1:eU w R v1 (.flat (.int .i64 (ofNat i))):=h1;have e1:v1=.int .i64 (ofNat i):=by cases h1 with|flat _=>rfl
 subst e1;obtain⟨us1,us2,q1,q2,hus,rfl,hr1,hq2⟩:=eL hrv;obtain⟨rfl,rfl,hfl⟩:=oD hr1;obtain⟨ws1,ws2,q3,q4,hws,rfl,hr2,hq4⟩:=eL hrv2;obtain⟨rfl,rfl,hfx⟩:=oD (l:=[x]) hr2;have hfx:=hfx x (by simp);obtain⟨rfl,_⟩:=mY hq2;obtain⟨rfl,_⟩:=mY hq4;simp only[List.nil_append,List.append_nil,List.cons_append] at hnd;have hvb0:b'≠vb':=by
  have:=(List.nodup_cons.1 hnd).1
  simp only[List.mem_cons,not_or] at this;exact this.1
 have hbF:b'∉bsF:=by
  have:=(List.nodup_cons.1 hnd).1
  simp only[List.mem_cons,not_or] at this;exact this.2
 have hnd2:(vb'::bsF).Nodup:=(List.nodup_cons.1 hnd).2;have hsz:vs.size=cap:=by rw[dF hblk] at hrow;omega
 have hlen:(ints l).length=l.length:=by simp[ints]
 have hl2:(fw l i x).length=l.length+1:=uz hi;have hfl2:=JA (i:=i) hfl hfx;have hvs:∀j v,[Value.int .i64 x][j]?=some v->w.cell? ⟨vb',0+j,none⟩=some v:=by
  intro j v hj;refine lC hblk2 ?_;rw[hws]
  cases j with
  | zero=>simpa [ints] using hj
  | succ j=>simp at hj
 have hcs:∀j v,(ints l)[j]?=some v->w.cell? ⟨b',0+j,none⟩=some v:=by
  intro j v hj;refine lC hblk ?_
  have:j < (ints l).length:=(List.getElem?_eq_some_iff.1 hj).1
  rw[hus,Nat.zero_add,List.getElem?_append_left this];exact hj
 have h1v:∀v∈[Value.int .i64 x],v.oneCell'=true:=by intro v hv;simp at hv;subst hv;rfl
 have hsome:∀j,j < cap->(w.cell? ⟨b',0+j,none⟩).isSome=true:=by
  intro j hj;have hj2:j < vs.toList.length:=by simp;omega
  rw[lC hblk (v:=vs.toList[j]) (by rw[Nat.zero_add];exact List.getElem?_eq_getElem hj2)];rfl
 have hfroz:∀j,w.frozen? ⟨b',j,none⟩=false:=by intro j;simp[World.frozen?,hblk]
 have hus2:us2.length=cap - l.length:=by
  have:=congrArg List.length hus
  simp[hlen] at this;omega
 by_cases hroom:l.length+1<=cap
 ·
  obtain⟨u0,us3,rfl⟩:∃u0 us3,us2=u0::us3:=by
   cases us2 with
   | nil=>simp at hus2;omega
   | cons a r=>exact⟨a,r,rfl⟩
  rcases Nat.lt_or_ge i l.length with hlt|hge
  ·refine (Any2.slices_Insert_int_shift L b' 0 l.length cap i vb' 0 1 vc (ints l) [.int .i64 x] w hlt (by decide) hroom ?_ (Ne.symm hvb0) hlen rfl hcs (fun j hj=>hsome j (by omega)) (fun j _=>hfroz _) hvs uy h1v elem2 elem vs2.size vs.size ?_ ?_ ?_ ?_ ?_).mono ?_
   ·exact hcm
   ·simp[World.shape?,hblk2]
   ·simp[World.shape?,hblk]
   ·omega
   ·simp[World.frozen?,hblk2]
   ·simp[World.frozen?,hblk2]
   rintro e w' ⟨rfl,rfl⟩;have hg1:(w.drew).heap[b']?=some (.cells vs elem (0,0)):=hblk;have hd:((ints l).drop i).length=l.length - i:=by simp[hlen]
   rw[iB (w:=w.drew) b' (0+(i+1)) elem ((ints l).drop i) vs hg1 (by rw[hd];omega) (fun u hu=>uy u (List.mem_of_mem_drop hu))];obtain⟨ar1,har1⟩:∃ar1,ar1=vs.toList.take (0+(i+1))++(ints l).drop i++vs.toList.drop (0+(i+1)+((ints l).drop i).length):=⟨_,rfl⟩;rw[←har1];have hl1:ar1.length=cap:=by
    rw[har1];simp[hlen];omega
   have hg2:=setRow_heap w.drew b' vs ar1.toArray elem (0,0) hg1;rw[iB (w:=w.drew.setRow b' ar1.toArray) b' (0+i) elem [.int .i64 x] ar1.toArray hg2 (by simp[hl1];omega) h1v];obtain⟨ar2,har2⟩:∃ar2,ar2=ar1.toArray.toList.take (0+i)++[.int .i64 x]++ar1.toArray.toList.drop (0+i+[Value.int .i64 x].length):=⟨_,rfl⟩;rw[←har2];have hl3:ar2.length=cap:=by
    rw[har2];simp[hl1];omega
   have hg3:=setRow_heap (w.drew.setRow b' ar1.toArray) b' ar1.toArray ar2.toArray elem (0,0) hg2;refine yx (g:=b') (vb:=vb') (cap:=cap) (arr:=ar2) (rest:=us3) (R':=R) hnx (fun bs hb=>?_) hbF hvb0 hnd2 hg3 ?_ hfl2 (fun j hj=>hRv j (by omega)) hl3 hcm (by rw[hl2];exact hroom) hrest0 _ (by rw[hl2])
   ·refine vU (bp.trans (qn hg1 ar1.toArray (by simp[hl1,hsz]) hRv (by omega) bs hb) (qn hg2 ar2.toArray (by simp[hl1,hl3]) (fun j hj=>hRv j (by simp[hl1] at hj;omega)) (by simp[hl1];omega) bs hb))
   -- the cells
   have hv:vs.toList=ints l++(u0::us3):=hus;rw[har2,har1,hv,oG];simp only[Nat.zero_add,List.toList_toArray,List.length_singleton];exact MR (ints l) u0 (.int .i64 x) us3 i (by rw[hlen];omega)
  have hil:i=l.length:=by omega
  subst hil;refine (Any2.slices_Insert_int_end_room L b' 0 l.length cap vb' 0 1 vc [.int .i64 x] w (by decide) hroom hcm rfl (fun j hj=>?_) (fun j _=>hfroz _) hvs h1v).mono ?_
  ·rw[Nat.add_assoc];exact hsome _ (by omega)
  rintro e w' ⟨rfl,rfl⟩;rw[iB (w:=w) b' (0+l.length) elem [.int .i64 x] vs hblk (by simp;omega) h1v];obtain⟨ar2,har2⟩:∃ar2,ar2=vs.toList.take (0+l.length)++[.int .i64 x]++vs.toList.drop (0+l.length+[Value.int .i64 x].length):=⟨_,rfl⟩;rw[←har2];have hl3:ar2.length=cap:=by
   rw[har2];simp;omega
  have hg3:=setRow_heap w b' vs ar2.toArray elem (0,0) hblk;refine yx (g:=b') (vb:=vb') (cap:=cap) (arr:=ar2) (rest:=us3) (R':=R) hnx (fun bs hb=>qn hblk ar2.toArray (by simp[hl3,hsz]) hRv (by omega) bs hb) hbF hvb0 hnd2 hg3 ?_ hfl2 (fun j hj=>hRv j (by omega)) hl3 hcm (by rw[hl2];exact hroom) hrest0 _ (by rw[hl2]);have hv:vs.toList=ints l++(u0::us3):=hus;rw[har2,hv,oG,Nat.zero_add,←hlen,List.take_left,List.take_length,List.drop_length,List.length_singleton,List.drop_length_add_append];simp
 -- a new row
 have hcl:cap=l.length:=by omega
 subst hcl;have hge:=grownCap_ge w (l.length+1) l.length (ρ.t 3);have hgm:grownCap w (l.length+1) l.length (ρ.t 3)<=jq:=Nat.le_trans (grownCap_le_maxLen w (l.length+1) l.length (ρ.t 3) (by unfold maxLen;omega)) (by decide);generalize hgc:grownCap w (l.length+1) l.length (ρ.t 3)=gc at hge hgm;have hltb:b' < w.heap.size:=bN hblk;have hltv:vb' < w.heap.size:=bN hblk2;have hzs:∀n,(Builtin.zeroCells (Value.int .i64 0).cells n).toList.length=n:=fun n=>by simp[Builtin.zeroCells,Value.cells]
 have hF2:w.heap.size∉bsF:=fun h=>by have:=hF _ h;omega
 have hRm:∀j,R.more w.heap.size w.heap.size j:=fun j=>.inl rfl
 rcases Nat.lt_or_ge i l.length with hlt|hge2
 ·refine (Any2.slices_Insert_int_grow L b' 0 l.length l.length i vb' 0 1 vc (ints l) [.int .i64 x] w hlt (by decide) (Nat.le_refl _) (by omega) (by omega) hlen rfl hcs hvs uy h1v).mono ?_;rw[hgc];rintro e w' ⟨rfl,rfl⟩;obtain⟨z1,hz1⟩:∃z1,z1=(Builtin.zeroCells (Value.int .i64 0).cells (l.length+1 - i)).toList:=⟨_,rfl⟩;obtain⟨z2,hz2⟩:∃z2,z2=(Builtin.zeroCells (Value.int .i64 0).cells (gc - (l.length+1))).toList:=⟨_,rfl⟩;have hl1:z1.length=l.length+1 - i:=by rw[hz1,hzs]
  have hl2':z2.length=gc - (l.length+1):=by rw[hz2,hzs]
  obtain⟨ar0,har0⟩:∃ar0,ar0=(ints l).take i++z1++z2:=⟨_,rfl⟩;have hc0:(((ints l).take i).toArray++Builtin.zeroCells (Value.int .i64 0).cells (l.length+1 - i)++Builtin.zeroCells (Value.int .i64 0).cells (gc - (l.length+1)))=ar0.toArray:=by rw[har0,hz1,hz2];simp
  rw[hc0];have hl0:ar0.length=gc:=by rw[har0];simp[hl1,hl2',hlen];omega
  have hg0:((w.alloc (.cells ar0.toArray (ρ.t 3))).drew).heap[w.heap.size]?=some (.cells ar0.toArray (ρ.t 3) (0,0)):=heap_alloc_new w _;rw[iB (w:=(w.alloc (.cells ar0.toArray (ρ.t 3))).drew) w.heap.size i (ρ.t 3) [.int .i64 x] ar0.toArray hg0 (by simp[hl0];omega) h1v];obtain⟨ar1,har1⟩:∃ar1,ar1=ar0.toArray.toList.take i++[.int .i64 x]++ar0.toArray.toList.drop (i+[Value.int .i64 x].length):=⟨_,rfl⟩;rw[←har1];have hl3:ar1.length=gc:=by rw[har1];simp[hl0];omega
  have hg1:=setRow_heap (w.alloc (.cells ar0.toArray (ρ.t 3))).drew w.heap.size ar0.toArray ar1.toArray (ρ.t 3) (0,0) hg0;have hg1':(((w.alloc (.cells ar0.toArray (ρ.t 3))).drew.setRow w.heap.size ar1.toArray).drew).heap[w.heap.size]?=some (.cells ar1.toArray (ρ.t 3) (0,0)):=hg1;have hd:((ints l).drop i).length=l.length - i:=by simp[hlen]
  rw[iB (w:=((w.alloc (.cells ar0.toArray (ρ.t 3))).drew.setRow w.heap.size ar1.toArray).drew) w.heap.size (i+1) (ρ.t 3) ((ints l).drop i) ar1.toArray hg1' (by rw[hd];simp[hl3];omega) (fun u hu=>uy u (List.mem_of_mem_drop hu))];obtain⟨ar2,har2⟩:∃ar2,ar2=ar1.toArray.toList.take (i+1)++(ints l).drop i++ar1.toArray.toList.drop (i+1+((ints l).drop i).length):=⟨_,rfl⟩;rw[←har2];have hl4:ar2.length=gc:=by rw[har2];simp[hl3,hlen];omega
  have hg2:=setRow_heap ((w.alloc (.cells ar0.toArray (ρ.t 3))).drew.setRow w.heap.size ar1.toArray).drew w.heap.size ar1.toArray ar2.toArray (ρ.t 3) (0,0) hg1';refine yx (g:=w.heap.size) (vb:=vb') (cap:=gc) (arr:=ar2) (rest:=z2) (R':=R.more w.heap.size) hnx (fun bs hb=>?_) hF2 (by omega) hnd2 hg2 ?_ hfl2 (fun j _=>hRm j) hl4 hgm (by rw[hl2];exact hge) hrest0 _ (by rw[hl2])
  ·have k1:bp w R (w.alloc (.cells ar0.toArray (ρ.t 3))) (R.more w.heap.size) bs:=gx _ (fun b off hb=>Own.qj hb) bs;have k2:=qn (R:=R.more w.heap.size) hg0 ar1.toArray (by simp[hl0,hl3]) (fun j _=>hRm j) (by simp[hl0];omega) bs hb;have k3:=qn (R:=R.more w.heap.size) hg1' ar2.toArray (by simp[hl4,hl3]) (fun j _=>hRm j) (by simp[hl3];omega) bs hb;exact k1.trans (vU (k2.trans (vU k3)))
  have e0:((ints l).take i).length=i:=by simp[hlen];omega
  obtain⟨zz,z1',hz⟩:∃zz z1',z1=zz::z1':=by
   cases z1 with
   | nil=>simp at hl1;omega
   | cons a r=>exact⟨a,r,rfl⟩
  have hl5:z1'.length=l.length - i:=by rw[hz] at hl1;simp at hl1;omega
  have e1:ar1=(ints l).take i++.int .i64 x::(z1'++z2):=by
   rw[har1,har0,hz];simp only[List.toList_toArray,List.length_singleton];exact Uo _ z1' z2 (.int .i64 x) zz i e0
  rw[har2,e1,oG];simp only[List.toList_toArray];have e2:((ints l).take i++.int .i64 x::(z1'++z2)).take (i+1)=(ints l).take i++[.int .i64 x]:=by
   rw[List.take_append,e0];simp[List.take_take]
  have e3:((ints l).take i++.int .i64 x::(z1'++z2)).drop (i+1+((ints l).drop i).length)=z2:=by
   have:i+1+((ints l).drop i).length=((ints l).take i).length+(1+z1'.length):=by rw[e0,hd,hl5];omega
   rw[this,List.drop_length_add_append,Nat.add_comm 1,List.drop_succ_cons,List.drop_left]
  rw[e2,e3];simp
 have hil:i=l.length:=by omega
 subst hil;refine (Any2.slices_Insert_int_end_grow L (some ⟨b',0,none⟩) l.length l.length vb' 0 1 vc (ints l) [.int .i64 x] w (by decide) (Nat.le_refl _) (by omega) (by omega) hlen rfl (by simp) (fun a ha j v hj=>?_) hvs h1v).mono ?_
 ·simp only[Option.some.injEq] at ha;subst ha;rw[add_plain];exact hcs j v hj
 rw[hgc];rintro e w' ⟨rfl,rfl⟩;obtain⟨ar2,har2⟩:∃ar2,ar2=(ints l++[.int .i64 x])++(Builtin.zeroCells (Value.int .i64 0).cells (gc - (l.length+1))).toList:=⟨_,rfl⟩;have hcells:((ints l++[Value.int .i64 x]).toArray++Builtin.zeroCells (Value.int .i64 0).cells (gc - (l.length+1)))=ar2.toArray:=by rw[har2];simp
 rw[hcells];have hl3:ar2.length=gc:=by rw[har2,List.length_append,hzs];simp[hlen];omega
 have hg3:(w.drew.alloc (.cells ar2.toArray (ρ.t 3))).heap[w.heap.size]?=some (.cells ar2.toArray (ρ.t 3) (0,0)):=heap_alloc_new w.drew _;refine yx (g:=w.heap.size) (vb:=vb') (cap:=gc) (arr:=ar2) (rest:=(Builtin.zeroCells (Value.int .i64 0).cells (gc - (l.length+1))).toList) (R':=R.more w.heap.size) hnx (fun bs hb=>gV _ (fun b off hb=>Own.qj hb) bs) hF2 (by omega) hnd2 hg3 ?_ hfl2 (fun j _=>hRm j) hl3 hgm (by rw[hl2];exact hge) hrest0 _ (by rw[hl2]);rw[har2,oG,←hlen,List.take_length,List.drop_length]
theorem EU (L:Lays2.n21 P ρ) {x:Int} :
  ay P G (ρ.f 21) [.dat (.flat (.slice none 0 0)),iv (ofNat 0),.win (.out 0) 1 0 1] [(.out 0,.cells [iv x])] 1
   (XQ ⟨.win (.out 1) 1 0 1,[(.out 1,.cells [iv x]),(.out 0,.cells [iv x])],2⟩):=by
 intro w R N cargs bsA bsH bsF hargs hheap hnd hnx hglob hF;obtain⟨v0,r1,c0,d1,rfl,rfl,h0,hr1⟩:=au hargs;obtain⟨v1,r2,c1,d2,rfl,rfl,h1,hr2⟩:=au hr1;obtain⟨v2,r3,c2,d3,rfl,rfl,h2,hr3⟩:=au hr2;obtain⟨rfl,rfl⟩:=aM hr3;have hheap0:=hheap;obtain⟨vb,b3,b4,rfl,hvb,hobjv,hrest⟩:=hheap;have hrest:b4=[]:=hrest;subst hrest;obtain⟨vs2,elem2,sp2,hblk2,hrv2,hRv2,_⟩:=hobjv;simp only[ai] at h0 h1 h2;obtain⟨rfl,h0⟩:=h0;have hv:v0=.slice none 0 0:=by
  have h0:eU w R v0 (.flat (.slice none 0 0)):=h0
  cases h0 with|flat _=>rfl
 subst hv;obtain⟨rfl,vb',vc,hvb',rfl,hvc,_,hvlt,hvrow⟩:=h2
 have:vb'=vb:=by rw[hvb] at hvb';simpa using hvb'.symm
 subst this;obtain⟨rfl,h1⟩:=h1;have h1:eU w R v1 (.flat (.int .i64 (ofNat 0))):=h1;have e1:v1=.int .i64 (ofNat 0):=by cases h1 with|flat _=>rfl
 subst e1;obtain⟨ws1,ws2,q3,q4,hws,rfl,hr2,hq4⟩:=eL hrv2;obtain⟨rfl,rfl,hfx⟩:=oD (l:=[x]) hr2;obtain⟨rfl,_⟩:=mY hq4;simp only[List.nil_append,List.append_nil] at hnd;have hvs:∀j v,[Value.int .i64 x][j]?=some v->w.cell? ⟨vb',0+j,none⟩=some v:=by
  intro j v hj;refine lC hblk2 ?_;rw[hws]
  cases j with
  | zero=>simpa [ints] using hj
  | succ j=>simp at hj
 have h1v:∀v∈[Value.int .i64 x],v.oneCell'=true:=by intro v hv;simp at hv;subst hv;rfl
 have hltv:vb' < w.heap.size:=bN hblk2;have hF2:w.heap.size∉bsF:=fun h=>by have:=hF _ h;omega
 refine (Any2.slices_Insert_int_end_grow L none 0 0 vb' 0 1 vc [] [.int .i64 x] w (by decide) (Nat.le_refl _) (by omega) (by omega) rfl rfl (by simp) (by simp) hvs h1v).mono ?_;have hge:=grownCap_ge w (0+1) 0 (ρ.t 3);have hgm:grownCap w (0+1) 0 (ρ.t 3)<=jq:=Nat.le_trans (grownCap_le_maxLen w (0+1) 0 (ρ.t 3) (by unfold maxLen;omega)) (by decide);generalize hgc:grownCap w (0+1) 0 (ρ.t 3)=gc at hge hgm;have hzs:∀n,(Builtin.zeroCells (Value.int .i64 0).cells n).toList.length=n:=fun n=>by simp[Builtin.zeroCells,Value.cells]
 rintro e w' ⟨rfl,rfl⟩;obtain⟨ar2,har2⟩:∃ar2,ar2=Value.int .i64 x::(Builtin.zeroCells (Value.int .i64 0).cells (gc - (0+1))).toList:=⟨_,rfl⟩;have hcells:(([]++[Value.int .i64 x]).toArray++Builtin.zeroCells (Value.int .i64 0).cells (gc - (0+1)))=ar2.toArray:=by
  apply Array.toList_inj.1
  rw[har2];simp
 rw[hcells];have hl3:ar2.length=gc:=by rw[har2,List.length_cons,hzs];omega
 have hg3:(w.drew.alloc (.cells ar2.toArray (ρ.t 3))).heap[w.heap.size]?=some (.cells ar2.toArray (ρ.t 3) (0,0)):=heap_alloc_new w.drew _;have hk:∀bs,bp w R (w.drew.alloc (.cells ar2.toArray (ρ.t 3))) (R.more w.heap.size) bs:=fun bs=>gV _ (fun b off hb=>Own.qj hb) bs
 have hext:=FG (N:=N) (b:=w.heap.size) hnx;refine⟨_,_,_,2,R.more w.heap.size,bX N (.out 1) w.heap.size,[],[w.heap.size,vb'],rfl,⟨rfl,rfl,rfl⟩,?_,?_,?_,?_,hk bsF,fun o b h=>hext _ _ h⟩
 ·simp only[ai];refine⟨trivial,w.heap.size,gc,by simp[outs,bX],rfl,hge,⟨by decide,hgm⟩,bN hg3,?_⟩;rw[dF hg3];simp[hl3]
 ·refine⟨w.heap.size,[],[vb'],rfl,by simp[outs,bX],?_,((by simpa using hheap0:aj w R (outs N) _ [vb']).keep (hk _)).ext (Gb hext)⟩;refine⟨ar2.toArray,ρ.t 3,(Builtin.zeroCells (Value.int .i64 0).cells (gc - (0+1))).toList.length,hg3,?_,fun j _=>.inl rfl,fun h=>by simp[cd] at h⟩;have h2:=fK (w:=w.drew.alloc (.cells ar2.toArray (ρ.t 3))) (R:=R.more w.heap.size) (N:=outs (bX N (.out 1) w.heap.size)) (Builtin.zeroCells (Value.int .i64 0).cells (gc - (0+1))).toList;have h3:ah (w.drew.alloc (.cells ar2.toArray (ρ.t 3))) (R.more w.heap.size) (outs (bX N (.out 1) w.heap.size)) (cH [x]) (ints [x]) []:=Es hfx;have h4:=ct h3 h2;have e:ar2.toArray.toList=ints [x]++(Builtin.zeroCells (Value.int .i64 0).cells (gc - (0+1))).toList:=by rw[har2];rfl
  rw[e];exact h4
 ·simp only[List.nil_append,List.cons_append];refine List.nodup_cons.2 ⟨?_,hnd⟩;simp only[List.mem_cons,not_or];exact⟨by omega,hF2⟩
 intro o c ho
 by_cases hne:o=1
 ·omega
 have:N (.out o)=some c:=by simpa [bX,hne] using ho
 have:=hnx o c this
 omega
theorem ay.UD {g:FuncId} {args:List ac} {r m:Nat} {l:List Int} {rest:Heap} (h:ay P G g args [] 0 (XQ ⟨.win (.out r) 1 0 l.length,(.out r,.cells (cH l))::rest,m⟩)) (hn:l.length<=lim) :
  ay P G g args [] 0 (XQ ⟨.dat (.slice (l.map fun x=>.flat (.int .i64 x))),[],0⟩):=by
 intro w R N cargs bsA bsH bsF ha hh hnd hnx hg hF;refine (h w R N cargs bsA bsH bsF ha hh hnd hnx hg hF).mono ?_;rintro e w' ⟨v,cv,hp,m',R',N',bsV,bsH',rfl,⟨rfl,rfl,rfl⟩,hv,hh',hnd',hnx',hk,hN⟩;simp only[ai] at hv;obtain⟨rfl,b,cap,hb,rfl,hcap,_,hblt,hrow⟩:=hv;obtain⟨b',b1,b2,rfl,hb',hobj,hrest⟩:=hh'
 have:b'=b:=by rw[hb] at hb';simpa using hb'.symm
 subst this;obtain⟨vs,elem,sp,hblk,hrv,hRv,_⟩:=hobj;obtain⟨us1,us2,q1,q2,hus,rfl,hr1,_⟩:=eL hrv;obtain⟨rfl,rfl,hfl⟩:=oD hr1;have hbF:b'∉bsF:=by
  intro hm;have h1:(b'::((([]++q2)++b2)++bsF)).Nodup:=by simpa using hnd'
  exact (List.nodup_cons.1 h1).1 (List.mem_append_right _ hm)
 let R2:Own:=fun c off=>c≠b'/\R' c off
 have hk2:bp w' R' w' R2 bsF:=⟨⟨rfl,rfl,rfl,Nat.le_refl _,fun c _ hno=>⟨rfl,fun off h=>hno off h.2⟩,fun c off _ hno=>⟨fun h=>hno h.2,rfl⟩,fun _ _=>rfl⟩,fun c hc _=>⟨rfl,fun off h=>⟨fun e=>hbF (e ▸ hc),h⟩⟩⟩;refine⟨_,_,_,0,R2,fun m=>match m with|.loc i=>N' (.loc i)|.out _=>none,[],[],rfl,⟨rfl,rfl,rfl⟩,?_,rfl,?_,by intro o c ho;simp at ho,hk.trans hk2,?_⟩
 ·simp only[ai];refine⟨trivial,?_⟩;have hl:l.length=(l.map fun x=>ak.flat (.int .i64 x)).length:=by simp
  rw[hl];refine eU.slice b' 0 cap 1 _ (fun i _=>.int .i64 (l.getD i 0)) (by decide) ?_ (by simpa using hcap) (by simpa using hn) ?_ ?_
  ·intro e he;obtain⟨x,_,rfl⟩:=List.mem_map.1 he;rfl
  ·intro i j hi hj
   have:j=0:=by omega
   subst this;simp only[List.length_map] at hi;refine⟨?_,fun h=>h.1 rfl⟩;refine lC hblk ?_;rw[hus,show 0+i*1+0=i by omega,List.getElem?_append_left (by simp[ints];exact hi)];simp[ints,hi]
  intro i j e c he hc;simp only[List.getElem?_map,Option.map_eq_some_iff] at he;obtain⟨x,hx,rfl⟩:=he;have hc2:c=.flat (.int .i64 x):=by
   have hc:[ak.flat (.int .i64 x)][j]?=some c:=hc
   cases j with
   | zero=>simpa using hc.symm
   | succ j=>simp at hc
  subst hc2;obtain⟨hi,rfl⟩:=List.getElem?_eq_some_iff.1 hx
  have:l.getD i 0=l[i]:=by simp[hi]
  rw[this];exact .flat (hfl _ (List.getElem_mem hi))
 ·have h1:(b'::((([]++q2)++b2)++bsF)).Nodup:=by simpa using hnd'
  have h2:=(List.nodup_cons.1 h1).2;simpa using (List.nodup_append.1 h2).2.1
 intro o c ho
 have:=hnx o c ho
 omega
end
end Go.Tp
