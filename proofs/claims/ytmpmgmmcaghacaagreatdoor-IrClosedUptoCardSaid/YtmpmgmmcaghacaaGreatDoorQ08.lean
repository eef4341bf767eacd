/- IrClosed returns true and changes nothing, for arguments of bulk at most 1048576 (the card of the second form; conditions: those of the given row). Names are shortened by a program, for the claim's bound. Part 8. -/
import Derived.Test.YtmpmgmmcaghacaaGreatDoorCards
import Derived.Test.YtmpmgmmcaghacaaGreatDoorTie
import Derived.WalkKit
import Derived.ProofKit
import Derived.OpenShut
import Derived.Deep.DeepHandedRow
import Derived.Deep.DeepWitnessRowRef
import Derived.Test.YtmpmgmmcaghacaaGreatDoorQ07
set_option linter.unusedVariables false
set_option linter.unusedSimpArgs false
set_option maxRecDepth 100000
set_option maxHeartbeats 4000000
namespace Go.Proofs.YtmpmgmmcaghacaaGreatDoor
open Go.ChangeShapes Go.WideShapes Go.ChangeAt Go.RowKit Go.Tp
open Go.ChangeMaps (open_string shut_string)
theorem own:ownKnob Tryz.prog.godebug=none:=by kernel_rfl
theorem kids:Kids Tryz.prog (· < Tryz.prog.types.size):=kids_rows (by kernel_rfl) (by kernel_rfl)
theorem full:∀t e,t < Tryz.prog.types.size->Tryz.prog.underlying t=some (.slice e)->0 < Tryz.prog.cellsOf e:=slices_full_of Tryz.prog (by kernel_rfl)
theorem LS:Tryz.prog.globalNamed "telpher/typeterm.reserved"=some 8:=by kernel_rfl
theorem FG:Tryz.prog.globalNamed "telpher/ir.primitives"=some 4:=by kernel_rfl
theorem WO:Tryz.prog.globalNamed "telpher/telmake.Funcs"=some 2:=by kernel_rfl
theorem FH:Tryz.prog.globalNamed "telpher/telmake.fieldNames"=some 3:=by kernel_rfl
theorem P9:Tryz.prog.globalNamed "telpher/telmake.strings"=some 1:=by kernel_rfl
theorem Iz:Tryz.prog.globalNamed "telpher/telmake.leafNames"=some 5:=by kernel_rfl
theorem Qb {W:World} (h:laidMetH Tryz.prog Rows.irClosedUptoRow.laid W):∀g cs,bZ g=some cs->eu W sI g 0 cs:=by
 have h':laidMet Tryz.prog Rows.irClosedUptoRow.laid W:=h;obtain⟨ps,⟨_,_,_,_,_,_,_,_,_,_,⟨_,_,_,_,_,_,_,_,_,_,⟨_,_,_,_,_,_,_,_,_,_,⟨g3,t3,cs3,fu3,p3,q3,a3,b3,c3,d3,⟨g4,t4,cs4,fu4,p4,q4,a4,b4,c4,d4,⟨g5,t5,cs5,fu5,p5,q5,a5,b5,c5,d5,⟨g6,t6,cs6,fu6,p6,q6,a6,b6,c6,d6,⟨g7,t7,cs7,fu7,p7,q7,a7,b7,c7,d7,⟨g8,t8,cs8,fu8,p8,q8,a8,b8,c8,d8,_,_⟩,_⟩,_⟩,_⟩,_⟩,_⟩,_⟩,_⟩,_⟩,_⟩:=h';intro g cs hg;unfold bZ at hg
 split at hg
 ·obtain rfl:=Option.some.inj hg;exact kq (l:=M1) P9 (by kernel_rfl) Tryz.underlying70 Tryz.underlying9 (by kernel_rfl) (by decide) ⟨g7,t7,cs7,fu7,p7,a7,b7,c7,d7⟩
 ·obtain rfl:=Option.some.inj hg;exact kq (l:=zJ) WO (by kernel_rfl) Tryz.underlying70 Tryz.underlying9 (by kernel_rfl) (by decide) ⟨g5,t5,cs5,fu5,p5,a5,b5,c5,d5⟩
 ·obtain rfl:=Option.some.inj hg;exact kq (l:=IG) FH (by kernel_rfl) Tryz.underlying70 Tryz.underlying9 (by kernel_rfl) (by decide) ⟨g6,t6,cs6,fu6,p6,a6,b6,c6,d6⟩
 ·obtain rfl:=Option.some.inj hg;exact kq (l:=Oq) FG (by kernel_rfl) Tryz.underlying70 Tryz.underlying9 (by kernel_rfl) (by decide) ⟨g4,t4,cs4,fu4,p4,a4,b4,c4,d4⟩
 ·obtain rfl:=Option.some.inj hg;exact kq (l:=kM) Iz (by kernel_rfl) Tryz.underlying70 Tryz.underlying9 (by kernel_rfl) (by decide) ⟨g8,t8,cs8,fu8,p8,a8,b8,c8,d8⟩
 ·obtain rfl:=Option.some.inj hg;exact kq (l:=sq) LS (by kernel_rfl) Tryz.underlying70 Tryz.underlying9 (by kernel_rfl) (by decide) ⟨g3,t3,cs3,fu3,p3,a3,b3,c3,d3⟩
 simp at hg
theorem one_le {H:Type} (d:DataW H):1<=Rows.uptoBulk d:=by
 cases d with
 | lit l=>cases l <;> simp[Rows.uptoBulk]
 | nil=>simp[Rows.uptoBulk]
 | ptr d=>simp[Rows.uptoBulk]
 | slice elems spare=>simp[Rows.uptoBulk]
 | agg parts=>simp[Rows.uptoBulk]
 | iface t d=>simp[Rows.uptoBulk]
 | map entries=>simp[Rows.uptoBulk]
 | held h=>simp[Rows.uptoBulk]
theorem Ft {H:Type}:∀l:List (DataW H),l.length<=Rows.uptoBulkAll l
 | []=>by simp[Rows.uptoBulkAll]
 | x::r=>by
  have h1:=one_le x;have h2:=Ft r;simp only[Rows.uptoBulkAll,List.length_cons];omega
theorem BL {H:Type} {d:DataW H}:∀{l:List (DataW H)},d∈l->Rows.uptoBulk d<=Rows.uptoBulkAll l
 | [],h=>by cases h
 | x::r,h=>by
  simp only[Rows.uptoBulkAll]
  rcases List.mem_cons.1 h with e|h
  ·subst e;omega
  have:=BL h;omega
theorem TZ {H:Type} {l els rest:List (DataW H)} (hk:Rows.uptoSmall H l=true) (hm:DataW.slice els rest∈l):els.length<=1048576:=by
 have h:Rows.uptoBulkAll l<=1048576:=of_decide_eq_true hk;have h1:=BL hm;have h2:=Ft els;simp only[Rows.uptoBulk] at h1;omega
set_option maxRecDepth 100000 in
theorem QM (H:Type) (enc:TypeId×Value->H) (W:World) (base:Nat) (args:Array Value) (ds gs:List (DataW H)) (before:List MemPlace)
  (hval:∀(j:Nat) t v,Tryz.f4.params[j]?=some t->args[j]?=some v->Value.okWide Tryz.prog W .any base t v)
  (hW:DataW.Whole enc Tryz.prog Tryz.f4.params.toList Rows.irClosedSpec.vars false W args.toList ds gs before) (hL:laidMetH Tryz.prog Rows.irClosedUptoRow.laid W) (hk:Rows.uptoSmall H (ds++gs)=true) :
  Calls Tryz.prog 4 args W fun e W'=>∃v,e=.returned v/\Rows.irClosedSpec.post enc Tryz.prog Tryz.f4 false true false false W args v W':=by
 have hW':=hW;obtain⟨p,q,hA0,hV,rfl,hfz,hnd⟩:=hW;have hA:DataW.TrodAll enc Tryz.prog W 0 (fun _=>true) true Tryz.f4.params.toList args.toList ds p:=hA0;have hAk:=hA;rw[Tryz.params4] at hA hval;obtain⟨v0,vs0,d0,ds0,p0,q0,hargs,rfl,rfl,h0,r0⟩:=trodAll_cons hA;obtain⟨rfl,rfl,rfl⟩:=trodAll_nil r0;obtain rfl:args=#[v0]:=by cases args;simp_all
 obtain⟨rfl,rfl⟩:=trodVars_none hV;obtain⟨a0,len0,cap0,hv0⟩:=okWide_slice Tryz.underlying22 (hval 0 22 v0 rfl rfl);obtain⟨l0,hd0,hr0⟩:=Ri (outs fun _=>none) Tryz.underlying22 Tryz.underlying3 (by kernel_rfl) (by rw[hv0];rfl) h0;have hb0:l0.length<=1048576:=by
  rcases hd0 with⟨_,e⟩|⟨els,rest,e,e2⟩
  ·rw[e];simp
  rw[←e2];exact TZ (rest:=rest) hk (by rw[←e];simp)
 refine (vw W (args:=[v0]) (aF (b1:=[]) (b2:=[]) (hr0 (by unfold lim;omega)) aR) (WG (by omega:l0.length < 10000000)) rfl (Qb hL)).mono ?_;rintro e W' ⟨rfl,hkp,hB⟩;refine⟨_,rfl,?_⟩;simp only[List.append_nil] at hW' hAk;have hargs:=DataW.TrodAll.respare (spare':=fun b=>decide (b < W.heap.size)) kids full (by rw[Tryz.params4];decide) (xI hB hAk) (fun p hp=>by simpa using hW'.lt p hp);refine⟨_,_,_,[],_,[],hW',?_,hargs,rfl,World.keptBut_mono (fun p hp=>hp.elim) hkp,fun h=>by cases h⟩;exact trodAll_cons_mk (shut_bool Tryz.underlying4 _) trodAll_mk0
def ZD:List Int:=[0,1,28,2,29,14,24,3,30,22,20,15,25,17,4,8,31,27,13,23,21,19,16,7,26,12,18,6,11,5,10,9]
def ZC:List Int:=[0,1,56,2,57,49,28,3,61,58,42,50,38,29,17,4,62,47,59,36,45,43,51,22,53,39,33,30,24,18,12,5,63,55,48,27,60,41,37,16,46,35,44,21,52,32,23,11,54,26,40,15,34,20,31,10,25,14,19,9,13,8,7,6]
def Ot:Nat->Int->List Int
 | 0,_=>[]
 | n+1,k=>k::Ot n (k*10)
noncomputable def uR (os:Os):World:=
 let N:=(World.settled Tryz.prog os).heap.size
 let strs (l:List (List UInt8)):Array Value:=(l.map fun b=>Value.string ⟨⟨b⟩⟩).toArray
 let w0:=World.holding Tryz.prog os ⟨#[.cells (strs sq) 9,.cells (strs Oq) 9,.cells (strs zJ) 9,.cells (strs IG) 9,.cells (strs M1) 9,.cells (strs kM) 9],#[],[]⟩
 let put (h:Array Obj) (g:Nat) (cs:Array Value):Array Obj:=h.modify g fun
  | .cells _ t frozen=>.cells cs t frozen
  | o=>o
 let ints (k:IntKind) (l:List Int):Array Value:=(l.map fun i=>Value.int k i).toArray
 let h1:=put w0.heap 8 #[.slice (some ⟨N,0,none⟩) 5 5]
 let h2:=put h1 4 #[.slice (some ⟨N+1,0,none⟩) 8 8]
 let h3:=put h2 2 #[.slice (some ⟨N+2,0,none⟩) 3 3]
 let h4:=put h3 3 #[.slice (some ⟨N+3,0,none⟩) 6 6]
 let h5:=put h4 1 #[.slice (some ⟨N+4,0,none⟩) 6 6]
 let h6:=put h5 5 #[.slice (some ⟨N+5,0,none⟩) 4 4]
 let h7:=put h6 6 (ints .u64 (Ot 20 1))
 let h8:=put h7 9 (ints .u8 ZD)
 let h9:=put h8 10 (ints .u8 ZC)
 {w0 with heap:=h9 }
theorem PT (os:Os) (args:Array Value):laidMet Tryz.prog Rows.irClosedUptoRow.laid ((uR os).forCall (fun _ _=>0) ⟨#[],args,[]⟩).memory:=
 laidMet_of_run' 16 (by kernel_rfl) (by kernel_rfl)
noncomputable def MG:Array Value:=#[.slice none 0 0]
theorem reads (os:Os) {H:Type} (enc:TypeId×Value->H):∃places,DataW.whole enc Tryz.prog ((uR os).forCall (fun _ _=>0) ⟨#[],MG,[]⟩).memory Tryz.f4.params.toList Rows.irClosedSpec.vars false MG.toList 8=some ([.nil],[],places):=
 ⟨[],by kernel_rfl⟩
set_option maxRecDepth 100000 in
theorem lifted (os:Os) (started:os.Started) (H:Type) (enc:TypeId×Value->H) (F:Stop.Interp) :
  ReturnsInHanded {} Tryz.checked os 4 .any ((Rows.OpenSpec.upto Rows.irClosedSpec).preRow enc Tryz.prog Tryz.f4 Rows.irClosedUptoRow.domain false Rows.irClosedUptoRow.laid) (((Rows.OpenSpec.upto Rows.irClosedSpec).at F).post enc Tryz.prog Tryz.f4 false true false false):=by
 obtain⟨places,hx⟩:=reads os enc;refine returnsInHanded_of_row (C:=Tryz.checked) (s:=(Rows.OpenSpec.upto Rows.irClosedSpec)) own started (by kernel_rfl) Tryz.func4
  (witness_row_atRef (enc:=enc) (C:=Tryz.checked) false (uR os) MG rfl (by kernel_rfl) (by kernel_rfl) (by kernel_rfl)
   (OpenSpec.preRow_of_cond 8 hx (by kernel_rfl) (fun k hk=>by cases hk;kernel_rfl) (by kernel_rfl) (PT os _))) ?_
 intro W base args ds gs before hval hW _ hcond _ hL _ _;exact QM H enc W base args ds gs before hval hW hL (hcond _ rfl)
end Go.Proofs.YtmpmgmmcaghacaaGreatDoor
namespace Go.Proofs.YtmpmgmmcaghacaaGreatDoor
open Go.ChangeShapes Go.WideShapes Go.ChangeAt Go.RowKit Go.Tp
set_option maxHeartbeats 4000000 in
set_option maxRecDepth 100000 in
theorem said:Rows.IrClosedUptoSaid:=
 OpenClaim.holds_of_cond 4 Tryz.f4 rfl rfl rfl rfl rfl rfl rfl ⟨rfl,rfl,rfl,rfl,rfl⟩ rfl rfl rfl rfl rfl (by as_aux_lemma=>kernel_rfl) Tryz.func4 (by as_aux_lemma=>kernel_rfl)
  (of_decide_eq_true (by as_aux_lemma=>kernel_rfl)) (by unfold Func.isWrapper;first|(rw[if_pos (by decide +kernel)];kernel_rfl)|(rw[if_neg (by decide +kernel)];exact⟨rfl,rfl⟩))
  (fun os started H enc _ F=>by rw[OpenClaim.pre_eq_preRow];exact lifted os started H enc F)
set_option maxRecDepth 100000 in
theorem plain (f:FuncId) (fn:Func) (hf:Tryz.pinned.checked.prog.funcNamed "telpher/tellaw13.IrClosed"=some f) (hfn:Tryz.pinned.checked.prog.funcs[f]?=some fn) :
  false=Tryz.pinned.checked.prog.looks []/\∀(j:Nat) t,fn.params[j]?=some t->Tryz.pinned.checked.prog.wantsStandIn t=false:=by
 obtain rfl:f=4:=Option.some.inj ((show Tryz.prog.funcNamed "telpher/tellaw13.IrClosed"=some 4 by kernel_rfl).symm.trans hf) |>.symm
 obtain rfl:fn=Tryz.f4:=(Option.some.inj (Tryz.func4.symm.trans hfn)).symm;refine⟨by kernel_rfl,fun j t ht=>?_⟩;rw[Tryz.params4] at ht;have w22:Tryz.prog.wantsStandIn 22=false:=by kernel_rfl
 have hm:=Array.mem_of_getElem? ht;have key:∀x∈([22]:List Nat),x=22:=by decide
 have h3:=key t (by simpa using hm)
 rcases h3 with rfl
 ·exact w22
theorem irClosed_card:Rows.IrClosedUptoCardSaid:=
 Claim7.holds_tied_plain_at .later [] _ _ _ _ said (fun _ h=>by cases h) (by kernel_rfl) (fun _ h=>by cases h) irClosedUpto_row_tie rfl ⟨rfl,rfl⟩ (by kernel_rfl) rfl plain (by kernel_rfl)
end Go.Proofs.YtmpmgmmcaghacaaGreatDoor
#print axioms Go.Proofs.YtmpmgmmcaghacaaGreatDoor.irClosed_card
