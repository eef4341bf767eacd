/- HierarchyMonotone returns true and changes nothing, for arguments of bulk at most 1048576 (the card of the second form; conditions: those of the given row). Names are shortened by a program, for the claim's bound. Part 5. -/
import Derived.Ground.Names2Prog
import Derived.Shelf.Lays2
import Derived.Test.YtiihadmgkoamoaaGreatDoorProg
import Derived.Shelf.Slices.SearchI
import Derived.Shelf.Spec.SlicesInsert
import Derived.Shelf.Spec.SlicesInsertGrow
import Derived.Test.YtiihadmgkoamoaaGreatDoorQ04
set_option linter.unusedVariables false
set_option linter.unusedSimpArgs false
set_option maxRecDepth 100000
set_option maxHeartbeats 4000000
namespace Go.Proofs
open Go.Shelf
def Tryz.NM:Go.Shelf.Ren:=⟨fun|21=>191|27=>201|28=>202|35=>204|39=>206|n=>n,fun|22=>22|3=>3|4=>4|0=>0|n=>n,fun|n=>n⟩
theorem Tryz.YZ:Go.Proofs.Lays2.n21 Tryz.prog Tryz.NM:={
 mixed:=by kernel_rfl
 f21:=Tryz.func191.trans (congrArg some (by kernel_rfl))
 f27:=Tryz.func201.trans (congrArg some (by kernel_rfl))
 f28:=Tryz.func202.trans (congrArg some (by kernel_rfl))
 f35:=Tryz.func204.trans (congrArg some (by kernel_rfl))
 f39:=Tryz.func206.trans (congrArg some (by kernel_rfl))
 t0:=Tryz.underlying0
 a0:=Tryz.isAgg0
 z0:=Tryz.sizeOf0
 v0:=Tryz.zeroValue0
 t3:=Tryz.underlying3
 a3:=Tryz.isAgg3
 z3:=Tryz.sizeOf3
 v3:=Tryz.zeroValue3
 t4:=Tryz.underlying4
 a4:=Tryz.isAgg4
 z4:=Tryz.sizeOf4
 v4:=Tryz.zeroValue4
 t22:=Tryz.underlying22
 a22:=Tryz.isAgg22
 z22:=Tryz.sizeOf22
 v22:=Tryz.zeroValue22
 i3:=by kernel_rfl }
def Tryz.Uq:Go.Shelf.Ren:=⟨fun|25=>190|31=>199|32=>200|37=>171|n=>n,fun|22=>22|3=>3|4=>4|40=>157|0=>0|n=>n,fun|n=>n⟩
theorem Tryz.agt:Go.Proofs.Lays2.n25 Tryz.prog Tryz.Uq:={
 mixed:=by kernel_rfl
 f25:=Tryz.func190.trans (congrArg some (by kernel_rfl))
 f31:=Tryz.func199.trans (congrArg some (by kernel_rfl))
 f32:=Tryz.func200.trans (congrArg some (by kernel_rfl))
 f37:=Tryz.func171.trans (congrArg some (by kernel_rfl))
 t0:=Tryz.underlying0
 a0:=Tryz.isAgg0
 z0:=Tryz.sizeOf0
 v0:=Tryz.zeroValue0
 t3:=Tryz.underlying3
 a3:=Tryz.isAgg3
 z3:=Tryz.sizeOf3
 v3:=Tryz.zeroValue3
 t4:=Tryz.underlying4
 a4:=Tryz.isAgg4
 z4:=Tryz.sizeOf4
 v4:=Tryz.zeroValue4
 t22:=Tryz.underlying22
 a22:=Tryz.isAgg22
 z22:=Tryz.sizeOf22
 v22:=Tryz.zeroValue22
 t40:=Tryz.underlying157
 a40:=Tryz.isAgg157
 z40:=Tryz.sizeOf157
 v40:=Tryz.zeroValue157 }
end Go.Proofs
namespace Go.Tp
open Go.Proofs Go.Shelf Go.RowKit
def yo (l:List Int):List ac:=l.map iv
def ints (l:List Int):List Value:=l.map (Value.int .i64)
section
variable {w:World} {R:Own} {N:Name->Option Nat}
theorem qo:∀{l:List Int} {us:List Value} {bs:List Nat},ak w R N (yo l) us bs->us=ints l/\bs=[]/\∀x∈l,bH (.int .i64 x)=true
 | [],us,bs,h=>by obtain⟨rfl,rfl⟩:=aS h;simp[ints]
 | x::l,us,bs,h=>by
  have h:ak w R N (iv x::yo l) us bs:=h;obtain⟨v,vs',b1,b2,rfl,rfl,h1,h2⟩:=az h;obtain⟨rfl,rfl,h3⟩:=qo h2;simp only[al] at h1;obtain⟨rfl,h1⟩:=h1;have h1:dO w R v (.flat (.int .i64 x)):=h1
  cases h1 with
  | flat hf=>exact⟨rfl,rfl,by rintro y hy;rcases List.mem_cons.1 hy with rfl|hy;exact hf;exact h3 y hy⟩
theorem JK:∀{l:List Int},(∀x∈l,bH (.int .i64 x)=true)->ak w R N (yo l) (ints l) []
 | [],_=>aX
 | x::l,h=>by
  have h1:al w R N (iv x) (.int .i64 x) []:=by
   simp only[al];exact⟨trivial,.flat (h x (by simp))⟩
  exact aG (b1:=[]) (b2:=[]) h1 (JK (l:=l) (fun y hy=>h y (by simp[hy])))
theorem tQ {l:List Int}:∀v∈ints l,v.oneCell'=true:=by
 intro v hv;obtain⟨x,_,rfl⟩:=List.mem_map.1 hv;rfl
theorem aeh {l:List Int} {j:Nat} {v:Value} (h:(ints l)[j]?=some v):∃x,l[j]?=some x/\v=.int .i64 x:=by
 simp only[ints,List.getElem?_map,Option.map_eq_some_iff] at h;obtain⟨x,h1,h2⟩:=h;exact⟨x,h1,h2.symm⟩
theorem eJ {b off:Nat} {vs:Array Value} {e:TypeId} {fr:Nat×Nat} (hb:w.heap[b]?=some (.cells vs e fr)) {v:Value} (h:vs.toList[off]?=some v):w.cell? ⟨b,off,none⟩=some v:=by
 rw[Array.getElem?_toList] at h;simp[World.cell?,hb,h]
theorem dz (b o:Nat) (e:TypeId) (news:List Value) (cur:Array Value) (hg:w.heap[b]?=some (.cells cur e (0,0))) (hfit:o+news.length<=cur.size) (h1:∀u∈news,u.oneCell'=true) :
  w.setCells b o news=w.setRow b (cur.toList.take o++news++cur.toList.drop (o+news.length)).toArray:=by
 have hc:∀j,j < news.length->(w.cell? ⟨b,o+0+j,none⟩).isSome=true:=by
  intro j hj;rw[eJ hg (v:=cur.toList[o+0+j]'(by simp;omega)) (by simp)];rfl
 have hf:∀j,j < news.length->w.frozen? ⟨b,o+0+j,none⟩=false:=by
  intro j _;simp[World.frozen?,hg]
 have a1:=run_storeCells_cells (P:=default) b o news 0 w hc hf h1;have a2:=run_storeCells_at default b o e news 0 cur w hg (by simpa using hfit) h1;rw[a1] at a2;simp only[Nat.add_zero,Result.ok.injEq] at a2;exact a2.2
end
section
variable {P:Program} {ρ:Ren} {G:bL}
theorem gW {w:World} {R:Own} {g:Nat} {cur:Array Value} {t:TypeId} (hg:w.heap[g]?=some (.cells cur t (0,0))) (arr:Array Value) (hsz:arr.size=cur.size) (hRv:∀j,j < cur.size->R g j) (hpos:0 < cur.size) (bs:List Nat) (hb:g∉bs):bz w R (w.setRow g arr) R bs:=
 jG hg arr hsz (fun _ _ h=>h) (fun _ _ _ h=>h) (fun off hno=>by
  rw[Array.getElem?_eq_none (by
   rcases Nat.lt_or_ge off cur.size with h'|h'
   ·exact (hno (hRv off h')).elim
   ·omega),Array.getElem?_eq_none (by
   rcases Nat.lt_or_ge off cur.size with h'|h'
   ·exact (hno (hRv off h')).elim
   omega)]) ⟨0,hRv 0 hpos⟩ bs hb
theorem kK {w w':World} {R R':Own} {bs:List Nat} (k:bz w.drew R w' R' bs):bz w R w' R' bs:=
 ⟨⟨k.step.os,k.step.tape,k.step.output,k.step.size,k.step.block,k.step.cell,k.step.sizes⟩,k.same⟩
theorem Au {w:World} {R:Own} (q:Nat) (bs:List Nat):bz w R (w.drewN q) R bs:=
 ⟨⟨rfl,rfl,rfl,Nat.le_refl _,fun b _ h=>⟨rfl,h⟩,fun b off _ h=>⟨h,rfl⟩,fun b _=>rfl⟩,fun b _ _=>⟨rfl,fun _ h=>h⟩⟩
theorem Ud (L:Lays2.n25 P ρ) {l:List Int} {x:Int} (hs:l.Pairwise (·<=·)) (hn:l.length < 1000000000) :
  aB P G (ρ.f 25) [.win (.out 0) 1 0 l.length,iv x] [(.out 0,.cells (yo l))] 1 (XQ ⟨.tup [iv (Int.ofNat (l.countP (· < x))),bv (l.contains x)],[(.out 0,.cells (yo l))],1⟩):=by
 intro w R N cargs bsA bsH bsF hargs hheap hnd hnx hglob hF;obtain⟨v0,r1,c0,d1,rfl,rfl,h0,hr1⟩:=az hargs;obtain⟨v1,r2,c1,d2,rfl,rfl,h1,hr2⟩:=az hr1;obtain⟨rfl,rfl⟩:=aS hr2;have hheap0:=hheap;obtain⟨b,b1,b2,rfl,hb,hobj,hrest⟩:=hheap;have hrest:b2=[]:=hrest;subst hrest;obtain⟨vs,elem,sp,hblk,hrv,hRv,_⟩:=hobj;simp only[al] at h0 h1;obtain⟨rfl,b',cap,hb',rfl,hcap,_,hblt,hrow⟩:=h0
 have:b'=b:=by rw[hb] at hb';simpa using hb'.symm
 subst this;obtain⟨rfl,h1⟩:=h1;have h1:dO w R v1 (.flat (.int .i64 x)):=h1;have e1:v1=.int .i64 x:=by cases h1 with|flat _=>rfl
 have hfx:bH (.int .i64 x)=true:=by cases h1 with|flat h=>exact h
 subst e1;obtain⟨us1,us2,q1,q2,hus,rfl,hr1,_⟩:=cU hrv;obtain⟨rfl,rfl,hfl⟩:=qo hr1;have hcell:∀j,j < l.length->w.cell? ⟨b',0+j,none⟩=some (.int .i64 (l.getD j 0)):=by
  intro j hj;refine eJ hblk ?_;rw[hus,Nat.zero_add,List.getElem?_append_left (by simp[ints];exact hj)];simp[ints,hj]
 refine (Any.slices_BinarySearch_int L b' 0 l.length cap l x w (Nat.le_refl _) (by omega) hcell (by rw[List.take_length];exact hs)).mono ?_;rintro e w' ⟨rfl,q,rfl⟩;rw[List.take_length];have hk:∀bs,bz w R (w.drewN q) R bs:=Au q;refine⟨_,_,_,1,R,N,[],_,rfl,⟨rfl,rfl,rfl⟩,?_,hheap0.keep (hk _),by simpa using hnd,hnx,hk _,fun _ _ h=>h⟩;have hi:∀n:Nat,n < 9223372036854775808->bH (.int .i64 (Int.ofNat n))=true:=by
  intro n hn;simp[bH,IntKind.min,IntKind.max,IntKind.signed,IntKind.bits];omega
 have hcnt:l.countP (· < x)<=l.length:=List.countP_le_length;simp only[al];refine⟨[.int .i64 (Int.ofNat (l.countP (· < x))),.bool (l.contains x)],rfl,?_⟩;refine aG (b1:=[]) (b2:=[]) ?_ (aG (b1:=[]) (b2:=[]) ?_ aX)
 ·simp only[al];exact⟨trivial,.flat (hi _ (by omega))⟩
 simp only[al];exact⟨trivial,.flat rfl⟩
def gK (l:List Int) (i:Nat) (x:Int):List Int:=l.take i++x::l.drop i
theorem tR {l:List Int} {i:Nat} {x:Int} (h:i<=l.length):(gK l i x).length=l.length+1:=by simp[gK];omega
theorem nI {l:List Int} {i:Nat} {x:Int}:ints (gK l i x)=(ints l).take i++.int .i64 x::(ints l).drop i:=by simp[gK,ints,List.map_take,List.map_drop]
theorem JT {l:List Int} {i:Nat} {x:Int} (h:∀y∈l,bH (.int .i64 y)=true) (hx:bH (.int .i64 x)=true):∀y∈gK l i x,bH (.int .i64 y)=true:=by
 intro y hy;simp only[gK,List.mem_append,List.mem_cons] at hy
 rcases hy with hy|rfl|hy
 ·exact h y (List.mem_of_mem_take hy)
 ·exact hx
 exact h y (List.mem_of_mem_drop hy)
theorem W6 (l:List Int):cM (yo l)=false:=by
 rcases l with _|⟨a,_|⟨b,_|⟨c,r⟩⟩⟩ <;> rfl
theorem iV {w:World} {R:Own} {N:Name->Option Nat}:∀{n:Nat} {us:List Value} {bs:List Nat},ak w R N (List.replicate n .undef) us bs->bs=[]/\us.length=n
 | 0,us,bs,h=>by obtain⟨rfl,rfl⟩:=aS h;exact⟨rfl,rfl⟩
 | n+1,us,bs,h=>by
  have h:ak w R N (.undef::List.replicate n .undef) us bs:=h;obtain⟨v,vs',b1,b2,rfl,rfl,h1,h2⟩:=az h;obtain⟨rfl,h3⟩:=iV h2;simp only[al] at h1;subst h1;exact⟨rfl,by simp[h3]⟩
theorem yp {w w':World} {R R':Own} {N:Name->Option Nat} {vb g cap:Nat} {elem:TypeId} {arr rest:List Value} {l2:List Int} {x:Int} {bsF:List Nat}
  (hnx:∀o b,N (.out o)=some b->o < 2) (hk:∀bs,g∉bs->bz w R w' R' bs) (hgF:g∉bsF) (hgv:g≠vb) (hnd:(vb::bsF).Nodup)
  (hg:w'.heap[g]?=some (.cells arr.toArray elem (0,0))) (harr:arr=ints l2++rest) (hfl:∀y∈l2,bH (.int .i64 y)=true) (hR':∀j,j < arr.length->R' g j) (hcap:arr.length=cap) (hcm:cap<=gR) (hl2:l2.length<=cap)
  (hv:an w R (outs N) [(.out 1,.cells [iv x])] [vb]) (cv:Value) (hcv:cv=.slice (some ⟨g,0,none⟩) l2.length cap) :
  ∃v cv' heap' next' R2 N' bsV bsH',Ending.returned cv=.returned cv'/\XQ ⟨.win (.out 2) 1 0 l2.length,[(.out 2,.cells (yo l2)),(.out 1,.cells [iv x])],3⟩ v heap' next'/\al w' R2 (outs N') v cv' bsV/\an w' R2 (outs N') heap' bsH' ∧
   (bsV++(bsH'++bsF)).Nodup/\(∀o b,N' (.out o)=some b->o < next')/\bz w R w' R2 bsF/\(∀o b,N (.out o)=some b->N' (.out o)=some b):=by
 have hext:=sU (N:=N) (b:=g) hnx;have hlt:g < w'.heap.size:=bw hg;refine⟨_,cv,_,3,R',bN N (.out 2) g,[],[g,vb],rfl,⟨rfl,rfl,rfl⟩,?_,?_,?_,?_,hk bsF hgF,fun o b h=>hext _ _ h⟩
 ·simp only[al];refine⟨trivial,g,cap,by simp[outs,bN],hcv,hl2,⟨by decide,hcm⟩,hlt,?_⟩;rw[dh hg];simp[hcap]
 ·refine⟨g,[],[vb],rfl,by simp[outs,bN],?_,(hv.keep (hk _ (by simpa using hgv))).ext (tv hext)⟩;refine⟨arr.toArray,elem,rest.length,hg,?_,fun j hj=>hR' j (by simpa using hj),fun h=>by rw[W6] at h;simp at h⟩;have h1:ak w' R' (outs (bN N (.out 2) g)) (yo l2) (ints l2) []:=JK hfl;have h2:=eD (w:=w') (R:=R') (N:=outs (bN N (.out 2) g)) rest;simpa [harr] using cD h1 h2
 ·simp only[List.nil_append,List.cons_append];refine List.nodup_cons.2 ⟨?_,hnd⟩;simp only[List.mem_cons,not_or];exact⟨hgv,hgF⟩
 intro o c ho
 by_cases hne:o=2
 ·omega
 have:N (.out o)=some c:=by simpa [bN,hne] using ho
 have:=hnx o c this
 omega
theorem Mc (B z1 z2:List Value) (x zz:Value) (i:Nat) (h:B.length=i):(B++zz::z1++z2).take i++[x]++(B++zz::z1++z2).drop (i+1)=B++x::(z1++z2):=by
 subst h;have e1:(B++zz::z1++z2).take B.length=B:=by simp
 have e2:(B++zz::z1++z2).drop (B.length+1)=z1++z2:=by
  rw[List.append_assoc,List.drop_length_add_append];rfl
 rw[e1,e2];simp
theorem CR (A:List Value) (u0 x:Value) (us3:List Value) (i:Nat) (h:i<=A.length) :
  ((A++u0::us3).take (i+1)++A.drop i++(A++u0::us3).drop (i+1+(A.drop i).length)).take i++[x]++((A++u0::us3).take (i+1)++A.drop i++(A++u0::us3).drop (i+1+(A.drop i).length)).drop (i+1)=A.take i++x::A.drop i++us3:=by
 obtain⟨A1,A2,rfl,h1⟩:∃A1 A2,A=A1++A2/\A1.length=i:=⟨A.take i,A.drop i,(List.take_append_drop i A).symm,by simp;omega⟩;subst h1;have e1:(A1++A2).drop A1.length=A2:=by simp
 have e2:(A1++A2).take A1.length=A1:=by simp
 rw[e1,e2];obtain⟨y,t,ht⟩:∃y t,A2++u0::us3=y::t:=by cases A2 with|nil=>exact⟨_,_,rfl⟩|cons a r=>exact⟨_,_,rfl⟩
 have e3:(A1++A2++u0::us3).take (A1.length+1)=A1++[y]:=by rw[List.append_assoc,ht];simp[List.take_append];exact List.take_of_length_le (by omega)
 have e4:(A1++A2++u0::us3).drop (A1.length+1+A2.length)=us3:=by
  have:A1.length+1+A2.length=(A1++A2).length+1:=by simp;omega
  rw[this,List.drop_length_add_append];rfl
 rw[e3,e4];simp[List.take_append,List.drop_append]
theorem Ue (L:Lays2.n21 P ρ) {l:List Int} {x:Int} {i:Nat} (hi:i<=l.length) (hn:l.length < 1000000000) :
  aB P G (ρ.f 21) [.win (.out 0) 1 0 l.length,iv (Int.ofNat i),.win (.out 1) 1 0 1] [(.out 0,.cells (yo l)),(.out 1,.cells [iv x])] 2
   (XQ ⟨.win (.out 2) 1 0 (gK l i x).length,[(.out 2,.cells (yo (gK l i x))),(.out 1,.cells [iv x])],3⟩):=by
 intro w R N cargs bsA bsH bsF hargs hheap hnd hnx hglob hF;obtain⟨v0,r1,c0,d1,rfl,rfl,h0,hr1⟩:=az hargs;obtain⟨v1,r2,c1,d2,rfl,rfl,h1,hr2⟩:=az hr1;obtain⟨v2,r3,c2,d3,rfl,rfl,h2,hr3⟩:=az hr2;obtain⟨rfl,rfl⟩:=aS hr3;obtain⟨b,b1,b2,rfl,hb,hobj,hrest⟩:=hheap;have hrest0:=hrest;obtain⟨vb,b3,b4,rfl,hvb,hobjv,hrest⟩:=hrest;have hrest:b4=[]:=hrest;subst hrest;obtain⟨vs,elem,sp,hblk,hrv,hRv,_⟩:=hobj;obtain⟨vs2,elem2,sp2,hblk2,hrv2,hRv2,_⟩:=hobjv;simp only[al] at h0 h1 h2;obtain⟨rfl,b',cap,hb',rfl,hcap,⟨_,hcm⟩,hblt,hrow⟩:=h0
 have:b'=b:=by rw[hb] at hb';simpa using hb'.symm
 subst this;obtain⟨rfl,vb',vc,hvb',rfl,hvc,_,hvlt,hvrow⟩:=h2
 have:vb'=vb:=by rw[hvb] at hvb';simpa using hvb'.symm
 subst this;obtain⟨rfl,h1⟩:=h1;have h1:dO w R v1 (.flat (.int .i64 (Int.ofNat i))):=h1;have e1:v1=.int .i64 (Int.ofNat i):=by cases h1 with|flat _=>rfl
 subst e1;obtain⟨us1,us2,q1,q2,hus,rfl,hr1,hq2⟩:=cU hrv;obtain⟨rfl,rfl,hfl⟩:=qo hr1;obtain⟨ws1,ws2,q3,q4,hws,rfl,hr2,hq4⟩:=cU hrv2;obtain⟨rfl,rfl,hfx⟩:=qo (l:=[x]) hr2;have hfx:=hfx x (by simp);obtain⟨rfl,_⟩:=iV hq2;obtain⟨rfl,_⟩:=iV hq4;simp only[List.nil_append,List.append_nil,List.cons_append] at hnd;have hvb0:b'≠vb':=by
  have:=(List.nodup_cons.1 hnd).1
  simp only[List.mem_cons,not_or] at this;exact this.1
 have hbF:b'∉bsF:=by
  have:=(List.nodup_cons.1 hnd).1
  simp only[List.mem_cons,not_or] at this;exact this.2
 have hnd2:(vb'::bsF).Nodup:=(List.nodup_cons.1 hnd).2;have hsz:vs.size=cap:=by rw[dh hblk] at hrow;omega
 have hlen:(ints l).length=l.length:=by simp[ints]
 have hl2:(gK l i x).length=l.length+1:=tR hi;have hfl2:=JT (i:=i) hfl hfx;have hvs:∀j v,[Value.int .i64 x][j]?=some v->w.cell? ⟨vb',0+j,none⟩=some v:=by
  intro j v hj;refine eJ hblk2 ?_;rw[hws]
  cases j with
  | zero=>simpa [ints] using hj
  | succ j=>simp at hj
 have hcs:∀j v,(ints l)[j]?=some v->w.cell? ⟨b',0+j,none⟩=some v:=by
  intro j v hj;refine eJ hblk ?_
  have:j < (ints l).length:=(List.getElem?_eq_some_iff.1 hj).1
  rw[hus,Nat.zero_add,List.getElem?_append_left this];exact hj
 have h1v:∀v∈[Value.int .i64 x],v.oneCell'=true:=by intro v hv;simp at hv;subst hv;rfl
 have hsome:∀j,j < cap->(w.cell? ⟨b',0+j,none⟩).isSome=true:=by
  intro j hj;have hj2:j < vs.toList.length:=by simp;omega
  rw[eJ hblk (v:=vs.toList[j]) (by rw[Nat.zero_add];exact List.getElem?_eq_getElem hj2)];rfl
 have hfroz:∀j,w.frozen? ⟨b',j,none⟩=false:=by intro j;simp[World.frozen?,hblk]
 have hus2:us2.length=cap - l.length:=by
  have:=congrArg List.length hus
  simp[hlen] at this;omega
 by_cases hroom:l.length+1<=cap
 ·
  obtain⟨u0,us3,rfl⟩:∃u0 us3,us2=u0::us3:=by
   cases us2 with
   | nil=>simp at hus2;omega
   | cons a r=>exact⟨a,r,rfl⟩
  rcases Nat.lt_or_ge i l.length with hlt|hge
  ·refine (Any2.slices_Insert_int_shift L b' 0 l.length cap i vb' 0 1 vc (ints l) [.int .i64 x] w hlt (by decide) hroom ?_ (Ne.symm hvb0) hlen rfl hcs (fun j hj=>hsome j (by omega)) (fun j _=>hfroz _) hvs tQ h1v elem2 elem vs2.size vs.size ?_ ?_ ?_ ?_ ?_).mono ?_
   ·exact hcm
   ·simp[World.shape?,hblk2]
   ·simp[World.shape?,hblk]
   ·omega
   ·simp[World.frozen?,hblk2]
   ·simp[World.frozen?,hblk2]
   rintro e w' ⟨rfl,rfl⟩;have hg1:(w.drew).heap[b']?=some (.cells vs elem (0,0)):=hblk;have hd:((ints l).drop i).length=l.length - i:=by simp[hlen]
   rw[dz (w:=w.drew) b' (0+(i+1)) elem ((ints l).drop i) vs hg1 (by rw[hd];omega) (fun u hu=>tQ u (List.mem_of_mem_drop hu))];obtain⟨ar1,har1⟩:∃ar1,ar1=vs.toList.take (0+(i+1))++(ints l).drop i++vs.toList.drop (0+(i+1)+((ints l).drop i).length):=⟨_,rfl⟩;rw[←har1];have hl1:ar1.length=cap:=by
    rw[har1];simp[hlen];omega
   have hg2:=setRow_heap w.drew b' vs ar1.toArray elem (0,0) hg1;rw[dz (w:=w.drew.setRow b' ar1.toArray) b' (0+i) elem [.int .i64 x] ar1.toArray hg2 (by simp[hl1];omega) h1v];obtain⟨ar2,har2⟩:∃ar2,ar2=ar1.toArray.toList.take (0+i)++[.int .i64 x]++ar1.toArray.toList.drop (0+i+[Value.int .i64 x].length):=⟨_,rfl⟩;rw[←har2];have hl3:ar2.length=cap:=by
    rw[har2];simp[hl1];omega
   have hg3:=setRow_heap (w.drew.setRow b' ar1.toArray) b' ar1.toArray ar2.toArray elem (0,0) hg2;refine yp (g:=b') (vb:=vb') (cap:=cap) (arr:=ar2) (rest:=us3) (R':=R) hnx (fun bs hb=>?_) hbF hvb0 hnd2 hg3 ?_ hfl2 (fun j hj=>hRv j (by omega)) hl3 hcm (by rw[hl2];exact hroom) hrest0 _ (by rw[hl2])
   ·refine kK (bz.trans (gW hg1 ar1.toArray (by simp[hl1,hsz]) hRv (by omega) bs hb) (gW hg2 ar2.toArray (by simp[hl1,hl3]) (fun j hj=>hRv j (by simp[hl1] at hj;omega)) (by simp[hl1];omega) bs hb))
   -- the cells
   have hv:vs.toList=ints l++(u0::us3):=hus;rw[har2,har1,hv,nI];simp only[Nat.zero_add,List.toList_toArray,List.length_singleton];exact CR (ints l) u0 (.int .i64 x) us3 i (by rw[hlen];omega)
  have hil:i=l.length:=by omega
  subst hil;refine (Any2.slices_Insert_int_end_room L b' 0 l.length cap vb' 0 1 vc [.int .i64 x] w (by decide) hroom hcm rfl (fun j hj=>?_) (fun j _=>hfroz _) hvs h1v).mono ?_
  ·rw[Nat.add_assoc];exact hsome _ (by omega)
  rintro e w' ⟨rfl,rfl⟩;rw[dz (w:=w) b' (0+l.length) elem [.int .i64 x] vs hblk (by simp;omega) h1v];obtain⟨ar2,har2⟩:∃ar2,ar2=vs.toList.take (0+l.length)++[.int .i64 x]++vs.toList.drop (0+l.length+[Value.int .i64 x].length):=⟨_,rfl⟩;rw[←har2];have hl3:ar2.length=cap:=by
   rw[har2];simp;omega
  have hg3:=setRow_heap w b' vs ar2.toArray elem (0,0) hblk;refine yp (g:=b') (vb:=vb') (cap:=cap) (arr:=ar2) (rest:=us3) (R':=R) hnx (fun bs hb=>gW hblk ar2.toArray (by simp[hl3,hsz]) hRv (by omega) bs hb) hbF hvb0 hnd2 hg3 ?_ hfl2 (fun j hj=>hRv j (by omega)) hl3 hcm (by rw[hl2];exact hroom) hrest0 _ (by rw[hl2]);have hv:vs.toList=ints l++(u0::us3):=hus;rw[har2,hv,nI,Nat.zero_add,←hlen,List.take_left,List.take_length,List.drop_length,List.length_singleton,List.drop_length_add_append];simp
 -- a new row
 have hcl:cap=l.length:=by omega
 subst hcl;have hge:=grownCap_ge w (l.length+1) l.length (ρ.t 3);have hgm:grownCap w (l.length+1) l.length (ρ.t 3)<=gR:=Nat.le_trans (grownCap_le_maxLen w (l.length+1) l.length (ρ.t 3) (by unfold maxLen;omega)) (by decide);generalize hgc:grownCap w (l.length+1) l.length (ρ.t 3)=gc at hge hgm;have hltb:b' < w.heap.size:=bw hblk;have hltv:vb' < w.heap.size:=bw hblk2;have hzs:∀n,(Builtin.zeroCells (Value.int .i64 0).cells n).toList.length=n:=fun n=>by simp[Builtin.zeroCells,Value.cells]
 have UQ:w.heap.size∉bsF:=fun h=>by have:=hF _ h;omega
 have hRm:∀j,R.more w.heap.size w.heap.size j:=fun j=>.inl rfl
 rcases Nat.lt_or_ge i l.length with hlt|hge2
 ·refine (Any2.slices_Insert_int_grow L b' 0 l.length l.length i vb' 0 1 vc (ints l) [.int .i64 x] w hlt (by decide) (Nat.le_refl _) (by omega) (by omega) hlen rfl hcs hvs tQ h1v).mono ?_;rw[hgc];rintro e w' ⟨rfl,rfl⟩;obtain⟨z1,hz1⟩:∃z1,z1=(Builtin.zeroCells (Value.int .i64 0).cells (l.length+1 - i)).toList:=⟨_,rfl⟩;obtain⟨z2,hz2⟩:∃z2,z2=(Builtin.zeroCells (Value.int .i64 0).cells (gc - (l.length+1))).toList:=⟨_,rfl⟩;have hl1:z1.length=l.length+1 - i:=by rw[hz1,hzs]
  have hl2':z2.length=gc - (l.length+1):=by rw[hz2,hzs]
  obtain⟨ar0,har0⟩:∃ar0,ar0=(ints l).take i++z1++z2:=⟨_,rfl⟩;have hc0:(((ints l).take i).toArray++Builtin.zeroCells (Value.int .i64 0).cells (l.length+1 - i)++Builtin.zeroCells (Value.int .i64 0).cells (gc - (l.length+1)))=ar0.toArray:=by rw[har0,hz1,hz2];simp
  rw[hc0];have hl0:ar0.length=gc:=by rw[har0];simp[hl1,hl2',hlen];omega
  have hg0:((w.alloc (.cells ar0.toArray (ρ.t 3))).drew).heap[w.heap.size]?=some (.cells ar0.toArray (ρ.t 3) (0,0)):=heap_alloc_new w _;rw[dz (w:=(w.alloc (.cells ar0.toArray (ρ.t 3))).drew) w.heap.size i (ρ.t 3) [.int .i64 x] ar0.toArray hg0 (by simp[hl0];omega) h1v];obtain⟨ar1,har1⟩:∃ar1,ar1=ar0.toArray.toList.take i++[.int .i64 x]++ar0.toArray.toList.drop (i+[Value.int .i64 x].length):=⟨_,rfl⟩;rw[←har1];have hl3:ar1.length=gc:=by rw[har1];simp[hl0];omega
  have hg1:=setRow_heap (w.alloc (.cells ar0.toArray (ρ.t 3))).drew w.heap.size ar0.toArray ar1.toArray (ρ.t 3) (0,0) hg0;have hg1':(((w.alloc (.cells ar0.toArray (ρ.t 3))).drew.setRow w.heap.size ar1.toArray).drew).heap[w.heap.size]?=some (.cells ar1.toArray (ρ.t 3) (0,0)):=hg1;have hd:((ints l).drop i).length=l.length - i:=by simp[hlen]
  rw[dz (w:=((w.alloc (.cells ar0.toArray (ρ.t 3))).drew.setRow w.heap.size ar1.toArray).drew) w.heap.size (i+1) (ρ.t 3) ((ints l).drop i) ar1.toArray hg1' (by rw[hd];simp[hl3];omega) (fun u hu=>tQ u (List.mem_of_mem_drop hu))];obtain⟨ar2,har2⟩:∃ar2,ar2=ar1.toArray.toList.take (i+1)++(ints l).drop i++ar1.toArray.toList.drop (i+1+((ints l).drop i).length):=⟨_,rfl⟩;rw[←har2];have hl4:ar2.length=gc:=by rw[har2];simp[hl3,hlen];omega
  have hg2:=setRow_heap ((w.alloc (.cells ar0.toArray (ρ.t 3))).drew.setRow w.heap.size ar1.toArray).drew w.heap.size ar1.toArray ar2.toArray (ρ.t 3) (0,0) hg1';refine yp (g:=w.heap.size) (vb:=vb') (cap:=gc) (arr:=ar2) (rest:=z2) (R':=R.more w.heap.size) hnx (fun bs hb=>?_) UQ (by omega) hnd2 hg2 ?_ hfl2 (fun j _=>hRm j) hl4 hgm (by rw[hl2];exact hge) hrest0 _ (by rw[hl2])
  ·have k1:bz w R (w.alloc (.cells ar0.toArray (ρ.t 3))) (R.more w.heap.size) bs:=fD _ (fun b off hb=>Own.jL hb) bs;have k2:=gW (R:=R.more w.heap.size) hg0 ar1.toArray (by simp[hl0,hl3]) (fun j _=>hRm j) (by simp[hl0];omega) bs hb;have k3:=gW (R:=R.more w.heap.size) hg1' ar2.toArray (by simp[hl4,hl3]) (fun j _=>hRm j) (by simp[hl3];omega) bs hb;exact k1.trans (kK (k2.trans (kK k3)))
  have e0:((ints l).take i).length=i:=by simp[hlen];omega
  obtain⟨zz,z1',hz⟩:∃zz z1',z1=zz::z1':=by
   cases z1 with
   | nil=>simp at hl1;omega
   | cons a r=>exact⟨a,r,rfl⟩
  have hl5:z1'.length=l.length - i:=by rw[hz] at hl1;simp at hl1;omega
  have e1:ar1=(ints l).take i++.int .i64 x::(z1'++z2):=by
   rw[har1,har0,hz];simp only[List.toList_toArray,List.length_singleton];exact Mc _ z1' z2 (.int .i64 x) zz i e0
  rw[har2,e1,nI];simp only[List.toList_toArray];have e2:((ints l).take i++.int .i64 x::(z1'++z2)).take (i+1)=(ints l).take i++[.int .i64 x]:=by
   rw[List.take_append,e0];simp[List.take_take]
  have e3:((ints l).take i++.int .i64 x::(z1'++z2)).drop (i+1+((ints l).drop i).length)=z2:=by
   have:i+1+((ints l).drop i).length=((ints l).take i).length+(1+z1'.length):=by rw[e0,hd,hl5];omega
   rw[this,List.drop_length_add_append,Nat.add_comm 1,List.drop_succ_cons,List.drop_left]
  rw[e2,e3];simp
 have hil:i=l.length:=by omega
 subst hil;refine (Any2.slices_Insert_int_end_grow L (some ⟨b',0,none⟩) l.length l.length vb' 0 1 vc (ints l) [.int .i64 x] w (by decide) (Nat.le_refl _) (by omega) (by omega) hlen rfl (by simp) (fun a ha j v hj=>?_) hvs h1v).mono ?_
 ·simp only[Option.some.injEq] at ha;subst ha;rw[add_plain];exact hcs j v hj
 rw[hgc];rintro e w' ⟨rfl,rfl⟩;obtain⟨ar2,har2⟩:∃ar2,ar2=(ints l++[.int .i64 x])++(Builtin.zeroCells (Value.int .i64 0).cells (gc - (l.length+1))).toList:=⟨_,rfl⟩;have hcells:((ints l++[Value.int .i64 x]).toArray++Builtin.zeroCells (Value.int .i64 0).cells (gc - (l.length+1)))=ar2.toArray:=by rw[har2];simp
 rw[hcells];have hl3:ar2.length=gc:=by rw[har2,List.length_append,hzs];simp[hlen];omega
 have hg3:(w.drew.alloc (.cells ar2.toArray (ρ.t 3))).heap[w.heap.size]?=some (.cells ar2.toArray (ρ.t 3) (0,0)):=heap_alloc_new w.drew _;refine yp (g:=w.heap.size) (vb:=vb') (cap:=gc) (arr:=ar2) (rest:=(Builtin.zeroCells (Value.int .i64 0).cells (gc - (l.length+1))).toList) (R':=R.more w.heap.size) hnx (fun bs hb=>eC _ (fun b off hb=>Own.jL hb) bs) UQ (by omega) hnd2 hg3 ?_ hfl2 (fun j _=>hRm j) hl3 hgm (by rw[hl2];exact hge) hrest0 _ (by rw[hl2]);rw[har2,nI,←hlen,List.take_length,List.drop_length]
theorem E4 (L:Lays2.n21 P ρ) {x:Int} :
  aB P G (ρ.f 21) [.dat (.flat (.slice none 0 0)),iv (Int.ofNat 0),.win (.out 0) 1 0 1] [(.out 0,.cells [iv x])] 1
   (XQ ⟨.win (.out 1) 1 0 1,[(.out 1,.cells [iv x]),(.out 0,.cells [iv x])],2⟩):=by
 intro w R N cargs bsA bsH bsF hargs hheap hnd hnx hglob hF;obtain⟨v0,r1,c0,d1,rfl,rfl,h0,hr1⟩:=az hargs;obtain⟨v1,r2,c1,d2,rfl,rfl,h1,hr2⟩:=az hr1;obtain⟨v2,r3,c2,d3,rfl,rfl,h2,hr3⟩:=az hr2;obtain⟨rfl,rfl⟩:=aS hr3;have hheap0:=hheap;obtain⟨vb,b3,b4,rfl,hvb,hobjv,hrest⟩:=hheap;have hrest:b4=[]:=hrest;subst hrest;obtain⟨vs2,elem2,sp2,hblk2,hrv2,hRv2,_⟩:=hobjv;simp only[al] at h0 h1 h2;obtain⟨rfl,h0⟩:=h0;have hv:v0=.slice none 0 0:=by
  have h0:dO w R v0 (.flat (.slice none 0 0)):=h0
  cases h0 with|flat _=>rfl
 subst hv;obtain⟨rfl,vb',vc,hvb',rfl,hvc,_,hvlt,hvrow⟩:=h2
 have:vb'=vb:=by rw[hvb] at hvb';simpa using hvb'.symm
 subst this;obtain⟨rfl,h1⟩:=h1;have h1:dO w R v1 (.flat (.int .i64 (Int.ofNat 0))):=h1;have e1:v1=.int .i64 (Int.ofNat 0):=by cases h1 with|flat _=>rfl
 subst e1;obtain⟨ws1,ws2,q3,q4,hws,rfl,hr2,hq4⟩:=cU hrv2;obtain⟨rfl,rfl,hfx⟩:=qo (l:=[x]) hr2;obtain⟨rfl,_⟩:=iV hq4;simp only[List.nil_append,List.append_nil] at hnd;have hvs:∀j v,[Value.int .i64 x][j]?=some v->w.cell? ⟨vb',0+j,none⟩=some v:=by
  intro j v hj;refine eJ hblk2 ?_;rw[hws]
  cases j with
  | zero=>simpa [ints] using hj
  | succ j=>simp at hj
 have h1v:∀v∈[Value.int .i64 x],v.oneCell'=true:=by intro v hv;simp at hv;subst hv;rfl
 have hltv:vb' < w.heap.size:=bw hblk2;have UQ:w.heap.size∉bsF:=fun h=>by have:=hF _ h;omega
 refine (Any2.slices_Insert_int_end_grow L none 0 0 vb' 0 1 vc [] [.int .i64 x] w (by decide) (Nat.le_refl _) (by omega) (by omega) rfl rfl (by simp) (by simp) hvs h1v).mono ?_;have hge:=grownCap_ge w (0+1) 0 (ρ.t 3);have hgm:grownCap w (0+1) 0 (ρ.t 3)<=gR:=Nat.le_trans (grownCap_le_maxLen w (0+1) 0 (ρ.t 3) (by unfold maxLen;omega)) (by decide);generalize hgc:grownCap w (0+1) 0 (ρ.t 3)=gc at hge hgm;have hzs:∀n,(Builtin.zeroCells (Value.int .i64 0).cells n).toList.length=n:=fun n=>by simp[Builtin.zeroCells,Value.cells]
 rintro e w' ⟨rfl,rfl⟩;obtain⟨ar2,har2⟩:∃ar2,ar2=Value.int .i64 x::(Builtin.zeroCells (Value.int .i64 0).cells (gc - (0+1))).toList:=⟨_,rfl⟩;have hcells:(([]++[Value.int .i64 x]).toArray++Builtin.zeroCells (Value.int .i64 0).cells (gc - (0+1)))=ar2.toArray:=by
  apply Array.toList_inj.1
  rw[har2];simp
 rw[hcells];have hl3:ar2.length=gc:=by rw[har2,List.length_cons,hzs];omega
 have hg3:(w.drew.alloc (.cells ar2.toArray (ρ.t 3))).heap[w.heap.size]?=some (.cells ar2.toArray (ρ.t 3) (0,0)):=heap_alloc_new w.drew _;have hk:∀bs,bz w R (w.drew.alloc (.cells ar2.toArray (ρ.t 3))) (R.more w.heap.size) bs:=fun bs=>eC _ (fun b off hb=>Own.jL hb) bs
 have hext:=sU (N:=N) (b:=w.heap.size) hnx;refine⟨_,_,_,2,R.more w.heap.size,bN N (.out 1) w.heap.size,[],[w.heap.size,vb'],rfl,⟨rfl,rfl,rfl⟩,?_,?_,?_,?_,hk bsF,fun o b h=>hext _ _ h⟩
 ·simp only[al];refine⟨trivial,w.heap.size,gc,by simp[outs,bN],rfl,hge,⟨by decide,hgm⟩,bw hg3,?_⟩;rw[dh hg3];simp[hl3]
 ·refine⟨w.heap.size,[],[vb'],rfl,by simp[outs,bN],?_,((by simpa using hheap0:an w R (outs N) _ [vb']).keep (hk _)).ext (tv hext)⟩;refine⟨ar2.toArray,ρ.t 3,(Builtin.zeroCells (Value.int .i64 0).cells (gc - (0+1))).toList.length,hg3,?_,fun j _=>.inl rfl,fun h=>by simp[cM] at h⟩;have h2:=eD (w:=w.drew.alloc (.cells ar2.toArray (ρ.t 3))) (R:=R.more w.heap.size) (N:=outs (bN N (.out 1) w.heap.size)) (Builtin.zeroCells (Value.int .i64 0).cells (gc - (0+1))).toList;have h3:ak (w.drew.alloc (.cells ar2.toArray (ρ.t 3))) (R.more w.heap.size) (outs (bN N (.out 1) w.heap.size)) (yo [x]) (ints [x]) []:=JK hfx;have h4:=cD h3 h2;have e:ar2.toArray.toList=ints [x]++(Builtin.zeroCells (Value.int .i64 0).cells (gc - (0+1))).toList:=by rw[har2];rfl
  rw[e];exact h4
 ·simp only[List.nil_append,List.cons_append];refine List.nodup_cons.2 ⟨?_,hnd⟩;simp only[List.mem_cons,not_or];exact⟨by omega,UQ⟩
 intro o c ho
 by_cases hne:o=1
 ·omega
 have:N (.out o)=some c:=by simpa [bN,hne] using ho
 have:=hnx o c this
 omega
theorem aB.Xq {g:FuncId} {args:List ac} {r m:Nat} {l:List Int} {rest:Heap} (h:aB P G g args [] 0 (XQ ⟨.win (.out r) 1 0 l.length,(.out r,.cells (yo l))::rest,m⟩)) (hn:l.length<=lim) :
  aB P G g args [] 0 (XQ ⟨.dat (.slice (l.map fun x=>.flat (.int .i64 x))),[],0⟩):=by
 intro w R N cargs bsA bsH bsF ha hh hnd hnx hg hF;refine (h w R N cargs bsA bsH bsF ha hh hnd hnx hg hF).mono ?_;rintro e w' ⟨v,cv,hp,m',R',N',bsV,bsH',rfl,⟨rfl,rfl,rfl⟩,hv,hh',hnd',hnx',hk,hN⟩;simp only[al] at hv;obtain⟨rfl,b,cap,hb,rfl,hcap,_,hblt,hrow⟩:=hv;obtain⟨b',b1,b2,rfl,hb',hobj,hrest⟩:=hh'
 have:b'=b:=by rw[hb] at hb';simpa using hb'.symm
 subst this;obtain⟨vs,elem,sp,hblk,hrv,hRv,_⟩:=hobj;obtain⟨us1,us2,q1,q2,hus,rfl,hr1,_⟩:=cU hrv;obtain⟨rfl,rfl,hfl⟩:=qo hr1;have hbF:b'∉bsF:=by
  intro hm;have h1:(b'::((([]++q2)++b2)++bsF)).Nodup:=by simpa using hnd'
  exact (List.nodup_cons.1 h1).1 (List.mem_append_right _ hm)
 let R2:Own:=fun c off=>c≠b'/\R' c off
 have hk2:bz w' R' w' R2 bsF:=⟨⟨rfl,rfl,rfl,Nat.le_refl _,fun c _ hno=>⟨rfl,fun off h=>hno off h.2⟩,fun c off _ hno=>⟨fun h=>hno h.2,rfl⟩,fun _ _=>rfl⟩,fun c hc _=>⟨rfl,fun off h=>⟨fun e=>hbF (e ▸ hc),h⟩⟩⟩;refine⟨_,_,_,0,R2,fun m=>match m with|.loc i=>N' (.loc i)|.out _=>none,[],[],rfl,⟨rfl,rfl,rfl⟩,?_,rfl,?_,by intro o c ho;simp at ho,hk.trans hk2,?_⟩
 ·simp only[al];refine⟨trivial,?_⟩;have hl:l.length=(l.map fun x=>ap.flat (.int .i64 x)).length:=by simp
  rw[hl];refine dO.slice b' 0 cap 1 _ (fun i _=>.int .i64 (l.getD i 0)) (by decide) ?_ (by simpa using hcap) (by simpa using hn) ?_ ?_
  ·intro e he;obtain⟨x,_,rfl⟩:=List.mem_map.1 he;rfl
  ·intro i j hi hj
   have:j=0:=by omega
   subst this;simp only[List.length_map] at hi;refine⟨?_,fun h=>h.1 rfl⟩;refine eJ hblk ?_;rw[hus,show 0+i*1+0=i by omega,List.getElem?_append_left (by simp[ints];exact hi)];simp[ints,hi]
  intro i j e c he hc;simp only[List.getElem?_map,Option.map_eq_some_iff] at he;obtain⟨x,hx,rfl⟩:=he;have hc2:c=.flat (.int .i64 x):=by
   have hc:[ap.flat (.int .i64 x)][j]?=some c:=hc
   cases j with
   | zero=>simpa using hc.symm
   | succ j=>simp at hc
  subst hc2;obtain⟨hi,rfl⟩:=List.getElem?_eq_some_iff.1 hx
  have:l.getD i 0=l[i]:=by simp[hi]
  rw[this];exact .flat (hfl _ (List.getElem_mem hi))
 ·have h1:(b'::((([]++q2)++b2)++bsF)).Nodup:=by simpa using hnd'
  have h2:=(List.nodup_cons.1 h1).2;simpa using (List.nodup_append.1 h2).2.1
 intro o c ho
 have:=hnx o c ho
 omega
end
end Go.Tp
namespace Go.Proofs.YtiihadmgkoamoaaGreatDoor
open Go.Tp
theorem aZ (ls bs:List Nat) {g:FuncId} {x:gU} (hx:J0.find g=some x) {args:List ac} {heap:Heap} {next:Nat} {r:ey} (h:(Qt (UP ls) (UP bs) (env ay.aN) cN ao aq x g args heap next).Ok Tryz.prog cN (fun y=>y=r)) :
  KC g args heap next (XQ r):=Dn (Qs Kf tT hx (fun _ _=>h))
theorem tB (k:Nat):∀l:List Int,dM k (yo l)=false
 | []=>rfl
 | d::r=>by show (dB k (iv d)||dM k (yo r))=false;rw[tB k r];rfl
theorem iz (ρ:Nat->Nat):∀l:List Int,gD ρ (yo l)=yo l
 | []=>rfl
 | d::r=>by show fg ρ (iv d)::gD ρ (yo r)=_;rw[iz ρ r];rfl
theorem tx (p:Nat->Bool):∀l:List Int,gN p (yo l)=true
 | []=>rfl
 | d::r=>by show (BG p (iv d)&&gN p (yo r))=true;rw[tx p r];rfl
theorem jf {g:FuncId} {args:List ac} {heap:Heap} {next:Nat} {Q Q':ac->Heap->Nat->Prop} (h:KC g args heap next Q) (hq:∀v h m,Q v h m->∃h2,h.Perm h2/\Q' v h2 m):KC g args heap next Q':=by
 intro w R N cargs bsA bsH bsF ha hh hnd hnx hg hF;refine (h w R N cargs bsA bsH bsF ha hh hnd hnx hg hF).mono ?_;rintro e w' ⟨v,cv,h1,next',R',N',bsV,bsH',rfl,hq1,hv,hh',hnd',hnx',hk,hN⟩;obtain⟨h2,hp,hq2⟩:=hq _ _ _ hq1;obtain⟨bs2,k1,k2⟩:=hh'.perm hp;refine⟨v,cv,h2,next',R',N',bsV,bs2,rfl,hq2,hv,k1,?_,hnx',hk,hN⟩;exact (List.Perm.nodup_iff (List.Perm.append_left _ (List.Perm.append_right _ k2))).1 hnd'
def sP:ac:=.ptr (.out 0) 0
def hS (r:Nat):List Int->Heap
 | []=>[(.out 0,.cells [.dat nl])]
 | x::l=>[(.out r,.cells (yo (x::l))),(.out 0,.cells [.win (.out r) 1 0 (x::l).length])]
def hR (r:Nat) (l:List Int) (n:Nat):Heap:=[(.out r,.cells (yo l)),(.out 0,.cells [.win (.out r) 1 0 n])]
theorem Mf {r:Nat} {l:List Int} (h:l≠[]):hS r l=hR r l l.length:=by cases l with|nil=>exact absurd rfl h|cons x l=>rfl
theorem M5 {l:List Int} {x:Int} {n:Nat} (hs:l.Pairwise (·<=·)) (hn:l.length < 1000000000) (hl:n=l.length) :
  KC 190 [.win (.out 1) 1 0 n,iv x] (hR 1 l n) 2 (XQ ⟨.tup [iv (Int.ofNat (l.countP (· < x))),bv (l.contains x)],hR 1 l n,2⟩):=by
 subst hl;have h:=aB.frame (Ud (G:=cN) Tryz.agt (x:=x) hs hn) (fun _=>1) (heap:=hR 1 l l.length) (rest:=[(.out 0,.cells [.win (.out 1) 1 0 l.length])]) (next:=2) (by simp[hR,lk,mC,qT,iz]) rfl (by simp[cG,lY,tB]) rfl rfl;refine jf h ?_;rintro v h m ⟨v0,h1,n1,⟨rfl,rfl,rfl⟩,rfl,rfl,rfl⟩;refine⟨hR 1 l l.length,?_,rfl,rfl,rfl⟩;simp[hR,lk,mC,qT,iz,iG];exact List.Perm.refl _
theorem NJ {l:List Int} {x:Int} {i n:Nat} (hi:i<=l.length) (hn:l.length < 1000000000) (hl:n=l.length) :
  KC 191 [.win (.out 1) 1 0 n,iv (Int.ofNat i),.win (.out 2) 1 0 1] ((.out 2,.cells [iv x])::hR 1 l n) 3
   (XQ ⟨.win (.out 3) 1 0 (gK l i x).length,[(.out 3,.cells (yo (gK l i x))),(.out 2,.cells [iv x]),(.out 0,.cells [.win (.out 1) 1 0 n])],4⟩):=by
 subst hl;have h:=aB.frame (Ue (G:=cN) Tryz.YZ (x:=x) hi hn) (fun o=>o+1) (heap:=(.out 2,.cells [iv x])::hR 1 l l.length) (rest:=[(.out 0,.cells [.win (.out 1) 1 0 l.length])]) (next:=3) (by simp[hR,lk,mC,qT,iz,gD,fg];exact List.Perm.swap _ _ _) rfl (by simp[cG,lY,tB,dM,dB]) rfl rfl;refine jf h ?_;rintro v h m ⟨v0,h1,n1,⟨rfl,rfl,rfl⟩,rfl,rfl,rfl⟩;refine⟨_,List.Perm.refl _,rfl,?_,rfl⟩;simp[lk,mC,qT,iz,gD,fg,iG];exact⟨rfl,rfl⟩
theorem insert_nil {x:Int} :
  KC 191 [.dat nl,iv (Int.ofNat 0),.win (.out 1) 1 0 1] [(.out 1,.cells [iv x]),(.out 0,.cells [.dat nl])] 2
   (XQ ⟨.win (.out 2) 1 0 1,[(.out 2,.cells [iv x]),(.out 1,.cells [iv x]),(.out 0,.cells [.dat nl])],3⟩):=by
 have h:=aB.frame (E4 (G:=cN) Tryz.YZ (x:=x)) (fun o=>o+1) (heap:=[(.out 1,.cells [iv x]),(.out 0,.cells [.dat nl])]) (rest:=[(.out 0,.cells [.dat nl])]) (next:=2) (by rfl) rfl rfl rfl rfl;refine jf h ?_;rintro v h m ⟨v0,h1,n1,⟨rfl,rfl,rfl⟩,rfl,rfl,rfl⟩;exact⟨_,List.Perm.refl _,rfl,rfl,rfl⟩
theorem IK {x:Int}:ag 190 [.dat nl,iv x] (.tup [iv (Int.ofNat 0),bv false]):=br _ _ _ _ _ (by kernel_rfl)
theorem Yg {x:Int}:KC 170 [sP,iv x] [(.out 0,.cells [.dat nl])] 1 (XQ ⟨.tup [],[(.out 2,.cells [iv x]),(.out 1,.cells [iv x]),(.out 0,.cells [.win (.out 2) 1 0 1])],3⟩):=by
 have h1:=IK (x:=x);have h2:=insert_nil (x:=x);refine aZ [] [] (x:=gU.of Tryz.f170 zU yh) (by kernel_rfl) ?_;refine on h1 ?_;refine oh h2 ?_;exact fi
theorem Yh {l l2:List Int} {x:Int} {i n n2:Nat} (h1:KC 190 [.win (.out 1) 1 0 n,iv x] (hR 1 l n) 2 (XQ ⟨.tup [iv (Int.ofNat i),bv false],hR 1 l n,2⟩))
  (h2:KC 191 [.win (.out 1) 1 0 n,iv (Int.ofNat i),.win (.out 2) 1 0 1] ((.out 2,.cells [iv x])::hR 1 l n) 3
   (XQ ⟨.win (.out 3) 1 0 n2,[(.out 3,.cells (yo l2)),(.out 2,.cells [iv x]),(.out 0,.cells [.win (.out 1) 1 0 n])],4⟩)) :
  KC 170 [sP,iv x] (hR 1 l n) 2 (XQ ⟨.tup [],[(.out 3,.cells (yo l2)),(.out 2,.cells [iv x]),(.out 0,.cells [.win (.out 3) 1 0 n2])],4⟩):=by
 refine aZ [] [] (x:=gU.of Tryz.f170 zU yh) (by kernel_rfl) ?_;refine oh h1 ?_;refine oh h2 ?_;exact fi
theorem Yf {l:List Int} {x:Int} {i n:Nat} (h1:KC 190 [.win (.out 1) 1 0 n,iv x] (hR 1 l n) 2 (XQ ⟨.tup [iv (Int.ofNat i),bv true],hR 1 l n,2⟩)) :
  KC 170 [sP,iv x] (hR 1 l n) 2 (XQ ⟨.tup [],hR 1 l n,2⟩):=by
 refine aZ [] [] (x:=gU.of Tryz.f170 zU yh) (by kernel_rfl) ?_;refine oh h1 ?_;exact fi
def jc (l:List Int) (x:Int):List Int:=match l.contains x with|true=>l|false=>gK l (l.countP (· < x)) x
theorem G0 {l:List Int} {i:Nat} {x:Int}:gK l i x≠[]:=by simp[gK]
theorem Yi {l:List Int} {x:Int} (h0:l≠[]) (hs:l.Pairwise (·<=·)) (hn:l.length < 1000000000) :
  KC 170 [sP,iv x] (hR 1 l l.length) 2 (XQ ⟨.tup [],hR 2 (jc l x) (jc l x).length,3⟩):=by
 have h1:=M5 (x:=x) hs hn rfl;unfold jc;generalize hc:l.contains x=c at h1
 cases c
 ·have h2:=NJ (x:=x) (i:=l.countP (· < x)) List.countP_le_length hn rfl;refine aB.rn (Yh h1 h2) ?_;rintro v hp m ⟨rfl,rfl,rfl⟩;refine⟨[3],rfl,?_,?_⟩
  ·simp[hR,bI,GA,Jl,gN,BG,dK,gG,tx];rfl
  simp[hR,bI,lk,mC,qT,gD,fg,dK,gG,kh,oF,iz];exact⟨rfl,rfl,rfl⟩
 refine aB.rn (Yf h1) ?_;rintro v hp m ⟨rfl,rfl,rfl⟩;refine⟨[1],rfl,?_,?_⟩
 ·simp[hR,bI,GA,Jl,gN,BG,dK,gG,tx];rfl
 simp[hR,bI,lk,mC,qT,gD,fg,dK,gG,kh,oF,iz];exact⟨rfl,rfl,rfl⟩
theorem Ic {x:Int}:KC 170 [sP,iv x] [(.out 0,.cells [.dat nl])] 1 (XQ ⟨.tup [],hR 1 [x] 1,2⟩):=by
 refine aB.rn (Yg (x:=x)) ?_;rintro v hp m ⟨rfl,rfl,rfl⟩;exact⟨[2],rfl,rfl,rfl,rfl,rfl⟩
theorem afI {l:List Int} {x:Int} (hs:l.Pairwise (·<=·)) (hn:l.length < 1000000000) (r m:Nat) :
  KC 170 [sP,iv x] (hS r l) m (XQ ⟨.tup [],hS m (jc l x),m+1⟩):=by
 cases l with
 | nil=>
  have h:=aB.frame (Ic (x:=x)) (fun o=>o) (heap:=hS r []) (rest:=[]) (next:=m) (by rfl) rfl rfl rfl rfl;refine h.mono ?_;rintro v h m' ⟨v0,h1,n1,⟨rfl,rfl,rfl⟩,rfl,rfl,rfl⟩;refine⟨rfl,?_,rfl⟩;show _=hS m [x];simp[hS,hR,lk,mC,qT,gD,fg,iz,iG];exact⟨rfl,rfl,rfl⟩
 | cons y l=>
  have h2:jc (y::l) x≠[]:=by
   unfold jc
   cases (y::l).contains x with
   | true=>simp
   | false=>exact G0
  rw[Mf (by simp:(y::l)≠[]),Mf h2];have h:=aB.frame (Yi (x:=x) (by simp:(y::l)≠[]) hs hn) (fun o=>match o with|0=>0|_=>r) (heap:=hR r (y::l) (y::l).length) (rest:=[]) (next:=m) (by simp[hR,lk,mC,qT,iz,gD,fg]) (by rfl) (by simp[cG,hR,lY,tB,dM,dB];rfl) (by rfl) rfl;refine h.mono ?_;rintro v h m' ⟨v0,h1,n1,⟨rfl,rfl,rfl⟩,rfl,rfl,rfl⟩;refine⟨rfl,?_,rfl⟩;simp[hR,lk,mC,qT,gD,fg,iz,iG];exact⟨rfl,rfl,rfl⟩
noncomputable def aem:Hints:=⟨ao,vm,aq,rowsOf aq 142⟩
def ZX (k:Int) (nm:List UInt8) (ix:Int) (a:ap) (n u:Nat) (H:Heap) (m:Nat) (i:Int):ab:=⟨[(26,iv i),(25,iv (Int.ofNat n)),(24,.dat a),(3,.ptr (.loc 3) 0),(1,iv (Int.ofNat u)),(2,sP)],[(.loc 3,.cells [iv k,.dat (sb nm),iv ix,.dat a])],H,m⟩
def Vj (k:Int) (nm:List UInt8) (ix:Int) (a:ap) (n u:Nat) (H:Heap) (m:Nat) (i:Int):ab:=⟨[(27,bv false),(26,iv i),(25,iv (Int.ofNat n)),(24,.dat a),(3,.ptr (.loc 3) 0),(1,iv (Int.ofNat u)),(2,sP)],[(.loc 3,.cells [iv k,.dat (sb nm),iv ix,.dat a])],H,m⟩
theorem Ol {k:Int} {nm:List UInt8} {ix:Int} {x:ap} {es:List ap} {l:List Ty} {t:Ty} {i u b m m2:Nat} {H H2:Heap} (hl:au l=x::es) (hi:i < (au l).length) (ht:l[i]?=some t)
  (hb:ag 126 [.dat (.agg [i64 k,sb nm,i64 ix,.slice (x::es)]),iv (Int.ofNat i)] (iv (Int.ofNat b)))
  (hc:KC 142 [.dat t.enc,iv (aH .i64 (Int.ofNat u+Int.ofNat b)),sP] H m (XQ ⟨.tup [],H2,m2⟩)) {T:Exit->aa->Prop}
  (e:T .normal ((ZX k nm ix (.slice (x::es)) (x::es).length u H2 m2 (aH .i64 (Int.ofNat i+1))).aw Tryz.f142.ntmps)) :
  KD (roundOf Tryz.f142 0) T ((ZX k nm ix (.slice (x::es)) (x::es).length u H m (Int.ofNat i)).aw Tryz.f142.ntmps):=by
 have h1:=bA hi;have h2:=jZ ht;rw[hl] at h1 h2;clear ht hi hl;obtain⟨k2,nm2,ix2,a2⟩:=t
 rcases a2 with _|⟨b2,d2⟩ <;>
 ·refine aC [27] [29] (H:=aem) (live:=ql) (by kernel_rfl) ?_;refine ob h1 ?_;refine oo h2 ?_;refine on hb ?_;refine oh hc ?_;exact oe e
theorem T0 {k:Int} {nm:List UInt8} {ix:Int} {a:ap} {n u m:Nat} {H:Heap} {T:Exit->aa->Prop} (e:T (.exit 0) ((Vj k nm ix a n u H m (Int.ofNat n)).aw Tryz.f142.ntmps)) :
  KD (roundOf Tryz.f142 0) T ((ZX k nm ix a n u H m (Int.ofNat n)).aw Tryz.f142.ntmps):=by
 have h1:=bC (i:=n) (L:=n) (by omega);refine aC [27] [] (H:=aem) (live:=ql) (by kernel_rfl) ?_;refine ob h1 ?_;exact oe e
def dZ (k ix:Int) (u:Nat) (s:List Int):List Int:=match aP k 5 with|false=>s|true=>(match bq ix (Int.ofNat u) with|true=>s|false=>jc s (ix - Int.ofNat u))
mutual
def Ty.cf:Ty->Nat->List Int->List Int
 | .mk k _ ix args,u,s=>rf k args 0 u (dZ k ix u s)
def rf (k:Int):List Ty->Nat->Nat->List Int->List Int
 | [],_,_,s=>s
 | t::r,j,u,s=>rf k r (j+1) u (t.cf (u+db k j) s)
end
theorem Ms {k:Int} {b:List Ty} {u:Nat}:∀{a:List Ty} {j:Nat} {s:List Int},rf k (a++b) j u s=rf k b (j+a.length) u (rf k a j u s)
 | [],j,s=>by simp[rf]
 | t::r,j,s=>by
  simp only[List.cons_append,rf,List.length_cons];rw[Ms,show j+1+r.length=j+(r.length+1) by omega]
theorem HL {k:Int} {l:List Ty} {i u:Nat} {t:Ty} {s:List Int} (h:l[i]?=some t):rf k (l.take (i+1)) 0 u s=t.cf (u+db k i) (rf k (l.take i) 0 u s):=by
 have hi:=(List.getElem?_eq_some_iff.1 h).1;rw[List.take_add_one,h,Option.toList_some,Ms,Nat.zero_add,List.length_take,Nat.min_eq_left (by omega),rf,rf]
theorem Om {k:Int} {nm:List UInt8} {ix:Int} {l:List ap} {u m m2 m3:Nat} {ck cg:Bool} {H H2 H3:Heap} (hk:aP k 5=ck) (hg:bq ix (Int.ofNat u)=cg)
  (ha:ck=true->cg=false->KC 170 [sP,iv (aH .i64 (ix - Int.ofNat u))] H m (XQ ⟨.tup [],H2,m2⟩)) (he:ck=false∨cg=true->H2=H/\m2=m)
  (hl:KD (.loop (roundOf Tryz.f142 0)) (fun e s=>e=.exit 0/\s=(Vj k nm ix (sl l) l.length u H3 m3 (Int.ofNat l.length)).aw Tryz.f142.ntmps) ((ZX k nm ix (sl l) l.length u H2 m2 (Int.ofNat 0)).aw Tryz.f142.ntmps)) :
  KC 142 [.dat (.agg [i64 k,sb nm,i64 ix,sl l]),iv (Int.ofNat u),sP] H m (XQ ⟨.tup [],H3,m3⟩):=by
 cases ck
 ·obtain⟨rfl,rfl⟩:=he (.inl rfl);clear he ha
  rcases l with _|⟨x,l⟩ <;>
  ·refine aZ [10] [] (x:=gU.of Tryz.f142 vm ql) (by kernel_rfl) ?_;refine ob hk ?_;refine lo hl ?_;rintro ex s ⟨rfl,rfl⟩;refine⟨_,rfl,?_⟩;exact fi
 cases cg
 ·have ha2:=ha rfl rfl;clear he ha
  rcases l with _|⟨x,l⟩ <;>
  ·refine aZ [10,15] [] (x:=gU.of Tryz.f142 vm ql) (by kernel_rfl) ?_;refine ob hk ?_;refine ox hg ?_;refine oh ha2 ?_;refine lo hl ?_;rintro ex s ⟨rfl,rfl⟩;refine⟨_,rfl,?_⟩;exact fi
 obtain⟨rfl,rfl⟩:=he (.inr rfl);clear he ha
 rcases l with _|⟨x,l⟩ <;>
 ·refine aZ [10,15] [] (x:=gU.of Tryz.f142 vm ql) (by kernel_rfl) ?_;refine ob hk ?_;refine ox hg ?_;refine lo hl ?_;rintro ex s ⟨rfl,rfl⟩;refine⟨_,rfl,?_⟩;exact fi
def gp (b:Nat) (s:List Int):Prop:=s.Pairwise (·<=·)/\s.length<=b
theorem countP_split {l:List Int} {x:Int} (hs:l.Pairwise (·<=·)):(∀y∈l.take (l.countP (· < x)),y < x)/\(∀y∈l.drop (l.countP (· < x)),x<=y):=by
 induction l with
 | nil=>simp
 | cons a r ih=>
  obtain⟨h1,h2⟩:=ih (List.Pairwise.of_cons hs)
  by_cases ha:a < x
  ·rw[List.countP_cons_of_pos (by simpa using ha)];refine⟨?_,?_⟩
   ·intro y hy;simp only[List.take_succ_cons,List.mem_cons] at hy
    rcases hy with rfl|hy
    ·exact ha
    exact h1 y hy
   simpa only[List.drop_succ_cons] using h2
  have h0:(a::r).countP (· < x)=0:=by
   rw[List.countP_eq_zero];intro y hy;have hay:a<=y:=by
    rcases List.mem_cons.1 hy with rfl|hy
    ·exact Int.le_refl _
    exact List.rel_of_pairwise_cons hs hy
   simp only[decide_eq_true_eq];omega
  rw[h0];refine⟨by simp,?_⟩;intro y hy;simp only[List.drop_zero] at hy;have hay:a<=y:=by
   rcases List.mem_cons.1 hy with rfl|hy
   ·exact Int.le_refl _
   exact List.rel_of_pairwise_cons hs hy
  omega
theorem M4 {b:Nat} {s:List Int} {x:Int} (h:gp b s):gp (b+1) (jc s x):=by
 obtain⟨h1,h2⟩:=h;unfold jc
 cases s.contains x with
 | true=>exact⟨h1,Nat.le_succ_of_le h2⟩
 | false=>
  obtain⟨c1,c2⟩:=countP_split (x:=x) h1;refine⟨?_,?_⟩
  ·unfold gK;rw[List.pairwise_append];refine⟨h1.sublist (List.take_sublist _ _),?_,?_⟩
   ·rw[List.pairwise_cons];exact⟨c2,h1.sublist (List.drop_sublist _ _)⟩
   intro y hy z hz
   have:=c1 y hy
   rcases List.mem_cons.1 hz with rfl|hz
   ·omega
   have:=c2 z hz
   omega
  rw[tR List.countP_le_length];omega
theorem zo {b:Nat} {k ix:Int} {u:Nat} {s:List Int} (h:gp b s):gp (b+1) (dZ k ix u s):=by
 unfold dZ
 cases aP k 5 with
 | false=>exact⟨h.1,Nat.le_succ_of_le h.2⟩
 | true=>
  cases bq ix (Int.ofNat u) with
  | true=>exact⟨h.1,Nat.le_succ_of_le h.2⟩
  | false=>exact M4 h
mutual
theorem Zd:∀(t:Ty) (u:Nat) {b:Nat} {s:List Int},gp b s->gp (b+t.size) (t.cf u s)
 | .mk k nm ix l,u,b,s,h=>by
  rw[Ty.cf,Ty.size,show b+(aU l+1)=b+1+aU l by omega];exact EZ l u (zo h)
theorem EZ {k:Int}:∀(l:List Ty) {j:Nat} (u:Nat) {b:Nat} {s:List Int},gp b s->gp (b+aU l) (rf k l j u s)
 | [],j,u,b,s,h=>by simpa [rf,aU] using h
 | t::r,j,u,b,s,h=>by
  rw[rf,aU,←Nat.add_assoc];exact EZ r u (Zd t _ h)
end
def CF (t:Ty) (u:Nat) (s:List Int):Prop:=∀r m,0 < r->0 < m->KC 142 [.dat t.enc,iv (Int.ofNat u),sP] (hS r s) m (XQ ⟨.tup [],hS m (t.cf u s),m+1⟩)
def sY (r m:Nat):Nat->Nat
 | 0=>r
 | i+1=>m+i
theorem sX {r m i:Nat} (h1:0 < r) (h2:0 < m):0 < sY r m i:=by cases i with|zero=>exact h1|succ i=>simp only[sY];omega
theorem Z6 {f:FuncId} {args:List ac} {h0:Heap} {m q mm:Nat} {s:List Int} (hm:0 < m) (hq:0 < q) (h:KC f args h0 m (XQ ⟨.tup [],hS q s,mm⟩)):KC f args h0 m (XQ ⟨.tup [],hS m s,m+1⟩):=by
 refine aB.rn h ?_;rintro v hp m' ⟨rfl,rfl,rfl⟩;refine⟨[q],rfl,?_,?_⟩
 all_goals
  have e1:gG 0 [q]=false:=by cases q with|zero=>omega|succ q=>rfl
  have e2:gG q [q]=true:=by simp[gG]
  have e3:dK m [q] 0=true:=by simp[dK,Nat.blt_eq,hm]
  have e4:dK m [q] q=true:=by simp[dK,e2]
  have e5:kh m [q] 0=0:=by simp[kh,e1]
  have e6:kh m [q] q=m:=by simp[kh,e2,oF]
 ·cases s with
  | nil=>simp[hS,bI,GA,Jl,gN,BG,e3]
  | cons x l=>simp[hS,bI,GA,Jl,gN,BG,e3,e4,tx]
 ·cases s with
  | nil=>simp[hS,bI,lk,mC,qT,gD,fg,e3,e5];exact⟨rfl,rfl,rfl⟩
  | cons x l=>simp[hS,bI,lk,mC,qT,gD,fg,e3,e4,e5,e6,iz];exact⟨rfl,rfl,rfl⟩
theorem XS {k:Int} {nm:List UInt8} {ix:Int} {l:List Ty} {u b:Nat} {s:List Int} (hs:gp b s) (hbd:b+1+aU l < 1000000000) (hu:u < 1000000000) (hix:aP k 5=true->bq ix 100=true)
  (ih:∀t∈l,∀v s2,v<=u+1->gp (b+1+aU l) s2->(∃b2,gp b2 s2/\b2+t.size<=b+1+aU l)->CF t v s2):CF (.mk k nm ix l) u s:=by
 intro r m hr hm;have hlen:=eG l;obtain⟨r2,m2,hr2,hm2,hH2⟩:∃r2 m2,0 < r2/\0 < m2/\((aP k 5=true->bq ix (Int.ofNat u)=false->KC 170 [sP,iv (aH .i64 (ix - Int.ofNat u))] (hS r s) m (XQ ⟨.tup [],hS r2 (dZ k ix u s),m2⟩))/\(aP k 5=false∨bq ix (Int.ofNat u)=true->hS r2 (dZ k ix u s)=hS r s/\m2=m)):=by
  unfold dZ
  cases hk:aP k 5 with
  | false=>exact⟨r,m,hr,hm,by simp,fun _=>⟨rfl,rfl⟩⟩
  | true=>
   cases hg:bq ix (Int.ofNat u) with
   | true=>exact⟨r,m,hr,hm,by simp,fun _=>⟨rfl,rfl⟩⟩
   | false=>
    refine⟨m,m+1,hm,by omega,fun _ _=>?_,by simp⟩;have hix:=hix hk;rw[gr] at hg hix;simp only[decide_eq_false_iff_not,decide_eq_true_eq] at hg hix;have e:aH .i64 (ix - Int.ofNat u)=ix - Int.ofNat u:=by
     rw[dP];simp only[Int.ofNat_eq_natCast] at hg ⊢;exact wrap_i64 (by omega) (by omega)
    rw[e];exact afI hs.1 (by have:=hs.2;omega) r m
 have hs1:=zo (k:=k) (ix:=ix) (u:=u) hs;refine Z6 (q:=sY r2 m2 l.length) (mm:=m2+l.length) hm (sX hr2 hm2) ?_;have hl:KD (.loop (roundOf Tryz.f142 0)) (fun e s'=>e=.exit 0/\s'=(Vj k nm ix (sl (au l)) (au l).length u (hS (sY r2 m2 l.length) (rf k l 0 u (dZ k ix u s))) (m2+l.length) (Int.ofNat (au l).length)).aw Tryz.f142.ntmps)
   ((ZX k nm ix (sl (au l)) (au l).length u (hS r2 (dZ k ix u s)) m2 (Int.ofNat 0)).aw Tryz.f142.ntmps):=by
  refine bb (St:=fun i=>(ZX k nm ix (sl (au l)) (au l).length u (hS (sY r2 m2 i) (rf k (l.take i) 0 u (dZ k ix u s))) (m2+i) (Int.ofNat i)).aw Tryz.f142.ntmps) (au l).length ?_ ?_ (i:=0) (Nat.zero_le _)
  ·intro i hi;obtain⟨t,ht,hmem⟩:=get_mem hi;have hi2:=hi;rw[aF] at hi2;have hbn:db k i<=1:=by unfold db;split <;> omega
   obtain⟨x,es,hx⟩:∃x es,au l=x::es:=by
    cases hl:au l with
    | nil=>rw[hl] at hi;simp at hi
    | cons x es=>exact⟨x,es,rfl⟩
   have hst:=jb ht;have hsl:=oQ (l:=l) (i+1);have hpre:gp (b+1+aU (l.take i)) (rf k (l.take i) 0 u (dZ k ix u s)):=EZ _ u hs1;have hcf:=ih t hmem (u+db k i) (rf k (l.take i) 0 u (dZ k ix u s)) (by omega) ⟨hpre.1,by have:=hpre.2;omega⟩ ⟨_,hpre,by omega⟩ (sY r2 m2 i) (m2+i) (sX hr2 hm2) (by omega);rw[←wrap_add (n:=u) (m:=db k i) (by omega)] at hcf;have hbi:=vT k nm ix (.slice (x::es)) (.inr ⟨_,rfl⟩) i;have e:=Ol (T:=lm (fun s'=>s'=(ZX k nm ix (sl (au l)) (au l).length u (hS (sY r2 m2 (i+1)) (rf k (l.take (i+1)) 0 u (dZ k ix u s))) (m2+(i+1)) (Int.ofNat (i+1))).aw Tryz.f142.ntmps)
    (fun e s'=>e=.exit 0/\s'=(Vj k nm ix (sl (au l)) (au l).length u (hS (sY r2 m2 l.length) (rf k l 0 u (dZ k ix u s))) (m2+l.length) (Int.ofNat (au l).length)).aw Tryz.f142.ntmps)) hx hi ht hbi hcf (by
     rw[hx,bg (by omega),HL ht];rfl)
   rw[hx];rw[hx] at e;exact e
  refine T0 ⟨rfl,?_⟩;rw[aF,List.take_length]
 exact Om rfl rfl hH2.1 hH2.2 hl
mutual
theorem Db:∀(t:Ty) (u:Nat) {b:Nat} {s:List Int},gp b s->b+t.size < 1000000000->u+t.depth < 1000000000->t.dR->CF t u s
 | .mk k nm ix l,u,b,s,hs,hb,hu,hx=>by
  simp only[Ty.size] at hb;simp only[Ty.depth] at hu;simp only[Ty.dR] at hx;exact XS hs (by omega) (by omega) hx.1 (Bi l u (by omega) (by omega) hx.2)
theorem Bi:∀(l:List Ty) (u:Nat) {B:Nat},u+bV l+1 < 1000000000->B < 1000000000->cV l->∀t∈l,∀v s2,v<=u+1->gp B s2->(∃b2,gp b2 s2/\b2+t.size<=B)->CF t v s2
 | [],u,B,hu,_,hx,t,ht,_,_,_,_,_=>by simp at ht
 | y::r,u,B,hu,hB,hx,t,ht,v,s2,hv,h1,h2=>by
  simp only[bV] at hu;simp only[cV] at hx
  rcases List.mem_cons.1 ht with h3|ht
  ·obtain⟨b2,h4,h5⟩:=h2;rw[h3] at h5 ⊢;exact Db y v h4 (by omega) (by omega) hx.1
  exact Bi r u (by omega) hB hx.2 t ht v s2 hv h1 h2
end
theorem Th {k:Int} {nm:List UInt8} {ix:Int} {l:List ap} {s:List Int} (h:KC 142 [.dat (.agg [i64 k,sb nm,i64 ix,sl l]),iv (Int.ofNat 0),sP] [(.out 0,.cells [.dat nl])] 1 (XQ ⟨.tup [],hS 1 s,2⟩)) :
  KC 119 [.dat (.agg [i64 k,sb nm,i64 ix,sl l])] [] 0 (XQ (match s with|[]=>⟨.dat nl,hS 1 [],2⟩|x::r=>⟨.win (.out 1) 1 0 (x::r).length,hS 1 (x::r),2⟩)):=by
 rcases l with _|⟨y,l⟩ <;>
 ·cases s with
  | nil=>
   refine aZ [] [] (x:=gU.of Tryz.f119 D2 Em) (by kernel_rfl) ?_;refine oh h ?_;exact fi
  | cons x r=>
   refine aZ [] [] (x:=gU.of Tryz.f119 D2 Em) (by kernel_rfl) ?_;refine oh h ?_;exact fi
def iN (x:Int):ap:=.flat (.int .i64 x)
def Ty.fv (t:Ty):List Int:=t.cf 0 []
theorem EB {t:Ty}:gp (0+t.size) t.fv:=Zd t 0 ⟨List.Pairwise.nil,Nat.le_refl _⟩
theorem Bj {t:Ty} (hs:t.size < 400000000) (hx:t.dR):ag 119 [.dat t.enc] (.dat (sl (t.fv.map iN))):=by
 have h1:=Db t 0 (s:=[]) ⟨List.Pairwise.nil,Nat.le_refl 0⟩ (by omega) (by have:=jr t;omega) hx 1 1 (by decide) (by decide);have h2:=EB (t:=t);unfold Ty.fv at h2 ⊢;generalize t.cf 0 []=s at h1 h2;obtain⟨k,nm,ix,l⟩:=t;have h3:=Th h1
 cases s with
 | nil=>
  refine aB.rn h3 ?_;rintro v hp m ⟨rfl,rfl,rfl⟩;exact⟨[],rfl,rfl,rfl,rfl,rfl⟩
 | cons x r=>exact aB.Xq h3 (by have:=h2.2;simp only[lim];omega)
def il:List Ty->Bool
 | t::_=>t.closed 0
 | []=>false
def jh (k:Int) (nm:List UInt8) (ix:Int) (l:List Ty):Bool:=
 if (!aP k 2&&!dU nm [])=true then false
 else if (!aP k 5&&!aP ix 0)=true then false
 else if (aP k 0||aP k 1)=true then aP (Int.ofNat (au l).length) 0
 else if aP k 2=true then isIdent nm&&(!gO nm&&(!bq 6 (Int.ofNat (au l).length)&&!gZ l))
 else if aP k 3=true then !bq 6 (Int.ofNat (au l).length)
 else if aP k 4=true then !bq (Int.ofNat (au l).length) 2
 else if aP k 5=true then aP (Int.ofNat (au l).length) 0&&(!bq ix 0&&!bq 200 ix)
 else if aP k 6=true then aP (Int.ofNat (au l).length) 2&&il l
 else false
theorem HO {k:Int} {nm:List UInt8} {ix:Int} {l:List Ty} (hp:∀t∈l,ag 117 [.dat t.enc] (bv t.plain)) (hcl:∀t∈l,ag 139 [.dat t.enc,iv (Int.ofNat 0)] (bv (t.closed 0)))
  (hb:l.length < 1000000000):ag 167 [.dat (Ty.mk k nm ix l).enc] (bv (jh k nm ix l)):=by
 have hid:=vR nm;have hrs:=xo nm;have hpa:=xn (k:=k) (nm:=nm) (ix:=ix) hp hb;have hfc:∀t r,l=t::r->ag 139 [.dat t.enc,iv (Int.ofNat 0)] (bv (il l)):=by
  rintro t r rfl;exact hcl t (by simp)
 unfold jh;generalize il l=fc at hfc;generalize isIdent nm=ci at hid;generalize gO nm=cr at hrs;generalize gZ l=cp at hpa;generalize h0:aP k 0=c0;generalize h1:aP k 1=c1;generalize h2:aP k 2=c2;generalize h3:aP k 3=c3;generalize h4:aP k 4=c4;generalize h5:aP k 5=c5;generalize h6:aP k 6=c6;generalize hn:dU nm []=cn;generalize hx:aP ix 0=cx;generalize hl6:bq 6 (Int.ofNat (au l).length)=l6;generalize hl2:bq (Int.ofNat (au l).length) 2=l2;generalize he0:aP (Int.ofNat (au l).length) 0=e0;generalize he2:aP (Int.ofNat (au l).length) 2=e2;generalize hx0:bq ix 0=x0;generalize hx2:bq 200 ix=x2;clear hp hcl hb
 rcases l with _|⟨t,r⟩ <;>
 ·refine co [5,9,14,18,24,25,31,53,59,65,81,29,46,57,63,69,73,78,85] [89] (x:=.of Tryz.f167 I6 LS) ?_;refine bp (b:=!c2) (c:=!aP k 2) (by rw[h2]) (by kernel_rfl) ?_
  cases c2
  ·refine bp (b:=!cn) (c:=!dU nm []) (by rw[hn]) (by kernel_rfl) ?_
   cases cn with
   | false=>exact fi
   | true=>
    refine bp (b:=!c5) (c:=!aP k 5) (by rw[h5]) (by kernel_rfl) ?_
    cases c5
    ·refine bp (b:=!cx) (c:=!aP ix 0) (by rw[hx]) (by kernel_rfl) ?_
     cases cx with
     | false=>exact fi
     | true=>
      refine ob h0 ?_
      cases c0
      ·refine ob h1 ?_
       cases c1
       ·refine ob h2 ?_;refine ob h3 ?_
        cases c3
        ·refine ob h4 ?_
         cases c4
         ·refine ob h5 ?_;refine ob h6 ?_
          cases c6 with
          | false=>exact fi
          | true=>
           refine ob he2 ?_
           cases e2 with
           | false=>exact fi
           | true=>
            first
            |exact absurd he2 (by decide)
            |have hc:=hfc _ _ rfl
             have hidx:=jZ (l:=t::r) (i:=0) (t:=t) rfl;obtain⟨k2,nm2,ix2,a2⟩:=t
             rcases a2 with _|⟨b,d⟩ <;>
             ·refine oo hidx ?_;refine on hc ?_
              cases fc <;> exact fi
         refine bp (b:=!l2) (c:=!bq _ 2) (by rw[hl2]) (by kernel_rfl) ?_
         cases l2 <;> exact fi
        refine bp (b:=!l6) (c:=!bq 6 _) (by rw[hl6]) (by kernel_rfl) ?_
        cases l6 <;> exact fi
       refine ob he0 ?_
       cases e0 <;> exact fi
      refine ob he0 ?_
      cases e0 <;> exact fi
    refine ob h0 ?_
    cases c0
    ·refine ob h1 ?_
     cases c1
     ·refine ob h2 ?_;refine ob h3 ?_
      cases c3
      ·refine ob h4 ?_
       cases c4
       ·refine ob h5 ?_;refine ob he0 ?_
        cases e0 with
        | false=>exact fi
        | true=>
         refine bp (b:=!x0) (c:=!bq ix 0) (by rw[hx0]) (by kernel_rfl) ?_
         cases x0
         ·refine bp (b:=!x2) (c:=!bq 200 ix) (by rw[hx2]) (by kernel_rfl) ?_
          cases x2 <;> exact fi
         exact fi
       exact absurd h4 (by rw[gQ] at h5 ⊢;simp at h5 ⊢;omega)
      exact absurd h3 (by rw[gQ] at h5 ⊢;simp at h5 ⊢;omega)
     exact absurd h1 (by rw[gQ] at h5 ⊢;simp at h5 ⊢;omega)
    exact absurd h0 (by rw[gQ] at h5 ⊢;simp at h5 ⊢;omega)
  refine bp (b:=!c5) (c:=!aP k 5) (by rw[h5]) (by kernel_rfl) ?_
  cases c5
  ·refine bp (b:=!cx) (c:=!aP ix 0) (by rw[hx]) (by kernel_rfl) ?_
   cases cx with
   | false=>exact fi
   | true=>
    refine ob h0 ?_
    cases c0
    ·refine ob h1 ?_
     cases c1
     ·refine ob h2 ?_;refine on hid ?_
      cases ci with
      | false=>exact fi
      | true=>
       refine on hrs ?_
       cases cr
       ·refine bp (b:=!l6) (c:=!bq 6 _) (by rw[hl6]) (by kernel_rfl) ?_
        cases l6
        ·refine on hpa ?_
         cases cp <;> exact fi
        exact fi
       exact fi
     exact absurd h1 (by rw[gQ] at h2 ⊢;simp at h2 ⊢;omega)
    exact absurd h0 (by rw[gQ] at h2 ⊢;simp at h2 ⊢;omega)
  exact absurd h5 (by rw[gQ] at h2 ⊢;simp at h2 ⊢;omega)
mutual
def Ty.valid:Ty->Bool
 | .mk k nm ix l=>jh k nm ix l&&!lR l
def lR:List Ty->Bool
 | []=>false
 | t::r=>!t.valid||lR r
end
theorem Dj:∀l:List Ty,lR l=l.any (fun t=>!t.valid)
 | []=>by simp[lR]
 | t::r=>by simp[lR,Dj r]
theorem Ip {k:Int} {nm:List UInt8} {ix:Int} {l:List Ty} (hv:∀t∈l,ag 138 [.dat t.enc] (bv t.valid)) (hs:(Ty.mk k nm ix l).size < 1000000000):ag 138 [.dat (Ty.mk k nm ix l).enc] (bv (Ty.mk k nm ix l).valid):=by
 have hsz:aU l < 1000000000:=by simp only[Ty.size] at hs;omega
 have hb:l.length < 1000000000:=by have:=eG l;omega
 have hdp:=jU l;have h1:=HO (k:=k) (nm:=nm) (ix:=ix) (Be l hsz) (vS l 0 hsz (by omega)) hb;have h2:∀t∈l,ag 168 [.dat t.enc] (bv (!t.valid)):=by
  intro t ht;have hc:=hv t ht;generalize t.valid=c at hc;obtain⟨k2,nm2,ix2,a2⟩:=t
  rcases a2 with _|⟨b,d⟩ <;> cases c <;>
  ·refine co [] [] (x:=.of Tryz.f168 I5 LR) ?_;refine on hc ?_;exact fi
 have h3:=Bu h2 hb;rw[Ty.valid,Dj];generalize l.any (fun t=>!t.valid)=ca at h3;generalize jh k nm ix l=cn at h1;clear hv hs hsz hb hdp h2
 rcases l with _|⟨b,d⟩ <;>
 ·refine co [] [] (x:=.of Tryz.f138 Jc LZ) ?_;refine on h1 ?_
  cases cn with
  | false=>exact fi
  | true=>
   refine on h3 ?_
   cases ca <;> exact fi
mutual
theorem Mt:∀t:Ty,t.size < 1000000000->ag 138 [.dat t.enc] (bv t.valid)
 | .mk k nm ix l,h=>Ip (HP l (by simp only[Ty.size] at h;omega)) h
theorem HP:∀l:List Ty,aU l < 1000000000->∀t∈l,ag 138 [.dat t.enc] (bv t.valid)
 | [],_,t,ht=>by simp at ht
 | x::r,h,t,ht=>by
  simp only[aU] at h
  rcases List.mem_cons.1 ht with h1|ht
  ·rw[h1];exact Mt x (by omega)
  exact HP r (by omega) t ht
end
def Ty.validate (t:Ty):Int:=match bq 200 (Int.ofNat t.size)||bq 12 (Int.ofNat t.depth) with|true=>4|false=>(match t.valid with|true=>0|false=>2)
theorem Ks (t:Ty) (h:t.size < 1000000000):ag 116 [.dat t.enc] (iv t.validate):=by
 have h1:=Uc t h;have h2:=My t h;have h3:=Mt t h;unfold Ty.validate;generalize hs:t.size=n at h1 h;generalize t.depth=m at h2;generalize t.valid=c at h3;generalize hn:bq 200 (Int.ofNat n)=cn;generalize hm:bq 12 (Int.ofNat m)=cm;clear hs h;obtain⟨k2,nm2,ix2,a2⟩:=t
 rcases a2 with _|⟨b,d⟩ <;>
 ·refine co [6,10] [] (x:=.of Tryz.f116 Jj L7) ?_;refine on h1 ?_;refine ob hn ?_
  cases cn
  ·refine on h2 ?_;refine ob hm ?_
   cases cm
   ·refine on h3 ?_
    cases c <;> exact fi
   exact fi
  exact fi
noncomputable def Va:TI:=match Go.Tp.elemOf (env ay.aN) 22 with|some t=>t|none=>default
theorem O6:Go.Tp.elemOf (env ay.aN) 22=some Va:=by kernel_rfl
theorem oJ:Va.size=1:=by kernel_rfl
theorem NO {l:List Int} {i:Nat} {t:Int} (h:l[i]?=some t):aK (env ay.aN) 22 [.dat (.slice (l.map iN)),.dat (.flat (.int .i64 (Int.ofNat i)))]=some ⟨.ref [iN t],.keep⟩:=
 uB (d:=iN t) O6 rfl (by rw[List.getElem?_map,h];rfl) (by rw[oJ];rfl) (by rw[oJ];decide)
theorem XY {x ar:Int}:ag 120 [iv x,.ref [iN ar]] (bv (!bq x ar)):=by
 generalize h:bq x ar=c;refine co [6] [] (x:=.of Tryz.f120 Jg L3) ?_;refine ox h ?_
 cases c <;>
 ·exact fi
def fnO (ar:Int):ac:=.fn (.func 120) [] [.ref [iN ar]]
noncomputable def aaF:Hints:=⟨ao,DV,aq,rowsOf aq 141⟩
def stO (ar:Int) (a:ap) (n:Nat) (i:Int):ab:=⟨[(8,iv i),(7,iv (Int.ofNat n)),(0,.dat a),(1,fnO ar)],[],[],0⟩
def adJ (ar:Int) (a:ap) (n:Nat):ab:=⟨[(9,bv false),(8,iv (Int.ofNat n)),(7,iv (Int.ofNat n)),(0,.dat a),(1,fnO ar)],[],[],0⟩
def adK (i:Nat):ab:=⟨[(4,iv (Int.ofNat i))],[],[],0⟩
theorem I0 {l:List Int} {x ar:Int} {i:Nat} {c:Bool} {T:Exit->aa->Prop} (hi:i < (l.map iN).length) (ht:l[i]?=some x) (hc:ag 120 [iv x,.ref [iN ar]] (bv c))
  (e1:c=false->T .normal ((stO ar (.slice (l.map iN)) (l.map iN).length (aH .i64 (Int.ofNat i+1))).aw Tryz.f141.ntmps)) (e2:c=true->T .ret ((adK i).aw Tryz.f141.ntmps)) :
  KD (roundOf Tryz.f141 0) T ((stO ar (.slice (l.map iN)) (l.map iN).length (Int.ofNat i)).aw Tryz.f141.ntmps):=by
 have h1:=bA hi;have h2:=NO ht;generalize l.map iN=es at *;clear ht hi
 cases c
 ·refine aC [9] [14] (H:=aaF) (live:=tK) (by kernel_rfl) ?_;refine ob h1 ?_;refine oo h2 ?_;refine on hc ?_;exact oe (e1 rfl)
 refine aC [9] [14] (H:=aaF) (live:=tK) (by kernel_rfl) ?_;refine ob h1 ?_;refine oo h2 ?_;refine on hc ?_;exact oe (e2 rfl)
theorem QI {ar:Int} {a:ap} {n:Nat} {T:Exit->aa->Prop} (e1:T (.exit 0) ((adJ ar a n).aw Tryz.f141.ntmps)) :
  KD (roundOf Tryz.f141 0) T ((stO ar a n (Int.ofNat n)).aw Tryz.f141.ntmps):=by
 have h1:=bC (i:=n) (L:=n) (by omega);refine aC [9] [] (H:=aaF) (live:=tK) (by kernel_rfl) ?_;refine ob h1 ?_;exact oe e1
theorem VH {l:List Int} {ar:Int} (hb:l.length < 1000000000):ag 141 [.dat (sl (l.map iN)),fnO ar] (iv (uN (fun x=>!bq x ar) l 0)):=by
 have hl:∀a,a=sl (l.map iN)->KD (.loop (roundOf Tryz.f141 0)) (fun e s=>(e=.exit 0/\uN (fun x=>!bq x ar) l 0=-1/\s=(adJ ar a (l.map iN).length).aw Tryz.f141.ntmps)∨(e=.ret/\∃i:Nat,uN (fun x=>!bq x ar) l 0=Int.ofNat i/\s=(adK i).aw Tryz.f141.ntmps)) ((stO ar a (l.map iN).length (Int.ofNat 0)).aw Tryz.f141.ntmps):=by
  intro a ha;refine cI (St:=fun i=>(stO ar a (l.map iN).length (Int.ofNat i)).aw Tryz.f141.ntmps) (fun i=>uN (fun x=>!bq x ar) l 0=uN (fun x=>!bq x ar) (l.drop i) i) (l.map iN).length ?_ ?_ (i:=0) (Nat.zero_le _) rfl
  ·intro i hi hI;have hi2:=hi;rw[List.length_map] at hi2;have ht:l[i]?=some l[i]:=List.getElem?_eq_getElem hi2;generalize l[i]=t at ht;have hd:=Aw (p:=fun x=>!bq x ar) ht;have hw:aH .i64 (Int.ofNat i+1)=Int.ofNat (i+1):=bg (by omega);rw[←hI] at hd;have ha2:a=.slice (l.map iN):=by
    rw[ha]
    cases l with
    | nil=>simp at ht
    | cons x r=>rfl
   subst ha2;have hc:=XY (x:=t) (ar:=ar);generalize (!bq t ar)=c at hc hd;refine I0 hi ht hc ?_ ?_
   ·rintro rfl;rw[hw];exact⟨rfl,hd⟩
   rintro rfl;exact .inr ⟨rfl,i,hd,rfl⟩
  intro hI;refine QI (.inl ⟨rfl,?_,rfl⟩);rw[hI,List.length_map,List.drop_length];rfl
 have hl:=hl _ rfl;clear hb;generalize hj:uN (fun x=>!bq x ar) l 0=j at hl;clear hj;generalize l.map iN=es at *
 rcases es with _|⟨x,es⟩ <;>
 ·refine co [] [] (x:=.of Tryz.f141 DV tK) ?_;refine lo hl ?_;rintro ex s (⟨rfl,rfl,rfl⟩|⟨rfl,⟨x0,rfl,rfl⟩⟩) <;>
  ·refine⟨_,rfl,?_⟩;exact fi
theorem QJ {l:List Int} {ar:Int} (hb:l.length < 1000000000):ag 118 [.dat (sl (l.map iN)),fnO ar] (bv (l.any (fun x=>!bq x ar))):=by
 have h:=VH (ar:=ar) hb;have h3:=Eu (p:=fun x=>!bq x ar) (l:=l) (i:=0);generalize uN (fun x=>!bq x ar) l 0=j at h h3;have e:l.any (fun x=>!bq x ar)=!(!(l.any (fun x=>!bq x ar))):=by rw[Bool.not_not]
 rw[e];generalize l.any (fun x=>!bq x ar)=c at h3;generalize l.map iN=es at *;clear hb e
 rcases es with _|⟨x,es⟩ <;>
 ·refine co [8] [] (x:=.of Tryz.f118 Jh L4) ?_;refine on h ?_;refine ox h3 ?_;exact fi
theorem Nq {k:Int} {nm:List UInt8} {ix ar v:Int} {l fv:List ap} {c1 c2 c3:Bool} (h1:ag 116 [.dat (.agg [i64 k,sb nm,i64 ix,sl l])] (iv v)) (hv:aP v 0=c1) (h2:ag 117 [.dat (.agg [i64 k,sb nm,i64 ix,sl l])] (bv c2))
 (h3:ag 119 [.dat (.agg [i64 k,sb nm,i64 ix,sl l])] (.dat (sl fv))) (h4:ag 118 [.dat (sl fv),fnO ar] (bv c3)):ag 89 [.dat (.agg [i64 k,sb nm,i64 ix,sl l]),iv ar] (bv (c1&&(c2&&!c3))):=by
 rcases l with _|⟨x,l⟩ <;>
 ·rcases fv with _|⟨y,fv⟩ <;>
  ·refine co [7] [] (x:=.of Tryz.f89 QM Sx) ?_;refine on h1 ?_;refine ob hv ?_
   cases c1
   ·exact fi
   refine on h2 ?_
   cases c2
   ·exact fi
   refine on h3 ?_;refine on h4 ?_;exact fi
def Ty.over (t:Ty) (ar:Int):Bool:=aP t.validate 0&&(t.plain&&!(t.fv.any (fun x=>!bq x ar)))
theorem xl {t:Ty} {ar:Int} (h:t.cB):ag 89 [.dat t.enc,iv ar] (bv (t.over ar)):=by
 have hs:=h.1;have h1:=Ks t (by omega);have h2:=Mw t (by omega);have h3:=Bj (by omega) h.2;have h4:=QJ (l:=t.fv) (ar:=ar) (by have:=(EB (t:=t)).2;omega);obtain⟨k,nm,ix,l⟩:=t;exact Nq h1 rfl h2 h3 h4
def aai (c:Bool) (r m:Int):Int:=match c with|true=>aH .i64 (r+m)|false=>r
theorem Vv {n m:Int} (h:aP m 0=false):oG (env ay.aN) .rem 3 [iv n,iv m]=some ⟨iv (n.tmod m),.keep⟩:=by
 have h1:oG (env ay.aN) .rem 3 [iv n,iv m]=YS (if aP m 0=true then none else some (.int .i64 (n.tmod m))):=by kernel_rfl
 rw[h1,h];rfl
theorem aah {n m:Int} {c:Bool} (h1:oG (env ay.aN) .rem 3 [iv n,iv m]=some ⟨iv (n.tmod m),.keep⟩) (h2:bq (n.tmod m) 0=c):ag 13 [iv n,iv m] (iv (aai c (n.tmod m) m)):=by
 refine co [9] [7] (x:=.of Tryz.f13 RU SS) ?_;refine oo h1 ?_;refine ob h2 ?_
 cases c <;>
 ·exact fi
theorem Mi (n:Int) {m:Nat} (hm:0 < m) (hb:m < 1000000000):ag 13 [iv n,iv (Int.ofNat m)] (iv (n % Int.ofNat m)):=by
 have h:=aah (n:=n) (m:=Int.ofNat m) (Vv (by rw[gQ,beq_eq_false_iff_ne];intro h;have:=Int.ofNat.inj (h.trans (show (0:Int)=Int.ofNat 0 from rfl));omega)) rfl;have e:aai (bq (n.tmod (Int.ofNat m)) 0) (n.tmod (Int.ofNat m)) (Int.ofNat m)=n % Int.ofNat m:=by
  have h0:(0:Int) < Int.ofNat m:=by simp;omega
  have h1:=Int.emod_nonneg n (show Int.ofNat m≠0 by omega);have h2:=Int.emod_lt_of_pos n h0;have h3:Int.ofNat m < 1000000000:=by simp;omega
  rw[gr];have ht:=Int.tmod_eq_emod (a:=n) (b:=Int.ofNat m);generalize Int.ofNat m=M at *;generalize n % M=q at *;rw[ht];unfold aai
  split at ht
  ·rename_i hc;rw[if_pos hc,show ((0:Nat):Int)=0 from rfl,Int.sub_zero];rw[decide_eq_false (by omega)]
  rename_i hc;rw[if_neg hc];have hM:(M.natAbs:Int)=M:=by omega
  rw[hM];rw[decide_eq_true (by omega)];dsimp only;rw[dP,wrap_i64 (by omega) (by omega)];omega
 rw[e] at h;exact h
def fP (l:List ap) (k:Int):Heap:=[(.out 0,.cells [.dat (.slice l),iv k])]
def ff:ac:=.ptr (.out 0) 0
theorem Y5 {l:List ap}:KC 15 [.dat (.slice l)] [] 0 (XQ ⟨ff,fP l 0,1⟩):=by
 refine co [] [] (x:=.of Tryz.f15 RN SR) ?_;exact fi
theorem LF {l:List ap} {k n x r:Int} {c:Bool} (h1:bq k (Int.ofNat l.length)=c) (h2:c=true->aK (env ay.aN) 22 [.dat (.slice l),.dat (.flat (.int .i64 (aH .i64 (aH .i64 (k+1) - 1))))]=some ⟨.ref [iN x],.keep⟩) (h3:ag 13 [iv x,iv n] (iv r)) :
  KC 64 [ff,iv n] (fP l k) 1 (XQ ⟨iv (match c with|true=>r|false=>0),fP l (match c with|true=>aH .i64 (k+1)|false=>k),1⟩):=by
 refine co [14] [31] (x:=.of Tryz.f64 QV SG) ?_;refine ox h1 ?_
 cases c
 ·exact fi
 refine oo (h2 rfl) ?_;refine on h3 ?_;exact fi
theorem eX {l:List Int} {k:Nat} {n:Nat} (hl:l.length < 1000000000) (hk0:k<=l.length) (hn:0 < n) (hb:n < 1000000000) :
  ∃r k2:Nat,(r < n/\k<=k2/\k2<=l.length/\(0 < r->k < k2))/\KC 64 [ff,iv (Int.ofNat n)] (fP (l.map iN) (Int.ofNat k)) 1 (XQ ⟨iv (Int.ofNat r),fP (l.map iN) (Int.ofNat k2),1⟩):=by
 by_cases hk:k < l.length
 ·have hg:l[k]?=some l[k]:=List.getElem?_eq_getElem hk;have hw:aH .i64 (Int.ofNat k+1)=Int.ofNat (k+1):=bg (by omega);have hw2:aH .i64 (Int.ofNat (k+1) - 1)=Int.ofNat k:=by
   rw[dP,show Int.ofNat (k+1) - 1=Int.ofNat k by simp];exact wrap_i64 (by show _<=(k:Int);omega) (by show (k:Int)<=_;omega)
  have h0:=Int.emod_nonneg l[k] (show Int.ofNat n≠0 from fun h=>absurd (Int.ofNat.inj (h.trans (show (0:Int)=Int.ofNat 0 from rfl))) (by omega));have h2:=Int.emod_lt_of_pos l[k] (show (0:Int) < Int.ofNat n from Int.ofNat_lt.2 hn);refine⟨(l[k] % Int.ofNat n).toNat,k+1,⟨(Int.toNat_lt h0).2 h2,by omega,by omega,fun _=>by omega⟩,?_⟩;have h:=LF (l:=l.map iN) (k:=Int.ofNat k) (x:=l[k]) (n:=Int.ofNat n) (r:=l[k] % Int.ofNat n) (c:=true) (by rw[iE,List.length_map,decide_eq_true hk]) (fun _=>by rw[hw,hw2];exact NO hg) (Mi _ hn hb);dsimp only at h;rw[hw] at h;rw[show Int.ofNat (l[k] % Int.ofNat n).toNat=l[k] % Int.ofNat n from Int.toNat_of_nonneg h0];exact h
 refine⟨0,k,⟨hn,by omega,by omega,fun h=>by omega⟩,?_⟩;exact LF (l:=l.map iN) (k:=Int.ofNat k) (x:=0) (n:=Int.ofNat n) (r:=0) (c:=false) (by rw[iE,List.length_map,decide_eq_false hk]) (fun h=>by simp at h) (by have:=Mi 0 hn hb;rw[Int.zero_emod] at this;exact this)
def fp:List dq->List (Go.Value×ap)
 | []=>[]
 | f::r=>(.string ⟨⟨f.nm⟩⟩,bl true)::fp r
theorem Ci (b:List dq):∀a:List dq,fp (a++b)=fp a++fp b
 | []=>rfl
 | x::r=>by simp only[List.cons_append,fp,Ci b r]
def ov:List dq->List UInt8->Bool
 | [],_=>false
 | f::r,nm=>match dU nm f.nm with|true=>true|false=>ov r nm
theorem se:∀(l:List dq) (nm:List UInt8) (j:Nat),findF .string (.string ⟨⟨nm⟩⟩) (fp l) j=some (match ov l nm with|true=>some (match findF .string (.string ⟨⟨nm⟩⟩) (fp l) j with|some (some (i,_))=>i|_=>0,bl true)|false=>none)
 | [],nm,j=>rfl
 | d::r,nm,j=>by
  have e:findF .string (.string ⟨⟨nm⟩⟩) (fp (d::r)) j=(match sV .string (.string ⟨⟨nm⟩⟩) (.string ⟨⟨d.nm⟩⟩) with|some true=>some (some (j,bl true))|some false=>findF .string (.string ⟨⟨nm⟩⟩) (fp r) (j+1)|none=>none):=rfl;rw[e,show sV .string (.string ⟨⟨nm⟩⟩) (.string ⟨⟨d.nm⟩⟩)=some (dU nm d.nm) from rfl];unfold ov
  cases he:dU nm d.nm with
  | true=>rfl
  | false=>exact se r nm (j+1)
theorem NC (l:List dq) (nm:List UInt8):eL (env ay.aN) 97 false [.map (.loc 50),.dat (sb nm)] (some (.map (fp l)))=some ⟨bv (ov l nm),.keep⟩:=by
 have h1:eL (env ay.aN) 97 false [.map (.loc 50),.dat (sb nm)] (some (.map (fp l)))=(match findF .string (.string ⟨⟨nm⟩⟩) (fp l) 0 with
  | some (some (_,d))=>some ⟨.dat d,.keep⟩|some none=>some ⟨bv false,.keep⟩|none=>none):=by kernel_rfl
 rw[h1,se]
 cases ov l nm <;> rfl
theorem QA {l:List dq} {f:dq} (h:ov l f.nm=false):cL (env ay.aN) 97 [.map (.loc 50),.dat (sb f.nm),bv true] (some (.map (fp l)))=some ⟨.undef,.set (.map (fp (l++[f])))⟩:=by
 have h1:cL (env ay.aN) 97 [.map (.loc 50),.dat (sb f.nm),bv true] (some (.map (fp l)))=(match findF .string (.string ⟨⟨f.nm⟩⟩) (fp l) 0 with
  | some (some (i,_))=>some ⟨.undef,.set (.map (setAt i (bl true) (fp l)))⟩|some none=>some ⟨.undef,.set (.map (fp l++[(.string ⟨⟨f.nm⟩⟩,bl true)]))⟩|none=>none):=by kernel_rfl
 rw[h1,se,h,Ci];rfl
noncomputable def Y1:Hints:=⟨ao,Gt,aq,rowsOf aq 50⟩
def VY (es:List (Go.Value×ap)) (nm:List UInt8) (ar k:Int) (nm2:List UInt8) (ix:Int) (a:ap) (con:Bool) (b:ap):Heap:=[(.loc 50,.map es),(.loc 1,.cells [.dat (sb nm),iv ar,iv k,.dat (sb nm2),iv ix,.dat a,.dat (bl con),.dat b])]
def stW (lo:Heap) (b:ap) (n:Nat) (i:Int):ab:=⟨[(54,iv i),(53,iv (Int.ofNat n)),(52,.dat b),(3,.map (.loc 50)),(1,.ptr (.loc 1) 0)],lo,[],0⟩
def ZM (lo:Heap) (b:ap) (n:Nat) (i:Int):ab:=⟨[(55,bv false),(54,iv i),(53,iv (Int.ofNat n)),(52,.dat b),(3,.map (.loc 50)),(1,.ptr (.loc 1) 0)],lo,[],0⟩
def ZN (c:Bool):ab:=⟨[(2,bv c)],[],[],0⟩
theorem Io {nm:List UInt8} {ar k:Int} {nm2:List UInt8} {ix:Int} {la:List ap} {con:Bool} {l pre:List dq} {f:dq} {i:Nat} {c1 c2 c3:Bool} {T:Exit->aa->Prop} (hi:i < (aJ l).length) (ht:l[i]?=some f)
  (h1:ag 87 [.dat (sb f.nm)] (bv c1)) (hs:ov pre f.nm=c2) (h2:ag 89 [.dat f.ty.enc,iv ar] (bv c3))
  (e1:(c1&&(!c2&&c3))=true->T .normal ((stW (VY (fp (pre++[f])) nm ar k nm2 ix (sl la) con (.slice (aJ l))) (.slice (aJ l)) (aJ l).length (aH .i64 (Int.ofNat i+1))).aw Tryz.f50.ntmps))
  (e2:(c1&&(!c2&&c3))=false->T .ret ((ZN false).aw Tryz.f50.ntmps)) :
  KD (roundOf Tryz.f50 0) T ((stW (VY (fp pre) nm ar k nm2 ix (sl la) con (.slice (aJ l))) (.slice (aJ l)) (aJ l).length (Int.ofNat i)).aw Tryz.f50.ntmps):=by
 have g1:=bA hi;have g2:=rZ ht;have g3:=NC pre f.nm;rw[hs] at g3;have g4:c2=false->cL (env ay.aN) 97 [.map (.loc 50),.dat (sb f.nm),bv true] (some (.map (fp pre)))=some ⟨.undef,.set (.map (fp (pre++[f])))⟩:=fun h=>QA (by rw[hs,h])
 generalize fp pre=es at *;generalize fp (pre++[f])=es2 at *;obtain⟨fnm,fk,ftn,fix,fa⟩:=f;generalize aJ l=xs at *;clear ht hi hs
 rcases la with _|⟨x,la⟩ <;>
 ·rcases fa with _|⟨z,fa⟩ <;>
  ·refine aC [55] [56,66,100076] (H:=Y1) (live:=An) (by kernel_rfl) ?_;refine ob g1 ?_;refine oo g2 ?_;refine on h1 ?_
   cases c1
   ·exact oe (e2 rfl)
   refine oo g3 ?_
   cases c2
   ·refine on h2 ?_
    cases c3
    ·exact oe (e2 rfl)
    refine oo (g4 rfl) ?_;exact oe (e1 rfl)
   exact oe (e2 rfl)
theorem MF {es:List (Go.Value×ap)} {nm:List UInt8} {ar k:Int} {nm2:List UInt8} {ix:Int} {la:List ap} {con:Bool} {b:ap} {n:Nat} {T:Exit->aa->Prop}
  (e:T (.exit 0) ((ZM (VY es nm ar k nm2 ix (sl la) con b) b n (Int.ofNat n)).aw Tryz.f50.ntmps)) :
  KD (roundOf Tryz.f50 0) T ((stW (VY es nm ar k nm2 ix (sl la) con b) b n (Int.ofNat n)).aw Tryz.f50.ntmps):=by
 have h1:=bC (i:=n) (L:=n) (by omega);refine aC [55] [] (H:=Y1) (live:=An) (by kernel_rfl) ?_;refine ob h1 ?_;exact oe e
def Ih (ar:Int):List dq->List dq->Bool
 | _,[]=>true
 | pre,f::r=>(isIdent f.nm&&(!ov pre f.nm&&f.ty.over ar))&&Ih ar (pre++[f]) r
theorem Fp {ar:Int} {l:List dq} {i:Nat} {f:dq} (h:l[i]?=some f):Ih ar (l.take i) (l.drop i)=((isIdent f.nm&&(!ov (l.take i) f.nm&&f.ty.over ar))&&Ih ar (l.take (i+1)) (l.drop (i+1))):=by
 rw[dL h,dC h];rfl
theorem ME {nm:List UInt8} {ar k:Int} {nm2:List UInt8} {ix:Int} {la:List ap} {con:Bool} {l:List dq} {b:ap} (hb:b=sl (aJ l)) (hn:l.length < 1000000000) (hf:∀f∈l,f.ty.cB) :
  KD (.loop (roundOf Tryz.f50 0)) (fun e s=>(e=.exit 0/\Ih ar [] l=true/\s=(ZM (VY (fp l) nm ar k nm2 ix (sl la) con b) b (aJ l).length (Int.ofNat (aJ l).length)).aw Tryz.f50.ntmps)∨(e=.ret/\Ih ar [] l=false/\s=(ZN false).aw Tryz.f50.ntmps))
   ((stW (VY [] nm ar k nm2 ix (sl la) con b) b (aJ l).length (Int.ofNat 0)).aw Tryz.f50.ntmps):=by
 refine cI (St:=fun i=>(stW (VY (fp (l.take i)) nm ar k nm2 ix (sl la) con b) b (aJ l).length (Int.ofNat i)).aw Tryz.f50.ntmps) (fun i=>Ih ar [] l=Ih ar (l.take i) (l.drop i)) (aJ l).length ?_ ?_ (i:=0) (Nat.zero_le _) rfl
 ·intro i hi hI;obtain⟨f,ht,hm⟩:=gv hi;have hi2:=hi;rw[bd] at hi2;have hd:=Fp (ar:=ar) ht;rw[←hI] at hd;have hw:aH .i64 (Int.ofNat i+1)=Int.ofNat (i+1):=bg (by omega);have hb2:b=.slice (aJ l):=by
   rw[hb]
   cases l with
   | nil=>simp at ht
   | cons x r=>rfl
  subst hb2;refine Io hi ht (vR f.nm) rfl (xl (ar:=ar) (hf f hm)) ?_ ?_
  ·intro h;rw[h] at hd;rw[hw,←dC ht];exact⟨rfl,hd⟩
  intro h;rw[h] at hd;exact .inr ⟨rfl,hd,rfl⟩
 intro hI;rw[bd,List.take_length,List.drop_length] at hI;rw[bd,List.take_length];exact MF (.inl ⟨rfl,hI,rfl⟩)
def SU (l:List ap):Bool:=match l with|[]=>false|_=>true
theorem OU {nm nm2:List UInt8} {ar k ix:Int} {la lb:List ap} {es:List (Go.Value×ap)} {con c1 c2 c3 c4 c5 c6 c7:Bool} (h1:ag 87 [.dat (sb nm)] (bv c1)) (h2:ag 88 [.dat (.slice (encS oE)),.dat (sb nm)] (bv c2)) (h3:bq ar 0=c3)
  (h4:aP k 0=c4) (h5:aP k 2=c5) (h6:ag 89 [.dat (.agg [i64 k,sb nm2,i64 ix,sl la]),iv ar] (bv c6))
  (h7:KD (.loop (roundOf Tryz.f50 0)) (fun e s=>(e=.exit 0/\c7=true/\s=(ZM (VY es nm ar k nm2 ix (sl la) con (sl lb)) (sl lb) lb.length (Int.ofNat lb.length)).aw Tryz.f50.ntmps)∨(e=.ret/\c7=false/\s=(ZN false).aw Tryz.f50.ntmps))
   ((stW (VY [] nm ar k nm2 ix (sl la) con (sl lb)) (sl lb) lb.length (Int.ofNat 0)).aw Tryz.f50.ntmps)) :
  ag 50 [.dat (eh nm ar k nm2 ix la con lb)] (bv (c1&&(!c2&&(!c3&&(!(!con&&SU lb)&&((c4||c5)&&(c6&&c7))))))):=by
 rcases la with _|⟨x,la⟩ <;>
 ·rcases lb with _|⟨y,lb⟩
  ·refine co [19,35,40] [] (x:=.of Tryz.f50 Gt An) ?_;refine on h1 ?_
   cases c1
   ·exact fi
   refine on h2 ?_
   cases c2
   ·refine ob h3 ?_
    cases c3
    ·cases con <;>
     ·refine ox h4 ?_
      cases c4
      ·refine ox h5 ?_
       cases c5
       ·exact fi
       refine on h6 ?_
       cases c6
       ·exact fi
       refine lo h7 ?_;rintro ex s (⟨rfl,rfl,rfl⟩|⟨rfl,rfl,rfl⟩) <;>
       ·refine⟨_,rfl,?_⟩;exact fi
      refine on h6 ?_
      cases c6
      ·exact fi
      refine lo h7 ?_;rintro ex s (⟨rfl,rfl,rfl⟩|⟨rfl,rfl,rfl⟩) <;>
      ·refine⟨_,rfl,?_⟩;exact fi
    exact fi
   exact fi
  refine co [19,35,40] [] (x:=.of Tryz.f50 Gt An) ?_;refine on h1 ?_
  cases c1
  ·exact fi
  refine on h2 ?_
  cases c2
  ·refine ob h3 ?_
   cases c3
   ·cases con
    ·exact fi
    refine ox h4 ?_
    cases c4
    ·refine ox h5 ?_
     cases c5
     ·exact fi
     refine on h6 ?_
     cases c6
     ·exact fi
     refine lo h7 ?_;rintro ex s (⟨rfl,rfl,rfl⟩|⟨rfl,rfl,rfl⟩) <;>
     ·refine⟨_,rfl,?_⟩;exact fi
    refine on h6 ?_
    cases c6
    ·exact fi
    refine lo h7 ?_;rintro ex s (⟨rfl,rfl,rfl⟩|⟨rfl,rfl,rfl⟩) <;>
    ·refine⟨_,rfl,?_⟩;exact fi
   exact fi
  exact fi
def Ty.kind:Ty->Int
 | .mk k _ _ _=>k
def Ty.Et:Ty->Int
 | .mk _ _ i _=>i
def aQ.wf (d:aQ):Bool:=isIdent d.nm&&(!gO d.nm&&(!bq d.ar 0&&(!(!d.con&&SU (aJ d.fl))&&((aP d.sup.kind 0||aP d.sup.kind 2)&&(d.sup.over d.ar&&Ih d.ar [] d.fl)))))
theorem E1 {d:aQ} (h:d.cB):ag 50 [.dat d.enc] (bv d.wf):=by
 obtain⟨h1,h2,h3⟩:=h;have g1:=vR d.nm;have g2:=xo d.nm;have g6:=xl (ar:=d.ar) h1;obtain⟨nm,ar,⟨k,tn,ix,la⟩,con,fl⟩:=d;exact OU g1 g2 rfl rfl rfl g6 (ME rfl h3 h2)
theorem CE:∀cs:List ap,bU (av cs)=true
 | []=>rfl
 | d::r=>by show (fV (.dat d)&&bU (av r))=true;rw[CE r];rfl
theorem Sb (cs:List ap):di (.cells (av cs))=true:=CE cs
theorem acV {cs cs2:List ap} {es es2:List (Go.Value×ap)} {n:Nat} {nm nm2:List UInt8} {ar k ix:Int} {con:Bool} {la lb:List ap}
  (h0:pW (env ay.aN) 23 [.win (.out 2) 8 0 n] none=some ⟨iv (Int.ofNat n),.keep⟩)
  (h1:cL (env ay.aN) 80 [.map (.out 0),.dat (sb nm),iv (Int.ofNat n)] (some (.map es))=some ⟨.undef,.set (.map es2)⟩)
  (h2:cJ (env ay.aN) true 23 [.win (.out 2) 8 0 n,.dat (.slice [eh nm ar k nm2 ix la con lb])] (some (.cells (av cs)))=some ⟨.undef,.grow (.cells (av cs2)) 8 (n+1)⟩) :
  KC 52 [hP,.dat (eh nm ar k nm2 ix la con lb)] (hG 2 (av cs) es n) 3 (XQ ⟨.tup [],hG 3 (av cs2) es2 (n+1),4⟩):=by
 have hn:=Sb cs2
 rcases la with _|⟨x,la⟩ <;>
 ·rcases lb with _|⟨y,lb⟩ <;>
  ·refine aZ [500022] [14,100007,22] (x:=gU.of Tryz.f52 Q0 SL) (by kernel_rfl) ?_;refine oo h0 ?_;refine oo h1 ?_;refine oo h2 ?_;refine ob hn ?_;exact fi
theorem Z8 {cs:List ap} {es es2:List (Go.Value×ap)} {n:Nat} {nm:List UInt8}
  (h0:pW (env ay.aN) 23 [.win (.out 2) 8 0 (n+1)] none=some ⟨iv (Int.ofNat (n+1)),.keep⟩)
  (h2:aK (env ay.aN) 23 [.win (.out 2) 8 0 (n+1),iv (aH .i64 (Int.ofNat (n+1) - 1))]=some ⟨.ptr (.out 2) (0+n*8),.keep⟩)
  (h3:lg (env ay.aN) false 9 [.ptr (.out 2) (0+n*8)] (some (.cells (av cs)))=some ⟨.dat (sb nm),.keep⟩)
  (h4:lT (env ay.aN) 80 [.map (.out 0),.dat (sb nm)] (some (.map es))=some ⟨.tup [],.set (.map es2)⟩)
  (h5:kc (env ay.aN) 23 none (some (.tmp 26)) none [.win (.out 2) 8 0 (n+1),iv (aH .i64 (Int.ofNat (n+1) - 1))]=some ⟨.win (.out 2) 8 0 n,.keep⟩) :
  KC 56 [hP] (hG 2 (av cs) es (n+1)) 3 (XQ ⟨.tup [],hG 2 (av cs) es2 n,3⟩):=by
 refine aZ [] [7,18,20,100012,27] (x:=gU.of Tryz.f56 QY SJ) (by kernel_rfl) ?_;refine oo h0 ?_;refine oo h2 ?_;refine oo h3 ?_;refine oo h4 ?_;refine oo h5 ?_;exact fi
theorem yn {r n:Nat} (h:n<=lim):pW (env ay.aN) 23 [.win (.out r) 8 0 n] none=some ⟨iv (Int.ofNat n),.keep⟩:=by
 have h1:pW (env ay.aN) 23 [.win (.out r) 8 0 n] none=(if Nat.ble n lim=true then some ⟨iv (Int.ofNat n),.keep⟩ else none):=by kernel_rfl
 rw[h1,if_pos (by rw[Nat.ble_eq];exact h)]
theorem AA (b:List aQ):∀(a:List aQ) (i:Nat),bE (a++b) i=bE a i++bE b (i+a.length)
 | [],i=>by simp[bE]
 | x::r,i=>by
  simp only[List.cons_append,bE,List.length_cons];rw[AA b r (i+1),show i+1+r.length=i+(r.length+1) by omega]
theorem mA (b:List aQ):∀a:List aQ,bK (a++b)=bK a++bK b
 | []=>rfl
 | x::r=>by simp only[List.cons_append,bK,mA b r,List.append_assoc]
theorem VG {ds:List aQ} {d:aQ} (h:fX ds d.nm=none):cL (env ay.aN) 80 [.map (.out 0),.dat (sb d.nm),iv (Int.ofNat ds.length)] (some (.map (bE ds 0)))=some ⟨.undef,.set (.map (bE (ds++[d]) 0))⟩:=by
 have h1:cL (env ay.aN) 80 [.map (.out 0),.dat (sb d.nm),iv (Int.ofNat ds.length)] (some (.map (bE ds 0)))=(match findF .string (.string ⟨⟨d.nm⟩⟩) (bE ds 0) 0 with
  | some (some (i,_))=>some ⟨.undef,.set (.map (setAt i (i64 (Int.ofNat ds.length)) (bE ds 0)))⟩|some none=>some ⟨.undef,.set (.map (bE ds 0++[(.string ⟨⟨d.nm⟩⟩,i64 (Int.ofNat ds.length))]))⟩|none=>none):=by kernel_rfl
 rw[h1,mM,h,AA,Nat.zero_add];rfl
theorem X4 {l:List ac} (h:3<=l.length):cM l=false:=by
 rcases l with _|⟨a,_|⟨b,_|⟨c,r⟩⟩⟩ <;> simp at h
 exact Ut a b c r
noncomputable def It:TI:=match Go.Tp.elemOf (env ay.aN) 23 with|some t=>t|none=>default
theorem X7 {ds:List aQ} {d:aQ} {tl:List ap} (hn:ds.length < 1000):cJ (env ay.aN) true 23 [.win (.out 2) 8 0 ds.length,.dat (.slice [d.enc])] (some (.cells (av (bK ds++tl))))=some ⟨.undef,.grow (.cells (av (bK (ds++[d])))) 8 (ds.length+1)⟩:=by
 have h1:∀(n:Nat) (cs:List ac) (x:ac),cJ (env ay.aN) true 23 [.win (.out 2) 8 0 n,x] (some (.cells cs))=jB (env ay.aN) It n cs x:=fun n cs x=>by kernel_rfl
 have h2:eK ay.aN It [] (.dat (.slice [d.enc]))=some [d.enc]:=by
  obtain⟨nm,ar,⟨k,tn,ix,la⟩,con,fl⟩:=d
  kernel_rfl
 have h3:∀(n:Nat) (cs:List ac) (x:ac),jB (env ay.aN) It n cs x=(match eK ay.aN It [] x with
  | some ds=>if (Nat.ble ((n+ds.length)*It.bytes) 140737488355328&&Nat.ble (n+ds.length) lim&&Nat.ble (n*8) cs.length&&!cM (fj (n*8) cs++(ds.flatMap ap.cells).map .dat))=true
   then some ⟨.undef,.grow (.cells (fj (n*8) cs++(ds.flatMap ap.cells).map .dat)) 8 (n+ds.length)⟩ else none
  | none=>none):=fun n cs x=>by kernel_rfl
 have hb:It.bytes<=1000:=fe (by kernel_rfl);have hl:=jH ds;have hc:fj (ds.length*8) (av (bK ds++tl))++([d.enc].flatMap ap.cells).map .dat=av (bK (ds++[d])):=by
  rw[Fw,←hl,List.take_left,mA];simp only[av,List.map_append,List.flatMap_cons,List.flatMap_nil,List.append_nil,bK];rfl
 rw[h1,h3,h2];dsimp only;rw[hc];have hd:(bK (ds++[d])).length=ds.length*8+8:=by rw[jH];simp;omega
 rw[if_pos]
 ·rfl
 have e1:cM (av (bK (ds++[d])))=false:=X4 (by simp[av,hd]);rw[e1];simp only[List.length_singleton,Bool.and_eq_true,Nat.ble_eq,Bool.not_false,and_true];refine⟨⟨?_,?_⟩,?_⟩
 ·calc (ds.length+1)*It.bytes<=1000*1000:=Nat.mul_le_mul (by omega) hb
   _<=140737488355328:=by decide
 ·simp only[lim];omega
 simp[av,hl]
theorem acO {ds:List aQ} {d:aQ} {tl:List ap} (hn:ds.length < 1000) (h:fX ds d.nm=none):KC 52 [hP,.dat d.enc] (hH 2 ds tl) 3 (XQ ⟨.tup [],hH 3 (ds++[d]) [],4⟩):=by
 have h0:=yn (r:=2) (n:=ds.length) (by simp only[lim];omega);have h1:=VG h;have h2:=X7 (d:=d) (tl:=tl) hn;have e:hH 3 (ds++[d]) []=hG 3 (av (bK (ds++[d]))) (bE (ds++[d]) 0) (ds.length+1):=by unfold hH;rw[List.append_nil,List.length_append,List.length_singleton]
 rw[e];obtain⟨nm,ar,⟨k,tn,ix,la⟩,con,fl⟩:=d;exact acV h0 h1 h2
theorem QG {ds:List aQ} {d:aQ} (h:fX ds d.nm=none):fX (ds++[d]) d.nm=some ds.length:=by
 induction ds with
 | nil=>simp[fX,jT]
 | cons x r ih=>
  simp only[fX,List.cons_append] at h ⊢
  cases he:dU d.nm x.nm with
  | true=>rw[he] at h;simp at h
  | false=>
   rw[he] at h;simp only[Option.map_eq_none_iff] at h;rw[ih h];rfl
theorem Kk (a:List (Go.Value×ap)) (x:Go.Value×ap):xg a.length (a++[x])=a:=by
 induction a with
 | nil=>rfl
 | cons y r ih=>simp only[List.length_cons,List.cons_append,xg,ih]
theorem wS:∀(ds:List aQ) (i:Nat),(bE ds i).length=ds.length
 | [],_=>rfl
 | x::r,i=>by simp only[bE,List.length_cons,wS r]
theorem afH {ds:List aQ} {d:aQ} {tl:List ap} (hn:ds.length < 1000) (h:fX ds d.nm=none):KC 56 [hP] (hH 2 (ds++[d]) tl) 3 (XQ ⟨.tup [],hH 2 ds (d.cells++tl),3⟩):=by
 have e1:hH 2 (ds++[d]) tl=hG 2 (av (bK (ds++[d])++tl)) (bE (ds++[d]) 0) (ds.length+1):=by unfold hH;rw[List.length_append,List.length_singleton]
 have e2:hH 2 ds (d.cells++tl)=hG 2 (av (bK (ds++[d])++tl)) (bE ds 0) ds.length:=by
  unfold hH;rw[mA,List.append_assoc];simp only[bK,List.append_nil]
 have hw:aH .i64 (Int.ofNat (ds.length+1) - 1)=Int.ofNat ds.length:=by
  rw[dP,show (Int.ofNat (ds.length+1) - 1:Int)=Int.ofNat ds.length by simp];exact wrap_i64 (by simp only[Int.ofNat_eq_natCast];omega) (by simp only[Int.ofNat_eq_natCast];omega)
 have h0:=yn (r:=2) (n:=ds.length+1) (by simp only[lim];omega);have h2:=yq (r:=2) (n:=ds.length+1) (k:=ds.length) (by omega);rw[←hw] at h2;have hg:(ds++[d])[ds.length]?=some d:=by simp
 have h3:lg (env ay.aN) false 9 [.ptr (.out 2) (0+ds.length*8)] (some (.cells (av (bK (ds++[d])++tl))))=some ⟨.dat (sb d.nm),.keep⟩:=by
  have k1:∀cs,lg (env ay.aN) false 9 [.ptr (.out 2) (0+ds.length*8)] (some (.cells cs))=wM (match cs[0+ds.length*8]? with
   | some (.own es)=>some (.dat (.slice es))|some .undef=>none|some (.agg _)=>none|some (.tup _)=>none|some a=>some a|none=>none):=fun cs=>by kernel_rfl
  have k2:(av (bK (ds++[d])++tl))[0+ds.length*8]?=some (.dat (sb d.nm)):=by
   rw[mA,List.append_assoc];unfold av;rw[List.getElem?_map,Nat.zero_add,List.getElem?_append_right (by rw[jH];omega),jH,Nat.sub_self];rfl
  rw[k1,k2];rfl
 have h4:lT (env ay.aN) 80 [.map (.out 0),.dat (sb d.nm)] (some (.map (bE (ds++[d]) 0)))=some ⟨.tup [],.set (.map (bE ds 0))⟩:=by
  have k1:lT (env ay.aN) 80 [.map (.out 0),.dat (sb d.nm)] (some (.map (bE (ds++[d]) 0)))=(match findF .string (.string ⟨⟨d.nm⟩⟩) (bE (ds++[d]) 0) 0 with
   | some (some (i,_))=>some ⟨.tup [],.set (.map (xg i (bE (ds++[d]) 0)))⟩|some none=>some ⟨.tup [],.set (.map (bE (ds++[d]) 0))⟩|none=>none):=by kernel_rfl
  rw[k1,mM,QG h];simp only[Option.map_some,Nat.zero_add];rw[AA,←wS ds 0];simp only[bE];rw[Kk]
 have h5:kc (env ay.aN) 23 none (some (.tmp 26)) none [.win (.out 2) 8 0 (ds.length+1),iv (aH .i64 (Int.ofNat (ds.length+1) - 1))]=some ⟨.win (.out 2) 8 0 ds.length,.keep⟩:=by
  rw[hw];have k1:∀m n:Nat,kc (env ay.aN) 23 none (some (.tmp 26)) none [.win (.out 2) 8 0 m,iv (Int.ofNat n)]=(if (Nat.ble 0 n&&Nat.ble n m&&Nat.beq 8 8)=true then some ⟨.win (.out 2) 8 0 n,.keep⟩ else none):=fun m n=>by kernel_rfl
  rw[k1,if_pos (by simp)]
 rw[e1,e2];obtain⟨nm,ar,⟨k,tn,ix,la⟩,con,fl⟩:=d;exact Z8 h0 h2 h3 h4 h5
def uv:Name×aR:=(.out 4,.cells [hP])
def bQ:ac:=.ptr (.out 4) 0
noncomputable def Xg:Hints:=⟨ao,Gs,aq,rowsOf aq 67⟩
def UT:ac:=.fn (.func 55) [] [bQ]
def sfI (H:Heap) (nx:Nat) (l:List ap) (i:Int):ab:=⟨[(8,iv i),(7,iv (Int.ofNat l.length)),(0,.dat (.slice l)),(1,UT)],[],H,nx⟩
def adW (H:Heap) (nx:Nat) (l:List ap):ab:=⟨[(9,bv false),(8,iv (Int.ofNat l.length)),(7,iv (Int.ofNat l.length)),(0,.dat (.slice l)),(1,UT)],[],H,nx⟩
def adX (H:Heap) (nx:Nat) (i:Nat):ab:=⟨[(4,iv (Int.ofNat i))],[],H,nx⟩
def Z0 (H:Heap) (nx:Nat):ab:=⟨[(8,iv 0),(7,iv 0),(0,.dat nl),(1,UT)],[],H,nx⟩
def YH (H:Heap) (nx:Nat):ab:=⟨[(9,bv false),(8,iv 0),(7,iv 0),(0,.dat nl),(1,UT)],[],H,nx⟩
theorem Ew {l:List dq} {t:dq} {H:Heap} {nx i:Nat} {c:Bool} {T:Exit->aa->Prop} (hi:i < (aJ l).length) (ht:l[i]?=some t) (hc:KC 55 [.dat t.enc,bQ] H nx (XQ ⟨bv c,H,nx⟩))
  (e1:c=false->T .normal ((sfI H nx (aJ l) (aH .i64 (Int.ofNat i+1))).aw Tryz.f67.ntmps)) (e2:c=true->T .ret ((adX H nx i).aw Tryz.f67.ntmps)) :
  KD (roundOf Tryz.f67 0) T ((sfI H nx (aJ l) (Int.ofNat i)).aw Tryz.f67.ntmps):=by
 have h1:=bA hi;have h2:=rZ ht;generalize aJ l=es at *;clear ht hi;obtain⟨fnm,k2,nm2,ix2,a2⟩:=t
 rcases a2 with _|⟨b,d⟩ <;>
 ·cases c
  ·refine aC [9] [14] (H:=Xg) (live:=rU) (by kernel_rfl) ?_;refine ob h1 ?_;refine oo h2 ?_;refine oh hc ?_;exact oe (e1 rfl)
  refine aC [9] [14] (H:=Xg) (live:=rU) (by kernel_rfl) ?_;refine ob h1 ?_;refine oo h2 ?_;refine oh hc ?_;exact oe (e2 rfl)
theorem JV {l:List ap} {H:Heap} {nx:Nat} {T:Exit->aa->Prop} (e1:T (.exit 0) ((adW H nx l).aw Tryz.f67.ntmps)) :
  KD (roundOf Tryz.f67 0) T ((sfI H nx l (Int.ofNat l.length)).aw Tryz.f67.ntmps):=by
 have h1:=bC (i:=l.length) (L:=l.length) (by omega);refine aC [9] [] (H:=Xg) (live:=rU) (by kernel_rfl) ?_;refine ob h1 ?_;exact oe e1
theorem G2 {H:Heap} {nx:Nat} {T:Exit->aa->Prop} (e1:T (.exit 0) ((YH H nx).aw Tryz.f67.ntmps)) :
  KD (roundOf Tryz.f67 0) T ((Z0 H nx).aw Tryz.f67.ntmps):=by
 refine aC [] [] (H:=Xg) (live:=rU) (by kernel_rfl) ?_;exact oe e1
theorem G3 {l:List dq} {p:dq->Bool} {H:Heap} {nx:Nat} {x:ap} {r:List ap} (hl0:aJ l=x::r) (hg:∀v,dB nx v=false->qJ nx ⟨v,H,nx⟩=⟨v,H,nx⟩) (hp:∀t∈l,KC 55 [.dat t.enc,bQ] H nx (XQ ⟨bv (p t),H,nx⟩)) (hb:l.length < 1000000000) :
  KC 67 [.dat (.slice (x::r)),UT] H nx (XQ ⟨iv (uN p l 0),H,nx⟩):=by
 have hl:KD (.loop (roundOf Tryz.f67 0)) (fun e s=>(e=.exit 0/\uN p l 0=-1/\s=(adW H nx (x::r)).aw Tryz.f67.ntmps)∨(e=.ret/\∃i:Nat,uN p l 0=Int.ofNat i/\s=(adX H nx i).aw Tryz.f67.ntmps)) ((sfI H nx (x::r) (Int.ofNat 0)).aw Tryz.f67.ntmps):=by
  rw[←hl0];refine cI (St:=fun i=>(sfI H nx (aJ l) (Int.ofNat i)).aw Tryz.f67.ntmps) (fun i=>uN p l 0=uN p (l.drop i) i) (aJ l).length ?_ ?_ (i:=0) (Nat.zero_le _) rfl
  ·intro i hi hI;obtain⟨t,ht,hm⟩:=gv hi;have ha:=Aw (p:=p) ht;have hw:aH .i64 (Int.ofNat i+1)=Int.ofNat (i+1):=bg (by rw[bd] at hi;omega);have hc:=hp t hm;rw[←hI] at ha;generalize p t=c at hc ha;refine Ew hi ht hc ?_ ?_
   ·rintro rfl;rw[hw];exact⟨rfl,ha⟩
   rintro rfl;exact .inr ⟨rfl,i,ha,rfl⟩
  intro hI;refine JV (.inl ⟨rfl,?_,rfl⟩);rw[hI,bd,List.drop_length];rfl
 have hg1:=hg (iv (uN p l 0)) rfl;clear hp hb hg;generalize hj:uN p l 0=j at hg1 hl;clear hj hl0;refine co [] [] (x:=.of Tryz.f67 Gs rU) ?_;refine lo hl ?_;rintro ex s (⟨rfl,rfl,rfl⟩|⟨rfl,⟨x0,rfl,rfl⟩⟩) <;>
 ·refine⟨_,rfl,?_⟩;exact bh (by kernel_rfl) hg1
theorem Yb {l:List dq} {p:dq->Bool} {H:Heap} {nx:Nat} (hg:∀v,dB nx v=false->qJ nx ⟨v,H,nx⟩=⟨v,H,nx⟩) (hp:∀t∈l,KC 55 [.dat t.enc,bQ] H nx (XQ ⟨bv (p t),H,nx⟩)) (hb:l.length < 1000000000) :
  KC 54 [.dat (sl (aJ l)),UT] H nx (XQ ⟨bv (l.any p),H,nx⟩):=by
 cases l with
 | nil=>
  have h0:KC 67 [.dat nl,UT] H nx (XQ ⟨iv (-1),H,nx⟩):=by
   have hg1:=hg (iv (-1)) rfl;have hl:KD (.loop (roundOf Tryz.f67 0)) (fun e s=>(e=.exit 0/\s=(YH H nx).aw Tryz.f67.ntmps)) ((Z0 H nx).aw Tryz.f67.ntmps):=by
    refine bb (St:=fun _=>(Z0 H nx).aw Tryz.f67.ntmps) 0 (fun i hi=>absurd hi (Nat.not_lt_zero i)) ?_ (i:=0) (Nat.le_refl _);exact G2 ⟨rfl,rfl⟩
   clear hg hp hb;refine co [] [] (x:=.of Tryz.f67 Gs rU) ?_;refine lo hl ?_;rintro ex s ⟨rfl,rfl⟩;refine⟨_,rfl,?_⟩;exact bh (by kernel_rfl) hg1
  have hg1:=hg (bv false) rfl;clear hg hp hb;refine co [] [] (x:=.of Tryz.f54 Lo Jz) ?_;refine oh h0 ?_;exact bh (by kernel_rfl) hg1
 | cons t r=>
  have h:=G3 (l:=t::r) (x:=t.enc) (r:=aJ r) rfl hg hp hb;have h3:=Eu (p:=p) (l:=t::r) (i:=0);have hg1:=hg (bv (!(!((t::r).any p)))) rfl;generalize (t::r).any p=c at h3 hg1;have hg2:qJ nx ⟨bv (!(!c)),H,nx⟩=⟨bv c,H,nx⟩:=by rw[hg1,Bool.not_not]
  clear hg1;generalize uN p (t::r) 0=j at h3 h;show KC 54 [.dat (.slice (t.enc::aJ r)),UT] H nx _;generalize t.enc=x at h;generalize aJ r=xs at h;clear hp hb hg;refine co [8] [] (x:=.of Tryz.f54 Lo Jz) ?_;refine oh h ?_;refine ox h3 ?_;exact bh (by kernel_rfl) hg2
def Xh (cs:List ap) (es:List (Go.Value×ap)) (n:Nat):Heap:=uv::hG 3 (av cs) es n
theorem gcE (v:ac) (cs:List ap) (es:List (Go.Value×ap)) (n:Nat) (hv:dB 5 v=false):qJ 5 ⟨v,Xh cs es n,5⟩=⟨v,Xh cs es n,5⟩:=by
 have h1:eF 5 (Xh cs es n)=Xh cs es n:=rfl;have h2:cG 5 (Xh cs es n)=false:=by simp[cG,Xh,hG,lY,jz,dM,dB,uv,hP];exact⟨rfl,rfl,rfl⟩
 unfold qJ;dsimp only;rw[h1,h2,hv];rfl
abbrev Fh (g:FuncId) (args:List ac) (cs:List ap) (es:List (Go.Value×ap)) (n:Nat) (v:ac):Prop:=KC g args (Xh cs es n) 5 (XQ ⟨v,Xh cs es n,5⟩)
theorem TU {cs:List ap} {es:List (Go.Value×ap)} {n:Nat} {k ix:Int} {fnm nm:List UInt8} {l:List ap} {c:Bool} (h:Fh 39 [hP,.dat (.agg [i64 k,sb nm,i64 ix,sl l])] cs es n (bv c)) :
  Fh 55 [.dat (.agg [sb fnm,i64 k,sb nm,i64 ix,sl l]),bQ] cs es n (bv (!c)):=by
 have hg:=gcE (bv (!c)) cs es n rfl
 rcases l with _|⟨z,l⟩ <;>
 ·refine co [] [] (x:=.of Tryz.f55 QZ SK) ?_;refine oh h ?_;exact bh (by kernel_rfl) hg
theorem Uh {ds:List aQ} {tl:List ap} {l:List dq} (hf:∀f∈l,f.ty.cB) (hn:l.length < 1000000000) :
  Fh 54 [.dat (sl (aJ l)),UT] (bK ds++tl) (bE ds 0) ds.length (bv (l.any (fun f=>!cy ds f.ty))):=by
 refine Yb (p:=fun f=>!cy ds f.ty) (fun v hv=>gcE v _ _ _ hv) ?_ hn;intro f hm;have h2:=qd (r:=3) (m:=5) rfl rfl rfl [uv] (yA ds tl f.ty (by have:=(hf f hm).1;omega));obtain⟨fnm,k2,nm2,ix2,l2⟩:=f;exact TU h2
def cellsD (nm:List UInt8) (ar k:Int) (tn:List UInt8) (ix:Int) (la:List ap) (con:Bool) (lb:List ap):List ac:=[.dat (sb nm),iv ar,iv k,.dat (sb tn),iv ix,.dat (sl la),.dat (bl con),.dat (sl lb)]
theorem fy (l:Nat) (nm:List UInt8) (ar k:Int) (tn:List UInt8) (ix:Int) (la:List ap) (con:Bool) (lb:List ap) :
  sB (env ay.aN) 35 [.ptr (.loc l) 0,.dat (eh nm ar k tn ix la con lb)] (some (.cells (cellsD [] 0 0 [] 0 [] false [])))=some ⟨.undef,.set (.cells (cellsD nm ar k tn ix la con lb))⟩:=by
 rcases la with _|⟨x,la⟩ <;> rcases lb with _|⟨y,lb⟩ <;> kernel_rfl
theorem Es (t:Bool) (l:Nat) (nm:List UInt8) (ar k:Int) (tn:List UInt8) (ix:Int) (la:List ap) (con:Bool) (lb:List ap) :
  lg (env ay.aN) t 35 [.ptr (.loc l) 0] (some (.cells (cellsD nm ar k tn ix la con lb)))=some ⟨.dat (eh nm ar k tn ix la con lb),.keep⟩:=by
 cases t <;> rcases la with _|⟨x,la⟩ <;> rcases lb with _|⟨y,lb⟩ <;> kernel_rfl
def r3 (c:Int) (cs:List ap) (es:List (Go.Value×ap)) (n:Nat):ey:=⟨iv c,hG 2 (av cs) es n,3⟩
def r5 (c:Int) (cs:List ap) (es:List (Go.Value×ap)) (n:Nat):ey:=⟨iv c,uv::hG 3 (av cs) es n,5⟩
def Y7 (cs cs2:List ap) (es es2 es3:List (Go.Value×ap)) (n:Nat) (oex c0 c1 c2 c3 c4 c5 c6 c7 c8:Bool):ey:=
 match c0 with
 | false=>r3 2 cs es n
 | true=>match c1 with
  | true=>r3 4 cs es n
  | false=>match c2 with
   | true=>r3 4 cs es n
   | false=>match oex with
    | true=>(match c3 with|true=>r3 0 cs es n|false=>r3 6 cs es n)
    | false=>match c4 with
     | false=>r3 8 cs es n
     | true=>match c5 with
      | false=>r3 5 cs es n
      | true=>match c6 with
       | true=>r5 5 cs2 es3 n
       | false=>match c7 with
        | false=>r5 0 cs2 es2 (n+1)
        | true=>match c8 with
         | true=>r5 10 cs2 es3 n
         | false=>r5 0 cs2 es2 (n+1)
theorem XK {cs cs2:List ap} {es es2 es3:List (Go.Value×ap)} {n:Nat} {nm nm2:List UInt8} {ar k ix:Int} {con:Bool} {la lb:List ap}
  {onm onm2:List UInt8} {oar ok oix:Int} {ocon oex:Bool} {ola olb:List ap} {snm snm2:List UInt8} {sar sk six:Int} {c8 sex:Bool} {sla slb:List ap} {c0 c1 c2 c3 c4 c5 c6 c7:Bool}
  (hf:cR 49 [hP,.dat (sb nm)] cs es n (.tup [.dat (eh onm oar ok onm2 oix ola ocon olb),bv oex]))
  (hw:ag 50 [.dat (eh nm ar k nm2 ix la con lb)] (bv c0))
  (h1:bq 6 ar=c1) (h2:bq 6 (Int.ofNat lb.length)=c2)
  (he:ag 51 [.dat (eh onm oar ok onm2 oix ola ocon olb),.dat (eh nm ar k nm2 ix la con lb)] (bv c3))
  (hl:pW (env ay.aN) 23 [.win (.out 2) 8 0 n] none=some ⟨iv (Int.ofNat n),.keep⟩) (h3:bq (Int.ofNat n) 60=c4)
  (hk:cR 39 [hP,.dat (.agg [i64 k,sb nm2,i64 ix,sl la])] cs es n (bv c5)) 
  (hc:ag 53 [.dat (eh nm ar k nm2 ix la con lb)] (.dat (eh nm ar k nm2 ix la con lb)))
  (ha:oex=false->KC 52 [hP,.dat (eh nm ar k nm2 ix la con lb)] (hG 2 (av cs) es n) 3 (XQ ⟨.tup [],hG 3 (av cs2) es2 (n+1),4⟩))
  (hcf:KC 54 [.dat (sl lb),UT] (uv::hG 3 (av cs2) es2 (n+1)) 5 (XQ ⟨bv c6,uv::hG 3 (av cs2) es2 (n+1),5⟩))
  (hr:oex=false->KC 56 [hP] (uv::hG 3 (av cs2) es2 (n+1)) 5 (XQ ⟨.tup [],uv::hG 3 (av cs2) es3 n,5⟩))
  (hs:KC 49 [hP,.dat (sb nm2)] (uv::hG 3 (av cs2) es2 (n+1)) 5 (XQ ⟨.tup [.dat (eh snm sar sk snm2 six sla c8 slb),bv sex],uv::hG 3 (av cs2) es2 (n+1),5⟩))
  (h4:aP k 2=c7) :
  KC 16 [hP,.dat (eh nm ar k nm2 ix la con lb)] (hG 2 (av cs) es n) 3 (XQ (Y7 cs cs2 es es2 es3 n oex c0 c1 c2 c3 c4 c5 c6 c7 c8)):=by
 have q1:=fy 5 onm oar ok onm2 oix ola ocon olb;have q2:=Es false 5 onm oar ok onm2 oix ola ocon olb;have q4:=fy 7 snm sar sk snm2 six sla c8 slb
 rcases lb with _|⟨y,lb⟩
 ·have z:c2=false:=h2.symm;subst z;clear h2
  rcases la with _|⟨x,la⟩ <;>
  ·refine aZ [23,45,73] [100005,33,44,100007] (x:=gU.of Tryz.f16 LB JD) (by kernel_rfl) ?_;refine oh hf ?_;refine oo q1 ?_;refine on hw ?_
   cases c0
   ·exact fi
   refine ob h1 ?_
   cases c1
   ·cases oex
    ·refine oo hl ?_;refine ox h3 ?_
     cases c4
     ·exact fi
     refine oh hk ?_
     cases c5
     ·exact fi
     refine on hc ?_;refine oh (ha rfl) ?_;refine oh hcf ?_
     cases c6
     ·refine oh hs ?_;refine oo q4 ?_;refine ob h4 ?_
      cases c7
      ·exact fi
      cases c8
      ·exact fi
      refine oh (hr rfl) ?_;exact fi
     refine oh (hr rfl) ?_;exact fi
    refine oo q2 ?_;refine on he ?_
    cases c3 <;>
    ·exact fi
   exact fi
 rcases la with _|⟨x,la⟩ <;>
 ·refine aZ [23,28,45,73] [100005,33,44,100007] (x:=gU.of Tryz.f16 LB JD) (by kernel_rfl) ?_;refine oh hf ?_;refine oo q1 ?_;refine on hw ?_
  cases c0
  ·exact fi
  refine ob h1 ?_
  cases c1
  ·refine ob h2 ?_
   cases c2
   ·cases oex
    ·refine oo hl ?_;refine ox h3 ?_
     cases c4
     ·exact fi
     refine oh hk ?_
     cases c5
     ·exact fi
     refine on hc ?_;refine oh (ha rfl) ?_;refine oh hcf ?_
     cases c6
     ·refine oh hs ?_;refine oo q4 ?_;refine ob h4 ?_
      cases c7
      ·exact fi
      cases c8
      ·exact fi
      refine oh (hr rfl) ?_;exact fi
     refine oh (hr rfl) ?_;exact fi
    refine oo q2 ?_;refine on he ?_
    cases c3 <;>
    ·exact fi
   exact fi
  exact fi
theorem VT {g:FuncId} {args:List ac} {v:ac} {cs cs2:List ap} {es es2:List (Go.Value×ap)} {n n2 r m:Nat} (ha:dM 3 args=false) (he:gD (UM r) args=args) (hv:fg (iG (UM r) 3 m) v=v) (pre:Heap)
  (h:KC g args (hG 2 (av cs) es n) 3 (XQ ⟨v,hG 2 (av cs2) es2 n2,3⟩)) :
  KC g args (pre++hG r (av cs) es n) m (XQ ⟨v,pre++hG r (av cs2) es2 n2,m⟩):=by
 have e1:∀(cs:List ap) (es:List (Go.Value×ap)) (n:Nat) (ρ:Nat->Nat),ρ 0=0->ρ 1=1->ρ 2=r->lk ρ (hG 2 (av cs) es n)=hG r (av cs) es n:=by
  intro cs es n ρ h0 h1 h2;simp[hG,lk,mC,qT,rD,gD,fg,h0,h1,h2]
 have hf:=aB.frame h (UM r) (heap:=pre++hG r (av cs) es n) (rest:=pre) (next:=m) (by rw[e1 _ _ _ _ rfl rfl rfl];exact List.perm_append_comm) (by rfl) (by simp[cG,hG,lY,jz,dM,dB];exact⟨rfl,rfl⟩) (by rfl) ha;rw[he] at hf;refine aB.jf hf ?_;rintro v' h' m' ⟨v0,h1,n1,⟨rfl,rfl,rfl⟩,rfl,rfl,rfl⟩;rw[hv,e1 _ _ _ _ rfl rfl rfl];exact⟨_,List.perm_append_comm,rfl,rfl,rfl⟩
theorem yf (p:Nat->Bool):∀l:List ap,gN p (av l)=true
 | []=>rfl
 | d::r=>by show (BG p (.dat d)&&gN p (av r))=true;rw[yf p r];rfl
theorem rn3 {g:FuncId} {args:List ac} {h0:Heap} {c:Int} {cs:List ap} {es:List (Go.Value×ap)} {n:Nat} (h:KC g args h0 3 (XQ (r3 c cs es n))):KC g args h0 3 (XQ ⟨iv c,hG 3 (av cs) es n,4⟩):=by
 refine aB.rn h ?_;rintro v hp m ⟨rfl,rfl,rfl⟩;refine⟨[2],rfl,?_,?_⟩
 ·simp[r3,hG,bI,GA,Jl,gN,BG,dK,gG,yf];rfl
 simp[r3,hG,bI,lk,mC,qT,gD,fg,dK,gG,kh,oF,rD];exact⟨rfl,rfl,rfl⟩
theorem rn5 {g:FuncId} {args:List ac} {h0:Heap} {c:Int} {cs:List ap} {es:List (Go.Value×ap)} {n:Nat} (h:KC g args h0 3 (XQ (r5 c cs es n))):KC g args h0 3 (XQ ⟨iv c,hG 3 (av cs) es n,4⟩):=by
 refine aB.rn h ?_;rintro v hp m ⟨rfl,rfl,rfl⟩;have e:bI (dK 3 [3]) (r5 c cs es n).heap=hG 3 (av cs) es n:=rfl;refine⟨[3],rfl,?_,?_⟩
 ·rw[e];simp[hG,GA,Jl,gN,BG,dK,gG,yf]
 rw[e];simp[hG,lk,mC,qT,gD,fg,gG,kh,oF,rD];exact⟨rfl,rfl,rfl⟩
def Ty.nm:Ty->List UInt8
 | .mk _ n _ _=>n
def eQ (ds:List aQ) (d:aQ):Int×List aQ:=
 match d.wf with
 | false=>(2,ds)
 | true=>match bq 6 d.ar with
  | true=>(4,ds)
  | false=>match bq 6 (Int.ofNat (aJ d.fl).length) with
   | true=>(4,ds)
   | false=>match aD ds d.nm with
    | some o=>(match o.eq d with|true=>(0,ds)|false=>(6,ds))
    | none=>match bq (Int.ofNat ds.length) 60 with
     | false=>(8,ds)
     | true=>match cy ds d.sup with
      | false=>(5,ds)
      | true=>match d.fl.any (fun f=>!cy (ds++[d]) f.ty) with
       | true=>(5,ds)
       | false=>match aP d.sup.kind 2 with
        | false=>(0,ds++[d])
        | true=>match (iO (aD (ds++[d]) d.sup.nm)).con with
         | true=>(10,ds)
         | false=>(0,ds++[d])
theorem uO:aQ.zero.cB:=⟨⟨by decide,by simp[aQ.zero,Ty.dR,cV,aP]⟩,by simp[aQ.zero],by decide⟩
theorem mN:∀{ds:List aQ} {nm:List UInt8} {o:aQ},aD ds nm=some o->o∈ds
 | [],nm,o,h=>by simp[aD] at h
 | d::r,nm,o,h=>by
  unfold aD at h
  split at h
  ·simp at h;subst h;simp
  exact List.mem_cons_of_mem _ (mN h)
theorem NY {ds:List aQ} {nm:List UInt8} (h:aD ds nm=none):fX ds nm=none:=by
 cases hp:fX ds nm with
 | none=>rfl
 | some k=>
  obtain⟨d,_,h2,_⟩:=jK hp;rw[h2] at h;simp at h
theorem TR {ds:List aQ} {d:aQ} {tl:List ap} (hd:d.cB) (hds:∀o∈ds,o.cB) (hn:ds.length < 999) :
  KC 16 [hP,.dat d.enc] (hH 2 ds tl) 3 (XQ (Y7 (bK ds++tl) (bK (ds++[d])++[]) (bE ds 0) (bE (ds++[d]) 0) (bE ds 0) ds.length (eg (aD ds d.nm)) d.wf (bq 6 d.ar) (bq 6 (Int.ofNat (aJ d.fl).length)) ((iO (aD ds d.nm)).eq d) (bq (Int.ofNat ds.length) 60) (cy ds d.sup) (d.fl.any (fun f=>!cy (ds++[d]) f.ty)) (aP d.sup.kind 2) (iO (aD (ds++[d]) d.sup.nm)).con)):=by
 have hf:cR 49 [hP,.dat (sb d.nm)] (bK ds++tl) (bE ds 0) ds.length (.tup [.dat (iO (aD ds d.nm)).enc,bv (eg (aD ds d.nm))]):=nW ds tl d.nm;have hw:=E1 hd;have ho:(iO (aD ds d.nm)).cB:=by
  cases h:aD ds d.nm with
  | none=>exact uO
  | some o=>exact hds o (mN h)
 have he:=E6 ho hd;have hl:=yn (r:=2) (n:=ds.length) (by simp only[lim];omega);have hk:cR 39 [hP,.dat d.sup.enc] (bK ds++tl) (bE ds 0) ds.length (bv (cy ds d.sup)):=yA ds tl d.sup (by have:=hd.1.1;omega);have hc:=xt hd;have hpos:eg (aD ds d.nm)=false->fX ds d.nm=none:=by
  intro h
  cases hf:aD ds d.nm with
  | none=>exact NY hf
  | some o=>rw[hf] at h;simp[eg] at h
 have ha:=fun h=>acO (tl:=tl) (by omega) (hpos h)
 have hcf:=Uh (ds:=ds++[d]) (tl:=[]) hd.2.1 hd.2.2;have hr:eg (aD ds d.nm)=false->KC 56 [hP] (uv::hG 3 (av (bK (ds++[d])++[])) (bE (ds++[d]) 0) (ds.length+1)) 5 (XQ ⟨.tup [],uv::hG 3 (av (bK (ds++[d])++[])) (bE ds 0) ds.length,5⟩):=by
  intro h;have h2:=afH (tl:=[]) (by omega) (hpos h);have e2:hH 2 ds (d.cells++[])=hG 2 (av (bK (ds++[d])++[])) (bE ds 0) ds.length:=by
   unfold hH;rw[mA];simp only[bK,List.append_nil]
  rw[e2] at h2;have e1:hH 2 (ds++[d]) []=hG 2 (av (bK (ds++[d])++[])) (bE (ds++[d]) 0) (ds.length+1):=by unfold hH;rw[List.length_append,List.length_singleton]
  rw[e1] at h2;exact VT (r:=3) (m:=5) rfl rfl rfl [uv] h2
 have hs:=E5 3 5 [uv] (ds++[d]) [] d.sup.nm;have el:(ds++[d]).length=ds.length+1:=by simp
 have e3:hH 3 (ds++[d]) []=hG 3 (av (bK (ds++[d])++[])) (bE (ds++[d]) 0) (ds.length+1):=by unfold hH;rw[el]
 rw[e3] at hs;simp only[e3] at ha;unfold Fh Xh at hcf;rw[el] at hcf;generalize (iO (aD ds d.nm)).eq d=c3 at he ⊢;generalize d.fl.any (fun f=>!cy (ds++[d]) f.ty)=c6 at hcf ⊢;generalize d.wf=c0 at hw ⊢;generalize cy ds d.sup=c5 at hk ⊢;generalize iO (aD ds d.nm)=o at *;generalize iO (aD (ds++[d]) d.sup.nm)=so at *;generalize eg (aD (ds++[d]) d.sup.nm)=sb at *;generalize bK (ds++[d])++[]=cs2 at *;generalize bE (ds++[d]) 0=es2 at *;have e0:hH 2 ds tl=hG 2 (av (bK ds++tl)) (bE ds 0) ds.length:=rfl;rw[e0] at ha ⊢;generalize bE ds 0=es at *;generalize bK ds++tl=cs at *;obtain⟨nm,ar,⟨k,tn,ix,la⟩,con,fl⟩:=d;obtain⟨onm,oar,⟨ok,otn,oix,ola⟩,ocon,ofl⟩:=o;obtain⟨snm,sar,⟨sk,stn,six,sla⟩,scon,sfl⟩:=so;exact XK hf hw rfl rfl he hl rfl hk hc ha hcf hr hs rfl
theorem S7 (r:Nat) (ds:List aQ) (d:aQ):hH r (ds++[d]) []=hG r (av (bK (ds++[d])++[])) (bE (ds++[d]) 0) (ds.length+1):=by unfold hH;rw[List.length_append,List.length_singleton]
theorem S6 (r:Nat) (ds:List aQ) (d:aQ):hH r ds d.cells=hG r (av (bK (ds++[d])++[])) (bE ds 0) ds.length:=by
 unfold hH;rw[mA];simp only[bK,List.append_nil]
theorem Dd {ds:List aQ} {d:aQ} {tl:List ap} (hd:d.cB) (hds:∀o∈ds,o.cB) (hn:ds.length < 999) :
  ∃tl2,KC 16 [hP,.dat d.enc] (hH 2 ds tl) 3 (XQ ⟨iv (eQ ds d).1,hH 3 (eQ ds d).2 tl2,4⟩):=by
 have h:=TR (tl:=tl) hd hds hn;unfold eQ;generalize d.wf=c0 at h ⊢
 cases c0 with
 | false=>exact⟨tl,rn3 h⟩
 | true=>
  generalize bq 6 d.ar=c1 at h ⊢
  cases c1
  ·generalize bq 6 (Int.ofNat (aJ d.fl).length)=c2 at h ⊢
   cases c2
   ·generalize aD ds d.nm=fo at h ⊢
    cases fo with
    | some o=>
     dsimp only[iO,eg] at h ⊢;generalize o.eq d=c3 at h ⊢
     cases c3 <;>
     ·exact⟨tl,rn3 h⟩
    | none=>
     dsimp only[iO,eg] at h ⊢;generalize bq (Int.ofNat ds.length) 60=c4 at h ⊢
     cases c4 with
     | false=>exact⟨tl,rn3 h⟩
     | true=>
      generalize cy ds d.sup=c5 at h ⊢
      cases c5 with
      | false=>exact⟨tl,rn3 h⟩
      | true=>
       generalize d.fl.any (fun f=>!cy (ds++[d]) f.ty)=c6 at h ⊢
       cases c6
       ·generalize aP d.sup.kind 2=c7 at h ⊢
        cases c7 with
        | false=>
         dsimp only;exact⟨[],by rw[S7];exact rn5 h⟩
        | true=>
         dsimp only[iO] at h ⊢;generalize (match aD (ds++[d]) d.sup.nm with|some d=>d|none=>aQ.zero).con=c8 at h ⊢
         cases c8
         ·dsimp only;exact⟨[],by rw[S7];exact rn5 h⟩
         dsimp only;exact⟨d.cells,by rw[S6];exact rn5 h⟩
       dsimp only;exact⟨d.cells,by rw[S6];exact rn5 h⟩
   exact⟨tl,rn3 h⟩
  exact⟨tl,rn3 h⟩
def sx (nm:List UInt8):aQ:=⟨nm,0,.mk 0 [] 0 [],true,[]⟩
def cY:List aQ:=fL.map sx
theorem afJ:KC 44 [] [] 0 (XQ ⟨hP,hH 2 cY [],3⟩):=by
 have h:KC 44 [] [] 0 (XQ ⟨hP,hG 5 (av (bK cY++[])) (bE cY 0) 4,6⟩):=br _ _ _ _ _ (by kernel_rfl);refine aB.rn h ?_;rintro v hp m ⟨rfl,rfl,rfl⟩;exact⟨[0,1,5],rfl,rfl,rfl,rfl,rfl⟩
def aL:List aQ->List ap
 | []=>[]
 | d::r=>d.enc::aL r
theorem pH:∀l:List aQ,aL l=l.map aQ.enc
 | []=>by simp[aL]
 | t::r=>by simp[aL,pH r]
theorem aY (l:List aQ):(aL l).length=l.length:=by simp[pH]
theorem TK {l:List aQ} {i:Nat} {t:aQ} (h:l[i]?=some t):(aL l)[i]?=some t.enc:=by simp[pH,h]
theorem TW (d:aQ):d.enc.cells.length=8:=by obtain⟨a,b,⟨e,f,g,h⟩,i,j⟩:=d;rfl
theorem TJ {l:List aQ} {d:ap} (h:d∈aL l):∃t,d=aQ.enc t:=by
 rw[pH] at h;obtain⟨t,_,rfl⟩:=List.mem_map.1 h;exact⟨t,rfl⟩
theorem ug (a b:List aQ):aL (a++b)=aL a++aL b:=by simp[pH]
theorem nQ (l:List aQ):sizedB 8 (aL l)=true:=ig (fun d hd=>by obtain⟨t,rfl⟩:=TJ hd;exact TW t)
theorem AZ (l:List aQ):ew (aL l)=false:=by
 cases l with
 | nil=>rfl
 | cons t r=>rfl
theorem Is:Go.Tp.elemOf (env ay.aN) 23=some It:=by kernel_rfl
theorem sK:It.size=8:=by kernel_rfl
theorem Fb {pre:List aQ} {t:aQ} (hl:pre.length < 1000000000):cJ (env ay.aN) false 23 [.own (aL pre),.dat (.slice [t.enc])] none=some ⟨.own (aL (pre++[t])),.keep⟩:=by
 rw[ug];refine qF (i:=It) (ds:=[t.enc]) (k:=7) Is rfl sK ?_ ?_ (by kernel_rfl) ?_ ?_ ?_ (by simp)
 ·exact nQ [t]
 ·exact nQ pre
 ·have h1:It.bytes<=1000:=fe (by kernel_rfl);rw[aY]
  calc (pre.length+1)*It.bytes<=1000000000*1000:=Nat.mul_le_mul (by omega) h1
   _<=140737488355328:=by decide
 ·rw[aY];simp[lim];omega
 unfold fQ;rw[show aL pre++[t.enc]=aL (pre++[t]) by rw[ug];rfl,AZ]
def Gm:List aQ->ac
 | []=>.dat nl
 | t::r=>.own (aL (t::r))
noncomputable def Tb:Hints:=⟨ao,Ly,aq,rowsOf aq 19⟩
def stD (cs:List ap) (es:List (Go.Value×ap)) (n:Nat) (pre:List aQ) (i:Int):ab:=⟨[(11,iv i),(10,iv (Int.ofNat n)),(9,.win (.out 2) 8 0 n),(3,Gm pre)],[],hG 2 (av cs) es n,3⟩
def adT (cs:List ap) (es:List (Go.Value×ap)) (n:Nat) (pre:List aQ) (i:Int):ab:=⟨[(12,bv false),(11,iv i),(10,iv (Int.ofNat n)),(9,.win (.out 2) 8 0 n),(3,Gm pre)],[],hG 2 (av cs) es n,3⟩
theorem HD {cs:List ap} {es:List (Go.Value×ap)} {n i:Nat} {pre:List aQ} {t:aQ} (hi:i < n) (h2:aK (env ay.aN) 23 [.win (.out 2) 8 0 n,iv (Int.ofNat i)]=some ⟨.ptr (.out 2) (0+i*8),.keep⟩)
  (h3:lg (env ay.aN) false 35 [.ptr (.out 2) (0+i*8)] (some (.cells (av cs)))=some ⟨.dat t.enc,.keep⟩) (hc:ag 53 [.dat t.enc] (.dat t.enc)) (hp:pre.length < 1000000000) {T:Exit->aa->Prop}
  (e:T .normal ((stD cs es n (pre++[t]) (aH .i64 (Int.ofNat i+1))).aw Tryz.f19.ntmps)) :
  KD (roundOf Tryz.f19 0) T ((stD cs es n pre (Int.ofNat i)).aw Tryz.f19.ntmps):=by
 have h1:=bA hi;have h4:=Fb (t:=t) hp;clear hi hp;obtain⟨nm,ar,⟨k,tn,ix,la⟩,con,fl⟩:=t
 rcases la with _|⟨x,la⟩ <;>
 ·rcases fl with _|⟨y,fl⟩ <;>
  ·rcases pre with _|⟨z,pre⟩ <;>
   ·refine aC [12] [13,14,19] (H:=Tb) (live:=Ej) (by kernel_rfl) ?_;refine ob h1 ?_;refine oo h2 ?_;refine oo h3 ?_;refine on hc ?_;refine oo h4 ?_;exact oe e
theorem Kl {cs:List ap} {es:List (Go.Value×ap)} {n:Nat} {pre:List aQ} {T:Exit->aa->Prop} (e:T (.exit 0) ((adT cs es n pre (Int.ofNat n)).aw Tryz.f19.ntmps)) :
  KD (roundOf Tryz.f19 0) T ((stD cs es n pre (Int.ofNat n)).aw Tryz.f19.ntmps):=by
 have h1:=bC (i:=n) (L:=n) (by omega)
 rcases pre with _|⟨z,pre⟩ <;>
 ·refine aC [12] [] (H:=Tb) (live:=Ej) (by kernel_rfl) ?_;refine ob h1 ?_;exact oe e
theorem Oh {cs:List ap} {es:List (Go.Value×ap)} {n:Nat} {pre:List aQ} (h0:pW (env ay.aN) 23 [.win (.out 2) 8 0 n] none=some ⟨iv (Int.ofNat n),.keep⟩)
  (hl:KD (.loop (roundOf Tryz.f19 0)) (fun e s=>e=.exit 0/\s=(adT cs es n pre (Int.ofNat n)).aw Tryz.f19.ntmps) ((stD cs es n [] (Int.ofNat 0)).aw Tryz.f19.ntmps)):cR 19 [hP] cs es n (Gm pre):=by
 rcases pre with _|⟨z,pre⟩ <;>
 ·refine aZ [] [10] (x:=gU.of Tryz.f19 Ly Ej) (by kernel_rfl) ?_;refine oo h0 ?_;refine lo hl ?_;rintro ex s ⟨rfl,rfl⟩;refine⟨_,rfl,?_⟩;exact fi
theorem X1 (r m:Nat) (pre:Heap) {ds:List aQ} {tl:List ap} (hds:∀o∈ds,o.cB) (hn:ds.length < 1000):KC 19 [hP] (pre++hH r ds tl) m (XQ ⟨Gm ds,pre++hH r ds tl,m⟩):=by
 have h:cR 19 [hP] (bK ds++tl) (bE ds 0) ds.length (Gm ds):=by
  refine Oh (yn (by simp only[lim];omega)) ?_;refine bb (St:=fun i=>(stD (bK ds++tl) (bE ds 0) ds.length (ds.take i) (Int.ofNat i)).aw Tryz.f19.ntmps) ds.length ?_ ?_ (i:=0) (Nat.zero_le _)
  ·intro i hi;have ht:ds[i]?=some ds[i]:=List.getElem?_eq_getElem hi;have hm:ds[i]∈ds:=List.getElem_mem hi;generalize ds[i]=t at ht hm;refine HD hi (yq hi) (GQ ht) (xt (hds t hm)) (by rw[List.length_take];omega) ?_;rw[bg (by omega),←dC ht];rfl
  refine Kl ⟨rfl,?_⟩;rw[List.take_length]
 cases ds with
 | nil=>exact qd rfl rfl rfl pre h
 | cons d ds=>exact qd rfl rfl rfl pre h
theorem CS (i:Int):ag 47 [iv i] (.dat (Ty.mk 5 [] i []).enc):=by
 refine co [] [] (x:=.of Tryz.f47 Q2 SN) ?_;exact fi
theorem AH:ag 82 [] (.dat (Ty.mk 0 [] 0 []).enc):=by
 refine co [] [] (x:=.of Tryz.f82 QS SD) ?_;exact fi
theorem Xl:ag 86 [] (.dat (Ty.mk 1 [] 0 []).enc):=by
 refine co [] [] (x:=.of Tryz.f86 QP SA) ?_;exact fi
theorem pq (nm:List UInt8):ag 46 [.dat (sb nm),.dat nl] (.dat (Ty.mk 2 nm 0 []).enc):=by
 refine co [] [] (x:=.of Tryz.f46 Lr JB) ?_;exact fi
theorem AG (nm:List UInt8) (x:ap) (l:List ap):ag 46 [.dat (sb nm),.dat (.slice (x::l))] (.dat (.agg [i64 2,sb nm,i64 0,.slice (x::l)])):=by
 refine co [] [] (x:=.of Tryz.f46 Lr JB) ?_;exact fi
theorem Mj (x:ap) (l:List ap):ag 84 [.dat (.slice (x::l))] (.dat (.agg [i64 4,sb [],i64 0,.slice (x::l)])):=by
 refine co [] [] (x:=.of Tryz.f84 QR SC) ?_;exact fi
theorem pt (t u:Ty):ag 85 [.dat t.enc,.dat u.enc] (.dat (Ty.mk 6 [] 0 [t,u]).enc):=by
 refine co [] [] (x:=.of Tryz.f85 QQ SB) ?_;obtain⟨v0,v1,v2,v3⟩:=t
 rcases v3 with _|⟨v10,v11⟩
 ·obtain⟨v4,v5,v6,v7⟩:=u
  rcases v7 with _|⟨v8,v9⟩ <;>
  ·exact fi
 obtain⟨v12,v13,v14,v15⟩:=u
 rcases v15 with _|⟨v16,v17⟩ <;>
 ·exact fi
theorem TC {L:List (List UInt8)} {i:Nat} {b:List UInt8} (h:L[i]?=some b):(encS L)[i]?=some (sb b):=by simp[encS,h,sb]
noncomputable def tiS:TI:=match Go.Tp.elemOf (env ay.aN) 60 with|some t=>t|none=>default
theorem O5:Go.Tp.elemOf (env ay.aN) 60=some tiS:=by kernel_rfl
theorem yL:tiS.size=1:=by kernel_rfl
theorem aaB {L:List (List UInt8)} {i:Nat} {b:List UInt8} (h:L[i]?=some b):aK (env ay.aN) 60 [.dat (.slice (encS L)),.dat (.flat (.int .i64 (Int.ofNat i)))]=some ⟨.ref [sb b],.keep⟩:=
 uB O5 rfl (TC h) (by rw[yL];rfl) (by rw[yL];decide)
theorem qZ {l:List aQ} {i:Nat} {t:aQ} (h:l[i]?=some t):aK (env ay.aN) 23 [.dat (.slice (aL l)),.dat (.flat (.int .i64 (Int.ofNat i)))]=some ⟨.ref t.cells,.keep⟩:=
 uB Is rfl (TK h) (by rw[sK];exact TW t) (by rw[sK];decide)
theorem Si {l ds:List ap} {k k2:Int} {r v dp:Int} {b:List UInt8} (h1:KC 64 [ff,iv (aH .i64 (Int.ofNat ds.length+4))] (fP l k) 1 (XQ ⟨iv r,fP l k2,1⟩)) (h2:bq r 4=true)
  (hi:aK (env ay.aN) 60 [.dat (.slice (encS fL)),.dat (.flat (.int .i64 r))]=some ⟨.ref [sb b],.keep⟩) :
  KC 83 [ff,.dat (.slice ds),iv dp,iv v] (fP l k) 1 (XQ ⟨.dat (Ty.mk 2 b 0 []).enc,fP l k2,1⟩):=by
 have h3:=pq b;refine co [19] [22] (x:=.of Tryz.f83 Gr Al) ?_;refine oh h1 ?_;refine ob h2 ?_;refine oo hi ?_;refine on h3 ?_;exact fi
noncomputable def S5:Hints:=⟨ao,Gr,aq,rowsOf aq 83⟩
def loN (lo:Heap) (nm:List UInt8) (pre:List Ty):Heap:=(.loc 11,.cells [iv 2,.dat (sb nm),iv 0,QH pre])::lo
def Jt (cs:List ac):Heap:=[(.loc 10,.cells cs),(.loc 8,.cells [iv 0,.dat (sb []),iv 0,.dat nl])]
def Pw (lo:Heap) (l ds:List ap) (dp v K i:Int):ab:=⟨[(12,iv i),(11,.ptr (.loc 11) 0),(10,.ptr (.loc 10) 0),(8,.ptr (.loc 8) 0),(0,ff),(1,.dat (.slice ds)),(2,iv dp),(3,iv v)],lo,fP l K,1⟩
def Yu (lo:Heap) (l ds:List ap) (dp v K i:Int):ab:=⟨[(36,bv false),(12,iv i),(11,.ptr (.loc 11) 0),(10,.ptr (.loc 10) 0),(8,.ptr (.loc 8) 0),(0,ff),(1,.dat (.slice ds)),(2,iv dp),(3,iv v)],lo,fP l K,1⟩
theorem Sd {l ds:List ap} {dp v K K2 ar i kk ix:Int} {nm tn:List UInt8} {con:Bool} {la lb:List ap} {pre:List Ty} {t:Ty} (h1:bq i ar=true)
  (h2:KC 65 [ff,.dat (.slice ds),iv (aH .i64 (dp - 1)),iv v] (fP l K) 1 (XQ ⟨.dat t.enc,fP l K2,1⟩)) (hp:pre.length < 1000000000) {T:Exit->aa->Prop}
  (e:T .normal ((Pw (loN (Jt (cellsD nm ar kk tn ix la con lb)) nm (pre++[t])) l ds dp v K2 (aH .i64 (i+1))).aw Tryz.f83.ntmps)) :
  KD (roundOf Tryz.f83 0) T ((Pw (loN (Jt (cellsD nm ar kk tn ix la con lb)) nm pre) l ds dp v K i).aw Tryz.f83.ntmps):=by
 have h3:=UC (t:=t) hp;clear hp
 rcases pre with _|⟨d,r⟩ <;>
 ·refine aC [36] [48] (H:=S5) (live:=Al) (by kernel_rfl) ?_;refine ob h1 ?_;refine oh h2 ?_;obtain⟨v0,v1,v2,v3⟩:=t;refine oo h3 ?_;exact oe e
theorem VQ {l ds:List ap} {dp v K ar i kk ix:Int} {nm tn:List UInt8} {con:Bool} {la lb:List ap} {pre:List Ty} (h1:bq i ar=false) {T:Exit->aa->Prop}
  (e:T (.exit 0) ((Yu (loN (Jt (cellsD nm ar kk tn ix la con lb)) nm pre) l ds dp v K i).aw Tryz.f83.ntmps)) :
  KD (roundOf Tryz.f83 0) T ((Pw (loN (Jt (cellsD nm ar kk tn ix la con lb)) nm pre) l ds dp v K i).aw Tryz.f83.ntmps):=by
 rcases pre with _|⟨d,r⟩ <;>
 ·refine aC [36] [] (H:=S5) (live:=Al) (by kernel_rfl) ?_;refine ob h1 ?_;exact oe e
theorem Sj {l:List ap} {ds:List ap} {k k2 k3:Int} {r v dp:Int} {nm tn:List UInt8} {ar kk ix ie:Int} {con:Bool} {la lb:List ap} {ts:List Ty} (h1:KC 64 [ff,iv (aH .i64 (Int.ofNat ds.length+4))] (fP l k) 1 (XQ ⟨iv r,fP l k2,1⟩)) (h2:bq r 4=false)
  (hi:aK (env ay.aN) 23 [.dat (.slice ds),.dat (.flat (.int .i64 (aH .i64 (r - 4))))]=some ⟨.ref [sb nm,i64 ar,i64 kk,sb tn,i64 ix,sl la,bl con,sl lb],.keep⟩)
  (hl:KD (.loop (roundOf Tryz.f83 0)) (fun e s=>e=.exit 0/\s=(Yu (loN (Jt (cellsD nm ar kk tn ix la con lb)) nm ts) l ds dp v k3 ie).aw Tryz.f83.ntmps) ((Pw (loN (Jt (cellsD nm ar kk tn ix la con lb)) nm []) l ds dp v k2 0).aw Tryz.f83.ntmps)) :
  KC 83 [ff,.dat (.slice ds),iv dp,iv v] (fP l k) 1 (XQ ⟨.dat (Ty.mk 2 nm 0 ts).enc,fP l k3,1⟩):=by
 have q1:=fy 10 nm ar kk tn ix la con lb
 rcases ts with _|⟨t,ts⟩ <;>
 ·refine co [19] [28,100010] (x:=.of Tryz.f83 Gr Al) ?_;refine oh h1 ?_;refine ob h2 ?_;refine oo hi ?_;refine oo q1 ?_;refine lo hl ?_;rintro ex s ⟨rfl,rfl⟩;refine⟨_,rfl,?_⟩;exact fi
theorem X6 {l ds:List ap} {k k2 k3 r v dp i:Int} (h1:KC 64 [ff,iv 6] (fP l k) 1 (XQ ⟨iv r,fP l k2,1⟩)) (h2:bq r 2=true) (h3:bq 0 v=true) (h4:KC 64 [ff,iv v] (fP l k2) 1 (XQ ⟨iv i,fP l k3,1⟩)) :
  KC 65 [ff,.dat (.slice ds),iv dp,iv v] (fP l k) 1 (XQ ⟨.dat (Ty.mk 5 [] i []).enc,fP l k3,1⟩):=by
 have h5:=CS i;refine co [14,17] [] (x:=.of Tryz.f65 wJ rV) ?_;refine oh h1 ?_;refine ob h2 ?_;refine ob h3 ?_;refine oh h4 ?_;refine on h5 ?_;exact fi
theorem Uz {l ds:List ap} {k k2 k3 r v dp i:Int} {b:List UInt8} {c2 c3:Bool} (h1:KC 64 [ff,iv 6] (fP l k) 1 (XQ ⟨iv r,fP l k2,1⟩)) (h2:bq r 2=c2) (h3:bq 0 v=c3) (hc:c2=true->c3=false) (hd:bq 0 dp=false) (h4:KC 64 [ff,iv 4] (fP l k2) 1 (XQ ⟨iv i,fP l k3,1⟩))
  (hi:aK (env ay.aN) 60 [.dat (.slice (encS fL)),.dat (.flat (.int .i64 i))]=some ⟨.ref [sb b],.keep⟩) :
  KC 65 [ff,.dat (.slice ds),iv dp,iv v] (fP l k) 1 (XQ ⟨.dat (Ty.mk 2 b 0 []).enc,fP l k3,1⟩):=by
 have h5:=pq b
 cases c2
 ·refine co [14,25] [29] (x:=.of Tryz.f65 wJ rV) ?_;refine oh h1 ?_;refine ob h2 ?_;refine ox hd ?_;refine oh h4 ?_;refine oo hi ?_;refine on h5 ?_;exact fi
 obtain rfl:=hc rfl;refine co [14,17,25] [29] (x:=.of Tryz.f65 wJ rV) ?_;refine oh h1 ?_;refine ob h2 ?_;refine ob h3 ?_;refine ox hd ?_;refine oh h4 ?_;refine oo hi ?_;refine on h5 ?_;exact fi
theorem OB {l ds:List ap} {k k2 k3 r v dp:Int} {t:Ty} {c2 c3:Bool} (h1:KC 64 [ff,iv 6] (fP l k) 1 (XQ ⟨iv r,fP l k2,1⟩)) (h2:bq r 2=c2) (h3:bq 0 v=c3) (hc:c2=true->c3=false) (hd:bq 0 dp=true) (h4:bq r 4=true)
  (h5:KC 83 [ff,.dat (.slice ds),iv dp,iv v] (fP l k2) 1 (XQ ⟨.dat t.enc,fP l k3,1⟩)) :
  KC 65 [ff,.dat (.slice ds),iv dp,iv v] (fP l k) 1 (XQ ⟨.dat t.enc,fP l k3,1⟩):=by
 obtain⟨ek,en,ei,ea⟩:=t
 cases c2
 ·rcases ea with _|⟨x,ea⟩ <;>
  ·refine co [14,25,34] [] (x:=.of Tryz.f65 wJ rV) ?_;refine oh h1 ?_;refine ob h2 ?_;refine ox hd ?_;refine ob h4 ?_;refine oh h5 ?_;exact fi
 obtain rfl:=hc rfl
 rcases ea with _|⟨x,ea⟩ <;>
 ·refine co [14,17,25,34] [] (x:=.of Tryz.f65 wJ rV) ?_;refine oh h1 ?_;refine ob h2 ?_;refine ob h3 ?_;refine ox hd ?_;refine ob h4 ?_;refine oh h5 ?_;exact fi
theorem Ux {l ds:List ap} {k k2 k3 r v dp:Int} {t:Ty} (h1:KC 64 [ff,iv 6] (fP l k) 1 (XQ ⟨iv r,fP l k2,1⟩)) (h2:bq r 2=false) (hd:bq 0 dp=true) (h4:bq r 4=false)
  (h5:KC 48 [ff,.dat (.slice ds),iv (aH .i64 (dp - 1)),iv 0] (fP l k2) 1 (XQ ⟨.dat t.enc,fP l k3,1⟩)) :
  KC 65 [ff,.dat (.slice ds),iv dp,iv v] (fP l k) 1 (XQ ⟨.dat t.enc,fP l k3,1⟩):=by
 obtain⟨ek,en,ei,ea⟩:=t
 rcases ea with _|⟨x,ea⟩ <;>
 ·refine co [14,25,34] [] (x:=.of Tryz.f65 wJ rV) ?_;refine oh h1 ?_;refine ob h2 ?_;refine ox hd ?_;refine ob h4 ?_;refine oh h5 ?_;exact fi
abbrev bS (l:List ap) (k n r k2:Int):Prop:=KC 64 [ff,iv n] (fP l k) 1 (XQ ⟨iv r,fP l k2,1⟩)
abbrev dT (l ds:List ap) (dp v k:Int) (d:ap) (k2:Int):Prop:=KC 48 [ff,.dat (.slice ds),iv dp,iv v] (fP l k) 1 (XQ ⟨.dat d,fP l k2,1⟩)
abbrev wi (l ds:List ap) (dp v k:Int) (d:ap) (k2:Int):Prop:=KC 83 [ff,.dat (.slice ds),iv dp,iv v] (fP l k) 1 (XQ ⟨.dat d,fP l k2,1⟩)
theorem yO {l ds:List ap} {k k2 k3 v dp i:Int} {c:Bool} {b:List UInt8} (h1:bS l k 14 0 k2) (h2:bq 0 dp=c) (h4:bS l k2 4 i k3)
  (hi:aK (env ay.aN) 60 [.dat (.slice (encS fL)),.dat (.flat (.int .i64 i))]=some ⟨.ref [sb b],.keep⟩):dT l ds dp v k (Ty.mk 2 b 0 []).enc k3:=by
 have h5:=pq b;refine co [17] [29] (x:=.of Tryz.f48 fU dV) ?_;refine oh h1 ?_;refine ox h2 ?_
 cases c <;>
 ·refine oh h4 ?_;refine oo hi ?_;refine on h5 ?_;exact fi
theorem yN {l ds:List ap} {k k2 k3 v dp i:Int} {c:Bool} {b:List UInt8} (h1:bS l k 14 1 k2) (h2:bq 0 dp=c) (h4:bS l k2 4 i k3)
  (hi:aK (env ay.aN) 60 [.dat (.slice (encS fL)),.dat (.flat (.int .i64 i))]=some ⟨.ref [sb b],.keep⟩):dT l ds dp v k (Ty.mk 2 b 0 []).enc k3:=by
 have h5:=pq b;refine co [17] [29] (x:=.of Tryz.f48 fU dV) ?_;refine oh h1 ?_;refine ox h2 ?_
 cases c <;>
 ·refine oh h4 ?_;refine oo hi ?_;refine on h5 ?_;exact fi
theorem MK {l ds:List ap} {k k2 k3 v dp i r:Int} {b:List UInt8} (h1:bS l k 14 r k2) (h2:bq 0 dp=false) (h3:bq 5 r=true) (h4:bS l k2 4 i k3)
  (hi:aK (env ay.aN) 60 [.dat (.slice (encS fL)),.dat (.flat (.int .i64 i))]=some ⟨.ref [sb b],.keep⟩):dT l ds dp v k (Ty.mk 2 b 0 []).enc k3:=by
 have h5:=pq b;refine co [17,20] [29] (x:=.of Tryz.f48 fU dV) ?_;refine oh h1 ?_;refine ox h2 ?_;refine ob h3 ?_;refine oh h4 ?_;refine oo hi ?_;refine on h5 ?_;exact fi
theorem Fv {l ds:List ap} {k k2 v dp:Int} {c:Bool} (h1:bS l k 14 2 k2) (h2:bq 0 dp=c):dT l ds dp v k (Ty.mk 0 [] 0 []).enc k2:=by
 have h5:=AH;refine co [17] [] (x:=.of Tryz.f48 fU dV) ?_;refine oh h1 ?_;refine ox h2 ?_
 cases c <;>
 ·refine on h5 ?_;exact fi
theorem B6 {l ds:List ap} {k k2 k3 v dp i:Int} {c:Bool} (h1:bS l k 14 3 k2) (h2:bq 0 dp=c) (h3:bq 0 v=true) (h4:bS l k2 v i k3):dT l ds dp v k (Ty.mk 5 [] i []).enc k3:=by
 have h5:=CS i;refine co [17,39] [] (x:=.of Tryz.f48 fU dV) ?_;refine oh h1 ?_;refine ox h2 ?_
 cases c <;>
 ·refine ob h3 ?_;refine oh h4 ?_;refine on h5 ?_;exact fi
theorem B9 {l ds:List ap} {k k2 k3 v dp:Int} {c:Bool} {t:Ty} (h1:bS l k 14 3 k2) (h2:bq 0 dp=c) (h3:bq 0 v=false) (h4:wi l ds dp v k2 t.enc k3):dT l ds dp v k t.enc k3:=by
 obtain⟨ek,en,ei,ea⟩:=t
 rcases ea with _|⟨x,ea⟩ <;>
 ·refine co [17,39] [] (x:=.of Tryz.f48 fU dV) ?_;refine oh h1 ?_;refine ox h2 ?_
  cases c <;>
  ·refine ob h3 ?_;refine oh h4 ?_;exact fi
theorem B5 {l ds:List ap} {k k2 k3 v dp i:Int} {c:Bool} (h1:bS l k 14 4 k2) (h2:bq 0 dp=c) (h3:bq 0 v=true) (h4:bS l k2 v i k3):dT l ds dp v k (Ty.mk 5 [] i []).enc k3:=by
 have h5:=CS i;refine co [17,39] [] (x:=.of Tryz.f48 fU dV) ?_;refine oh h1 ?_;refine ox h2 ?_
 cases c <;>
 ·refine ob h3 ?_;refine oh h4 ?_;refine on h5 ?_;exact fi
theorem B8 {l ds:List ap} {k k2 k3 v dp:Int} {c:Bool} {t:Ty} (h1:bS l k 14 4 k2) (h2:bq 0 dp=c) (h3:bq 0 v=false) (h4:wi l ds dp v k2 t.enc k3):dT l ds dp v k t.enc k3:=by
 obtain⟨ek,en,ei,ea⟩:=t
 rcases ea with _|⟨x,ea⟩ <;>
 ·refine co [17,39] [] (x:=.of Tryz.f48 fU dV) ?_;refine oh h1 ?_;refine ox h2 ?_
  cases c <;>
  ·refine ob h3 ?_;refine oh h4 ?_;exact fi
theorem B7 {l ds:List ap} {k k2 k3 v dp:Int} {c:Bool} {t:Ty} (h1:bS l k 14 5 k2) (h2:bq 0 dp=c) (h4:wi l ds dp v k2 t.enc k3):dT l ds dp v k t.enc k3:=by
 obtain⟨ek,en,ei,ea⟩:=t
 rcases ea with _|⟨x,ea⟩ <;>
 ·refine co [17] [] (x:=.of Tryz.f48 fU dV) ?_;refine oh h1 ?_;refine ox h2 ?_
  cases c <;>
  ·refine oh h4 ?_;exact fi
theorem MJ {l ds:List ap} {k k2 k3 v dp:Int} {t:Ty} (h1:bS l k 14 6 k2) (h2:bq 0 dp=true) (h4:wi l ds dp v k2 t.enc k3):dT l ds dp v k t.enc k3:=by
 obtain⟨ek,en,ei,ea⟩:=t
 rcases ea with _|⟨x,ea⟩ <;>
 ·refine co [17] [] (x:=.of Tryz.f48 fU dV) ?_;refine oh h1 ?_;refine ox h2 ?_;refine oh h4 ?_;exact fi
theorem MI {l ds:List ap} {k k2 k3 v dp:Int} {t:Ty} (h1:bS l k 14 7 k2) (h2:bq 0 dp=true) (h4:wi l ds dp v k2 t.enc k3):dT l ds dp v k t.enc k3:=by
 obtain⟨ek,en,ei,ea⟩:=t
 rcases ea with _|⟨x,ea⟩ <;>
 ·refine co [17] [] (x:=.of Tryz.f48 fU dV) ?_;refine oh h1 ?_;refine ox h2 ?_;refine oh h4 ?_;exact fi
theorem O9 {l ds:List ap} {k k2 k3 k4 v dp:Int} {t u:Ty} (h1:bS l k 14 8 k2) (h2:bq 0 dp=true) (h4:dT l ds (aH .i64 (dp - 1)) v k2 t.enc k3) (h5:dT l ds (aH .i64 (dp - 1)) v k3 u.enc k4):dT l ds dp v k (Ty.mk 4 [] 0 [t,u]).enc k4:=by
 have h6:=Mj t.enc [u.enc];obtain⟨ek,en,ei,ea⟩:=t;obtain⟨uk,un,ui,ua⟩:=u
 rcases ea with _|⟨x,ea⟩ <;>
 ·rcases ua with _|⟨y,ua⟩ <;>
  ·refine co [17] [] (x:=.of Tryz.f48 fU dV) ?_;refine oh h1 ?_;refine ox h2 ?_;refine oh h4 ?_;refine oh h5 ?_;refine on h6 ?_;exact fi
theorem O8 {l ds:List ap} {k k2 k3 k4 v dp:Int} {t u:Ty} (h1:bS l k 14 9 k2) (h2:bq 0 dp=true) (h4:dT l ds (aH .i64 (dp - 1)) v k2 t.enc k3) (h5:dT l ds (aH .i64 (dp - 1)) v k3 u.enc k4):dT l ds dp v k (Ty.mk 4 [] 0 [t,u]).enc k4:=by
 have h6:=Mj t.enc [u.enc];obtain⟨ek,en,ei,ea⟩:=t;obtain⟨uk,un,ui,ua⟩:=u
 rcases ea with _|⟨x,ea⟩ <;>
 ·rcases ua with _|⟨y,ua⟩ <;>
  ·refine co [17] [] (x:=.of Tryz.f48 fU dV) ?_;refine oh h1 ?_;refine ox h2 ?_;refine oh h4 ?_;refine oh h5 ?_;refine on h6 ?_;exact fi
noncomputable def Y2:Hints:=⟨ao,fU,aq,rowsOf aq 48⟩
def aec (pre:List Ty):Heap:=[(.loc 10,.cells [iv 3,.dat (sb []),iv 0,QH pre]),(.loc 8,.cells [iv 0,.dat (sb []),iv 0,.dat nl])]
def IC (l ds:List ap) (dp v n K i:Int) (pre:List Ty):ab:=⟨[(12,iv i),(11,iv n),(10,.ptr (.loc 10) 0),(8,.ptr (.loc 8) 0),(0,ff),(1,.dat (.slice ds)),(2,iv dp),(3,iv v)],aec pre,fP l K,1⟩
def KU (l ds:List ap) (dp v n K i:Int) (pre:List Ty):ab:=⟨[(83,bv false),(12,iv i),(11,iv n),(10,.ptr (.loc 10) 0),(8,.ptr (.loc 8) 0),(0,ff),(1,.dat (.slice ds)),(2,iv dp),(3,iv v)],aec pre,fP l K,1⟩
theorem O1 {l ds:List ap} {dp v n K K2 i:Int} {pre:List Ty} {t:Ty} (h1:bq i n=true) (h2:dT l ds (aH .i64 (dp - 1)) v K t.enc K2) (hp:pre.length < 1000000000) {T:Exit->aa->Prop}
  (e:T .normal ((IC l ds dp v n K2 (aH .i64 (i+1)) (pre++[t])).aw Tryz.f48.ntmps)) :
  KD (roundOf Tryz.f48 0) T ((IC l ds dp v n K i pre).aw Tryz.f48.ntmps):=by
 have h3:=UC (t:=t) hp;clear hp
 rcases pre with _|⟨d,r⟩ <;>
 ·refine aC [83] [95] (H:=Y2) (live:=dV) (by kernel_rfl) ?_;refine ob h1 ?_;refine oh h2 ?_;obtain⟨v0,v1,v2,v3⟩:=t;refine oo h3 ?_;exact oe e
theorem U9 {l ds:List ap} {dp v n K i:Int} {pre:List Ty} (h1:bq i n=false) {T:Exit->aa->Prop}
  (e:T (.exit 1) ((KU l ds dp v n K i pre).aw Tryz.f48.ntmps)) :
  KD (roundOf Tryz.f48 0) T ((IC l ds dp v n K i pre).aw Tryz.f48.ntmps):=by
 rcases pre with _|⟨d,r⟩ <;>
 ·refine aC [83] [] (H:=Y2) (live:=dV) (by kernel_rfl) ?_;refine ob h1 ?_;exact oe e
theorem Iv {l ds:List ap} {k k2 k3 k4 v dp n ie:Int} {ts:List Ty} (h1:bS l k 14 10 k2) (h2:bq 0 dp=true) (h4:bS l k2 4 n k3)
  (hl:KD (.loop (roundOf Tryz.f48 0)) (fun e s=>e=.exit 1/\s=(KU l ds dp v n k4 ie ts).aw Tryz.f48.ntmps) ((IC l ds dp v n k3 0 []).aw Tryz.f48.ntmps)):dT l ds dp v k (Ty.mk 3 [] 0 ts).enc k4:=by
 rcases ts with _|⟨x,ea⟩ <;>
 ·refine co [17] [] (x:=.of Tryz.f48 fU dV) ?_;refine oh h1 ?_;refine ox h2 ?_;refine oh h4 ?_;refine lo hl ?_;rintro ex s ⟨rfl,rfl⟩;refine⟨_,rfl,?_⟩;exact fi
theorem Iu {l ds:List ap} {k k2 k3 k4 v dp n ie:Int} {ts:List Ty} (h1:bS l k 14 11 k2) (h2:bq 0 dp=true) (h4:bS l k2 4 n k3)
  (hl:KD (.loop (roundOf Tryz.f48 0)) (fun e s=>e=.exit 1/\s=(KU l ds dp v n k4 ie ts).aw Tryz.f48.ntmps) ((IC l ds dp v n k3 0 []).aw Tryz.f48.ntmps)):dT l ds dp v k (Ty.mk 3 [] 0 ts).enc k4:=by
 rcases ts with _|⟨x,ea⟩ <;>
 ·refine co [17] [] (x:=.of Tryz.f48 fU dV) ?_;refine oh h1 ?_;refine ox h2 ?_;refine oh h4 ?_;refine lo hl ?_;rintro ex s ⟨rfl,rfl⟩;refine⟨_,rfl,?_⟩;exact fi
theorem Pc {l ds:List ap} {k k2 k3 k4 v dp:Int} {u:Ty} (h1:bS l k 14 12 k2) (h2:bq 0 dp=true) (h4:bS l k2 2 0 k3) (h5:dT l ds (aH .i64 (dp - 1)) (aH .i64 (v+1)) k3 u.enc k4):dT l ds dp v k (Ty.mk 6 [] 0 [.mk 0 [] 0 [],u]).enc k4:=by
 have h6:=AH;have h7:=pt (.mk 0 [] 0 []) u;obtain⟨uk,un,ui,ua⟩:=u
 rcases ua with _|⟨y,ua⟩ <;>
 ·refine co [17] [] (x:=.of Tryz.f48 fU dV) ?_;refine oh h1 ?_;refine ox h2 ?_;refine on h6 ?_;refine oh h4 ?_;refine oh h5 ?_;refine on h7 ?_;exact fi
theorem Pb {l ds:List ap} {k k2 k3 k4 k5 v dp:Int} {t u:Ty} (h1:bS l k 14 12 k2) (h2:bq 0 dp=true) (h3:bS l k2 2 1 k3) (h4:dT l ds 1 0 k3 t.enc k4) (h5:dT l ds (aH .i64 (dp - 1)) (aH .i64 (v+1)) k4 u.enc k5):dT l ds dp v k (Ty.mk 6 [] 0 [t,u]).enc k5:=by
 have h6:=AH;have h7:=pt t u;obtain⟨ek,en,ei,ea⟩:=t;obtain⟨uk,un,ui,ua⟩:=u
 rcases ea with _|⟨x,ea⟩ <;>
 ·rcases ua with _|⟨y,ua⟩ <;>
  ·refine co [17] [] (x:=.of Tryz.f48 fU dV) ?_;refine oh h1 ?_;refine ox h2 ?_;refine on h6 ?_;refine oh h3 ?_;refine oh h4 ?_;refine oh h5 ?_;refine on h7 ?_;exact fi
theorem Iw {l ds:List ap} {k k2 k3 v dp:Int} (h1:bS l k 14 13 k2) (h2:bq 0 dp=true) (h4:bS l k2 4 0 k3):dT l ds dp v k (Ty.mk 1 [] 0 []).enc k3:=by
 have h6:=Xl;refine co [17] [] (x:=.of Tryz.f48 fU dV) ?_;refine oh h1 ?_;refine ox h2 ?_;refine oh h4 ?_;refine on h6 ?_;exact fi
def KB:Ty:=.mk 6 [] 0 [.mk 0 [] 0 [],.mk 2 [66,111,120] 0 [.mk 5 [] 0 []]]
theorem MN {l ds:List ap} {k k2 k3 v dp:Int} (h1:bS l k 14 13 k2) (h2:bq 0 dp=true) (h4:bS l k2 4 1 k3):dT l ds dp v k KB.enc k3:=by
 have h5:=AH;have h6:=CS 0;have h7:=AG [66,111,120] (Ty.mk 5 [] 0 []).enc [];have h8:=pt (.mk 0 [] 0 []) (.mk 2 [66,111,120] 0 [.mk 5 [] 0 []]);refine co [17] [] (x:=.of Tryz.f48 fU dV) ?_;refine oh h1 ?_;refine ox h2 ?_;refine oh h4 ?_;refine on h5 ?_;refine on h6 ?_;refine on h7 ?_;refine on h8 ?_;exact fi
theorem MM {l ds:List ap} {k k2 k3 v dp:Int} (h1:bS l k 14 13 k2) (h2:bq 0 dp=true) (h4:bS l k2 4 2 k3):dT l ds dp v k KB.enc k3:=by
 have h5:=AH;have h6:=CS 0;have h7:=AG [66,111,120] (Ty.mk 5 [] 0 []).enc [];have h8:=pt (.mk 0 [] 0 []) (.mk 2 [66,111,120] 0 [.mk 5 [] 0 []]);refine co [17] [] (x:=.of Tryz.f48 fU dV) ?_;refine oh h1 ?_;refine ox h2 ?_;refine oh h4 ?_;refine on h5 ?_;refine on h6 ?_;refine on h7 ?_;refine on h8 ?_;exact fi
theorem ML {l ds:List ap} {k k2 k3 v dp:Int} (h1:bS l k 14 13 k2) (h2:bq 0 dp=true) (h4:bS l k2 4 3 k3):dT l ds dp v k KB.enc k3:=by
 have h5:=AH;have h6:=CS 0;have h7:=AG [66,111,120] (Ty.mk 5 [] 0 []).enc [];have h8:=pt (.mk 0 [] 0 []) (.mk 2 [66,111,120] 0 [.mk 5 [] 0 []]);refine co [17] [] (x:=.of Tryz.f48 fU dV) ?_;refine oh h1 ?_;refine ox h2 ?_;refine oh h4 ?_;refine on h5 ?_;refine on h6 ?_;refine on h7 ?_;refine on h8 ?_;exact fi
mutual
def Ty.from (P:List UInt8->Nat->Prop):Ty->Prop
 | .mk k nm _ args=>(k=2->P nm args.length)/\jR P args
def jR (P:List UInt8->Nat->Prop):List Ty->Prop
 | []=>True
 | t::r=>t.from P/\jR P r
end
theorem Ha {P:List UInt8->Nat->Prop}:∀{l:List Ty},(∀t∈l,t.from P)->jR P l
 | [],_=>trivial
 | t::r,h=>⟨h t (by simp),Ha (fun x hx=>h x (by simp[hx]))⟩
theorem GW:∀{l:List Ty},(∀t∈l,t.dR)->cV l
 | [],_=>by simp[cV]
 | t::r,h=>by simp only[cV];exact⟨h t (by simp),GW (fun x hx=>h x (by simp[hx]))⟩
structure GT (P:List UInt8->Nat->Prop) (N:Nat) (t:Ty) (k k2:Nat):Prop where
 size:t.size+4*k<=4*k2+1
 ix:t.dR
 frm:t.from P
 le:k<=k2
 top:k2<=N
def GR (l:List Int) (P:List UInt8->Nat->Prop) (g:FuncId) (args:List ac) (k:Nat):Prop:=∃t k2,GT P l.length t k k2/\KC g args (fP (l.map iN) (Int.ofNat k)) 1 (XQ ⟨.dat t.enc,fP (l.map iN) (Int.ofNat k2),1⟩)
theorem EY {l:List Int} {P:List UInt8->Nat->Prop} {g:FuncId} {args:List ac} {k:Nat} (hk:k<=l.length) (h:∀k',k<=k'->k'<=l.length->GR l P g args k'):∀n:Nat,∃(ts:List Ty) (ks:Nat->Nat),ts.length=n/\ks 0=k/\k<=ks n/\ks n<=l.length/\aU ts+4*k<=4*ks n+n/\cV ts/\jR P ts ∧
  ∀i t,ts[i]?=some t->KC g args (fP (l.map iN) (Int.ofNat (ks i))) 1 (XQ ⟨.dat t.enc,fP (l.map iN) (Int.ofNat (ks (i+1))),1⟩)
 | 0=>⟨[],fun _=>k,rfl,rfl,Nat.le_refl _,hk,by simp[aU],by simp[cV],trivial,fun i t h=>by simp at h⟩
 | n+1=>by
  obtain⟨ts,ks,h1,h2,h3,h4,h5,h6,h7,h8⟩:=EY hk h n;obtain⟨t,k2,ht,hc⟩:=h (ks n) h3 h4;have hsz:aU (ts++[t])=aU ts+t.size:=by
   have:=jb (l:=ts++[t]) (i:=n) (t:=t) (by rw[←h1];simp)
   rw[show (ts++[t]).take (n+1)=ts++[t] from List.take_of_length_le (by simp;omega),show (ts++[t]).take n=ts by rw[←h1];simp] at this;exact this
  have hmem:∀{Q:Ty->Prop},(∀x∈ts,Q x)->Q t->∀x∈ts++[t],Q x:=by
   intro Q ha hb x hx
   rcases List.mem_append.1 hx with hx|hx
   ·exact ha x hx
   simp at hx;rw[hx];exact hb
  have hto1:∀{l:List Ty},cV l->∀x∈l,x.dR:=by
   intro l
   induction l with
   | nil=>intro _ x hx;simp at hx
   | cons a r ih=>intro h x hx;simp only[cV] at h;rcases List.mem_cons.1 hx with rfl|hx;exact h.1;exact ih h.2 x hx
  have hto2:∀{l:List Ty},jR P l->∀x∈l,x.from P:=by
   intro l
   induction l with
   | nil=>intro _ x hx;simp at hx
   | cons a r ih=>intro h x hx;simp only[jR] at h;rcases List.mem_cons.1 hx with rfl|hx;exact h.1;exact ih h.2 x hx
  refine⟨ts++[t],fun i=>if i<=n then ks i else k2,by simp[h1],by simp[h2],?_,?_,?_,GW (hmem (hto1 h6) ht.ix),Ha (hmem (hto2 h7) ht.frm),?_⟩
  ·have:=ht.le;dsimp only;rw[if_neg (by omega:¬n+1<=n)];omega
  ·have:=ht.top;dsimp only;rw[if_neg (by omega:¬n+1<=n)];omega
  ·have:=ht.size;dsimp only;rw[if_neg (by omega:¬n+1<=n),hsz];omega
  intro i u hu
  by_cases hi:i < n
  ·rw[List.getElem?_append_left (by omega)] at hu;dsimp only;rw[if_pos (by omega:i<=n),if_pos (by omega:i+1<=n)];exact h8 i u hu
  have hin:i=n:=by
   have:=(List.getElem?_eq_some_iff.1 hu).1
   simp at this;omega
  subst hin;rw[List.getElem?_append_right (by omega),h1,Nat.sub_self] at hu;simp at hu;subst hu;dsimp only;rw[if_pos (Nat.le_refl _),if_neg (by omega:¬i+1<=i)];exact hc
theorem fO {a b:Nat} (h:a < b):bq (Int.ofNat a) (Int.ofNat b)=true:=by rw[iE,decide_eq_true h]
theorem jn {a b:Nat} (h:¬a < b):bq (Int.ofNat a) (Int.ofNat b)=false:=by rw[iE,decide_eq_false h]
theorem IY {dp:Int} (h:0 < dp):bq 0 dp=true:=by rw[gr,decide_eq_true h]
theorem Sg {dp:Int} (h:¬0 < dp):bq 0 dp=false:=by rw[gr,decide_eq_false h]
theorem mw {dp:Int} (h1:0<=dp) (h2:dp<=100):aH .i64 (dp - 1)=dp - 1:=by rw[dP,wrap_i64 (by omega) (by omega)]
theorem W1 (i:Nat) (h:i < 4):∃b,fL[i]?=some b/\b∈fL:=⟨fL[i],List.getElem?_eq_getElem h,List.getElem_mem h⟩
theorem Ap {i:Nat} (h:i < 4):∃b,b∈fL/\aK (env ay.aN) 60 [.dat (.slice (encS fL)),.dat (.flat (.int .i64 (Int.ofNat i)))]=some ⟨.ref [sb b],.keep⟩:=by
 obtain⟨b,hb,hm⟩:=W1 i h;exact⟨b,hm,aaB hb⟩
theorem nJ {P:List UInt8->Nat->Prop} {N k k2:Nat} {b:List UInt8} (hP:P b 0) (h1:k<=k2) (h2:k2<=N):GT P N (.mk 2 b 0 []) k k2:=
 ⟨by simp[Ty.size,aU];omega,by simp[Ty.dR,cV,aP],by simp[Ty.from,jR];exact hP,h1,h2⟩
theorem AE {P:List UInt8->Nat->Prop} {N k k2 i:Nat} (hi:i < 100) (h1:k<=k2) (h2:k2<=N):GT P N (.mk 5 [] (Int.ofNat i) []) k k2:=
 ⟨by simp[Ty.size,aU];omega,by simp only[Ty.dR,cV];exact⟨fun _=>fO hi,trivial⟩,by simp[Ty.from,jR],h1,h2⟩
section
variable {l:List Int} {ds:List aQ} {P:List UInt8->Nat->Prop} (hl:l.length < 10000000) (hds:ds.length < 1000) (har:∀d∈ds,∃n:Nat,d.ar=Int.ofNat n/\n<=4/\P d.nm n) (hP0:∀b∈fL,P b 0) (hPB:P [66,111,120] 1)
def aA (ds:List aQ) (dp:Int) (v:Nat):List ac:=[ff,.dat (.slice (aL ds)),iv dp,iv (Int.ofNat v)]
include hl hds har hP0
theorem GG {k:Nat} (hk:k<=l.length) {dp:Int} {v:Nat} (h0:0<=dp) (h3:dp<=3) (ih:∀k',k < k'->k'<=l.length->GR l P 65 (aA ds (dp - 1) v) k'):GR l P 83 (aA ds dp v) k:=by
 have hw:aH .i64 (Int.ofNat (aL ds).length+4)=Int.ofNat (ds.length+4):=by
  rw[aY,dP];exact wrap_i64 (by simp;omega) (by simp;omega)
 obtain⟨r,k2,⟨hr,hk2,hk3,hk4⟩,hc⟩:=eX (n:=ds.length+4) (by omega:l.length < 1000000000) hk (by omega) (by omega);rw[←hw] at hc
 by_cases h4:r < 4
 ·obtain⟨b,hb,hi⟩:=Ap h4;exact⟨_,k2,nJ (hP0 b hb) hk2 hk3,Si hc (fO h4) hi⟩
 have hlt:r - 4 < ds.length:=by omega
 have hg:ds[r - 4]?=some ds[r - 4]:=List.getElem?_eq_getElem hlt;obtain⟨n,hn,hn4,hPn⟩:=har _ (List.getElem_mem hlt);have hkk:=hk4 (by omega);obtain⟨ts,ks,c1,c2,c3,c4,c5,c6,c7,c8⟩:=EY (g:=65) (args:=aA ds (dp - 1) v) (P:=P) hk3 (fun k' hk' hkl=>ih k' (by omega) hkl) n;have hi:=qZ hg;have hw2:Int.ofNat (r - 4)=aH .i64 (Int.ofNat r - 4):=by
  rw[dP,wrap_i64 (by simp;omega) (by simp;omega)];simp;omega
 rw[hw2] at hi;generalize ds[r - 4]=d at *;obtain⟨nm,ar,⟨kk,tn,ix,la⟩,con,fl⟩:=d;dsimp only at hn hPn;subst hn;refine⟨.mk 2 nm 0 ts,ks n,⟨by simp only[Ty.size];omega,by simp only[Ty.dR];exact⟨by simp[aP],c6⟩,by simp only[Ty.from];exact⟨fun _=>by rw[c1];exact hPn,c7⟩,by omega,c4⟩,?_⟩;refine Sj (la:=au la) (lb:=aJ fl) (ie:=Int.ofNat n) hc (jn h4) hi ?_;rw[←c2];refine bb (St:=fun i=>(Pw (loN (Jt (cellsD nm (Int.ofNat n) kk tn ix (au la) con (aJ fl))) nm (ts.take i)) (l.map iN) (aL ds) dp (Int.ofNat v) (Int.ofNat (ks i)) (Int.ofNat i)).aw Tryz.f83.ntmps) n ?_ ?_ (i:=0) (Nat.zero_le _)
 ·intro i hi2;have hti:ts[i]?=some ts[i]:=List.getElem?_eq_getElem (by omega);have hci:=c8 i _ hti;have hwp:dp - 1=aH .i64 (dp - 1):=(mw h0 (by omega)).symm;unfold aA at hci;rw[hwp] at hci;refine Sd (fO hi2) hci (by rw[List.length_take];omega) ?_;rw[bg (by omega),←dC hti];exact rfl
 refine VQ (jn (by omega)) ⟨rfl,?_⟩;rw[List.take_of_length_le (by omega)]
omit hds har in
theorem Uy {k:Nat} (hk:k<=l.length) {dp:Int} {v:Nat} (h0:-1<=dp) (h3:dp<=3) (hv:v < 100) (ihn:0 < dp->∀k',k<=k'->k'<=l.length->GR l P 83 (aA ds dp v) k') (iht:0 < dp->∀k',k < k'->k'<=l.length->GR l P 48 (aA ds (dp - 1) 0) k'):GR l P 65 (aA ds dp v) k:=by
 obtain⟨r,k2,⟨hr,hk2,hk3,hk4⟩,hc⟩:=eX (n:=6) (by omega:l.length < 1000000000) hk (by omega) (by omega)
 by_cases hv0:r < 2/\0 < v
 ·obtain⟨i,k3,⟨hi,hk5,hk6,hk7⟩,hc2⟩:=eX (n:=v) (by omega:l.length < 1000000000) hk3 hv0.2 (by omega);exact⟨_,k3,AE (by omega) (by omega) hk6,X6 hc (fO hv0.1) (fO (a:=0) hv0.2) hc2⟩
 have hcc:bq (Int.ofNat r) (Int.ofNat 2)=true->bq (Int.ofNat 0) (Int.ofNat v)=false:=by
  intro h;rw[iE,decide_eq_true_eq] at h;exact jn (by omega)
 by_cases hdp:0 < dp
 ·by_cases hr4:r < 4
  ·obtain⟨t,k3,ht,hct⟩:=ihn hdp k2 hk2 hk3;refine⟨t,k3,⟨?_,ht.ix,ht.frm,?_,ht.top⟩,OB hc rfl rfl hcc (IY hdp) (fO hr4) hct⟩
   ·have:=ht.size;omega
   have:=ht.le;omega
  obtain⟨t,k3,ht,hct⟩:=iht hdp k2 (hk4 (by omega)) hk3;unfold aA at hct;rw[←mw (by omega:0<=dp) (by omega)] at hct;refine⟨t,k3,⟨?_,ht.ix,ht.frm,?_,ht.top⟩,Ux hc (jn (b:=2) (by omega)) (IY hdp) (jn hr4) hct⟩
  ·have:=ht.size;omega
  have:=ht.le;omega
 obtain⟨i,k3,⟨hi,hk5,hk6,hk7⟩,hc2⟩:=eX (n:=4) (by omega:l.length < 1000000000) hk3 (by omega) (by omega);obtain⟨b,hb,hix⟩:=Ap hi;exact⟨_,k3,nJ (hP0 b hb) (by omega) hk6,Uz hc rfl rfl hcc (Sg hdp) hc2 hix⟩
omit hds har in
include hPB in
theorem KR {k:Nat} (hk:k<=l.length) {dp:Int} {v:Nat} (h0:0<=dp) (h3:dp<=3) (hv:v+dp<=10) (ihn:∀k',k < k'->k'<=l.length->GR l P 83 (aA ds dp v) k')
  (iht:∀k',k < k'->k'<=l.length->∀(dp:Int) (v:Nat),0<=dp->dp<=3->v+dp<=10->GR l P 48 (aA ds dp v) k'):GR l P 48 (aA ds dp v) k:=by
 obtain⟨r,k2,⟨hr,hk2,hk3,hk4⟩,hc⟩:=eX (n:=14) (by omega:l.length < 1000000000) hk (by omega) (by omega);have leaf:∃i k3 b,(k2<=k3/\k3<=l.length/\P b 0)/\bS (l.map iN) (Int.ofNat k2) 4 (Int.ofNat i) (Int.ofNat k3)/\aK (env ay.aN) 60 [.dat (.slice (encS fL)),.dat (.flat (.int .i64 (Int.ofNat i)))]=some ⟨.ref [sb b],.keep⟩:=by
  obtain⟨i,k3,⟨hi,hk5,hk6,hk7⟩,hc2⟩:=eX (n:=4) (by omega:l.length < 1000000000) hk3 (by omega) (by omega);obtain⟨b,hb,hix⟩:=Ap hi;exact⟨i,k3,b,⟨hk5,hk6,hP0 b hb⟩,hc2,hix⟩
 have hnam:∀{c:Nat},0 < r->∃t k3,GT P l.length t k k3/\wi (l.map iN) (aL ds) dp (Int.ofNat v) (Int.ofNat k2) t.enc (Int.ofNat k3):=by
  intro c h;obtain⟨t,k3,ht,hct⟩:=ihn k2 (hk4 h) hk3;exact⟨t,k3,⟨by have:=ht.size;omega,ht.ix,ht.frm,by have:=ht.le;omega,ht.top⟩,hct⟩
 by_cases hdp:0 < dp
 ·have hd:=IY hdp;have sub:∀(k':Nat),k < k'->k'<=l.length->∃t k3,GT P l.length t k' k3/\dT (l.map iN) (aL ds) (aH .i64 (dp - 1)) (Int.ofNat v) (Int.ofNat k') t.enc (Int.ofNat k3):=by
   intro k' h1 h2;obtain⟨t,k3,ht,hct⟩:=iht k' h1 h2 (dp - 1) v (by omega) (by omega) (by omega);rw[mw (by omega) (by omega)];exact⟨t,k3,ht,hct⟩
  have hcase:r=0∨r=1∨r=2∨r=3∨r=4∨r=5∨r=6∨r=7∨r=8∨r=9∨r=10∨r=11∨r=12∨r=13:=by omega
  have hun:0 < r->∃t u k3 k4,GT P l.length (.mk 4 [] 0 [t,u]) k k4/\dT (l.map iN) (aL ds) (aH .i64 (dp - 1)) (Int.ofNat v) (Int.ofNat k2) t.enc (Int.ofNat k3)/\dT (l.map iN) (aL ds) (aH .i64 (dp - 1)) (Int.ofNat v) (Int.ofNat k3) u.enc (Int.ofNat k4):=by
   intro h;have hkk:=hk4 h;obtain⟨t,k3,ht,hct⟩:=sub k2 hkk hk3;obtain⟨u,k4,hu,hcu⟩:=sub k3 (by have:=ht.le;omega) ht.top;refine⟨t,u,k3,k4,⟨?_,?_,?_,?_,hu.top⟩,hct,hcu⟩
   ·have:=ht.size;have:=hu.size;simp only[Ty.size,aU];omega
   ·simp only[Ty.dR,cV];exact⟨by simp[aP],ht.ix,hu.ix,trivial⟩
   ·simp only[Ty.from,jR];exact⟨fun h=>by simp at h,ht.frm,hu.frm,trivial⟩
   have:=ht.le;have:=hu.le;omega
  have htup:0 < r->∃n k3 ts k4,bS (l.map iN) (Int.ofNat k2) 4 n (Int.ofNat k3)/\GT P l.length (.mk 3 [] 0 ts) k k4/\KD (.loop (roundOf Tryz.f48 0)) (fun e s=>e=.exit 1/\s=(KU (l.map iN) (aL ds) dp (Int.ofNat v) n (Int.ofNat k4) n ts).aw Tryz.f48.ntmps) ((IC (l.map iN) (aL ds) dp (Int.ofNat v) n (Int.ofNat k3) 0 []).aw Tryz.f48.ntmps):=by
   intro h;have hkk:=hk4 h;obtain⟨n,k3,⟨hn,hk5,hk6,hk7⟩,hc2⟩:=eX (n:=4) (by omega:l.length < 1000000000) hk3 (by omega) (by omega);obtain⟨ts,ks,c1,c2,c3,c4,c5,c6,c7,c8⟩:=EY (g:=48) (args:=aA ds (dp - 1) v) (P:=P) hk6 (fun k' h1 h2=>iht k' (by omega) h2 (dp - 1) v (by omega) (by omega) (by omega)) n;refine⟨_,k3,ts,ks n,hc2,⟨by simp only[Ty.size];omega,by simp only[Ty.dR];exact⟨by simp[aP],c6⟩,by simp only[Ty.from];exact⟨fun h=>by simp at h,c7⟩,by omega,c4⟩,?_⟩;rw[←c2];refine bb (St:=fun i=>(IC (l.map iN) (aL ds) dp (Int.ofNat v) (Int.ofNat n) (Int.ofNat (ks i)) (Int.ofNat i) (ts.take i)).aw Tryz.f48.ntmps) n ?_ ?_ (i:=0) (Nat.zero_le _)
   ·intro i hi2;have hti:ts[i]?=some ts[i]:=List.getElem?_eq_getElem (by omega);have hci:=c8 i _ hti;unfold aA at hci;rw[←mw h0 (by omega)] at hci;refine O1 (fO hi2) hci (by rw[List.length_take];omega) ?_;rw[bg (by omega),←dC hti];exact rfl
   refine U9 (jn (by omega)) ⟨rfl,?_⟩;rw[List.take_of_length_le (by omega)]
  rcases hcase with rfl|rfl|rfl|rfl|rfl|rfl|rfl|rfl|rfl|rfl|rfl|rfl|rfl|rfl
  ·obtain⟨i,k3,b,⟨g1,g2,g3⟩,hc2,hix⟩:=leaf;exact⟨_,k3,nJ g3 (by omega) g2,yO hc rfl hc2 hix⟩
  ·obtain⟨i,k3,b,⟨g1,g2,g3⟩,hc2,hix⟩:=leaf;exact⟨_,k3,nJ g3 (by omega) g2,yN hc rfl hc2 hix⟩
  ·exact⟨_,k2,⟨by simp[Ty.size,aU];omega,by simp[Ty.dR,cV,aP],by simp[Ty.from,jR],hk2,hk3⟩,Fv hc rfl⟩
  ·by_cases hv0:0 < v
   ·obtain⟨i,k3,⟨hi,hk5,hk6,hk7⟩,hc2⟩:=eX (n:=v) (by omega:l.length < 1000000000) hk3 hv0 (by omega);exact⟨_,k3,AE (by omega) (by omega) hk6,B6 hc rfl (fO (a:=0) hv0) hc2⟩
   obtain⟨t,k3,ht,hct⟩:=hnam (c:=0) (by omega);exact⟨t,k3,ht,B9 hc rfl (jn (a:=0) hv0) hct⟩
  ·by_cases hv0:0 < v
   ·obtain⟨i,k3,⟨hi,hk5,hk6,hk7⟩,hc2⟩:=eX (n:=v) (by omega:l.length < 1000000000) hk3 hv0 (by omega);exact⟨_,k3,AE (by omega) (by omega) hk6,B5 hc rfl (fO (a:=0) hv0) hc2⟩
   obtain⟨t,k3,ht,hct⟩:=hnam (c:=0) (by omega);exact⟨t,k3,ht,B8 hc rfl (jn (a:=0) hv0) hct⟩
  ·obtain⟨t,k3,ht,hct⟩:=hnam (c:=0) (by omega);exact⟨t,k3,ht,B7 hc rfl hct⟩
  ·obtain⟨t,k3,ht,hct⟩:=hnam (c:=0) (by omega);exact⟨t,k3,ht,MJ hc hd hct⟩
  ·obtain⟨t,k3,ht,hct⟩:=hnam (c:=0) (by omega);exact⟨t,k3,ht,MI hc hd hct⟩
  ·obtain⟨t,u,k3,k4,g,ht,hu⟩:=hun (by omega);exact⟨_,k4,g,O9 hc hd ht hu⟩
  ·obtain⟨t,u,k3,k4,g,ht,hu⟩:=hun (by omega);exact⟨_,k4,g,O8 hc hd ht hu⟩
  ·obtain⟨n,k3,ts,k4,hn,g,hlp⟩:=htup (by omega);exact⟨_,k4,g,Iv hc hd hn hlp⟩
  ·obtain⟨n,k3,ts,k4,hn,g,hlp⟩:=htup (by omega);exact⟨_,k4,g,Iu hc hd hn hlp⟩
  ·have hkk:=hk4 (by omega);obtain⟨i,k3,⟨hi,hk5,hk6,hk7⟩,hc2⟩:=eX (n:=2) (by omega:l.length < 1000000000) hk3 (by omega) (by omega);have hwv:aH .i64 (Int.ofNat v+1)=Int.ofNat (v+1):=bg (by omega);have hwp:aH .i64 (dp - 1)=dp - 1:=mw h0 (by omega)
   by_cases hi0:i=0
   ·subst hi0;obtain⟨u,k4,hu,hcu⟩:=iht k3 (by omega) hk6 (dp - 1) (v+1) (by omega) (by omega) (by omega);refine⟨_,k4,⟨?_,?_,?_,?_,hu.top⟩,Pc hc hd hc2 (by rw[hwp,hwv];exact hcu)⟩
    ·have:=hu.size;simp only[Ty.size,aU];omega
    ·simp only[Ty.dR,cV];exact⟨by simp[aP],⟨by simp[aP],trivial⟩,hu.ix,trivial⟩
    ·simp only[Ty.from,jR];exact⟨fun h=>by simp at h,⟨fun h=>by simp at h,trivial⟩,hu.frm,trivial⟩
    have:=hu.le;omega
   have hi1:i=1:=by omega
   subst hi1;obtain⟨t,k4,ht,hct⟩:=iht k3 (by omega) hk6 1 0 (by omega) (by omega) (by omega);obtain⟨u,k5,hu,hcu⟩:=iht k4 (by have:=ht.le;omega) ht.top (dp - 1) (v+1) (by omega) (by omega) (by omega);refine⟨_,k5,⟨?_,?_,?_,?_,hu.top⟩,Pb hc hd hc2 hct (by rw[hwp,hwv];exact hcu)⟩
   ·have:=ht.size;have:=hu.size;simp only[Ty.size,aU];omega
   ·simp only[Ty.dR,cV];exact⟨by simp[aP],ht.ix,hu.ix,trivial⟩
   ·simp only[Ty.from,jR];exact⟨fun h=>by simp at h,ht.frm,hu.frm,trivial⟩
   have:=ht.le;have:=hu.le;omega
  have hkk:=hk4 (by omega);obtain⟨i,k3,⟨hi,hk5,hk6,hk7⟩,hc2⟩:=eX (n:=4) (by omega:l.length < 1000000000) hk3 (by omega) (by omega);have gb:GT P l.length KB k k3:=⟨by simp[KB,Ty.size,aU];omega,by simp[KB,Ty.dR,cV,aP,bq],by simp[KB,Ty.from,jR];exact hPB,by omega,hk6⟩;have hic:i=0∨i=1∨i=2∨i=3:=by omega
  rcases hic with rfl|rfl|rfl|rfl
  ·exact⟨_,k3,⟨by simp[Ty.size,aU];omega,by simp[Ty.dR,cV,aP],by simp[Ty.from,jR],by omega,hk6⟩,Iw hc hd hc2⟩
  ·exact⟨_,k3,gb,MN hc hd hc2⟩
  ·exact⟨_,k3,gb,MM hc hd hc2⟩
  exact⟨_,k3,gb,ML hc hd hc2⟩
 have hd:=Sg hdp
 by_cases h5:5 < r
 ·obtain⟨i,k3,b,⟨g1,g2,g3⟩,hc2,hix⟩:=leaf;exact⟨_,k3,nJ g3 (by omega) g2,MK hc hd (fO (a:=5) h5) hc2 hix⟩
 have hcase:r=0∨r=1∨r=2∨r=3∨r=4∨r=5:=by omega
 rcases hcase with rfl|rfl|rfl|rfl|rfl|rfl
 ·obtain⟨i,k3,b,⟨g1,g2,g3⟩,hc2,hix⟩:=leaf;exact⟨_,k3,nJ g3 (by omega) g2,yO hc rfl hc2 hix⟩
 ·obtain⟨i,k3,b,⟨g1,g2,g3⟩,hc2,hix⟩:=leaf;exact⟨_,k3,nJ g3 (by omega) g2,yN hc rfl hc2 hix⟩
 ·exact⟨_,k2,⟨by simp[Ty.size,aU];omega,by simp[Ty.dR,cV,aP],by simp[Ty.from,jR],hk2,hk3⟩,Fv hc rfl⟩
 ·by_cases hv0:0 < v
  ·obtain⟨i,k3,⟨hi,hk5,hk6,hk7⟩,hc2⟩:=eX (n:=v) (by omega:l.length < 1000000000) hk3 hv0 (by omega);exact⟨_,k3,AE (by omega) (by omega) hk6,B6 hc rfl (fO (a:=0) hv0) hc2⟩
  obtain⟨t,k3,ht,hct⟩:=hnam (c:=0) (by omega);exact⟨t,k3,ht,B9 hc rfl (jn (a:=0) hv0) hct⟩
 ·by_cases hv0:0 < v
  ·obtain⟨i,k3,⟨hi,hk5,hk6,hk7⟩,hc2⟩:=eX (n:=v) (by omega:l.length < 1000000000) hk3 hv0 (by omega);exact⟨_,k3,AE (by omega) (by omega) hk6,B5 hc rfl (fO (a:=0) hv0) hc2⟩
  obtain⟨t,k3,ht,hct⟩:=hnam (c:=0) (by omega);exact⟨t,k3,ht,B8 hc rfl (jn (a:=0) hv0) hct⟩
 obtain⟨t,k3,ht,hct⟩:=hnam (c:=0) (by omega);exact⟨t,k3,ht,B7 hc rfl hct⟩
include hPB in
theorem Mh:∀(m k:Nat),k<=l.length->l.length - k<=m->
  (∀(dp:Int) (v:Nat),0<=dp->dp<=3->v+dp<=10->GR l P 83 (aA ds dp v) k)/\(∀(dp:Int) (v:Nat),-1<=dp->dp<=3->v+dp<=10->GR l P 65 (aA ds dp v) k)/\(∀(dp:Int) (v:Nat),0<=dp->dp<=3->v+dp<=10->GR l P 48 (aA ds dp v) k):=by
 intro m
 induction m with
 | zero=>
  intro k hk hm;have hn:∀(dp:Int) (v:Nat),0<=dp->dp<=3->v+dp<=10->GR l P 83 (aA ds dp v) k:=fun dp v h0 h3 hv=>GG hl hds har hP0 hk h0 h3 (fun k' h1 h2=>by omega)
  refine⟨hn,?_,?_⟩
  ·intro dp v h0 h3 hv;refine Uy hl hP0 hk h0 h3 (by omega) (fun hp k' h1 h2=>?_) (fun hp k' h1 h2=>by omega)
   have:k'=k:=by omega
   subst this;exact hn dp v (by omega) h3 hv
  intro dp v h0 h3 hv;exact KR hl hP0 hPB hk h0 h3 hv (fun k' h1 h2=>by omega) (fun k' h1 h2=>by omega)
 | succ m ih=>
  intro k hk hm;have hn:∀(dp:Int) (v:Nat),0<=dp->dp<=3->v+dp<=10->GR l P 83 (aA ds dp v) k:=fun dp v h0 h3 hv=>GG hl hds har hP0 hk h0 h3 (fun k' h1 h2=>(ih k' h2 (by omega)).2.1 _ _ (by omega) (by omega) (by omega))
  refine⟨hn,?_,?_⟩
  ·intro dp v h0 h3 hv;refine Uy hl hP0 hk h0 h3 (by omega) (fun hp k' h1 h2=>?_) (fun hp k' h1 h2=>(ih k' h2 (by omega)).2.2 _ _ (by omega) (by omega) (by omega))
   by_cases hkk:k'=k
   ·subst hkk;exact hn dp v (by omega) h3 hv
   exact (ih k' h2 (by omega)).1 _ _ (by omega) h3 hv
  intro dp v h0 h3 hv;exact KR hl hP0 hPB hk h0 h3 hv (fun k' h1 h2=>(ih k' h2 (by omega)).1 _ _ h0 h3 hv) (fun k' h1 h2 dp v a b c=>(ih k' h2 (by omega)).2.2 _ _ a b c)
end
def bF:List aQ:=[⟨[66,111,120],1,(.mk 0 [] 0 []),false,[]⟩,
 ⟨[67,101,108,108],1,(.mk 2 [66,111,120] 0 [(.mk 5 [] 0 [])]),true,[⟨[105,116,101,109],(.mk 5 [] 0 [])⟩]⟩,
 ⟨[73,110,116,66,111,120],0,(.mk 2 [66,111,120] 0 [(.mk 2 [73,110,116] 0 [])]),true,[⟨[105,116,101,109],(.mk 2 [73,110,116] 0 [])⟩]⟩,
 ⟨[83,104,97,112,101],0,(.mk 0 [] 0 []),false,[]⟩,
 ⟨[68,111,116],0,(.mk 2 [83,104,97,112,101] 0 []),true,[]⟩,
 ⟨[68,105,115,107],0,(.mk 2 [83,104,97,112,101] 0 []),true,[⟨[114,97,100,105,117,115],(.mk 2 [73,110,116] 0 [])⟩]⟩,
 ⟨[80,97,105,114],2,(.mk 0 [] 0 []),true,[⟨[102,105,114,115,116],(.mk 5 [] 0 [])⟩,⟨[115,101,99,111,110,100],(.mk 5 [] 1 [])⟩]⟩,
 ⟨[78,101,115,116],1,(.mk 2 [66,111,120] 0 [(.mk 2 [66,111,120] 0 [(.mk 5 [] 0 [])])]),true,[⟨[105,110,110,101,114],(.mk 2 [66,111,120] 0 [(.mk 5 [] 0 [])])⟩]⟩]
theorem Tf:ag 43 [] (.own (aL bF)):=br _ _ _ _ _ (by kernel_rfl)
noncomputable def S8:Hints:=⟨ao,Lx,aq,rowsOf aq 28⟩
def lV (l:List ap) (ds:List ap) (K n i:Int):ab:=⟨[(6,iv i),(5,iv n),(0,ff),(1,.own ds)],[],fP l K,1⟩
def LK (b:List UInt8) (ar kk:Int) (tn:List UInt8) (A:ac) (con:Bool) (F:ac):Heap:=[(.loc 7,.cells [.dat (sb b),iv ar,iv kk,.dat (sb tn),iv 0,A,.dat (bl con),F])]
def Dy (lo:Heap) (l ds:List ap) (K n i j:Int) (pre:List aQ):ab:=⟨[(9,iv j),(8,Gm pre),(7,.ptr (.loc 7) 0),(6,iv i),(5,iv n),(0,ff),(1,.own ds)],lo,fP l K,1⟩
def FC (lo:Heap) (l ds:List ap) (K n i j:Int) (pre:List aQ):ab:=⟨[(35,bv false),(9,iv j),(8,Gm pre),(7,.ptr (.loc 7) 0),(6,iv i),(5,iv n),(0,ff),(1,.own ds)],lo,fP l K,1⟩
theorem To {b:List UInt8} {ar K n i j:Int} {con:Bool} {l:List ap} {ds pre:List aQ} {t:aQ} (h1:bq j (Int.ofNat (aL ds).length)=true) (hi:aK (env ay.aN) 23 [.dat (.slice (aL ds)),.dat (.flat (.int .i64 j))]=some ⟨.ref t.cells,.keep⟩) (hp:pre.length < 1000000000) {T:Exit->aa->Prop}
  (e1:t.con=true->T .normal ((Dy (LK b ar 0 [] (.dat nl) con (.dat nl)) l (aL ds) K n i (aH .i64 (j+1)) pre).aw Tryz.f28.ntmps))
  (e2:t.con=false->T .normal ((Dy (LK b ar 0 [] (.dat nl) con (.dat nl)) l (aL ds) K n i (aH .i64 (j+1)) (pre++[t])).aw Tryz.f28.ntmps)) :
  KD (roundOf Tryz.f28 1) T ((Dy (LK b ar 0 [] (.dat nl) con (.dat nl)) l (aL ds) K n i j pre).aw Tryz.f28.ntmps):=by
 have h3:=Fb (t:=t) hp;clear hp;generalize aL ds=es at *;obtain⟨nm,ar2,⟨kk,tn,ix,la⟩,con2,fl⟩:=t
 rcases pre with _|⟨d,r⟩ <;>
 ·refine aC [35] [40,47,50] (H:=S8) (live:=jk) (by kernel_rfl) ?_;refine ob h1 ?_;refine oo hi ?_
  cases con2
  ·refine oo hi ?_;refine oo h3 ?_;exact oe (e2 rfl)
  exact oe (e1 rfl)
theorem Xx {b:List UInt8} {ar K n i j:Int} {con:Bool} {l ds:List ap} {pre:List aQ} (h1:bq j (Int.ofNat ds.length)=false) {T:Exit->aa->Prop}
  (e:T (.exit 2) ((FC (LK b ar 0 [] (.dat nl) con (.dat nl)) l ds K n i j pre).aw Tryz.f28.ntmps)) :
  KD (roundOf Tryz.f28 1) T ((Dy (LK b ar 0 [] (.dat nl) con (.dat nl)) l ds K n i j pre).aw Tryz.f28.ntmps):=by
 rcases pre with _|⟨d,r⟩ <;>
 ·refine aC [35] [] (H:=S8) (live:=jk) (by kernel_rfl) ?_;refine ob h1 ?_;exact oe e
def vt (cs:List ac) (b:List UInt8) (ar:Int) (tn:List UInt8) (pre:List Ty) (con:Bool):Heap:=[(.loc 10,.cells cs),(.loc 7,.cells [.dat (sb b),iv ar,iv 2,.dat (sb tn),iv 0,QH pre,.dat (bl con),.dat nl])]
def Fz (lo:Heap) (l ds:List ap) (K n i j:Int):ab:=⟨[(11,iv j),(10,.ptr (.loc 10) 0),(7,.ptr (.loc 7) 0),(6,iv i),(5,iv n),(0,ff),(1,.own ds)],lo,fP l K,1⟩
def Fy (lo:Heap) (l ds:List ap) (K n i j:Int):ab:=⟨[(65,bv false),(11,iv j),(10,.ptr (.loc 10) 0),(7,.ptr (.loc 7) 0),(6,iv i),(5,iv n),(0,ff),(1,.own ds)],lo,fP l K,1⟩
abbrev acW (l ds:List ap) (dp v k:Int) (d:ap) (k2:Int):Prop:=KC 65 [ff,.dat (.slice ds),iv dp,iv v] (fP l k) 1 (XQ ⟨.dat d,fP l k2,1⟩)
theorem PY {b nm tn tn2:List UInt8} {ar ar2 kk ix K K2 n i j:Int} {con con2:Bool} {l ds la lb:List ap} {pre:List Ty} {t:Ty} (h1:bq j ar2=true) (h2:acW l ds 1 ar K t.enc K2) (hp:pre.length < 1000000000) {T:Exit->aa->Prop}
  (e:T .normal ((Fz (vt (cellsD nm ar2 kk tn2 ix la con2 lb) b ar tn (pre++[t]) con) l ds K2 n i (aH .i64 (j+1))).aw Tryz.f28.ntmps)) :
  KD (roundOf Tryz.f28 2) T ((Fz (vt (cellsD nm ar2 kk tn2 ix la con2 lb) b ar tn pre con) l ds K n i j).aw Tryz.f28.ntmps):=by
 have h3:=UC (t:=t) hp;clear hp
 rcases pre with _|⟨d,r⟩ <;>
 ·refine aC [65] [77] (H:=S8) (live:=jk) (by kernel_rfl) ?_;refine ob h1 ?_;refine oh h2 ?_;obtain⟨v0,v1,v2,v3⟩:=t;refine oo h3 ?_;exact oe e
theorem Vn {b nm tn tn2:List UInt8} {ar ar2 kk ix K n i j:Int} {con con2:Bool} {l ds la lb:List ap} {pre:List Ty} (h1:bq j ar2=false) {T:Exit->aa->Prop}
  (e:T (.exit 4) ((Fy (vt (cellsD nm ar2 kk tn2 ix la con2 lb) b ar tn pre con) l ds K n i j).aw Tryz.f28.ntmps)) :
  KD (roundOf Tryz.f28 2) T ((Fz (vt (cellsD nm ar2 kk tn2 ix la con2 lb) b ar tn pre con) l ds K n i j).aw Tryz.f28.ntmps):=by
 rcases pre with _|⟨d,r⟩ <;>
 ·refine aC [65] [] (H:=S8) (live:=jk) (by kernel_rfl) ?_;refine ob h1 ?_;exact oe e
theorem acA {l:List ap} {ds:List aQ} {k k2 k3 k4 n i ar:Int} {b:List UInt8} (h1:bq i n=true) (hS:aK (env ay.aN) 60 [.dat (.slice (encS iK)),.dat (.flat (.int .i64 i))]=some ⟨.ref [sb b],.keep⟩)
  (n1:bS l k 3 ar k2) (n2:bS l k2 2 0 k3) (n3:bS l k3 3 0 k4)
  (hp:ds.length < 1000000000) {T:Exit->aa->Prop} (e:T .normal ((lV l (aL (ds++[⟨b,ar,(.mk 0 [] 0 []),false,[]⟩])) k4 n (aH .i64 (i+1))).aw Tryz.f28.ntmps)) :
  KD (roundOf Tryz.f28 0) T ((lV l (aL ds) k n i).aw Tryz.f28.ntmps):=by
 have h9:=Fb (t:=⟨b,ar,(.mk 0 [] 0 []),false,[]⟩) hp;clear hp;refine aC [16] [21,98] (H:=S8) (live:=jk) (by kernel_rfl) ?_;refine ob h1 ?_;refine oo hS ?_;refine oh n1 ?_;refine oh n2 ?_;refine oh n3 ?_;refine oo h9 ?_;exact oe e
theorem acz {l:List ap} {ds abs:List aQ} {a ah:aQ} {k k2 k3 k4 k5 k6 n i ar sp ai ej ek:Int} {b:List UInt8} {ts:List Ty} (h1:bq i n=true) (hS:aK (env ay.aN) 60 [.dat (.slice (encS iK)),.dat (.flat (.int .i64 i))]=some ⟨.ref [sb b],.keep⟩)
  (n1:bS l k 3 ar k2) (n2:bS l k2 2 0 k3) (n3:bS l k3 3 sp k4) (hsp:bq 0 sp=true)
  (hl:KD (.loop (roundOf Tryz.f28 1)) (fun e s=>e=.exit 2/\s=(FC (LK b ar 0 [] (.dat nl) false (.dat nl)) l (aL ds) k4 n i ej (ah::abs)).aw Tryz.f28.ntmps) ((Dy (LK b ar 0 [] (.dat nl) false (.dat nl)) l (aL ds) k4 n i 0 []).aw Tryz.f28.ntmps))
  (n5:bS l k4 (Int.ofNat (aL (ah::abs)).length) ai k5) (hi:aK (env ay.aN) 23 [.dat (.slice (aL (ah::abs))),.dat (.flat (.int .i64 ai))]=some ⟨.ref a.cells,.keep⟩)
  (hl2:KD (.loop (roundOf Tryz.f28 2)) (fun e s=>e=.exit 4/\s=(Fy (vt (cellsD a.nm a.ar a.sup.kind a.sup.nm a.sup.Et (au a.sup.args) a.con (aJ a.fl)) b ar a.nm ts false) l (aL ds) k6 n i ek).aw Tryz.f28.ntmps) ((Fz (vt (cellsD a.nm a.ar a.sup.kind a.sup.nm a.sup.Et (au a.sup.args) a.con (aJ a.fl)) b ar a.nm [] false) l (aL ds) k5 n i 0).aw Tryz.f28.ntmps))
  (hp:ds.length < 1000000000) {T:Exit->aa->Prop} (e:T .normal ((lV l (aL (ds++[⟨b,ar,(.mk 2 a.nm 0 ts),false,[]⟩])) k6 n (aH .i64 (i+1))).aw Tryz.f28.ntmps)) :
  KD (roundOf Tryz.f28 0) T ((lV l (aL ds) k n i).aw Tryz.f28.ntmps):=by
 have h9:=Fb (t:=⟨b,ar,(.mk 2 a.nm 0 ts),false,[]⟩) hp;clear hp;obtain⟨anm,aar,⟨akk,atn,aix,ala⟩,acon,afl⟩:=a;have q1:=fy 10 anm aar akk atn aix (au ala) acon (aJ afl);dsimp only[Ty.kind,Ty.nm,Ty.Et,Ty.args] at hi hl2 h9 e
 rcases ts with _|⟨z1,y1⟩ <;>
 ·refine aC [16,31] [21,56,100010,98] (H:=S8) (live:=jk) (by kernel_rfl) ?_;refine ob h1 ?_;refine oo hS ?_;refine oh n1 ?_;refine oh n2 ?_;refine oh n3 ?_;refine ob hsp ?_;refine lo hl ?_;rintro ex s ⟨rfl,rfl⟩;refine⟨_,rfl,?_⟩;refine oh n5 ?_;refine oo hi ?_;refine oo q1 ?_;refine lo hl2 ?_;rintro ex s ⟨rfl,rfl⟩;refine⟨_,rfl,?_⟩;refine oo h9 ?_;exact oe e
theorem acy {l:List ap} {ds:List aQ} {k k2 k3 k4 k7 n i ar:Int} {b:List UInt8} (h1:bq i n=true) (hS:aK (env ay.aN) 60 [.dat (.slice (encS iK)),.dat (.flat (.int .i64 i))]=some ⟨.ref [sb b],.keep⟩)
  (n1:bS l k 3 ar k2) (n2:bS l k2 2 1 k3) (n3:bS l k3 3 0 k4) (n6:bS l k4 2 0 k7)
  (hp:ds.length < 1000000000) {T:Exit->aa->Prop} (e:T .normal ((lV l (aL (ds++[⟨b,ar,(.mk 0 [] 0 []),true,[]⟩])) k7 n (aH .i64 (i+1))).aw Tryz.f28.ntmps)) :
  KD (roundOf Tryz.f28 0) T ((lV l (aL ds) k n i).aw Tryz.f28.ntmps):=by
 have h9:=Fb (t:=⟨b,ar,(.mk 0 [] 0 []),true,[]⟩) hp;clear hp;refine aC [16] [21,98] (H:=S8) (live:=jk) (by kernel_rfl) ?_;refine ob h1 ?_;refine oo hS ?_;refine oh n1 ?_;refine oh n2 ?_;refine oh n3 ?_;refine oh n6 ?_;refine oo h9 ?_;exact oe e
theorem acx {l:List ap} {ds:List aQ} {k k2 k3 k4 k7 k8 n i ar:Int} {b:List UInt8} {t:Ty} (h1:bq i n=true) (hS:aK (env ay.aN) 60 [.dat (.slice (encS iK)),.dat (.flat (.int .i64 i))]=some ⟨.ref [sb b],.keep⟩)
  (n1:bS l k 3 ar k2) (n2:bS l k2 2 1 k3) (n3:bS l k3 3 0 k4) (n6:bS l k4 2 1 k7) (n7:acW l (aL ds) 1 ar k7 t.enc k8)
  (hp:ds.length < 1000000000) {T:Exit->aa->Prop} (e:T .normal ((lV l (aL (ds++[⟨b,ar,(.mk 0 [] 0 []),true,[⟨[112,97,114,116],t⟩]⟩])) k8 n (aH .i64 (i+1))).aw Tryz.f28.ntmps)) :
  KD (roundOf Tryz.f28 0) T ((lV l (aL ds) k n i).aw Tryz.f28.ntmps):=by
 have h9:=Fb (t:=⟨b,ar,(.mk 0 [] 0 []),true,[⟨[112,97,114,116],t⟩]⟩) hp;clear hp;obtain⟨ek2,en,ei,ea⟩:=t
 rcases ea with _|⟨z1,y1⟩ <;>
 ·refine aC [16] [21,98] (H:=S8) (live:=jk) (by kernel_rfl) ?_;refine ob h1 ?_;refine oo hS ?_;refine oh n1 ?_;refine oh n2 ?_;refine oh n3 ?_;refine oh n6 ?_;refine oh n7 ?_;refine oo h9 ?_;exact oe e
theorem acw {l:List ap} {ds abs:List aQ} {a ah:aQ} {k k2 k3 k4 k5 k6 k7 n i ar sp ai ej ek:Int} {b:List UInt8} {ts:List Ty} (h1:bq i n=true) (hS:aK (env ay.aN) 60 [.dat (.slice (encS iK)),.dat (.flat (.int .i64 i))]=some ⟨.ref [sb b],.keep⟩)
  (n1:bS l k 3 ar k2) (n2:bS l k2 2 1 k3) (n3:bS l k3 3 sp k4) (hsp:bq 0 sp=true)
  (hl:KD (.loop (roundOf Tryz.f28 1)) (fun e s=>e=.exit 2/\s=(FC (LK b ar 0 [] (.dat nl) true (.dat nl)) l (aL ds) k4 n i ej (ah::abs)).aw Tryz.f28.ntmps) ((Dy (LK b ar 0 [] (.dat nl) true (.dat nl)) l (aL ds) k4 n i 0 []).aw Tryz.f28.ntmps))
  (n5:bS l k4 (Int.ofNat (aL (ah::abs)).length) ai k5) (hi:aK (env ay.aN) 23 [.dat (.slice (aL (ah::abs))),.dat (.flat (.int .i64 ai))]=some ⟨.ref a.cells,.keep⟩)
  (hl2:KD (.loop (roundOf Tryz.f28 2)) (fun e s=>e=.exit 4/\s=(Fy (vt (cellsD a.nm a.ar a.sup.kind a.sup.nm a.sup.Et (au a.sup.args) a.con (aJ a.fl)) b ar a.nm ts true) l (aL ds) k6 n i ek).aw Tryz.f28.ntmps) ((Fz (vt (cellsD a.nm a.ar a.sup.kind a.sup.nm a.sup.Et (au a.sup.args) a.con (aJ a.fl)) b ar a.nm [] true) l (aL ds) k5 n i 0).aw Tryz.f28.ntmps)) (n6:bS l k6 2 0 k7)
  (hp:ds.length < 1000000000) {T:Exit->aa->Prop} (e:T .normal ((lV l (aL (ds++[⟨b,ar,(.mk 2 a.nm 0 ts),true,[]⟩])) k7 n (aH .i64 (i+1))).aw Tryz.f28.ntmps)) :
  KD (roundOf Tryz.f28 0) T ((lV l (aL ds) k n i).aw Tryz.f28.ntmps):=by
 have h9:=Fb (t:=⟨b,ar,(.mk 2 a.nm 0 ts),true,[]⟩) hp;clear hp;obtain⟨anm,aar,⟨akk,atn,aix,ala⟩,acon,afl⟩:=a;have q1:=fy 10 anm aar akk atn aix (au ala) acon (aJ afl);dsimp only[Ty.kind,Ty.nm,Ty.Et,Ty.args] at hi hl2 h9 e
 rcases ts with _|⟨z1,y1⟩ <;>
 ·refine aC [16,31] [21,56,100010,98] (H:=S8) (live:=jk) (by kernel_rfl) ?_;refine ob h1 ?_;refine oo hS ?_;refine oh n1 ?_;refine oh n2 ?_;refine oh n3 ?_;refine ob hsp ?_;refine lo hl ?_;rintro ex s ⟨rfl,rfl⟩;refine⟨_,rfl,?_⟩;refine oh n5 ?_;refine oo hi ?_;refine oo q1 ?_;refine lo hl2 ?_;rintro ex s ⟨rfl,rfl⟩;refine⟨_,rfl,?_⟩;refine oh n6 ?_;refine oo h9 ?_;exact oe e
theorem acv {l:List ap} {ds abs:List aQ} {a ah:aQ} {k k2 k3 k4 k5 k6 k7 k8 n i ar sp ai ej ek:Int} {b:List UInt8} {ts:List Ty} {t:Ty} (h1:bq i n=true) (hS:aK (env ay.aN) 60 [.dat (.slice (encS iK)),.dat (.flat (.int .i64 i))]=some ⟨.ref [sb b],.keep⟩)
  (n1:bS l k 3 ar k2) (n2:bS l k2 2 1 k3) (n3:bS l k3 3 sp k4) (hsp:bq 0 sp=true)
  (hl:KD (.loop (roundOf Tryz.f28 1)) (fun e s=>e=.exit 2/\s=(FC (LK b ar 0 [] (.dat nl) true (.dat nl)) l (aL ds) k4 n i ej (ah::abs)).aw Tryz.f28.ntmps) ((Dy (LK b ar 0 [] (.dat nl) true (.dat nl)) l (aL ds) k4 n i 0 []).aw Tryz.f28.ntmps))
  (n5:bS l k4 (Int.ofNat (aL (ah::abs)).length) ai k5) (hi:aK (env ay.aN) 23 [.dat (.slice (aL (ah::abs))),.dat (.flat (.int .i64 ai))]=some ⟨.ref a.cells,.keep⟩)
  (hl2:KD (.loop (roundOf Tryz.f28 2)) (fun e s=>e=.exit 4/\s=(Fy (vt (cellsD a.nm a.ar a.sup.kind a.sup.nm a.sup.Et (au a.sup.args) a.con (aJ a.fl)) b ar a.nm ts true) l (aL ds) k6 n i ek).aw Tryz.f28.ntmps) ((Fz (vt (cellsD a.nm a.ar a.sup.kind a.sup.nm a.sup.Et (au a.sup.args) a.con (aJ a.fl)) b ar a.nm [] true) l (aL ds) k5 n i 0).aw Tryz.f28.ntmps)) (n6:bS l k6 2 1 k7) (n7:acW l (aL ds) 1 ar k7 t.enc k8)
  (hp:ds.length < 1000000000) {T:Exit->aa->Prop} (e:T .normal ((lV l (aL (ds++[⟨b,ar,(.mk 2 a.nm 0 ts),true,[⟨[112,97,114,116],t⟩]⟩])) k8 n (aH .i64 (i+1))).aw Tryz.f28.ntmps)) :
  KD (roundOf Tryz.f28 0) T ((lV l (aL ds) k n i).aw Tryz.f28.ntmps):=by
 have h9:=Fb (t:=⟨b,ar,(.mk 2 a.nm 0 ts),true,[⟨[112,97,114,116],t⟩]⟩) hp;clear hp;obtain⟨ek2,en,ei,ea⟩:=t;obtain⟨anm,aar,⟨akk,atn,aix,ala⟩,acon,afl⟩:=a;have q1:=fy 10 anm aar akk atn aix (au ala) acon (aJ afl);dsimp only[Ty.kind,Ty.nm,Ty.Et,Ty.args] at hi hl2 h9 e
 rcases ts with _|⟨z2,y2⟩ <;>
 ·rcases ea with _|⟨z1,y1⟩ <;>
  ·refine aC [16,31] [21,56,100010,98] (H:=S8) (live:=jk) (by kernel_rfl) ?_;refine ob h1 ?_;refine oo hS ?_;refine oh n1 ?_;refine oh n2 ?_;refine oh n3 ?_;refine ob hsp ?_;refine lo hl ?_;rintro ex s ⟨rfl,rfl⟩;refine⟨_,rfl,?_⟩;refine oh n5 ?_;refine oo hi ?_;refine oo q1 ?_;refine lo hl2 ?_;rintro ex s ⟨rfl,rfl⟩;refine⟨_,rfl,?_⟩;refine oh n6 ?_;refine oh n7 ?_;refine oo h9 ?_;exact oe e
theorem Kr {α:Type} {n:Nat} {Inv:Nat->α->Prop} {R:Nat->α->α->Prop} (a0:α) (h0:Inv 0 a0) (h:∀i a,i < n->Inv i a->∃b,R i a b/\Inv (i+1) b) :
  ∃f:Nat->α,f 0=a0/\(∀i,i<=n->Inv i (f i))/\∀i,i < n->R i (f i) (f (i+1)):=by
 induction n with
 | zero=>
  refine⟨fun _=>a0,rfl,?_,fun i hi=>absurd hi (Nat.not_lt_zero i)⟩;intro i hi
  have:i=0:=by omega
  subst this;exact h0
 | succ n ih=>
  obtain⟨f,h1,h2,h3⟩:=ih (fun i a hi=>h i a (by omega));obtain⟨b,hb,hi⟩:=h n (f n) (by omega) (h2 n (Nat.le_refl _));refine⟨fun i=>if i<=n then f i else b,by simp[h1],?_,?_⟩
  ·intro i hin;dsimp only
   by_cases hi2:i<=n
   ·rw[if_pos hi2];exact h2 i hi2
   obtain rfl:i=n+1:=by omega
   rw[if_neg hi2];exact hi
  intro i hin;dsimp only
  by_cases hi2:i < n
  ·rw[if_pos (by omega:i<=n),if_pos (by omega:i+1<=n)];exact h3 i hi2
  obtain rfl:i=n:=by omega
  rw[if_pos (Nat.le_refl _),if_neg (by omega:¬i+1<=i)];exact hb
def Td:List (List UInt8):=bF.map aQ.nm++iK
structure DOk (d:aQ):Prop where
 cB:d.cB
 ar:∃n:Nat,d.ar=Int.ofNat n/\n<=2
 nm:d.nm∈Td
 flen:d.fl.length<=2
structure GD (ds:List aQ):Prop where
 len:ds.length<=900
 each:∀d∈ds,DOk d
 abs:∃d∈ds,d.con=false
theorem Hj {ds:List aQ} {j:Nat} {t:aQ} (h:ds[j]?=some t):(ds.take (j+1)).filter (fun d=>!d.con)=(ds.take j).filter (fun d=>!d.con)++(if t.con then [] else [t]):=by
 rw[dC h,List.filter_append]
 cases hc:t.con <;> simp[hc]
theorem lM {l:List aQ} {i:Nat} (h:i < (aL l).length):∃t,l[i]?=some t/\t∈l:=by
 rw[aY] at h;exact⟨l[i],List.getElem?_eq_getElem h,List.getElem_mem h⟩
theorem Xw {b:List UInt8} {ar K n i:Int} {con:Bool} {l:List ap} {ds:List aQ} (hb:ds.length < 1000000) :
  KD (.loop (roundOf Tryz.f28 1)) (fun e s=>e=.exit 2/\s=(FC (LK b ar 0 [] (.dat nl) con (.dat nl)) l (aL ds) K n i (Int.ofNat ds.length) (ds.filter (fun d=>!d.con))).aw Tryz.f28.ntmps)
   ((Dy (LK b ar 0 [] (.dat nl) con (.dat nl)) l (aL ds) K n i 0 []).aw Tryz.f28.ntmps):=by
 refine bb (St:=fun j=>(Dy (LK b ar 0 [] (.dat nl) con (.dat nl)) l (aL ds) K n i (Int.ofNat j) ((ds.take j).filter (fun d=>!d.con))).aw Tryz.f28.ntmps) (aL ds).length ?_ ?_ (i:=0) (Nat.zero_le _)
 ·intro j hj;obtain⟨t,ht,hm⟩:=lM hj;have hw:aH .i64 (Int.ofNat j+1)=Int.ofNat (j+1):=bg (by rw[aY] at hj;omega);have hft:=Hj ht;refine To (fO hj) (qZ ht) (by have:=List.length_filter_le (fun d:aQ=>!d.con) (ds.take j);rw[List.length_take] at this;omega) ?_ ?_
  ·intro hc;rw[hw];rw[hc] at hft;simp only[if_true,List.append_nil] at hft;rw[←hft];exact rfl
  intro hc;rw[hw];rw[hc] at hft;simp only[if_false,Bool.false_eq_true] at hft;rw[←hft];exact rfl
 refine Xx (jn (by omega)) ⟨rfl,?_⟩;rw[aY,List.take_length]
section
variable {l:List Int} {ds:List aQ} (hl:l.length < 10000000) (hd:GD ds)
include hl hd
theorem Ez {k:Nat} (hk:k<=l.length) {v:Nat} (hv:v<=2):GR l (fun _ _=>True) 65 (aA ds 1 v) k:=
 (Mh (P:=fun _ _=>True) hl (by have:=hd.len;omega) (fun d hm=>by obtain⟨n,h1,h2⟩:=(hd.each d hm).ar;exact⟨n,h1,by omega,trivial⟩) (fun _ _=>trivial) trivial (l.length - k) k hk (Nat.le_refl _)).2.1 1 v (by omega) (by omega) (by omega)
omit hd in
theorem G7 {t:Ty} {k k2:Nat} (h:GT (fun _ _=>True) l.length t k k2):t.cB:=⟨by have:=h.size;have:=h.top;omega,h.ix⟩
theorem Kd {n i k:Nat} (hk:k<=l.length) (hi:i < n) (hn:n<=4):∃d k2,DOk d/\k2<=l.length/\∀T:Exit->aa->Prop,T .normal ((lV (l.map iN) (aL (ds++[d])) (Int.ofNat k2) (Int.ofNat n) (Int.ofNat (i+1))).aw Tryz.f28.ntmps)->
  KD (roundOf Tryz.f28 0) T ((lV (l.map iN) (aL ds) (Int.ofNat k) (Int.ofNat n) (Int.ofNat i)).aw Tryz.f28.ntmps):=by
 have hb:l.length < 1000000000:=by omega
 have hw:aH .i64 (Int.ofNat i+1)=Int.ofNat (i+1):=bg (by omega);rw[←hw];obtain⟨b,hbx,hS⟩:∃b,b∈iK/\aK (env ay.aN) _ [.dat (.slice (encS iK)),.dat (.flat (.int .i64 (Int.ofNat i)))]=some ⟨.ref [sb b],.keep⟩:=by
  have h4:i < iK.length:=by show i < 4;omega
  exact⟨iK[i],List.getElem_mem h4,aaB (List.getElem?_eq_getElem h4)⟩
 have hbn:b∈Td:=List.mem_append_right _ hbx;have h1:=fO hi;have hp:ds.length < 1000000000:=by have:=hd.len;omega
 obtain⟨ar,k2,⟨a1,a2,a3,_⟩,n1⟩:=eX (n:=3) hb hk (by omega) (by omega);obtain⟨cc,k3,⟨b1,b2,b3,_⟩,n2⟩:=eX (n:=2) hb a3 (by omega) (by omega);obtain⟨sp,k4,⟨c1,c2,c3,_⟩,n3⟩:=eX (n:=3) hb b3 (by omega) (by omega);have hcc:cc=0∨cc=1:=by omega
 have har:∃n:Nat,Int.ofNat ar=Int.ofNat n/\n<=2:=⟨ar,rfl,by omega⟩;have anyF:Ty.cB (.mk 0 [] 0 []):=⟨by simp[Ty.size,aU],by simp[Ty.dR,cV,aP]⟩
 by_cases hsp:sp=0
 ·subst hsp
  rcases hcc with rfl|rfl
  ·exact⟨_,k4,⟨⟨anyF,by simp,by simp⟩,har,hbn,by simp⟩,c3,fun T e=>acA h1 hS n1 n2 n3 hp e⟩
  obtain⟨fb,k7,⟨f1,f2,f3,_⟩,n6⟩:=eX (n:=2) hb c3 (by omega) (by omega);have hfb:fb=0∨fb=1:=by omega
  rcases hfb with rfl|rfl
  ·exact⟨_,k7,⟨⟨anyF,by simp,by simp⟩,har,hbn,by simp⟩,f3,fun T e=>acy h1 hS n1 n2 n3 n6 hp e⟩
  obtain⟨t,k8,ht,n7⟩:=Ez hl hd f3 (v:=ar) (by omega);have tf:=G7 hl ht;exact⟨_,k8,⟨⟨anyF,by intro f hf;rw[List.mem_singleton.1 hf];exact tf,by simp⟩,har,hbn,by simp⟩,ht.top,fun T e=>acx h1 hS n1 n2 n3 n6 n7 hp e⟩
 have hsp2:bq 0 (Int.ofNat sp)=true:=fO (a:=0) (by omega);have hfl:=fun con=>Xw (b:=b) (ar:=Int.ofNat ar) (K:=Int.ofNat k4) (n:=Int.ofNat n) (i:=Int.ofNat i) (con:=con) (l:=l.map iN) (ds:=ds) (by have:=hd.len;omega)
 obtain⟨d0,hd0,hc0⟩:=hd.abs;have hmem:∀x∈ds.filter (fun d=>!d.con),x∈ds:=fun x hx=>(List.mem_filter.1 hx).1
 have hne:d0∈ds.filter (fun d=>!d.con):=List.mem_filter.2 ⟨hd0,by simp[hc0]⟩;have hle:=List.length_filter_le (fun d:aQ=>!d.con) ds
 cases hab:ds.filter (fun d=>!d.con) with
 | nil=>rw[hab] at hne;simp at hne
 | cons ah abs=>
  rw[hab] at hmem hle hfl;obtain⟨ai,k5,⟨d1,d2,d3,_⟩,n5⟩:=eX (n:=(aL (ah::abs)).length) hb c3 (by simp[aL]) (by rw[aY];have:=hd.len;omega);obtain⟨a,ha,ham⟩:=lM d1;have hi:=qZ ha;obtain⟨m,hm1,hm2⟩:=(hd.each a (hmem a ham)).ar;have hanm:=(hd.each a (hmem a ham)).nm;obtain⟨ts,ks,e1,e2,e3,e4,e5,e6,e7,e8⟩:=EY (g:=65) (args:=aA ds 1 ar) (P:=fun _ _=>True) d3 (fun k' hk' hkl=>Ez hl hd hkl (by omega)) m;have supF:Ty.cB (.mk 2 a.nm 0 ts):=⟨by simp only[Ty.size];omega,by simp only[Ty.dR];exact⟨by simp[aP],e6⟩⟩;have hl2:∀con:Bool,KD (.loop (roundOf Tryz.f28 2)) (fun e s=>e=.exit 4/\s=(Fy (vt (cellsD a.nm a.ar a.sup.kind a.sup.nm a.sup.Et (au a.sup.args) a.con (aJ a.fl)) b (Int.ofNat ar) a.nm ts con) (l.map iN) (aL ds) (Int.ofNat (ks m)) (Int.ofNat n) (Int.ofNat i) (Int.ofNat m)).aw Tryz.f28.ntmps)
    ((Fz (vt (cellsD a.nm a.ar a.sup.kind a.sup.nm a.sup.Et (au a.sup.args) a.con (aJ a.fl)) b (Int.ofNat ar) a.nm [] con) (l.map iN) (aL ds) (Int.ofNat k5) (Int.ofNat n) (Int.ofNat i) 0).aw Tryz.f28.ntmps):=by
   intro con;rw[←e2];refine bb (St:=fun j=>(Fz (vt (cellsD a.nm a.ar a.sup.kind a.sup.nm a.sup.Et (au a.sup.args) a.con (aJ a.fl)) b (Int.ofNat ar) a.nm (ts.take j) con) (l.map iN) (aL ds) (Int.ofNat (ks j)) (Int.ofNat n) (Int.ofNat i) (Int.ofNat j)).aw Tryz.f28.ntmps) m ?_ ?_ (i:=0) (Nat.zero_le _)
   ·intro j hj;have hti:ts[j]?=some ts[j]:=List.getElem?_eq_getElem (by omega);refine PY (by rw[hm1];exact fO hj) (e8 j _ hti) (by rw[List.length_take];omega) ?_;rw[bg (by omega),←dC hti];exact rfl
   refine Vn (by rw[hm1];exact jn (by omega)) ⟨rfl,?_⟩;rw[List.take_of_length_le (by omega)]
  rcases hcc with rfl|rfl
  ·exact⟨_,ks m,⟨⟨supF,by simp,by simp⟩,har,hbn,by simp⟩,e4,fun T e=>acz h1 hS n1 n2 n3 hsp2 (hfl false) n5 hi (hl2 false) hp e⟩
  obtain⟨fb,k7,⟨f1,f2,f3,_⟩,n6⟩:=eX (n:=2) hb e4 (by omega) (by omega);have hfb:fb=0∨fb=1:=by omega
  rcases hfb with rfl|rfl
  ·exact⟨_,k7,⟨⟨supF,by simp,by simp⟩,har,hbn,by simp⟩,f3,fun T e=>acw h1 hS n1 n2 n3 hsp2 (hfl true) n5 hi (hl2 true) n6 hp e⟩
  obtain⟨t,k8,ht,n7⟩:=Ez hl hd f3 (v:=ar) (by omega);have tf:=G7 hl ht;exact⟨_,k8,⟨⟨supF,by intro f hf;rw[List.mem_singleton.1 hf];exact tf,by simp⟩,har,hbn,by simp⟩,ht.top,fun T e=>acv h1 hS n1 n2 n3 hsp2 (hfl true) n5 hi (hl2 true) n6 n7 hp e⟩
end
def Yz (l:List ap) (ds:List ap) (K n i:Int):ab:=⟨[(16,bv false),(6,iv i),(5,iv n),(0,ff),(1,.own ds)],[],fP l K,1⟩
theorem XD {l ds:List ap} {k n i:Int} (h1:bq i n=false) {T:Exit->aa->Prop} (e:T (.exit 0) ((Yz l ds k n i).aw Tryz.f28.ntmps)) :
  KD (roundOf Tryz.f28 0) T ((lV l ds k n i).aw Tryz.f28.ntmps):=by
 refine aC [16] [] (H:=S8) (live:=jk) (by kernel_rfl) ?_;refine ob h1 ?_;exact oe e
theorem Tx {l ds ds2:List ap} {k k2 k3 n:Int} (h1:bS l k 5 n k2) (hl:KD (.loop (roundOf Tryz.f28 0)) (fun e s=>e=.exit 0/\s=(Yz l ds2 k3 n n).aw Tryz.f28.ntmps) ((lV l ds k2 n 0).aw Tryz.f28.ntmps)) :
  KC 28 [ff,.own ds] (fP l k) 1 (XQ ⟨.own ds2,fP l k3,1⟩):=by
 refine co [] [] (x:=.of Tryz.f28 Lx jk) ?_;refine oh h1 ?_;refine lo hl ?_;rintro ex s ⟨rfl,rfl⟩;refine⟨_,rfl,?_⟩;exact fi
theorem GD.add {ds:List aQ} {d:aQ} (h:GD ds) (hd:DOk d) (hn:ds.length < 900):GD (ds++[d]) where
 len:=by simp;omega
 each:=by
  intro x hx
  rcases List.mem_append.1 hx with hx|hx
  ·exact h.each x hx
  rw[List.mem_singleton.1 hx];exact hd
 abs:=by
  obtain⟨d,h1,h2⟩:=h.abs;exact⟨d,List.mem_append_left _ h1,h2⟩
theorem Xn {l:List Int} {ds:List aQ} (hl:l.length < 10000000) (hd:GD ds) (hn:ds.length<=800) {k:Nat} (hk:k<=l.length) :
  ∃(m:List aQ) (k2:Nat),GD (ds++m)/\m.length<=4/\k2<=l.length/\KC 28 [ff,.own (aL ds)] (fP (l.map iN) (Int.ofNat k)) 1 (XQ ⟨.own (aL (ds++m)),fP (l.map iN) (Int.ofNat k2),1⟩):=by
 obtain⟨n,k2,⟨h1,h2,h3,_⟩,hc⟩:=eX (n:=5) (by omega:l.length < 1000000000) hk (by omega) (by omega);obtain⟨f,f0,fI,fR⟩:=Kr (α:=List aQ×Nat) (n:=n) (Inv:=fun i a=>GD (ds++a.1)/\a.1.length=i/\a.2<=l.length)
  (R:=fun i a b=>∀T:Exit->aa->Prop,T .normal ((lV (l.map iN) (aL (ds++b.1)) (Int.ofNat b.2) (Int.ofNat n) (Int.ofNat (i+1))).aw Tryz.f28.ntmps)->
   KD (roundOf Tryz.f28 0) T ((lV (l.map iN) (aL (ds++a.1)) (Int.ofNat a.2) (Int.ofNat n) (Int.ofNat i)).aw Tryz.f28.ntmps))
  ([],k2) ⟨by rw[List.append_nil];exact hd,rfl,h3⟩ (by
   rintro i ⟨m,kk⟩ hi ⟨g1,g2,g3⟩;obtain⟨d,k3,hd3,hk3,hR⟩:=Kd hl g1 g3 hi (by omega);refine⟨(m++[d],k3),?_,?_,by simp at g2 ⊢;omega,hk3⟩
   ·intro T hT;rw[←List.append_assoc] at hT;exact hR T hT
   rw[←List.append_assoc];refine g1.add hd3 ?_;simp at g2 ⊢;omega)
 obtain⟨g1,g2,g3⟩:=fI n (Nat.le_refl _);refine⟨(f n).1,(f n).2,g1,by omega,g3,Tx hc ?_⟩;have e:lV (l.map iN) (aL ds) (Int.ofNat k2) (Int.ofNat n) 0=lV (l.map iN) (aL (ds++(f 0).1)) (Int.ofNat (f 0).2) (Int.ofNat n) (Int.ofNat 0):=by rw[f0];simp
 rw[e];refine bb (St:=fun i=>(lV (l.map iN) (aL (ds++(f i).1)) (Int.ofNat (f i).2) (Int.ofNat n) (Int.ofNat i)).aw Tryz.f28.ntmps) n ?_ ?_ (i:=0) (Nat.zero_le _)
 ·intro i hi;exact fR i hi _ rfl
 exact XD (jn (by omega)) ⟨rfl,rfl⟩
theorem Bo:GD bF where
 len:=by decide
 each:=by
  have key:∀d∈bF,(d.sup.size < 100000000/\d.sup.dR)/\(∀f∈d.fl,f.ty.size < 100000000/\f.ty.dR)/\d.fl.length<=2/\(∃n:Nat,d.ar=Int.ofNat n/\n<=2):=by
   intro d hd;simp only[bF,List.mem_cons,List.mem_nil_iff,or_false] at hd
   rcases hd with rfl|rfl|rfl|rfl|rfl|rfl|rfl|rfl <;>
    simp[Ty.size,aU,Ty.dR,cV,aP,bq]
   all_goals first|exact⟨0,rfl,by omega⟩|exact⟨1,rfl,by omega⟩|exact⟨2,rfl,by omega⟩
  intro d hd;obtain⟨h1,h2,h3,h4⟩:=key d hd;exact⟨⟨h1,h2,by omega⟩,h4,List.mem_append_left _ (List.mem_map_of_mem hd),h3⟩
 abs:=⟨_,List.mem_cons_self,rfl⟩
theorem TQ {l ds ds2:List ap} {k:Int} (h1:ag 43 [] (.own ds)) (h2:KC 15 [.dat (.slice l)] [] 0 (XQ ⟨ff,fP l 0,1⟩)) (h3:KC 28 [ff,.own ds] (fP l 0) 1 (XQ ⟨.own ds2,fP l k,1⟩)) :
  ag 9 [.dat (.slice l)] (.own ds2):=by
 refine co [] [] (x:=.of Tryz.f9 aae YU) ?_;refine oh h2 ?_;refine on h1 ?_;refine oh h3 ?_;exact fi
theorem Xo {l:List Int} (hl:l.length < 10000000):∃m:List aQ,GD (bF++m)/\m.length<=4/\ag 9 [.dat (.slice (l.map iN))] (.own (aL (bF++m))):=by
 obtain⟨m,k2,h1,h2,h3,h4⟩:=Xn hl Bo (by decide) (Nat.zero_le _);exact⟨m,h1,h2,TQ Tf Y5 h4⟩
theorem Vb {l ds:List ap} {k k2:Int} {t:Ty} (h:dT l ds 3 0 k t.enc k2):KC 21 [ff,.dat (.slice ds)] (fP l k) 1 (XQ ⟨.dat t.enc,fP l k2,1⟩):=by
 obtain⟨ek2,en,ei,ea⟩:=t
 rcases ea with _|⟨x,ea⟩ <;>
 ·refine co [] [] (x:=.of Tryz.f21 Q4 SP) ?_;refine oh h ?_;exact fi
def km (j:Nat) (k:Int) (nm:List UInt8) (ix:Int) (a:ap):Heap:=[(.loc j,.cells [iv k,.dat (sb nm),iv ix,.dat a])]
def xE (lo:Heap) (i n:Int):ab:=⟨[(4,iv i),(3,iv n),(1,.ptr (.loc 1) 0)],lo,[],0⟩
def Ce (lo:Heap) (i n:Int):ab:=⟨[(9,bv false),(4,iv i),(3,iv n),(1,.ptr (.loc 1) 0)],lo,[],0⟩
theorem lx {l:List Ty} {i:Nat} (h:i < (au l).length):sl (au l)=.slice (au l):=by cases l with|nil=>simp[au] at h|cons x r=>rfl
noncomputable def hRS:Hints:=⟨ao,DS,aq,rowsOf aq 175⟩
theorem P1 {k:Int} {nm:List UInt8} {ix n m:Int} {l:List Ty} {t:Ty} {i:Nat} (hi:i < (au l).length) (ht:l[i]?=some t) (hc:ag 175 [.dat t.enc] (iv m)) {T:Exit->aa->Prop}
  (e:T .normal ((xE (km 1 k nm ix (.slice (au l))) (aH .i64 (Int.ofNat i+1)) (aH .i64 (n+m))).aw Tryz.f175.ntmps)) :
  KD (roundOf Tryz.f175 0) T ((xE (km 1 k nm ix (.slice (au l))) (Int.ofNat i) n).aw Tryz.f175.ntmps):=by
 have h1:=bA hi;have h2:=jZ ht;generalize au l=es at *;clear ht hi;obtain⟨k2,nm2,ix2,a2⟩:=t
 rcases a2 with _|⟨b,d⟩ <;>
 ·refine aC [9] [16] (H:=hRS) (live:=tI) (by kernel_rfl) ?_;refine ob h1 ?_;refine oo h2 ?_;refine on hc ?_;exact oe e
theorem Vo {k:Int} {nm:List UInt8} {ix n:Int} {l:List ap} {T:Exit->aa->Prop} (e:T (.exit 0) ((Ce (km 1 k nm ix (sl l)) (Int.ofNat l.length) n).aw Tryz.f175.ntmps)) :
  KD (roundOf Tryz.f175 0) T ((xE (km 1 k nm ix (sl l)) (Int.ofNat l.length) n).aw Tryz.f175.ntmps):=by
 have h1:=bC (i:=l.length) (L:=l.length) (by omega)
 rcases l with _|⟨x,l⟩
 ·refine aC [] [] (H:=hRS) (live:=tI) (by kernel_rfl) ?_;exact oe e
 refine aC [9] [] (H:=hRS) (live:=tI) (by kernel_rfl) ?_;refine ob h1 ?_;exact oe e
theorem Z4 {k:Int} {nm:List UInt8} {ix n:Int} {l:List ap} (hl:KD (.loop (roundOf Tryz.f175 0)) (fun e s=>e=.exit 0/\s=(Ce (km 1 k nm ix (sl l)) (Int.ofNat l.length) n).aw Tryz.f175.ntmps) ((xE (km 1 k nm ix (sl l)) (Int.ofNat 0) 1).aw Tryz.f175.ntmps)) :
  ag 175 [.dat (.agg [i64 k,sb nm,i64 ix,sl l])] (iv n):=by
 rcases l with _|⟨x,l⟩ <;>
 ·refine co [] [] (x:=.of Tryz.f175 DS tI) ?_;refine lo hl ?_;rintro ex s ⟨rfl,rfl⟩;refine⟨_,rfl,?_⟩;exact fi
mutual
theorem Qj:∀t:Ty,t.size < 1000000000->ag 175 [.dat t.enc] (iv (Int.ofNat t.size))
 | .mk k nm ix l,h=>by
  simp only[Ty.size] at h;have ih:=K8 l (by omega);have hlen:=eG l;refine Z4 ?_;rw[show Int.ofNat (Ty.mk k nm ix l).size=Int.ofNat (1+aU l) by simp only[Ty.size];rw[Nat.add_comm]];refine bb (St:=fun i=>(xE (km 1 k nm ix (sl (au l))) (Int.ofNat i) (Int.ofNat (1+aU (l.take i)))).aw Tryz.f175.ntmps) (au l).length ?_ ?_ (i:=0) (Nat.zero_le _)
  ·intro i hi;obtain⟨t,ht,hm⟩:=get_mem hi;have hs:=jb ht;have hle:=oQ (l:=l) (i+1);have hsl:=lx hi;have e:=P1 (k:=k) (nm:=nm) (ix:=ix) (n:=Int.ofNat (1+aU (l.take i))) hi ht (ih t hm) (T:=lm (fun s=>s=(xE (km 1 k nm ix (sl (au l))) (Int.ofNat (i+1)) (Int.ofNat (1+aU (l.take (i+1))))).aw Tryz.f175.ntmps) (fun e s=>e=.exit 0/\s=(Ce (km 1 k nm ix (sl (au l))) (Int.ofNat (au l).length) (Int.ofNat (1+aU l))).aw Tryz.f175.ntmps)) (by
    rw[aF] at hi;rw[bg (by omega),wrap_add (by omega),hs,hsl,Nat.add_assoc];rfl)
   rw[hsl] at e ⊢;exact e
  refine Vo ⟨rfl,?_⟩;rw[aF,List.take_length]
theorem K8:∀l:List Ty,aU l < 1000000000->∀t∈l,ag 175 [.dat t.enc] (iv (Int.ofNat t.size))
 | [],_,t,ht=>by simp at ht
 | u::r,h,t,ht=>by
  simp only[aU] at h
  rcases List.mem_cons.1 ht with h1|ht
  ·rw[h1];exact Qj u (by omega)
  exact K8 r (by omega) t ht
end
noncomputable def hRD:Hints:=⟨ao,DR,aq,rowsOf aq 176⟩
theorem Qe {k:Int} {nm:List UInt8} {ix:Int} {n m:Nat} {l:List Ty} {t:Ty} {i:Nat} (hi:i < (au l).length) (ht:l[i]?=some t) (hc:ag 176 [.dat t.enc] (iv (Int.ofNat m))) {T:Exit->aa->Prop}
  (e:T .normal ((xE (km 1 k nm ix (.slice (au l))) (aH .i64 (Int.ofNat i+1)) (match bq (Int.ofNat n) (Int.ofNat m) with|true=>Int.ofNat m|false=>Int.ofNat n)).aw Tryz.f176.ntmps)) :
  KD (roundOf Tryz.f176 0) T ((xE (km 1 k nm ix (.slice (au l))) (Int.ofNat i) (Int.ofNat n)).aw Tryz.f176.ntmps):=by
 have h1:=bA hi;have h2:=jZ ht;generalize au l=es at *;clear ht hi;obtain⟨k2,nm2,ix2,a2⟩:=t
 rcases a2 with _|⟨b,d⟩ <;>
 ·refine aC [9] [16] (H:=hRD) (live:=tH) (by kernel_rfl) ?_;refine ob h1 ?_;refine oo h2 ?_;refine on hc ?_;exact oe e
theorem Vx {k:Int} {nm:List UInt8} {ix n:Int} {l:List ap} {T:Exit->aa->Prop} (e:T (.exit 0) ((Ce (km 1 k nm ix (sl l)) (Int.ofNat l.length) n).aw Tryz.f176.ntmps)) :
  KD (roundOf Tryz.f176 0) T ((xE (km 1 k nm ix (sl l)) (Int.ofNat l.length) n).aw Tryz.f176.ntmps):=by
 have h1:=bC (i:=l.length) (L:=l.length) (by omega)
 rcases l with _|⟨x,l⟩
 ·refine aC [] [] (H:=hRD) (live:=tH) (by kernel_rfl) ?_;exact oe e
 refine aC [9] [] (H:=hRD) (live:=tH) (by kernel_rfl) ?_;refine ob h1 ?_;exact oe e
theorem Z9 {k:Int} {nm:List UInt8} {ix n:Int} {l:List ap} (hl:KD (.loop (roundOf Tryz.f176 0)) (fun e s=>e=.exit 0/\s=(Ce (km 1 k nm ix (sl l)) (Int.ofNat l.length) n).aw Tryz.f176.ntmps) ((xE (km 1 k nm ix (sl l)) (Int.ofNat 0) 0).aw Tryz.f176.ntmps)) :
  ag 176 [.dat (.agg [i64 k,sb nm,i64 ix,sl l])] (iv (aH .i64 (n+1))):=by
 rcases l with _|⟨x,l⟩ <;>
 ·refine co [] [] (x:=.of Tryz.f176 DR tH) ?_;refine lo hl ?_;rintro ex s ⟨rfl,rfl⟩;refine⟨_,rfl,?_⟩;exact fi
mutual
theorem Lc:∀t:Ty,t.size < 1000000000->ag 176 [.dat t.enc] (iv (Int.ofNat t.depth))
 | .mk k nm ix l,h=>by
  simp only[Ty.size] at h;have ih:=F7 l (by omega);have hlen:=eG l;have hdl:=jU l;rw[show Int.ofNat (Ty.mk k nm ix l).depth=aH .i64 (Int.ofNat (bV l)+1) by rw[bg (by omega)];rfl];refine Z9 ?_;refine bb (St:=fun i=>(xE (km 1 k nm ix (sl (au l))) (Int.ofNat i) (Int.ofNat (bV (l.take i)))).aw Tryz.f176.ntmps) (au l).length ?_ ?_ (i:=0) (Nat.zero_le _)
  ·intro i hi;obtain⟨t,ht,hm⟩:=get_mem hi;have hs:=xf ht;have hsl:=lx hi;have e:=Qe (k:=k) (nm:=nm) (ix:=ix) (n:=bV (l.take i)) hi ht (ih t hm) (T:=lm (fun s=>s=(xE (km 1 k nm ix (sl (au l))) (Int.ofNat (i+1)) (Int.ofNat (bV (l.take (i+1))))).aw Tryz.f176.ntmps) (fun e s=>e=.exit 0/\s=(Ce (km 1 k nm ix (sl (au l))) (Int.ofNat (au l).length) (Int.ofNat (bV l))).aw Tryz.f176.ntmps)) (by
    rw[aF] at hi;rw[bg (by omega),hs,hsl];have e2:(match bq (Int.ofNat (bV (l.take i))) (Int.ofNat t.depth) with|true=>Int.ofNat t.depth|false=>Int.ofNat (bV (l.take i)))=Int.ofNat (max (bV (l.take i)) t.depth):=by
     rw[iE]
     by_cases hlt:bV (l.take i) < t.depth
     ·rw[decide_eq_true hlt,Nat.max_eq_right (by omega)]
     rw[decide_eq_false hlt,Nat.max_eq_left (by omega)]
    rw[e2];rfl)
   rw[hsl] at e ⊢;exact e
  refine Vx ⟨rfl,?_⟩;rw[aF,List.take_length]
theorem F7:∀l:List Ty,aU l < 1000000000->∀t∈l,ag 176 [.dat t.enc] (iv (Int.ofNat t.depth))
 | [],_,t,ht=>by simp at ht
 | u::r,h,t,ht=>by
  simp only[aU] at h
  rcases List.mem_cons.1 ht with h1|ht
  ·rw[h1];exact Lc u (by omega)
  exact F7 r (by omega) t ht
end
def Nr (c:Bool):Int:=match c with|true=>-1|false=>1
theorem La (c:Bool):ag 96 [bv c] (iv (Nr c)):=by
 cases c <;> exact br _ _ _ _ _ (by kernel_rfl)
noncomputable def hRC:Hints:=⟨ao,wK,aq,rowsOf aq 61⟩
def VZ (k:Int) (nm:List UInt8) (ix:Int) (a:ap) (k2:Int) (nm2:List UInt8) (ix2:Int) (a2:ap):Heap:=[(.loc 3,.cells [iv k2,.dat (sb nm2),iv ix2,.dat a2]),(.loc 2,.cells [iv k,.dat (sb nm),iv ix,.dat a])]
def stQ (lo:Heap) (i:Int):ab:=⟨[(5,iv i),(3,.ptr (.loc 3) 0),(2,.ptr (.loc 2) 0)],lo,[],0⟩
def ZO (lo:Heap) (i:Int):ab:=⟨[(63,bv false),(5,iv i),(3,.ptr (.loc 3) 0),(2,.ptr (.loc 2) 0)],lo,[],0⟩
def ZP (c:Int):ab:=⟨[(4,iv c)],[],[],0⟩
theorem Qg {k:Int} {nm:List UInt8} {ix:Int} {l:List Ty} {k2:Int} {nm2:List UInt8} {ix2:Int} {l2:List Ty} {t u:Ty} {i:Nat} {c:Int} {cz:Bool} (hi:i < (au l).length) (ht:l[i]?=some t) (hu:l2[i]?=some u) (hc:ag 61 [.dat t.enc,.dat u.enc] (iv c)) (hz:aP c 0=cz) {T:Exit->aa->Prop}
  (e1:cz=true->T .normal ((stQ (VZ k nm ix (.slice (au l)) k2 nm2 ix2 (.slice (au l2))) (aH .i64 (Int.ofNat i+1))).aw Tryz.f61.ntmps)) (e2:cz=false->T .ret ((ZP c).aw Tryz.f61.ntmps)) :
  KD (roundOf Tryz.f61 0) T ((stQ (VZ k nm ix (.slice (au l)) k2 nm2 ix2 (.slice (au l2))) (Int.ofNat i)).aw Tryz.f61.ntmps):=by
 have h1:=bA hi;have h2:=jZ ht;have h3:=jZ hu;generalize au l=es at *;generalize au l2=es2 at *;clear ht hi hu;obtain⟨tk,tn,tix,ta⟩:=t;obtain⟨uk,un,uix,ua⟩:=u
 rcases ta with _|⟨b,d⟩ <;>
 ·rcases ua with _|⟨b2,d2⟩ <;>
  ·refine aC [63,78] [69,74] (H:=hRC) (live:=ny) (by kernel_rfl) ?_;refine ob h1 ?_;refine oo h2 ?_;refine oo h3 ?_;refine on hc ?_;refine ox hz ?_
   cases cz
   ·exact oe (e2 rfl)
   exact oe (e1 rfl)
theorem VA {k:Int} {nm:List UInt8} {ix:Int} {l:List ap} {k2:Int} {nm2:List UInt8} {ix2:Int} {a:List ap} {T:Exit->aa->Prop} (e:T (.exit 1) ((ZO (VZ k nm ix (sl l) k2 nm2 ix2 (sl a)) (Int.ofNat l.length)).aw Tryz.f61.ntmps)) :
  KD (roundOf Tryz.f61 0) T ((stQ (VZ k nm ix (sl l) k2 nm2 ix2 (sl a)) (Int.ofNat l.length)).aw Tryz.f61.ntmps):=by
 have h1:=bC (i:=l.length) (L:=l.length) (by omega)
 rcases l with _|⟨x,l⟩
 ·refine aC [] [] (H:=hRC) (live:=ny) (by kernel_rfl) ?_;exact oe e
 refine aC [63] [] (H:=hRC) (live:=ny) (by kernel_rfl) ?_;refine ob h1 ?_;exact oe e
def K4 (c1 c2 c3 c4 c5 c6 c7 c8:Bool) (r:Int):Int:=match c1 with|false=>Nr c5|true=>match c2 with|false=>Nr c6|true=>match c3 with|false=>Nr c7|true=>match c4 with|false=>Nr c8|true=>r
theorem aac {k:Int} {nm:List UInt8} {ix:Int} {l:List ap} {k2:Int} {nm2:List UInt8} {ix2:Int} {l2:List ap} {c1 c2 c3 c4 c5 c6 c7 c8:Bool} {r:Int} (h1:aP k k2=c1) (h2:dU nm nm2=c2) (h3:aP ix ix2=c3) (h4:aP (Int.ofNat l.length) (Int.ofNat l2.length)=c4) (h5:bq k k2=c5) (h6:mu nm nm2=c6) (h7:bq ix ix2=c7) (h8:bq (Int.ofNat l.length) (Int.ofNat l2.length)=c8)
 (hl:c4=true->KD (.loop (roundOf Tryz.f61 0)) (fun e s=>(e=.exit 1/\r=0/\s=(ZO (VZ k nm ix (sl l) k2 nm2 ix2 (sl l2)) (Int.ofNat l.length)).aw Tryz.f61.ntmps)∨(e=.ret/\s=(ZP r).aw Tryz.f61.ntmps)) ((stQ (VZ k nm ix (sl l) k2 nm2 ix2 (sl l2)) (Int.ofNat 0)).aw Tryz.f61.ntmps)) :
 ag 61 [.dat (.agg [i64 k,sb nm,i64 ix,sl l]),.dat (.agg [i64 k2,sb nm2,i64 ix2,sl l2])] (iv (K4 c1 c2 c3 c4 c5 c6 c7 c8 r)):=by
 have o1:=La true;have o2:=La false
 rcases l with _|⟨x,l⟩
 ·rcases l2 with _|⟨y,l2⟩
  ·have z:c4=true:=h4.symm;subst z;have hl2:=hl rfl;clear hl h4 h8;refine co [12,24,36,41,29,17] [] (x:=.of Tryz.f61 wK ny) ?_;refine ox h1 ?_
   cases c1
   ·refine ob h5 ?_
    cases c5
    ·refine on o2 ?_;exact fi
    refine on o1 ?_;exact fi
   refine ox h2 ?_
   cases c2
   ·refine ob h6 ?_
    cases c6
    ·refine on o2 ?_;exact fi
    refine on o1 ?_;exact fi
   refine ox h3 ?_
   cases c3
   ·refine ob h7 ?_
    cases c7
    ·refine on o2 ?_;exact fi
    refine on o1 ?_;exact fi
   refine lo hl2 ?_;rintro ex s (⟨rfl,rfl,rfl⟩|⟨rfl,rfl⟩) <;>
   ·refine⟨_,rfl,?_⟩;exact fi
  have z:c4=false:=h4.symm;have z8:c8=true:=h8.symm;subst z z8;clear hl h4 h8;refine co [12,24,36,41,29,17] [] (x:=.of Tryz.f61 wK ny) ?_;refine ox h1 ?_
  cases c1
  ·refine ob h5 ?_
   cases c5
   ·refine on o2 ?_;exact fi
   refine on o1 ?_;exact fi
  refine ox h2 ?_
  cases c2
  ·refine ob h6 ?_
   cases c6
   ·refine on o2 ?_;exact fi
   refine on o1 ?_;exact fi
  refine ox h3 ?_
  cases c3
  ·refine ob h7 ?_
   cases c7
   ·refine on o2 ?_;exact fi
   refine on o1 ?_;exact fi
  refine on o1 ?_;exact fi
 rcases l2 with _|⟨y,l2⟩
 ·have z:c4=false:=h4.symm;have z8:c8=false:=h8.symm;subst z z8;clear hl h4 h8;refine co [12,24,36,41,29,17] [] (x:=.of Tryz.f61 wK ny) ?_;refine ox h1 ?_
  cases c1
  ·refine ob h5 ?_
   cases c5
   ·refine on o2 ?_;exact fi
   refine on o1 ?_;exact fi
  refine ox h2 ?_
  cases c2
  ·refine ob h6 ?_
   cases c6
   ·refine on o2 ?_;exact fi
   refine on o1 ?_;exact fi
  refine ox h3 ?_
  cases c3
  ·refine ob h7 ?_
   cases c7
   ·refine on o2 ?_;exact fi
   refine on o1 ?_;exact fi
  refine on o2 ?_;exact fi
 cases c4
 ·clear hl;refine co [12,24,36,50,57,41,29,17] [] (x:=.of Tryz.f61 wK ny) ?_;refine ox h1 ?_
  cases c1
  ·refine ob h5 ?_
   cases c5
   ·refine on o2 ?_;exact fi
   refine on o1 ?_;exact fi
  refine ox h2 ?_
  cases c2
  ·refine ob h6 ?_
   cases c6
   ·refine on o2 ?_;exact fi
   refine on o1 ?_;exact fi
  refine ox h3 ?_
  cases c3
  ·refine ob h7 ?_
   cases c7
   ·refine on o2 ?_;exact fi
   refine on o1 ?_;exact fi
  refine ox h4 ?_;refine ob h8 ?_
  cases c8
  ·refine on o2 ?_;exact fi
  refine on o1 ?_;exact fi
 have hl2:=hl rfl;clear hl;refine co [12,24,36,50,41,29,17] [] (x:=.of Tryz.f61 wK ny) ?_;refine ox h1 ?_
 cases c1
 ·refine ob h5 ?_
  cases c5
  ·refine on o2 ?_;exact fi
  refine on o1 ?_;exact fi
 refine ox h2 ?_
 cases c2
 ·refine ob h6 ?_
  cases c6
  ·refine on o2 ?_;exact fi
  refine on o1 ?_;exact fi
 refine ox h3 ?_
 cases c3
 ·refine ob h7 ?_
  cases c7
  ·refine on o2 ?_;exact fi
  refine on o1 ?_;exact fi
 refine ox h4 ?_;refine lo hl2 ?_;rintro ex s (⟨rfl,rfl,rfl⟩|⟨rfl,rfl⟩) <;>
 ·refine⟨_,rfl,?_⟩;exact fi
mutual
def IQ:Ty->Ty->Int
 | .mk k nm ix l,.mk k2 nm2 ix2 l2=>K4 (aP k k2) (dU nm nm2) (aP ix ix2) (aP (Int.ofNat (au l).length) (Int.ofNat (au l2).length)) (bq k k2) (mu nm nm2) (bq ix ix2) (bq (Int.ofNat (au l).length) (Int.ofNat (au l2).length)) (K5 l l2)
def K5:List Ty->List Ty->Int
 | t::r,u::v=>match aP (IQ t u) 0 with|true=>K5 r v|false=>IQ t u
 | _,_=>0
end
theorem Qh {l l2:List Ty} {i:Nat} {t u:Ty} (ht:l[i]?=some t) (hu:l2[i]?=some u):K5 (l.drop i) (l2.drop i)=(match aP (IQ t u) 0 with|true=>K5 (l.drop (i+1)) (l2.drop (i+1))|false=>IQ t u):=by rw[dL ht,dL hu,K5]
theorem Vz {k:Int} {nm:List UInt8} {ix:Int} {l:List Ty} {k2:Int} {nm2:List UInt8} {ix2:Int} {l2:List Ty} (hlen:l.length=l2.length) (hb:l.length < 1000000000) (ih:∀t∈l,∀u∈l2,ag 61 [.dat t.enc,.dat u.enc] (iv (IQ t u))) :
  KD (.loop (roundOf Tryz.f61 0)) (fun e s=>(e=.exit 1/\K5 l l2=0/\s=(ZO (VZ k nm ix (sl (au l)) k2 nm2 ix2 (sl (au l2))) (Int.ofNat (au l).length)).aw Tryz.f61.ntmps)∨(e=.ret/\s=(ZP (K5 l l2)).aw Tryz.f61.ntmps)) ((stQ (VZ k nm ix (sl (au l)) k2 nm2 ix2 (sl (au l2))) (Int.ofNat 0)).aw Tryz.f61.ntmps):=by
 refine cI (St:=fun i=>(stQ (VZ k nm ix (sl (au l)) k2 nm2 ix2 (sl (au l2))) (Int.ofNat i)).aw Tryz.f61.ntmps) (fun i=>K5 l l2=K5 (l.drop i) (l2.drop i)) (au l).length ?_ ?_ (i:=0) (Nat.zero_le _) rfl
 ·intro i hi hI;obtain⟨t,ht,hm⟩:=get_mem hi;have hi2:=hi;rw[aF] at hi2;have hu:l2[i]?=some l2[i]:=List.getElem?_eq_getElem (by omega);have hm2:l2[i]∈l2:=List.getElem_mem _;generalize l2[i]=u at hu hm2;have h:=ih t hm u hm2;have hd:=Qh ht hu;rw[←hI] at hd;have hw:aH .i64 (Int.ofNat i+1)=Int.ofNat (i+1):=bg (by omega);have hs1:=lx hi;have hs2:sl (au l2)=.slice (au l2):=lx (i:=i) (by rw[aF];omega);rw[hs1,hs2];generalize IQ t u=c at h hd;refine Qg hi ht hu h rfl ?_ ?_
  ·intro hz;rw[hz] at hd;rw[hw];exact⟨rfl,hd⟩
  intro hz;rw[hz] at hd;dsimp only at hd;exact .inr ⟨rfl,by rw[hd]⟩
 intro hI;refine VA (.inl ⟨rfl,?_,rfl⟩);rw[hI,aF,List.drop_length]
 cases l2.drop l.length <;> rfl
mutual
theorem zJ:∀(t u:Ty),t.thin->ag 61 [.dat t.enc,.dat u.enc] (iv (IQ t u))
 | .mk k nm ix l,.mk k2 nm2 ix2 l2,h=>by
  simp only[Ty.thin] at h;have ih:=wE l h.2;rw[IQ];refine aac rfl rfl rfl rfl rfl rfl rfl rfl (fun he=>?_);rw[sf,aF,aF] at he;exact Vz (by simpa using he) h.1 (fun t ht u _=>ih t ht u)
theorem wE:∀l:List Ty,fT l->∀t∈l,∀u,ag 61 [.dat t.enc,.dat u.enc] (iv (IQ t u))
 | [],_,t,ht,_=>by simp at ht
 | x::r,h,t,ht,u=>by
  simp only[fT] at h
  rcases List.mem_cons.1 ht with h1|ht
  ·rw[h1];exact zJ x u h.1
  exact wE r h.2 t ht u
end
theorem ad1 {k ix k2 ix2 r:Int} {nm nm2:List UInt8} {l l2:List ap} {c:Bool} (h:ag 61 [.dat (.agg [i64 k,sb nm,i64 ix,sl l]),.dat (.agg [i64 k2,sb nm2,i64 ix2,sl l2])] (iv r)) (hc:aP r 0=c):ag 24 [.dat (.agg [i64 k,sb nm,i64 ix,sl l]),.dat (.agg [i64 k2,sb nm2,i64 ix2,sl l2])] (bv c):=by
 rcases l with _|⟨x,l⟩ <;>
 ·rcases l2 with _|⟨y,l2⟩ <;>
  ·refine co [8] [] (x:=.of Tryz.f24 Q3 SO) ?_;refine on h ?_;refine ob hc ?_
   cases c <;>
   ·exact fi
def reT (t u:Ty):Bool:=aP (IQ t u) 0
theorem zH (t u:Ty) (h:t.thin):ag 24 [.dat t.enc,.dat u.enc] (bv (reT t u)):=by
 have h1:=zJ t u h;obtain⟨k,nm,ix,l⟩:=t;obtain⟨k2,nm2,ix2,l2⟩:=u;exact ad1 h1 rfl
theorem VB (t u:Ty) (h:t.size < 1000000000):ag 24 [.dat t.enc,.dat u.enc] (bv (reT t u)):=zH t u (nf t h)
theorem VK (c:Bool):Nr c≠0:=by cases c <;> decide
theorem si {a b:List UInt8} (h:dU a b=true):a=b:=by rw[jo] at h;simpa using h
theorem eY {a b:Int} (h:aP a b=true):a=b:=by rw[gQ] at h;simpa using h
theorem IS {c1 c2 c3 c4 c5 c6 c7 c8:Bool} {r:Int} (h:K4 c1 c2 c3 c4 c5 c6 c7 c8 r=0):c1=true/\c2=true/\c3=true/\c4=true/\r=0:=by
 cases c1 <;> cases c2 <;> cases c3 <;> cases c4 <;> simp[K4,VK] at h ⊢ <;> exact h
mutual
theorem F0:∀(t u:Ty),IQ t u=0->t=u
 | .mk k nm ix l,.mk k2 nm2 ix2 l2,h=>by
  rw[IQ] at h;obtain⟨h1,h2,h3,h4,h5⟩:=IS h;rw[eY h1,si h2,eY h3];rw[sf,aF,aF] at h4;rw[F3 l l2 (by simpa using h4) h5]
theorem F3:∀(l l2:List Ty),l.length=l2.length->K5 l l2=0->l=l2
 | [],[],_,_=>rfl
 | [],_::_,h,_=>by simp at h
 | _::_,[],h,_=>by simp at h
 | t::r,u::v,h,h2=>by
  rw[K5] at h2
  cases hz:aP (IQ t u) 0 with
  | true=>
   rw[hz] at h2;rw[F0 t u (eY hz),F3 r v (by simpa using h) h2]
  | false=>
   rw[hz] at h2;dsimp only at h2;rw[h2,dG] at hz;simp at hz
end
mutual
theorem F1:∀t:Ty,IQ t t=0
 | .mk k nm ix l=>by rw[IQ,dG,jT,dG,dG,F4 l];rfl
theorem F4:∀l:List Ty,K5 l l=0
 | []=>by simp[K5]
 | t::r=>by rw[K5,F1 t,dG,F4 r]
end
theorem DH {t u:Ty}:reT t u=true↔t=u:=by
 unfold reT
 constructor
 ·intro h;exact F0 t u (eY h)
 rintro rfl;rw[F1,dG]
theorem uu (nm:List UInt8) (ar k:Int) (tn:List UInt8) (ix:Int) (la:List ap) (con:Bool) (lb:List ap) :
  Yl [.dat (eh nm ar k tn ix la con lb)]=some ⟨.undef,.new (.cells (cellsD nm ar k tn ix la con lb))⟩:=by
 rcases la with _|⟨x,la⟩ <;> rcases lb with _|⟨y,lb⟩ <;> kernel_rfl
theorem Er (t:Bool) (l:Nat) (nm:List UInt8) (ar k:Int) (tn:List UInt8) (ix:Int) (la:List ap) (con:Bool) (lb:List ap) :
  lg (env ay.aN) t 32 [.ptr (.loc l) 2] (some (.cells (cellsD nm ar k tn ix la con lb)))=some ⟨.dat (.agg [i64 k,sb tn,i64 ix,sl la]),.keep⟩:=by
 cases t <;> rcases la with _|⟨x,la⟩ <;> rcases lb with _|⟨y,lb⟩ <;> kernel_rfl
end Go.Proofs.YtiihadmgkoamoaaGreatDoor
