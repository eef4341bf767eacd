/- HierarchyLookup returns true and changes nothing, for arguments of bulk at most 1048576 (the card of the second form; conditions: those of the given row). Names are shortened by a program, for the claim's bound. Part 5. -/
import Derived.Ground.Names2Prog
import Derived.Shelf.Lays2
import Derived.Test.YtiihadmgkoamoaaGreatDoorProg
import Derived.Shelf.Slices.SearchI
import Derived.Shelf.Spec.SlicesInsert
import Derived.Shelf.Spec.SlicesInsertGrow
import Derived.Test.YtiihadmgkoamoaaGreatDoorQ04
set_option linter.unusedVariables false
set_option linter.unusedSimpArgs false
set_option maxRecDepth 100000
set_option maxHeartbeats 4000000
namespace Go.Proofs
open Go.Shelf
def Tryz.Nx:Go.Shelf.Ren:=⟨fun|21=>191|27=>201|28=>202|35=>204|39=>206|n=>n,fun|22=>22|3=>3|4=>4|0=>0|n=>n,fun|n=>n⟩
theorem Tryz.Za:Go.Proofs.Lays2.n21 Tryz.prog Tryz.Nx:={
 mixed:=by kernel_rfl
 f21:=Tryz.func191.trans (congrArg some (by kernel_rfl))
 f27:=Tryz.func201.trans (congrArg some (by kernel_rfl))
 f28:=Tryz.func202.trans (congrArg some (by kernel_rfl))
 f35:=Tryz.func204.trans (congrArg some (by kernel_rfl))
 f39:=Tryz.func206.trans (congrArg some (by kernel_rfl))
 t0:=Tryz.underlying0
 a0:=Tryz.isAgg0
 z0:=Tryz.sizeOf0
 v0:=Tryz.zeroValue0
 t3:=Tryz.underlying3
 a3:=Tryz.isAgg3
 z3:=Tryz.sizeOf3
 v3:=Tryz.zeroValue3
 t4:=Tryz.underlying4
 a4:=Tryz.isAgg4
 z4:=Tryz.sizeOf4
 v4:=Tryz.zeroValue4
 t22:=Tryz.underlying22
 a22:=Tryz.isAgg22
 z22:=Tryz.sizeOf22
 v22:=Tryz.zeroValue22
 i3:=by kernel_rfl }
def Tryz.Ul:Go.Shelf.Ren:=⟨fun|25=>190|31=>199|32=>200|37=>171|n=>n,fun|22=>22|3=>3|4=>4|40=>157|0=>0|n=>n,fun|n=>n⟩
theorem Tryz.agW:Go.Proofs.Lays2.n25 Tryz.prog Tryz.Ul:={
 mixed:=by kernel_rfl
 f25:=Tryz.func190.trans (congrArg some (by kernel_rfl))
 f31:=Tryz.func199.trans (congrArg some (by kernel_rfl))
 f32:=Tryz.func200.trans (congrArg some (by kernel_rfl))
 f37:=Tryz.func171.trans (congrArg some (by kernel_rfl))
 t0:=Tryz.underlying0
 a0:=Tryz.isAgg0
 z0:=Tryz.sizeOf0
 v0:=Tryz.zeroValue0
 t3:=Tryz.underlying3
 a3:=Tryz.isAgg3
 z3:=Tryz.sizeOf3
 v3:=Tryz.zeroValue3
 t4:=Tryz.underlying4
 a4:=Tryz.isAgg4
 z4:=Tryz.sizeOf4
 v4:=Tryz.zeroValue4
 t22:=Tryz.underlying22
 a22:=Tryz.isAgg22
 z22:=Tryz.sizeOf22
 v22:=Tryz.zeroValue22
 t40:=Tryz.underlying157
 a40:=Tryz.isAgg157
 z40:=Tryz.sizeOf157
 v40:=Tryz.zeroValue157 }
end Go.Proofs
namespace Go.Tp
open Go.Proofs Go.Shelf Go.RowKit
def yw (l:List Int):List ac:=l.map iv
def ints (l:List Int):List Value:=l.map (Value.int .i64)
section
variable {w:World} {R:Own} {N:Name->Option Nat}
theorem qL:∀{l:List Int} {us:List Value} {bs:List Nat},ak w R N (yw l) us bs->us=ints l/\bs=[]/\∀x∈l,bE (.int .i64 x)=true
 | [],us,bs,h=>by obtain⟨rfl,rfl⟩:=aR h;simp[ints]
 | x::l,us,bs,h=>by
  have h:ak w R N (iv x::yw l) us bs:=h;obtain⟨v,vs',b1,b2,rfl,rfl,h1,h2⟩:=az h;obtain⟨rfl,rfl,h3⟩:=qL h2;simp only[al] at h1;obtain⟨rfl,h1⟩:=h1;have h1:dN w R v (.flat (.int .i64 x)):=h1
  cases h1 with
  | flat hf=>exact⟨rfl,rfl,by rintro y hy;rcases List.mem_cons.1 hy with rfl|hy;exact hf;exact h3 y hy⟩
theorem Jp:∀{l:List Int},(∀x∈l,bE (.int .i64 x)=true)->ak w R N (yw l) (ints l) []
 | [],_=>aX
 | x::l,h=>by
  have h1:al w R N (iv x) (.int .i64 x) []:=by
   simp only[al];exact⟨trivial,.flat (h x (by simp))⟩
  exact aH (b1:=[]) (b2:=[]) h1 (Jp (l:=l) (fun y hy=>h y (by simp[hy])))
theorem ud {l:List Int}:∀v∈ints l,v.oneCell'=true:=by
 intro v hv;obtain⟨x,_,rfl⟩:=List.mem_map.1 hv;rfl
theorem aeH {l:List Int} {j:Nat} {v:Value} (h:(ints l)[j]?=some v):∃x,l[j]?=some x/\v=.int .i64 x:=by
 simp only[ints,List.getElem?_map,Option.map_eq_some_iff] at h;obtain⟨x,h1,h2⟩:=h;exact⟨x,h1,h2.symm⟩
theorem eK {b off:Nat} {vs:Array Value} {e:TypeId} {fr:Nat×Nat} (hb:w.heap[b]?=some (.cells vs e fr)) {v:Value} (h:vs.toList[off]?=some v):w.cell? ⟨b,off,none⟩=some v:=by
 rw[Array.getElem?_toList] at h;simp[World.cell?,hb,h]
theorem dG (b o:Nat) (e:TypeId) (news:List Value) (cur:Array Value) (hg:w.heap[b]?=some (.cells cur e (0,0))) (hfit:o+news.length<=cur.size) (h1:∀u∈news,u.oneCell'=true) :
  w.setCells b o news=w.setRow b (cur.toList.take o++news++cur.toList.drop (o+news.length)).toArray:=by
 have hc:∀j,j < news.length->(w.cell? ⟨b,o+0+j,none⟩).isSome=true:=by
  intro j hj;rw[eK hg (v:=cur.toList[o+0+j]'(by simp;omega)) (by simp)];rfl
 have hf:∀j,j < news.length->w.frozen? ⟨b,o+0+j,none⟩=false:=by
  intro j _;simp[World.frozen?,hg]
 have a1:=run_storeCells_cells (P:=default) b o news 0 w hc hf h1;have a2:=run_storeCells_at default b o e news 0 cur w hg (by simpa using hfit) h1;rw[a1] at a2;simp only[Nat.add_zero,Result.ok.injEq] at a2;exact a2.2
end
section
variable {P:Program} {ρ:Ren} {G:bJ}
theorem hJ {w:World} {R:Own} {g:Nat} {cur:Array Value} {t:TypeId} (hg:w.heap[g]?=some (.cells cur t (0,0))) (arr:Array Value) (hsz:arr.size=cur.size) (hRv:∀j,j < cur.size->R g j) (hpos:0 < cur.size) (bs:List Nat) (hb:g∉bs):bA w R (w.setRow g arr) R bs:=
 jL hg arr hsz (fun _ _ h=>h) (fun _ _ _ h=>h) (fun off hno=>by
  rw[Array.getElem?_eq_none (by
   rcases Nat.lt_or_ge off cur.size with h'|h'
   ·exact (hno (hRv off h')).elim
   ·omega),Array.getElem?_eq_none (by
   rcases Nat.lt_or_ge off cur.size with h'|h'
   ·exact (hno (hRv off h')).elim
   omega)]) ⟨0,hRv 0 hpos⟩ bs hb
theorem kP {w w':World} {R R':Own} {bs:List Nat} (k:bA w.drew R w' R' bs):bA w R w' R' bs:=
 ⟨⟨k.step.os,k.step.tape,k.step.output,k.step.size,k.step.block,k.step.cell,k.step.sizes⟩,k.same⟩
theorem As {w:World} {R:Own} (q:Nat) (bs:List Nat):bA w R (w.drewN q) R bs:=
 ⟨⟨rfl,rfl,rfl,Nat.le_refl _,fun b _ h=>⟨rfl,h⟩,fun b off _ h=>⟨h,rfl⟩,fun b _=>rfl⟩,fun b _ _=>⟨rfl,fun _ h=>h⟩⟩
theorem Ua (L:Lays2.n25 P ρ) {l:List Int} {x:Int} (hs:l.Pairwise (·<=·)) (hn:l.length < 1000000000) :
  aC P G (ρ.f 25) [.win (.out 0) 1 0 l.length,iv x] [(.out 0,.cells (yw l))] 1 (XQ ⟨.tup [iv (Int.ofNat (l.countP (· < x))),bv (l.contains x)],[(.out 0,.cells (yw l))],1⟩):=by
 intro w R N cargs bsA bsH bsF hargs hheap hnd hnx hglob hF;obtain⟨v0,r1,c0,d1,rfl,rfl,h0,hr1⟩:=az hargs;obtain⟨v1,r2,c1,d2,rfl,rfl,h1,hr2⟩:=az hr1;obtain⟨rfl,rfl⟩:=aR hr2;have hheap0:=hheap;obtain⟨b,b1,b2,rfl,hb,hobj,hrest⟩:=hheap;have hrest:b2=[]:=hrest;subst hrest;obtain⟨vs,elem,sp,hblk,hrv,hRv,_⟩:=hobj;simp only[al] at h0 h1;obtain⟨rfl,b',cap,hb',rfl,hcap,_,hblt,hrow⟩:=h0
 have:b'=b:=by rw[hb] at hb';simpa using hb'.symm
 subst this;obtain⟨rfl,h1⟩:=h1;have h1:dN w R v1 (.flat (.int .i64 x)):=h1;have e1:v1=.int .i64 x:=by cases h1 with|flat _=>rfl
 have hfx:bE (.int .i64 x)=true:=by cases h1 with|flat h=>exact h
 subst e1;obtain⟨us1,us2,q1,q2,hus,rfl,hr1,_⟩:=cV hrv;obtain⟨rfl,rfl,hfl⟩:=qL hr1;have hcell:∀j,j < l.length->w.cell? ⟨b',0+j,none⟩=some (.int .i64 (l.getD j 0)):=by
  intro j hj;refine eK hblk ?_;rw[hus,Nat.zero_add,List.getElem?_append_left (by simp[ints];exact hj)];simp[ints,hj]
 refine (Any.slices_BinarySearch_int L b' 0 l.length cap l x w (Nat.le_refl _) (by omega) hcell (by rw[List.take_length];exact hs)).mono ?_;rintro e w' ⟨rfl,q,rfl⟩;rw[List.take_length];have hk:∀bs,bA w R (w.drewN q) R bs:=As q;refine⟨_,_,_,1,R,N,[],_,rfl,⟨rfl,rfl,rfl⟩,?_,hheap0.keep (hk _),by simpa using hnd,hnx,hk _,fun _ _ h=>h⟩;have hi:∀n:Nat,n < 9223372036854775808->bE (.int .i64 (Int.ofNat n))=true:=by
  intro n hn;simp[bE,IntKind.min,IntKind.max,IntKind.signed,IntKind.bits];omega
 have hcnt:l.countP (· < x)<=l.length:=List.countP_le_length;simp only[al];refine⟨[.int .i64 (Int.ofNat (l.countP (· < x))),.bool (l.contains x)],rfl,?_⟩;refine aH (b1:=[]) (b2:=[]) ?_ (aH (b1:=[]) (b2:=[]) ?_ aX)
 ·simp only[al];exact⟨trivial,.flat (hi _ (by omega))⟩
 simp only[al];exact⟨trivial,.flat rfl⟩
def gO (l:List Int) (i:Nat) (x:Int):List Int:=l.take i++x::l.drop i
theorem ug {l:List Int} {i:Nat} {x:Int} (h:i<=l.length):(gO l i x).length=l.length+1:=by simp[gO];omega
theorem oc {l:List Int} {i:Nat} {x:Int}:ints (gO l i x)=(ints l).take i++.int .i64 x::(ints l).drop i:=by simp[gO,ints,List.map_take,List.map_drop]
theorem Jy {l:List Int} {i:Nat} {x:Int} (h:∀y∈l,bE (.int .i64 y)=true) (hx:bE (.int .i64 x)=true):∀y∈gO l i x,bE (.int .i64 y)=true:=by
 intro y hy;simp only[gO,List.mem_append,List.mem_cons] at hy
 rcases hy with hy|rfl|hy
 ·exact h y (List.mem_of_mem_take hy)
 ·exact hx
 exact h y (List.mem_of_mem_drop hy)
theorem Xa (l:List Int):cN (yw l)=false:=by
 rcases l with _|⟨a,_|⟨b,_|⟨c,r⟩⟩⟩ <;> rfl
theorem jd {w:World} {R:Own} {N:Name->Option Nat}:∀{n:Nat} {us:List Value} {bs:List Nat},ak w R N (List.replicate n .undef) us bs->bs=[]/\us.length=n
 | 0,us,bs,h=>by obtain⟨rfl,rfl⟩:=aR h;exact⟨rfl,rfl⟩
 | n+1,us,bs,h=>by
  have h:ak w R N (.undef::List.replicate n .undef) us bs:=h;obtain⟨v,vs',b1,b2,rfl,rfl,h1,h2⟩:=az h;obtain⟨rfl,h3⟩:=jd h2;simp only[al] at h1;subst h1;exact⟨rfl,by simp[h3]⟩
theorem yx {w w':World} {R R':Own} {N:Name->Option Nat} {vb g cap:Nat} {elem:TypeId} {arr rest:List Value} {l2:List Int} {x:Int} {bsF:List Nat}
  (hnx:∀o b,N (.out o)=some b->o < 2) (hk:∀bs,g∉bs->bA w R w' R' bs) (hgF:g∉bsF) (hgv:g≠vb) (hnd:(vb::bsF).Nodup)
  (hg:w'.heap[g]?=some (.cells arr.toArray elem (0,0))) (harr:arr=ints l2++rest) (hfl:∀y∈l2,bE (.int .i64 y)=true) (hR':∀j,j < arr.length->R' g j) (hcap:arr.length=cap) (hcm:cap<=gX) (hl2:l2.length<=cap)
  (hv:ao w R (outs N) [(.out 1,.cells [iv x])] [vb]) (cv:Value) (hcv:cv=.slice (some ⟨g,0,none⟩) l2.length cap) :
  ∃v cv' heap' next' R2 N' bsV bsH',Ending.returned cv=.returned cv'/\XQ ⟨.win (.out 2) 1 0 l2.length,[(.out 2,.cells (yw l2)),(.out 1,.cells [iv x])],3⟩ v heap' next'/\al w' R2 (outs N') v cv' bsV/\ao w' R2 (outs N') heap' bsH' ∧
   (bsV++(bsH'++bsF)).Nodup/\(∀o b,N' (.out o)=some b->o < next')/\bA w R w' R2 bsF/\(∀o b,N (.out o)=some b->N' (.out o)=some b):=by
 have hext:=tt (N:=N) (b:=g) hnx;have hlt:g < w'.heap.size:=bw hg;refine⟨_,cv,_,3,R',bK N (.out 2) g,[],[g,vb],rfl,⟨rfl,rfl,rfl⟩,?_,?_,?_,?_,hk bsF hgF,fun o b h=>hext _ _ h⟩
 ·simp only[al];refine⟨trivial,g,cap,by simp[outs,bK],hcv,hl2,⟨by decide,hcm⟩,hlt,?_⟩;rw[di hg];simp[hcap]
 ·refine⟨g,[],[vb],rfl,by simp[outs,bK],?_,(hv.keep (hk _ (by simpa using hgv))).ext (tH hext)⟩;refine⟨arr.toArray,elem,rest.length,hg,?_,fun j hj=>hR' j (by simpa using hj),fun h=>by rw[Xa] at h;simp at h⟩;have h1:ak w' R' (outs (bK N (.out 2) g)) (yw l2) (ints l2) []:=Jp hfl;have h2:=eF (w:=w') (R:=R') (N:=outs (bK N (.out 2) g)) rest;simpa [harr] using cA h1 h2
 ·simp only[List.nil_append,List.cons_append];refine List.nodup_cons.2 ⟨?_,hnd⟩;simp only[List.mem_cons,not_or];exact⟨hgv,hgF⟩
 intro o c ho
 by_cases hne:o=2
 ·omega
 have:N (.out o)=some c:=by simpa [bK,hne] using ho
 have:=hnx o c this
 omega
theorem LQ (B z1 z2:List Value) (x zz:Value) (i:Nat) (h:B.length=i):(B++zz::z1++z2).take i++[x]++(B++zz::z1++z2).drop (i+1)=B++x::(z1++z2):=by
 subst h;have e1:(B++zz::z1++z2).take B.length=B:=by simp
 have e2:(B++zz::z1++z2).drop (B.length+1)=z1++z2:=by
  rw[List.append_assoc,List.drop_length_add_append];rfl
 rw[e1,e2];simp
theorem CA (A:List Value) (u0 x:Value) (us3:List Value) (i:Nat) (h:i<=A.length) :
  ((A++u0::us3).take (i+1)++A.drop i++(A++u0::us3).drop (i+1+(A.drop i).length)).take i++[x]++((A++u0::us3).take (i+1)++A.drop i++(A++u0::us3).drop (i+1+(A.drop i).length)).drop (i+1)=A.take i++x::A.drop i++us3:=by
 obtain⟨A1,A2,rfl,h1⟩:∃A1 A2,A=A1++A2/\A1.length=i:=⟨A.take i,A.drop i,(List.take_append_drop i A).symm,by simp;omega⟩;subst h1;have e1:(A1++A2).drop A1.length=A2:=by simp
 have e2:(A1++A2).take A1.length=A1:=by simp
 rw[e1,e2];obtain⟨y,t,ht⟩:∃y t,A2++u0::us3=y::t:=by cases A2 with|nil=>exact⟨_,_,rfl⟩|cons a r=>exact⟨_,_,rfl⟩
 have e3:(A1++A2++u0::us3).take (A1.length+1)=A1++[y]:=by rw[List.append_assoc,ht];simp[List.take_append];exact List.take_of_length_le (by omega)
 have e4:(A1++A2++u0::us3).drop (A1.length+1+A2.length)=us3:=by
  have:A1.length+1+A2.length=(A1++A2).length+1:=by simp;omega
  rw[this,List.drop_length_add_append];rfl
 rw[e3,e4];simp[List.take_append,List.drop_append]
theorem Ub (L:Lays2.n21 P ρ) {l:List Int} {x:Int} {i:Nat} (hi:i<=l.length) (hn:l.length < 1000000000) :
  aC P G (ρ.f 21) [.win (.out 0) 1 0 l.length,iv (Int.ofNat i),.win (.out 1) 1 0 1] [(.out 0,.cells (yw l)),(.out 1,.cells [iv x])] 2
   (XQ ⟨.win (.out 2) 1 0 (gO l i x).length,[(.out 2,.cells (yw (gO l i x))),(.out 1,.cells [iv x])],3⟩):=by
 intro w R N cargs bsA bsH bsF hargs hheap hnd hnx hglob hF;obtain⟨v0,r1,c0,d1,rfl,rfl,h0,hr1⟩:=az hargs;obtain⟨v1,r2,c1,d2,rfl,rfl,h1,hr2⟩:=az hr1;obtain⟨v2,r3,c2,d3,rfl,rfl,h2,hr3⟩:=az hr2;obtain⟨rfl,rfl⟩:=aR hr3;obtain⟨b,b1,b2,rfl,hb,hobj,hrest⟩:=hheap;have hrest0:=hrest;obtain⟨vb,b3,b4,rfl,hvb,hobjv,hrest⟩:=hrest;have hrest:b4=[]:=hrest;subst hrest;obtain⟨vs,elem,sp,hblk,hrv,hRv,_⟩:=hobj;obtain⟨vs2,elem2,sp2,hblk2,hrv2,hRv2,_⟩:=hobjv;simp only[al] at h0 h1 h2;obtain⟨rfl,b',cap,hb',rfl,hcap,⟨_,hcm⟩,hblt,hrow⟩:=h0
 have:b'=b:=by rw[hb] at hb';simpa using hb'.symm
 subst this;obtain⟨rfl,vb',vc,hvb',rfl,hvc,_,hvlt,hvrow⟩:=h2
 have:vb'=vb:=by rw[hvb] at hvb';simpa using hvb'.symm
 subst this;obtain⟨rfl,h1⟩:=h1;have h1:dN w R v1 (.flat (.int .i64 (Int.ofNat i))):=h1;have e1:v1=.int .i64 (Int.ofNat i):=by cases h1 with|flat _=>rfl
 subst e1;obtain⟨us1,us2,q1,q2,hus,rfl,hr1,hq2⟩:=cV hrv;obtain⟨rfl,rfl,hfl⟩:=qL hr1;obtain⟨ws1,ws2,q3,q4,hws,rfl,hr2,hq4⟩:=cV hrv2;obtain⟨rfl,rfl,hfx⟩:=qL (l:=[x]) hr2;have hfx:=hfx x (by simp);obtain⟨rfl,_⟩:=jd hq2;obtain⟨rfl,_⟩:=jd hq4;simp only[List.nil_append,List.append_nil,List.cons_append] at hnd;have hvb0:b'≠vb':=by
  have:=(List.nodup_cons.1 hnd).1
  simp only[List.mem_cons,not_or] at this;exact this.1
 have hbF:b'∉bsF:=by
  have:=(List.nodup_cons.1 hnd).1
  simp only[List.mem_cons,not_or] at this;exact this.2
 have hnd2:(vb'::bsF).Nodup:=(List.nodup_cons.1 hnd).2;have hsz:vs.size=cap:=by rw[di hblk] at hrow;omega
 have hlen:(ints l).length=l.length:=by simp[ints]
 have hl2:(gO l i x).length=l.length+1:=ug hi;have hfl2:=Jy (i:=i) hfl hfx;have hvs:∀j v,[Value.int .i64 x][j]?=some v->w.cell? ⟨vb',0+j,none⟩=some v:=by
  intro j v hj;refine eK hblk2 ?_;rw[hws]
  cases j with
  | zero=>simpa [ints] using hj
  | succ j=>simp at hj
 have hcs:∀j v,(ints l)[j]?=some v->w.cell? ⟨b',0+j,none⟩=some v:=by
  intro j v hj;refine eK hblk ?_
  have:j < (ints l).length:=(List.getElem?_eq_some_iff.1 hj).1
  rw[hus,Nat.zero_add,List.getElem?_append_left this];exact hj
 have h1v:∀v∈[Value.int .i64 x],v.oneCell'=true:=by intro v hv;simp at hv;subst hv;rfl
 have hsome:∀j,j < cap->(w.cell? ⟨b',0+j,none⟩).isSome=true:=by
  intro j hj;have hj2:j < vs.toList.length:=by simp;omega
  rw[eK hblk (v:=vs.toList[j]) (by rw[Nat.zero_add];exact List.getElem?_eq_getElem hj2)];rfl
 have hfroz:∀j,w.frozen? ⟨b',j,none⟩=false:=by intro j;simp[World.frozen?,hblk]
 have hus2:us2.length=cap - l.length:=by
  have:=congrArg List.length hus
  simp[hlen] at this;omega
 by_cases hroom:l.length+1<=cap
 ·
  obtain⟨u0,us3,rfl⟩:∃u0 us3,us2=u0::us3:=by
   cases us2 with
   | nil=>simp at hus2;omega
   | cons a r=>exact⟨a,r,rfl⟩
  rcases Nat.lt_or_ge i l.length with hlt|hge
  ·refine (Any2.slices_Insert_int_shift L b' 0 l.length cap i vb' 0 1 vc (ints l) [.int .i64 x] w hlt (by decide) hroom ?_ (Ne.symm hvb0) hlen rfl hcs (fun j hj=>hsome j (by omega)) (fun j _=>hfroz _) hvs ud h1v elem2 elem vs2.size vs.size ?_ ?_ ?_ ?_ ?_).mono ?_
   ·exact hcm
   ·simp[World.shape?,hblk2]
   ·simp[World.shape?,hblk]
   ·omega
   ·simp[World.frozen?,hblk2]
   ·simp[World.frozen?,hblk2]
   rintro e w' ⟨rfl,rfl⟩;have hg1:(w.drew).heap[b']?=some (.cells vs elem (0,0)):=hblk;have hd:((ints l).drop i).length=l.length - i:=by simp[hlen]
   rw[dG (w:=w.drew) b' (0+(i+1)) elem ((ints l).drop i) vs hg1 (by rw[hd];omega) (fun u hu=>ud u (List.mem_of_mem_drop hu))];obtain⟨ar1,har1⟩:∃ar1,ar1=vs.toList.take (0+(i+1))++(ints l).drop i++vs.toList.drop (0+(i+1)+((ints l).drop i).length):=⟨_,rfl⟩;rw[←har1];have hl1:ar1.length=cap:=by
    rw[har1];simp[hlen];omega
   have hg2:=setRow_heap w.drew b' vs ar1.toArray elem (0,0) hg1;rw[dG (w:=w.drew.setRow b' ar1.toArray) b' (0+i) elem [.int .i64 x] ar1.toArray hg2 (by simp[hl1];omega) h1v];obtain⟨ar2,har2⟩:∃ar2,ar2=ar1.toArray.toList.take (0+i)++[.int .i64 x]++ar1.toArray.toList.drop (0+i+[Value.int .i64 x].length):=⟨_,rfl⟩;rw[←har2];have hl3:ar2.length=cap:=by
    rw[har2];simp[hl1];omega
   have hg3:=setRow_heap (w.drew.setRow b' ar1.toArray) b' ar1.toArray ar2.toArray elem (0,0) hg2;refine yx (g:=b') (vb:=vb') (cap:=cap) (arr:=ar2) (rest:=us3) (R':=R) hnx (fun bs hb=>?_) hbF hvb0 hnd2 hg3 ?_ hfl2 (fun j hj=>hRv j (by omega)) hl3 hcm (by rw[hl2];exact hroom) hrest0 _ (by rw[hl2])
   ·refine kP (bA.trans (hJ hg1 ar1.toArray (by simp[hl1,hsz]) hRv (by omega) bs hb) (hJ hg2 ar2.toArray (by simp[hl1,hl3]) (fun j hj=>hRv j (by simp[hl1] at hj;omega)) (by simp[hl1];omega) bs hb))
   -- the cells
   have hv:vs.toList=ints l++(u0::us3):=hus;rw[har2,har1,hv,oc];simp only[Nat.zero_add,List.toList_toArray,List.length_singleton];exact CA (ints l) u0 (.int .i64 x) us3 i (by rw[hlen];omega)
  have hil:i=l.length:=by omega
  subst hil;refine (Any2.slices_Insert_int_end_room L b' 0 l.length cap vb' 0 1 vc [.int .i64 x] w (by decide) hroom hcm rfl (fun j hj=>?_) (fun j _=>hfroz _) hvs h1v).mono ?_
  ·rw[Nat.add_assoc];exact hsome _ (by omega)
  rintro e w' ⟨rfl,rfl⟩;rw[dG (w:=w) b' (0+l.length) elem [.int .i64 x] vs hblk (by simp;omega) h1v];obtain⟨ar2,har2⟩:∃ar2,ar2=vs.toList.take (0+l.length)++[.int .i64 x]++vs.toList.drop (0+l.length+[Value.int .i64 x].length):=⟨_,rfl⟩;rw[←har2];have hl3:ar2.length=cap:=by
   rw[har2];simp;omega
  have hg3:=setRow_heap w b' vs ar2.toArray elem (0,0) hblk;refine yx (g:=b') (vb:=vb') (cap:=cap) (arr:=ar2) (rest:=us3) (R':=R) hnx (fun bs hb=>hJ hblk ar2.toArray (by simp[hl3,hsz]) hRv (by omega) bs hb) hbF hvb0 hnd2 hg3 ?_ hfl2 (fun j hj=>hRv j (by omega)) hl3 hcm (by rw[hl2];exact hroom) hrest0 _ (by rw[hl2]);have hv:vs.toList=ints l++(u0::us3):=hus;rw[har2,hv,oc,Nat.zero_add,←hlen,List.take_left,List.take_length,List.drop_length,List.length_singleton,List.drop_length_add_append];simp
 -- a new row
 have hcl:cap=l.length:=by omega
 subst hcl;have hge:=grownCap_ge w (l.length+1) l.length (ρ.t 3);have hgm:grownCap w (l.length+1) l.length (ρ.t 3)<=gX:=Nat.le_trans (grownCap_le_maxLen w (l.length+1) l.length (ρ.t 3) (by unfold maxLen;omega)) (by decide);generalize hgc:grownCap w (l.length+1) l.length (ρ.t 3)=gc at hge hgm;have hltb:b' < w.heap.size:=bw hblk;have hltv:vb' < w.heap.size:=bw hblk2;have hzs:∀n,(Builtin.zeroCells (Value.int .i64 0).cells n).toList.length=n:=fun n=>by simp[Builtin.zeroCells,Value.cells]
 have UJ:w.heap.size∉bsF:=fun h=>by have:=hF _ h;omega
 have hRm:∀j,R.more w.heap.size w.heap.size j:=fun j=>.inl rfl
 rcases Nat.lt_or_ge i l.length with hlt|hge2
 ·refine (Any2.slices_Insert_int_grow L b' 0 l.length l.length i vb' 0 1 vc (ints l) [.int .i64 x] w hlt (by decide) (Nat.le_refl _) (by omega) (by omega) hlen rfl hcs hvs ud h1v).mono ?_;rw[hgc];rintro e w' ⟨rfl,rfl⟩;obtain⟨z1,hz1⟩:∃z1,z1=(Builtin.zeroCells (Value.int .i64 0).cells (l.length+1 - i)).toList:=⟨_,rfl⟩;obtain⟨z2,hz2⟩:∃z2,z2=(Builtin.zeroCells (Value.int .i64 0).cells (gc - (l.length+1))).toList:=⟨_,rfl⟩;have hl1:z1.length=l.length+1 - i:=by rw[hz1,hzs]
  have hl2':z2.length=gc - (l.length+1):=by rw[hz2,hzs]
  obtain⟨ar0,har0⟩:∃ar0,ar0=(ints l).take i++z1++z2:=⟨_,rfl⟩;have hc0:(((ints l).take i).toArray++Builtin.zeroCells (Value.int .i64 0).cells (l.length+1 - i)++Builtin.zeroCells (Value.int .i64 0).cells (gc - (l.length+1)))=ar0.toArray:=by rw[har0,hz1,hz2];simp
  rw[hc0];have hl0:ar0.length=gc:=by rw[har0];simp[hl1,hl2',hlen];omega
  have hg0:((w.alloc (.cells ar0.toArray (ρ.t 3))).drew).heap[w.heap.size]?=some (.cells ar0.toArray (ρ.t 3) (0,0)):=heap_alloc_new w _;rw[dG (w:=(w.alloc (.cells ar0.toArray (ρ.t 3))).drew) w.heap.size i (ρ.t 3) [.int .i64 x] ar0.toArray hg0 (by simp[hl0];omega) h1v];obtain⟨ar1,har1⟩:∃ar1,ar1=ar0.toArray.toList.take i++[.int .i64 x]++ar0.toArray.toList.drop (i+[Value.int .i64 x].length):=⟨_,rfl⟩;rw[←har1];have hl3:ar1.length=gc:=by rw[har1];simp[hl0];omega
  have hg1:=setRow_heap (w.alloc (.cells ar0.toArray (ρ.t 3))).drew w.heap.size ar0.toArray ar1.toArray (ρ.t 3) (0,0) hg0;have hg1':(((w.alloc (.cells ar0.toArray (ρ.t 3))).drew.setRow w.heap.size ar1.toArray).drew).heap[w.heap.size]?=some (.cells ar1.toArray (ρ.t 3) (0,0)):=hg1;have hd:((ints l).drop i).length=l.length - i:=by simp[hlen]
  rw[dG (w:=((w.alloc (.cells ar0.toArray (ρ.t 3))).drew.setRow w.heap.size ar1.toArray).drew) w.heap.size (i+1) (ρ.t 3) ((ints l).drop i) ar1.toArray hg1' (by rw[hd];simp[hl3];omega) (fun u hu=>ud u (List.mem_of_mem_drop hu))];obtain⟨ar2,har2⟩:∃ar2,ar2=ar1.toArray.toList.take (i+1)++(ints l).drop i++ar1.toArray.toList.drop (i+1+((ints l).drop i).length):=⟨_,rfl⟩;rw[←har2];have hl4:ar2.length=gc:=by rw[har2];simp[hl3,hlen];omega
  have hg2:=setRow_heap ((w.alloc (.cells ar0.toArray (ρ.t 3))).drew.setRow w.heap.size ar1.toArray).drew w.heap.size ar1.toArray ar2.toArray (ρ.t 3) (0,0) hg1';refine yx (g:=w.heap.size) (vb:=vb') (cap:=gc) (arr:=ar2) (rest:=z2) (R':=R.more w.heap.size) hnx (fun bs hb=>?_) UJ (by omega) hnd2 hg2 ?_ hfl2 (fun j _=>hRm j) hl4 hgm (by rw[hl2];exact hge) hrest0 _ (by rw[hl2])
  ·have k1:bA w R (w.alloc (.cells ar0.toArray (ρ.t 3))) (R.more w.heap.size) bs:=fE _ (fun b off hb=>Own.jQ hb) bs;have k2:=hJ (R:=R.more w.heap.size) hg0 ar1.toArray (by simp[hl0,hl3]) (fun j _=>hRm j) (by simp[hl0];omega) bs hb;have k3:=hJ (R:=R.more w.heap.size) hg1' ar2.toArray (by simp[hl4,hl3]) (fun j _=>hRm j) (by simp[hl3];omega) bs hb;exact k1.trans (kP (k2.trans (kP k3)))
  have e0:((ints l).take i).length=i:=by simp[hlen];omega
  obtain⟨zz,z1',hz⟩:∃zz z1',z1=zz::z1':=by
   cases z1 with
   | nil=>simp at hl1;omega
   | cons a r=>exact⟨a,r,rfl⟩
  have hl5:z1'.length=l.length - i:=by rw[hz] at hl1;simp at hl1;omega
  have e1:ar1=(ints l).take i++.int .i64 x::(z1'++z2):=by
   rw[har1,har0,hz];simp only[List.toList_toArray,List.length_singleton];exact LQ _ z1' z2 (.int .i64 x) zz i e0
  rw[har2,e1,oc];simp only[List.toList_toArray];have e2:((ints l).take i++.int .i64 x::(z1'++z2)).take (i+1)=(ints l).take i++[.int .i64 x]:=by
   rw[List.take_append,e0];simp[List.take_take]
  have e3:((ints l).take i++.int .i64 x::(z1'++z2)).drop (i+1+((ints l).drop i).length)=z2:=by
   have:i+1+((ints l).drop i).length=((ints l).take i).length+(1+z1'.length):=by rw[e0,hd,hl5];omega
   rw[this,List.drop_length_add_append,Nat.add_comm 1,List.drop_succ_cons,List.drop_left]
  rw[e2,e3];simp
 have hil:i=l.length:=by omega
 subst hil;refine (Any2.slices_Insert_int_end_grow L (some ⟨b',0,none⟩) l.length l.length vb' 0 1 vc (ints l) [.int .i64 x] w (by decide) (Nat.le_refl _) (by omega) (by omega) hlen rfl (by simp) (fun a ha j v hj=>?_) hvs h1v).mono ?_
 ·simp only[Option.some.injEq] at ha;subst ha;rw[add_plain];exact hcs j v hj
 rw[hgc];rintro e w' ⟨rfl,rfl⟩;obtain⟨ar2,har2⟩:∃ar2,ar2=(ints l++[.int .i64 x])++(Builtin.zeroCells (Value.int .i64 0).cells (gc - (l.length+1))).toList:=⟨_,rfl⟩;have hcells:((ints l++[Value.int .i64 x]).toArray++Builtin.zeroCells (Value.int .i64 0).cells (gc - (l.length+1)))=ar2.toArray:=by rw[har2];simp
 rw[hcells];have hl3:ar2.length=gc:=by rw[har2,List.length_append,hzs];simp[hlen];omega
 have hg3:(w.drew.alloc (.cells ar2.toArray (ρ.t 3))).heap[w.heap.size]?=some (.cells ar2.toArray (ρ.t 3) (0,0)):=heap_alloc_new w.drew _;refine yx (g:=w.heap.size) (vb:=vb') (cap:=gc) (arr:=ar2) (rest:=(Builtin.zeroCells (Value.int .i64 0).cells (gc - (l.length+1))).toList) (R':=R.more w.heap.size) hnx (fun bs hb=>eE _ (fun b off hb=>Own.jQ hb) bs) UJ (by omega) hnd2 hg3 ?_ hfl2 (fun j _=>hRm j) hl3 hgm (by rw[hl2];exact hge) hrest0 _ (by rw[hl2]);rw[har2,oc,←hlen,List.take_length,List.drop_length]
theorem EA (L:Lays2.n21 P ρ) {x:Int} :
  aC P G (ρ.f 21) [.dat (.flat (.slice none 0 0)),iv (Int.ofNat 0),.win (.out 0) 1 0 1] [(.out 0,.cells [iv x])] 1
   (XQ ⟨.win (.out 1) 1 0 1,[(.out 1,.cells [iv x]),(.out 0,.cells [iv x])],2⟩):=by
 intro w R N cargs bsA bsH bsF hargs hheap hnd hnx hglob hF;obtain⟨v0,r1,c0,d1,rfl,rfl,h0,hr1⟩:=az hargs;obtain⟨v1,r2,c1,d2,rfl,rfl,h1,hr2⟩:=az hr1;obtain⟨v2,r3,c2,d3,rfl,rfl,h2,hr3⟩:=az hr2;obtain⟨rfl,rfl⟩:=aR hr3;have hheap0:=hheap;obtain⟨vb,b3,b4,rfl,hvb,hobjv,hrest⟩:=hheap;have hrest:b4=[]:=hrest;subst hrest;obtain⟨vs2,elem2,sp2,hblk2,hrv2,hRv2,_⟩:=hobjv;simp only[al] at h0 h1 h2;obtain⟨rfl,h0⟩:=h0;have hv:v0=.slice none 0 0:=by
  have h0:dN w R v0 (.flat (.slice none 0 0)):=h0
  cases h0 with|flat _=>rfl
 subst hv;obtain⟨rfl,vb',vc,hvb',rfl,hvc,_,hvlt,hvrow⟩:=h2
 have:vb'=vb:=by rw[hvb] at hvb';simpa using hvb'.symm
 subst this;obtain⟨rfl,h1⟩:=h1;have h1:dN w R v1 (.flat (.int .i64 (Int.ofNat 0))):=h1;have e1:v1=.int .i64 (Int.ofNat 0):=by cases h1 with|flat _=>rfl
 subst e1;obtain⟨ws1,ws2,q3,q4,hws,rfl,hr2,hq4⟩:=cV hrv2;obtain⟨rfl,rfl,hfx⟩:=qL (l:=[x]) hr2;obtain⟨rfl,_⟩:=jd hq4;simp only[List.nil_append,List.append_nil] at hnd;have hvs:∀j v,[Value.int .i64 x][j]?=some v->w.cell? ⟨vb',0+j,none⟩=some v:=by
  intro j v hj;refine eK hblk2 ?_;rw[hws]
  cases j with
  | zero=>simpa [ints] using hj
  | succ j=>simp at hj
 have h1v:∀v∈[Value.int .i64 x],v.oneCell'=true:=by intro v hv;simp at hv;subst hv;rfl
 have hltv:vb' < w.heap.size:=bw hblk2;have UJ:w.heap.size∉bsF:=fun h=>by have:=hF _ h;omega
 refine (Any2.slices_Insert_int_end_grow L none 0 0 vb' 0 1 vc [] [.int .i64 x] w (by decide) (Nat.le_refl _) (by omega) (by omega) rfl rfl (by simp) (by simp) hvs h1v).mono ?_;have hge:=grownCap_ge w (0+1) 0 (ρ.t 3);have hgm:grownCap w (0+1) 0 (ρ.t 3)<=gX:=Nat.le_trans (grownCap_le_maxLen w (0+1) 0 (ρ.t 3) (by unfold maxLen;omega)) (by decide);generalize hgc:grownCap w (0+1) 0 (ρ.t 3)=gc at hge hgm;have hzs:∀n,(Builtin.zeroCells (Value.int .i64 0).cells n).toList.length=n:=fun n=>by simp[Builtin.zeroCells,Value.cells]
 rintro e w' ⟨rfl,rfl⟩;obtain⟨ar2,har2⟩:∃ar2,ar2=Value.int .i64 x::(Builtin.zeroCells (Value.int .i64 0).cells (gc - (0+1))).toList:=⟨_,rfl⟩;have hcells:(([]++[Value.int .i64 x]).toArray++Builtin.zeroCells (Value.int .i64 0).cells (gc - (0+1)))=ar2.toArray:=by
  apply Array.toList_inj.1
  rw[har2];simp
 rw[hcells];have hl3:ar2.length=gc:=by rw[har2,List.length_cons,hzs];omega
 have hg3:(w.drew.alloc (.cells ar2.toArray (ρ.t 3))).heap[w.heap.size]?=some (.cells ar2.toArray (ρ.t 3) (0,0)):=heap_alloc_new w.drew _;have hk:∀bs,bA w R (w.drew.alloc (.cells ar2.toArray (ρ.t 3))) (R.more w.heap.size) bs:=fun bs=>eE _ (fun b off hb=>Own.jQ hb) bs
 have hext:=tt (N:=N) (b:=w.heap.size) hnx;refine⟨_,_,_,2,R.more w.heap.size,bK N (.out 1) w.heap.size,[],[w.heap.size,vb'],rfl,⟨rfl,rfl,rfl⟩,?_,?_,?_,?_,hk bsF,fun o b h=>hext _ _ h⟩
 ·simp only[al];refine⟨trivial,w.heap.size,gc,by simp[outs,bK],rfl,hge,⟨by decide,hgm⟩,bw hg3,?_⟩;rw[di hg3];simp[hl3]
 ·refine⟨w.heap.size,[],[vb'],rfl,by simp[outs,bK],?_,((by simpa using hheap0:ao w R (outs N) _ [vb']).keep (hk _)).ext (tH hext)⟩;refine⟨ar2.toArray,ρ.t 3,(Builtin.zeroCells (Value.int .i64 0).cells (gc - (0+1))).toList.length,hg3,?_,fun j _=>.inl rfl,fun h=>by simp[cN] at h⟩;have h2:=eF (w:=w.drew.alloc (.cells ar2.toArray (ρ.t 3))) (R:=R.more w.heap.size) (N:=outs (bK N (.out 1) w.heap.size)) (Builtin.zeroCells (Value.int .i64 0).cells (gc - (0+1))).toList;have h3:ak (w.drew.alloc (.cells ar2.toArray (ρ.t 3))) (R.more w.heap.size) (outs (bK N (.out 1) w.heap.size)) (yw [x]) (ints [x]) []:=Jp hfx;have h4:=cA h3 h2;have e:ar2.toArray.toList=ints [x]++(Builtin.zeroCells (Value.int .i64 0).cells (gc - (0+1))).toList:=by rw[har2];rfl
  rw[e];exact h4
 ·simp only[List.nil_append,List.cons_append];refine List.nodup_cons.2 ⟨?_,hnd⟩;simp only[List.mem_cons,not_or];exact⟨by omega,UJ⟩
 intro o c ho
 by_cases hne:o=1
 ·omega
 have:N (.out o)=some c:=by simpa [bK,hne] using ho
 have:=hnx o c this
 omega
theorem aC.Xu {g:FuncId} {args:List ac} {r m:Nat} {l:List Int} {rest:Heap} (h:aC P G g args [] 0 (XQ ⟨.win (.out r) 1 0 l.length,(.out r,.cells (yw l))::rest,m⟩)) (hn:l.length<=lim) :
  aC P G g args [] 0 (XQ ⟨.dat (.slice (l.map fun x=>.flat (.int .i64 x))),[],0⟩):=by
 intro w R N cargs bsA bsH bsF ha hh hnd hnx hg hF;refine (h w R N cargs bsA bsH bsF ha hh hnd hnx hg hF).mono ?_;rintro e w' ⟨v,cv,hp,m',R',N',bsV,bsH',rfl,⟨rfl,rfl,rfl⟩,hv,hh',hnd',hnx',hk,hN⟩;simp only[al] at hv;obtain⟨rfl,b,cap,hb,rfl,hcap,_,hblt,hrow⟩:=hv;obtain⟨b',b1,b2,rfl,hb',hobj,hrest⟩:=hh'
 have:b'=b:=by rw[hb] at hb';simpa using hb'.symm
 subst this;obtain⟨vs,elem,sp,hblk,hrv,hRv,_⟩:=hobj;obtain⟨us1,us2,q1,q2,hus,rfl,hr1,_⟩:=cV hrv;obtain⟨rfl,rfl,hfl⟩:=qL hr1;have hbF:b'∉bsF:=by
  intro hm;have h1:(b'::((([]++q2)++b2)++bsF)).Nodup:=by simpa using hnd'
  exact (List.nodup_cons.1 h1).1 (List.mem_append_right _ hm)
 let R2:Own:=fun c off=>c≠b'/\R' c off
 have hk2:bA w' R' w' R2 bsF:=⟨⟨rfl,rfl,rfl,Nat.le_refl _,fun c _ hno=>⟨rfl,fun off h=>hno off h.2⟩,fun c off _ hno=>⟨fun h=>hno h.2,rfl⟩,fun _ _=>rfl⟩,fun c hc _=>⟨rfl,fun off h=>⟨fun e=>hbF (e ▸ hc),h⟩⟩⟩;refine⟨_,_,_,0,R2,fun m=>match m with|.loc i=>N' (.loc i)|.out _=>none,[],[],rfl,⟨rfl,rfl,rfl⟩,?_,rfl,?_,by intro o c ho;simp at ho,hk.trans hk2,?_⟩
 ·simp only[al];refine⟨trivial,?_⟩;have hl:l.length=(l.map fun x=>aq.flat (.int .i64 x)).length:=by simp
  rw[hl];refine dN.slice b' 0 cap 1 _ (fun i _=>.int .i64 (l.getD i 0)) (by decide) ?_ (by simpa using hcap) (by simpa using hn) ?_ ?_
  ·intro e he;obtain⟨x,_,rfl⟩:=List.mem_map.1 he;rfl
  ·intro i j hi hj
   have:j=0:=by omega
   subst this;simp only[List.length_map] at hi;refine⟨?_,fun h=>h.1 rfl⟩;refine eK hblk ?_;rw[hus,show 0+i*1+0=i by omega,List.getElem?_append_left (by simp[ints];exact hi)];simp[ints,hi]
  intro i j e c he hc;simp only[List.getElem?_map,Option.map_eq_some_iff] at he;obtain⟨x,hx,rfl⟩:=he;have hc2:c=.flat (.int .i64 x):=by
   have hc:[aq.flat (.int .i64 x)][j]?=some c:=hc
   cases j with
   | zero=>simpa using hc.symm
   | succ j=>simp at hc
  subst hc2;obtain⟨hi,rfl⟩:=List.getElem?_eq_some_iff.1 hx
  have:l.getD i 0=l[i]:=by simp[hi]
  rw[this];exact .flat (hfl _ (List.getElem_mem hi))
 ·have h1:(b'::((([]++q2)++b2)++bsF)).Nodup:=by simpa using hnd'
  have h2:=(List.nodup_cons.1 h1).2;simpa using (List.nodup_append.1 h2).2.1
 intro o c ho
 have:=hnx o c ho
 omega
end
end Go.Tp
namespace Go.Proofs.YtiihadmgkoamoaaGreatDoor
open Go.Tp
theorem aY (ls bs:List Nat) {g:FuncId} {x:fL} (hx:JG.find g=some x) {args:List ac} {heap:Heap} {next:Nat} {r:ew} (h:(KU (Oz ls) (Oz bs) (env au.aI) cJ an ap x g args heap next).Ok Tryz.prog cJ (fun y=>y=r)) :
  KC g args heap next (XQ r):=wv (FI G8 um hx (fun _ _=>h))
theorem tM (k:Nat):∀l:List Int,dt k (yw l)=false
 | []=>rfl
 | d::r=>by show (du k (iv d)||dt k (yw r))=false;rw[tM k r];rfl
theorem iG (ρ:Nat->Nat):∀l:List Int,fO ρ (yw l)=yw l
 | []=>rfl
 | d::r=>by show eN ρ (iv d)::fO ρ (yw r)=_;rw[iG ρ r];rfl
theorem tJ (p:Nat->Bool):∀l:List Int,gR p (yw l)=true
 | []=>rfl
 | d::r=>by show (Bv p (iv d)&&gR p (yw r))=true;rw[tJ p r];rfl
theorem jm {g:FuncId} {args:List ac} {heap:Heap} {next:Nat} {Q Q':ac->Heap->Nat->Prop} (h:KC g args heap next Q) (hq:∀v h m,Q v h m->∃h2,h.Perm h2/\Q' v h2 m):KC g args heap next Q':=by
 intro w R N cargs bsA bsH bsF ha hh hnd hnx hg hF;refine (h w R N cargs bsA bsH bsF ha hh hnd hnx hg hF).mono ?_;rintro e w' ⟨v,cv,h1,next',R',N',bsV,bsH',rfl,hq1,hv,hh',hnd',hnx',hk,hN⟩;obtain⟨h2,hp,hq2⟩:=hq _ _ _ hq1;obtain⟨bs2,k1,k2⟩:=hh'.perm hp;refine⟨v,cv,h2,next',R',N',bsV,bs2,rfl,hq2,hv,k1,?_,hnx',hk,hN⟩;exact (List.Perm.nodup_iff (List.Perm.append_left _ (List.Perm.append_right _ k2))).1 hnd'
def sP:ac:=.ptr (.out 0) 0
def hS (r:Nat):List Int->Heap
 | []=>[(.out 0,.cells [.dat nl])]
 | x::l=>[(.out r,.cells (yw (x::l))),(.out 0,.cells [.win (.out r) 1 0 (x::l).length])]
def hR (r:Nat) (l:List Int) (n:Nat):Heap:=[(.out r,.cells (yw l)),(.out 0,.cells [.win (.out r) 1 0 n])]
theorem LU {r:Nat} {l:List Int} (h:l≠[]):hS r l=hR r l l.length:=by cases l with|nil=>exact absurd rfl h|cons x l=>rfl
theorem MM {l:List Int} {x:Int} {n:Nat} (hs:l.Pairwise (·<=·)) (hn:l.length < 1000000000) (hl:n=l.length) :
  KC 190 [.win (.out 1) 1 0 n,iv x] (hR 1 l n) 2 (XQ ⟨.tup [iv (Int.ofNat (l.countP (· < x))),bv (l.contains x)],hR 1 l n,2⟩):=by
 subst hl;have h:=aC.frame (Ua (G:=cJ) Tryz.agW (x:=x) hs hn) (fun _=>1) (heap:=hR 1 l l.length) (rest:=[(.out 0,.cells [.win (.out 1) 1 0 l.length])]) (next:=2) (by simp[hR,kK,mI,rf,iG]) rfl (by simp[cC,ly,tM]) rfl rfl;refine jm h ?_;rintro v h m ⟨v0,h1,n1,⟨rfl,rfl,rfl⟩,rfl,rfl,rfl⟩;refine⟨hR 1 l l.length,?_,rfl,rfl,rfl⟩;simp[hR,kK,mI,rf,iG,gv];exact List.Perm.refl _
theorem Nu {l:List Int} {x:Int} {i n:Nat} (hi:i<=l.length) (hn:l.length < 1000000000) (hl:n=l.length) :
  KC 191 [.win (.out 1) 1 0 n,iv (Int.ofNat i),.win (.out 2) 1 0 1] ((.out 2,.cells [iv x])::hR 1 l n) 3
   (XQ ⟨.win (.out 3) 1 0 (gO l i x).length,[(.out 3,.cells (yw (gO l i x))),(.out 2,.cells [iv x]),(.out 0,.cells [.win (.out 1) 1 0 n])],4⟩):=by
 subst hl;have h:=aC.frame (Ub (G:=cJ) Tryz.Za (x:=x) hi hn) (fun o=>o+1) (heap:=(.out 2,.cells [iv x])::hR 1 l l.length) (rest:=[(.out 0,.cells [.win (.out 1) 1 0 l.length])]) (next:=3) (by simp[hR,kK,mI,rf,iG,fO,eN];exact List.Perm.swap _ _ _) rfl (by simp[cC,ly,tM,dt,du]) rfl rfl;refine jm h ?_;rintro v h m ⟨v0,h1,n1,⟨rfl,rfl,rfl⟩,rfl,rfl,rfl⟩;refine⟨_,List.Perm.refl _,rfl,?_,rfl⟩;simp[kK,mI,rf,iG,fO,eN,gv];exact⟨rfl,rfl⟩
theorem insert_nil {x:Int} :
  KC 191 [.dat nl,iv (Int.ofNat 0),.win (.out 1) 1 0 1] [(.out 1,.cells [iv x]),(.out 0,.cells [.dat nl])] 2
   (XQ ⟨.win (.out 2) 1 0 1,[(.out 2,.cells [iv x]),(.out 1,.cells [iv x]),(.out 0,.cells [.dat nl])],3⟩):=by
 have h:=aC.frame (EA (G:=cJ) Tryz.Za (x:=x)) (fun o=>o+1) (heap:=[(.out 1,.cells [iv x]),(.out 0,.cells [.dat nl])]) (rest:=[(.out 0,.cells [.dat nl])]) (next:=2) (by rfl) rfl rfl rfl rfl;refine jm h ?_;rintro v h m ⟨v0,h1,n1,⟨rfl,rfl,rfl⟩,rfl,rfl,rfl⟩;exact⟨_,List.Perm.refl _,rfl,rfl,rfl⟩
theorem Ih {x:Int}:ag 190 [.dat nl,iv x] (.tup [iv (Int.ofNat 0),bv false]):=aM _ _ _ _ _ (by kernel_rfl)
theorem Yk {x:Int}:KC 170 [sP,iv x] [(.out 0,.cells [.dat nl])] 1 (XQ ⟨.tup [],[(.out 2,.cells [iv x]),(.out 1,.cells [iv x]),(.out 0,.cells [.win (.out 2) 1 0 1])],3⟩):=by
 have h1:=Ih (x:=x);have h2:=insert_nil (x:=x);refine aY [] [] (x:=fL.of Tryz.f170 zW yp) (by kernel_rfl) ?_;refine on h1 ?_;refine oh h2 ?_;exact fi
theorem Yl {l l2:List Int} {x:Int} {i n n2:Nat} (h1:KC 190 [.win (.out 1) 1 0 n,iv x] (hR 1 l n) 2 (XQ ⟨.tup [iv (Int.ofNat i),bv false],hR 1 l n,2⟩))
  (h2:KC 191 [.win (.out 1) 1 0 n,iv (Int.ofNat i),.win (.out 2) 1 0 1] ((.out 2,.cells [iv x])::hR 1 l n) 3
   (XQ ⟨.win (.out 3) 1 0 n2,[(.out 3,.cells (yw l2)),(.out 2,.cells [iv x]),(.out 0,.cells [.win (.out 1) 1 0 n])],4⟩)) :
  KC 170 [sP,iv x] (hR 1 l n) 2 (XQ ⟨.tup [],[(.out 3,.cells (yw l2)),(.out 2,.cells [iv x]),(.out 0,.cells [.win (.out 3) 1 0 n2])],4⟩):=by
 refine aY [] [] (x:=fL.of Tryz.f170 zW yp) (by kernel_rfl) ?_;refine oh h1 ?_;refine oh h2 ?_;exact fi
theorem Yj {l:List Int} {x:Int} {i n:Nat} (h1:KC 190 [.win (.out 1) 1 0 n,iv x] (hR 1 l n) 2 (XQ ⟨.tup [iv (Int.ofNat i),bv true],hR 1 l n,2⟩)) :
  KC 170 [sP,iv x] (hR 1 l n) 2 (XQ ⟨.tup [],hR 1 l n,2⟩):=by
 refine aY [] [] (x:=fL.of Tryz.f170 zW yp) (by kernel_rfl) ?_;refine oh h1 ?_;exact fi
def jk (l:List Int) (x:Int):List Int:=match l.contains x with|true=>l|false=>gO l (l.countP (· < x)) x
theorem Gy {l:List Int} {i:Nat} {x:Int}:gO l i x≠[]:=by simp[gO]
theorem Ym {l:List Int} {x:Int} (h0:l≠[]) (hs:l.Pairwise (·<=·)) (hn:l.length < 1000000000) :
  KC 170 [sP,iv x] (hR 1 l l.length) 2 (XQ ⟨.tup [],hR 2 (jk l x) (jk l x).length,3⟩):=by
 have h1:=MM (x:=x) hs hn rfl;unfold jk;generalize hc:l.contains x=c at h1
 cases c
 ·have h2:=Nu (x:=x) (i:=l.countP (· < x)) List.countP_le_length hn rfl;refine aC.rn (Yl h1 h2) ?_;rintro v hp m ⟨rfl,rfl,rfl⟩;refine⟨[3],rfl,?_,?_⟩
  ·simp[hR,bI,F6,IW,gR,Bv,dP,gI,tJ];rfl
  simp[hR,bI,kK,mI,rf,fO,eN,dP,gI,kj,oX,iG];exact⟨rfl,rfl,rfl⟩
 refine aC.rn (Yj h1) ?_;rintro v hp m ⟨rfl,rfl,rfl⟩;refine⟨[1],rfl,?_,?_⟩
 ·simp[hR,bI,F6,IW,gR,Bv,dP,gI,tJ];rfl
 simp[hR,bI,kK,mI,rf,fO,eN,dP,gI,kj,oX,iG];exact⟨rfl,rfl,rfl⟩
theorem HG {x:Int}:KC 170 [sP,iv x] [(.out 0,.cells [.dat nl])] 1 (XQ ⟨.tup [],hR 1 [x] 1,2⟩):=by
 refine aC.rn (Yk (x:=x)) ?_;rintro v hp m ⟨rfl,rfl,rfl⟩;exact⟨[2],rfl,rfl,rfl,rfl,rfl⟩
theorem agb {l:List Int} {x:Int} (hs:l.Pairwise (·<=·)) (hn:l.length < 1000000000) (r m:Nat) :
  KC 170 [sP,iv x] (hS r l) m (XQ ⟨.tup [],hS m (jk l x),m+1⟩):=by
 cases l with
 | nil=>
  have h:=aC.frame (HG (x:=x)) (fun o=>o) (heap:=hS r []) (rest:=[]) (next:=m) (by rfl) rfl rfl rfl rfl;refine h.mono ?_;rintro v h m' ⟨v0,h1,n1,⟨rfl,rfl,rfl⟩,rfl,rfl,rfl⟩;refine⟨rfl,?_,rfl⟩;show _=hS m [x];simp[hS,hR,kK,mI,rf,fO,eN,iG,gv];exact⟨rfl,rfl,rfl⟩
 | cons y l=>
  have h2:jk (y::l) x≠[]:=by
   unfold jk
   cases (y::l).contains x with
   | true=>simp
   | false=>exact Gy
  rw[LU (by simp:(y::l)≠[]),LU h2];have h:=aC.frame (Ym (x:=x) (by simp:(y::l)≠[]) hs hn) (fun o=>match o with|0=>0|_=>r) (heap:=hR r (y::l) (y::l).length) (rest:=[]) (next:=m) (by simp[hR,kK,mI,rf,iG,fO,eN]) (by rfl) (by simp[cC,hR,ly,tM,dt,du];rfl) (by rfl) rfl;refine h.mono ?_;rintro v h m' ⟨v0,h1,n1,⟨rfl,rfl,rfl⟩,rfl,rfl,rfl⟩;refine⟨rfl,?_,rfl⟩;simp[hR,kK,mI,rf,fO,eN,iG,gv];exact⟨rfl,rfl,rfl⟩
noncomputable def aeN:Hints:=⟨an,vy,ap,rowsOf ap 142⟩
def Z6 (k:Int) (nm:List UInt8) (ix:Int) (a:aq) (n u:Nat) (H:Heap) (m:Nat) (i:Int):ab:=⟨[(26,iv i),(25,iv (Int.ofNat n)),(24,.dat a),(3,.ptr (.loc 3) 0),(1,iv (Int.ofNat u)),(2,sP)],[(.loc 3,.cells [iv k,.dat (sb nm),iv ix,.dat a])],H,m⟩
def Vc (k:Int) (nm:List UInt8) (ix:Int) (a:aq) (n u:Nat) (H:Heap) (m:Nat) (i:Int):ab:=⟨[(27,bv false),(26,iv i),(25,iv (Int.ofNat n)),(24,.dat a),(3,.ptr (.loc 3) 0),(1,iv (Int.ofNat u)),(2,sP)],[(.loc 3,.cells [iv k,.dat (sb nm),iv ix,.dat a])],H,m⟩
theorem N8 {k:Int} {nm:List UInt8} {ix:Int} {x:aq} {es:List aq} {l:List Ty} {t:Ty} {i u b m m2:Nat} {H H2:Heap} (hl:ax l=x::es) (hi:i < (ax l).length) (ht:l[i]?=some t)
  (hb:ag 126 [.dat (.agg [i64 k,sb nm,i64 ix,.slice (x::es)]),iv (Int.ofNat i)] (iv (Int.ofNat b)))
  (hc:KC 142 [.dat t.enc,iv (aG .i64 (Int.ofNat u+Int.ofNat b)),sP] H m (XQ ⟨.tup [],H2,m2⟩)) {T:Exit->aa->Prop}
  (e:T .normal ((Z6 k nm ix (.slice (x::es)) (x::es).length u H2 m2 (aG .i64 (Int.ofNat i+1))).aw Tryz.f142.ntmps)) :
  KD (roundOf Tryz.f142 0) T ((Z6 k nm ix (.slice (x::es)) (x::es).length u H m (Int.ofNat i)).aw Tryz.f142.ntmps):=by
 have h1:=bd hi;have h2:=jU ht;rw[hl] at h1 h2;clear ht hi hl;obtain⟨k2,nm2,ix2,a2⟩:=t
 rcases a2 with _|⟨b2,d2⟩ <;>
 ·refine aB [27] [29] (H:=aeN) (live:=qI) (by kernel_rfl) ?_;refine ob h1 ?_;refine oo h2 ?_;refine on hb ?_;refine oh hc ?_;exact oe e
theorem TX {k:Int} {nm:List UInt8} {ix:Int} {a:aq} {n u m:Nat} {H:Heap} {T:Exit->aa->Prop} (e:T (.exit 0) ((Vc k nm ix a n u H m (Int.ofNat n)).aw Tryz.f142.ntmps)) :
  KD (roundOf Tryz.f142 0) T ((Z6 k nm ix a n u H m (Int.ofNat n)).aw Tryz.f142.ntmps):=by
 have h1:=br (i:=n) (L:=n) (by omega);refine aB [27] [] (H:=aeN) (live:=qI) (by kernel_rfl) ?_;refine ob h1 ?_;exact oe e
def eb (k ix:Int) (u:Nat) (s:List Int):List Int:=match aQ k 5 with|false=>s|true=>(match bn ix (Int.ofNat u) with|true=>s|false=>jk s (ix - Int.ofNat u))
mutual
def Ty.cf:Ty->Nat->List Int->List Int
 | .mk k _ ix args,u,s=>rI k args 0 u (eb k ix u s)
def rI (k:Int):List Ty->Nat->Nat->List Int->List Int
 | [],_,_,s=>s
 | t::r,j,u,s=>rI k r (j+1) u (t.cf (u+dr k j) s)
end
theorem L9 {k:Int} {b:List Ty} {u:Nat}:∀{a:List Ty} {j:Nat} {s:List Int},rI k (a++b) j u s=rI k b (j+a.length) u (rI k a j u s)
 | [],j,s=>by simp[rI]
 | t::r,j,s=>by
  simp only[List.cons_append,rI,List.length_cons];rw[L9,show j+1+r.length=j+(r.length+1) by omega]
theorem Hl {k:Int} {l:List Ty} {i u:Nat} {t:Ty} {s:List Int} (h:l[i]?=some t):rI k (l.take (i+1)) 0 u s=t.cf (u+dr k i) (rI k (l.take i) 0 u s):=by
 have hi:=(List.getElem?_eq_some_iff.1 h).1;rw[List.take_add_one,h,Option.toList_some,L9,Nat.zero_add,List.length_take,Nat.min_eq_left (by omega),rI,rI]
theorem N9 {k:Int} {nm:List UInt8} {ix:Int} {l:List aq} {u m m2 m3:Nat} {ck cg:Bool} {H H2 H3:Heap} (hk:aQ k 5=ck) (hg:bn ix (Int.ofNat u)=cg)
  (ha:ck=true->cg=false->KC 170 [sP,iv (aG .i64 (ix - Int.ofNat u))] H m (XQ ⟨.tup [],H2,m2⟩)) (he:ck=false∨cg=true->H2=H/\m2=m)
  (hl:KD (.loop (roundOf Tryz.f142 0)) (fun e s=>e=.exit 0/\s=(Vc k nm ix (sl l) l.length u H3 m3 (Int.ofNat l.length)).aw Tryz.f142.ntmps) ((Z6 k nm ix (sl l) l.length u H2 m2 (Int.ofNat 0)).aw Tryz.f142.ntmps)) :
  KC 142 [.dat (.agg [i64 k,sb nm,i64 ix,sl l]),iv (Int.ofNat u),sP] H m (XQ ⟨.tup [],H3,m3⟩):=by
 cases ck
 ·obtain⟨rfl,rfl⟩:=he (.inl rfl);clear he ha
  rcases l with _|⟨x,l⟩ <;>
  ·refine aY [10] [] (x:=fL.of Tryz.f142 vy qI) (by kernel_rfl) ?_;refine ob hk ?_;refine lo hl ?_;rintro ex s ⟨rfl,rfl⟩;refine⟨_,rfl,?_⟩;exact fi
 cases cg
 ·have ha2:=ha rfl rfl;clear he ha
  rcases l with _|⟨x,l⟩ <;>
  ·refine aY [10,15] [] (x:=fL.of Tryz.f142 vy qI) (by kernel_rfl) ?_;refine ob hk ?_;refine ox hg ?_;refine oh ha2 ?_;refine lo hl ?_;rintro ex s ⟨rfl,rfl⟩;refine⟨_,rfl,?_⟩;exact fi
 obtain⟨rfl,rfl⟩:=he (.inr rfl);clear he ha
 rcases l with _|⟨x,l⟩ <;>
 ·refine aY [10,15] [] (x:=fL.of Tryz.f142 vy qI) (by kernel_rfl) ?_;refine ob hk ?_;refine ox hg ?_;refine lo hl ?_;rintro ex s ⟨rfl,rfl⟩;refine⟨_,rfl,?_⟩;exact fi
def gm (b:Nat) (s:List Int):Prop:=s.Pairwise (·<=·)/\s.length<=b
theorem countP_split {l:List Int} {x:Int} (hs:l.Pairwise (·<=·)):(∀y∈l.take (l.countP (· < x)),y < x)/\(∀y∈l.drop (l.countP (· < x)),x<=y):=by
 induction l with
 | nil=>simp
 | cons a r ih=>
  obtain⟨h1,h2⟩:=ih (List.Pairwise.of_cons hs)
  by_cases ha:a < x
  ·rw[List.countP_cons_of_pos (by simpa using ha)];refine⟨?_,?_⟩
   ·intro y hy;simp only[List.take_succ_cons,List.mem_cons] at hy
    rcases hy with rfl|hy
    ·exact ha
    exact h1 y hy
   simpa only[List.drop_succ_cons] using h2
  have h0:(a::r).countP (· < x)=0:=by
   rw[List.countP_eq_zero];intro y hy;have hay:a<=y:=by
    rcases List.mem_cons.1 hy with rfl|hy
    ·exact Int.le_refl _
    exact List.rel_of_pairwise_cons hs hy
   simp only[decide_eq_true_eq];omega
  rw[h0];refine⟨by simp,?_⟩;intro y hy;simp only[List.drop_zero] at hy;have hay:a<=y:=by
   rcases List.mem_cons.1 hy with rfl|hy
   ·exact Int.le_refl _
   exact List.rel_of_pairwise_cons hs hy
  omega
theorem ML {b:Nat} {s:List Int} {x:Int} (h:gm b s):gm (b+1) (jk s x):=by
 obtain⟨h1,h2⟩:=h;unfold jk
 cases s.contains x with
 | true=>exact⟨h1,Nat.le_succ_of_le h2⟩
 | false=>
  obtain⟨c1,c2⟩:=countP_split (x:=x) h1;refine⟨?_,?_⟩
  ·unfold gO;rw[List.pairwise_append];refine⟨h1.sublist (List.take_sublist _ _),?_,?_⟩
   ·rw[List.pairwise_cons];exact⟨c2,h1.sublist (List.drop_sublist _ _)⟩
   intro y hy z hz
   have:=c1 y hy
   rcases List.mem_cons.1 hz with rfl|hz
   ·omega
   have:=c2 z hz
   omega
  rw[ug List.countP_le_length];omega
theorem zv {b:Nat} {k ix:Int} {u:Nat} {s:List Int} (h:gm b s):gm (b+1) (eb k ix u s):=by
 unfold eb
 cases aQ k 5 with
 | false=>exact⟨h.1,Nat.le_succ_of_le h.2⟩
 | true=>
  cases bn ix (Int.ofNat u) with
  | true=>exact⟨h.1,Nat.le_succ_of_le h.2⟩
  | false=>exact ML h
mutual
theorem Zl:∀(t:Ty) (u:Nat) {b:Nat} {s:List Int},gm b s->gm (b+t.size) (t.cf u s)
 | .mk k nm ix l,u,b,s,h=>by
  rw[Ty.cf,Ty.size,show b+(aS l+1)=b+1+aS l by omega];exact Ew l u (zv h)
theorem Ew {k:Int}:∀(l:List Ty) {j:Nat} (u:Nat) {b:Nat} {s:List Int},gm b s->gm (b+aS l) (rI k l j u s)
 | [],j,u,b,s,h=>by simpa [rI,aS] using h
 | t::r,j,u,b,s,h=>by
  rw[rI,aS,←Nat.add_assoc];exact Ew r u (Zl t _ h)
end
def CF (t:Ty) (u:Nat) (s:List Int):Prop:=∀r m,0 < r->0 < m->KC 142 [.dat t.enc,iv (Int.ofNat u),sP] (hS r s) m (XQ ⟨.tup [],hS m (t.cf u s),m+1⟩)
def tx (r m:Nat):Nat->Nat
 | 0=>r
 | i+1=>m+i
theorem tw {r m i:Nat} (h1:0 < r) (h2:0 < m):0 < tx r m i:=by cases i with|zero=>exact h1|succ i=>simp only[tx];omega
theorem aag {f:FuncId} {args:List ac} {h0:Heap} {m q mm:Nat} {s:List Int} (hm:0 < m) (hq:0 < q) (h:KC f args h0 m (XQ ⟨.tup [],hS q s,mm⟩)):KC f args h0 m (XQ ⟨.tup [],hS m s,m+1⟩):=by
 refine aC.rn h ?_;rintro v hp m' ⟨rfl,rfl,rfl⟩;refine⟨[q],rfl,?_,?_⟩
 all_goals
  have e1:gI 0 [q]=false:=by cases q with|zero=>omega|succ q=>rfl
  have e2:gI q [q]=true:=by simp[gI]
  have e3:dP m [q] 0=true:=by simp[dP,Nat.blt_eq,hm]
  have e4:dP m [q] q=true:=by simp[dP,e2]
  have e5:kj m [q] 0=0:=by simp[kj,e1]
  have e6:kj m [q] q=m:=by simp[kj,e2,oX]
 ·cases s with
  | nil=>simp[hS,bI,F6,IW,gR,Bv,e3]
  | cons x l=>simp[hS,bI,F6,IW,gR,Bv,e3,e4,tJ]
 ·cases s with
  | nil=>simp[hS,bI,kK,mI,rf,fO,eN,e3,e5];exact⟨rfl,rfl,rfl⟩
  | cons x l=>simp[hS,bI,kK,mI,rf,fO,eN,e3,e4,e5,e6,iG];exact⟨rfl,rfl,rfl⟩
theorem XV {k:Int} {nm:List UInt8} {ix:Int} {l:List Ty} {u b:Nat} {s:List Int} (hs:gm b s) (hbd:b+1+aS l < 1000000000) (hu:u < 1000000000) (hix:aQ k 5=true->bn ix 100=true)
  (ih:∀t∈l,∀v s2,v<=u+1->gm (b+1+aS l) s2->(∃b2,gm b2 s2/\b2+t.size<=b+1+aS l)->CF t v s2):CF (.mk k nm ix l) u s:=by
 intro r m hr hm;have hlen:=eh l;obtain⟨r2,m2,hr2,hm2,hH2⟩:∃r2 m2,0 < r2/\0 < m2/\((aQ k 5=true->bn ix (Int.ofNat u)=false->KC 170 [sP,iv (aG .i64 (ix - Int.ofNat u))] (hS r s) m (XQ ⟨.tup [],hS r2 (eb k ix u s),m2⟩))/\(aQ k 5=false∨bn ix (Int.ofNat u)=true->hS r2 (eb k ix u s)=hS r s/\m2=m)):=by
  unfold eb
  cases hk:aQ k 5 with
  | false=>exact⟨r,m,hr,hm,by simp,fun _=>⟨rfl,rfl⟩⟩
  | true=>
   cases hg:bn ix (Int.ofNat u) with
   | true=>exact⟨r,m,hr,hm,by simp,fun _=>⟨rfl,rfl⟩⟩
   | false=>
    refine⟨m,m+1,hm,by omega,fun _ _=>?_,by simp⟩;have hix:=hix hk;rw[gr] at hg hix;simp only[decide_eq_false_iff_not,decide_eq_true_eq] at hg hix;have e:aG .i64 (ix - Int.ofNat u)=ix - Int.ofNat u:=by
     rw[dR];simp only[Int.ofNat_eq_natCast] at hg ⊢;exact wrap_i64 (by omega) (by omega)
    rw[e];exact agb hs.1 (by have:=hs.2;omega) r m
 have hs1:=zv (k:=k) (ix:=ix) (u:=u) hs;refine aag (q:=tx r2 m2 l.length) (mm:=m2+l.length) hm (tw hr2 hm2) ?_;have hl:KD (.loop (roundOf Tryz.f142 0)) (fun e s'=>e=.exit 0/\s'=(Vc k nm ix (sl (ax l)) (ax l).length u (hS (tx r2 m2 l.length) (rI k l 0 u (eb k ix u s))) (m2+l.length) (Int.ofNat (ax l).length)).aw Tryz.f142.ntmps)
   ((Z6 k nm ix (sl (ax l)) (ax l).length u (hS r2 (eb k ix u s)) m2 (Int.ofNat 0)).aw Tryz.f142.ntmps):=by
  refine ba (St:=fun i=>(Z6 k nm ix (sl (ax l)) (ax l).length u (hS (tx r2 m2 i) (rI k (l.take i) 0 u (eb k ix u s))) (m2+i) (Int.ofNat i)).aw Tryz.f142.ntmps) (ax l).length ?_ ?_ (i:=0) (Nat.zero_le _)
  ·intro i hi;obtain⟨t,ht,hmem⟩:=get_mem hi;have hi2:=hi;rw[aE] at hi2;have hbn:dr k i<=1:=by unfold dr;split <;> omega
   obtain⟨x,es,hx⟩:∃x es,ax l=x::es:=by
    cases hl:ax l with
    | nil=>rw[hl] at hi;simp at hi
    | cons x es=>exact⟨x,es,rfl⟩
   have hst:=ij ht;have hsl:=mM (l:=l) (i+1);have hpre:gm (b+1+aS (l.take i)) (rI k (l.take i) 0 u (eb k ix u s)):=Ew _ u hs1;have hcf:=ih t hmem (u+dr k i) (rI k (l.take i) 0 u (eb k ix u s)) (by omega) ⟨hpre.1,by have:=hpre.2;omega⟩ ⟨_,hpre,by omega⟩ (tx r2 m2 i) (m2+i) (tw hr2 hm2) (by omega);rw[←wrap_add (n:=u) (m:=dr k i) (by omega)] at hcf;have hbi:=wg k nm ix (.slice (x::es)) (.inr ⟨_,rfl⟩) i;have e:=N8 (T:=iY (fun s'=>s'=(Z6 k nm ix (sl (ax l)) (ax l).length u (hS (tx r2 m2 (i+1)) (rI k (l.take (i+1)) 0 u (eb k ix u s))) (m2+(i+1)) (Int.ofNat (i+1))).aw Tryz.f142.ntmps)
    (fun e s'=>e=.exit 0/\s'=(Vc k nm ix (sl (ax l)) (ax l).length u (hS (tx r2 m2 l.length) (rI k l 0 u (eb k ix u s))) (m2+l.length) (Int.ofNat (ax l).length)).aw Tryz.f142.ntmps)) hx hi ht hbi hcf (by
     rw[hx,bb (by omega),Hl ht];rfl)
   rw[hx];rw[hx] at e;exact e
  refine TX ⟨rfl,?_⟩;rw[aE,List.take_length]
 exact N9 rfl rfl hH2.1 hH2.2 hl
mutual
theorem CV:∀(t:Ty) (u:Nat) {b:Nat} {s:List Int},gm b s->b+t.size < 1000000000->u+t.depth < 1000000000->t.eX->CF t u s
 | .mk k nm ix l,u,b,s,hs,hb,hu,hx=>by
  simp only[Ty.size] at hb;simp only[Ty.depth] at hu;simp only[Ty.eX] at hx;exact XV hs (by omega) (by omega) hx.1 (Ba l u (by omega) (by omega) hx.2)
theorem Ba:∀(l:List Ty) (u:Nat) {B:Nat},u+cK l+1 < 1000000000->B < 1000000000->dE l->∀t∈l,∀v s2,v<=u+1->gm B s2->(∃b2,gm b2 s2/\b2+t.size<=B)->CF t v s2
 | [],u,B,hu,_,hx,t,ht,_,_,_,_,_=>by simp at ht
 | y::r,u,B,hu,hB,hx,t,ht,v,s2,hv,h1,h2=>by
  simp only[cK] at hu;simp only[dE] at hx
  rcases List.mem_cons.1 ht with h3|ht
  ·obtain⟨b2,h4,h5⟩:=h2;rw[h3] at h5 ⊢;exact CV y v h4 (by omega) (by omega) hx.1
  exact Ba r u (by omega) hB hx.2 t ht v s2 hv h1 h2
end
theorem Te {k:Int} {nm:List UInt8} {ix:Int} {l:List aq} {s:List Int} (h:KC 142 [.dat (.agg [i64 k,sb nm,i64 ix,sl l]),iv (Int.ofNat 0),sP] [(.out 0,.cells [.dat nl])] 1 (XQ ⟨.tup [],hS 1 s,2⟩)) :
  KC 119 [.dat (.agg [i64 k,sb nm,i64 ix,sl l])] [] 0 (XQ (match s with|[]=>⟨.dat nl,hS 1 [],2⟩|x::r=>⟨.win (.out 1) 1 0 (x::r).length,hS 1 (x::r),2⟩)):=by
 rcases l with _|⟨y,l⟩ <;>
 ·cases s with
  | nil=>
   refine aY [] [] (x:=fL.of Tryz.f119 DE DW) (by kernel_rfl) ?_;refine oh h ?_;exact fi
  | cons x r=>
   refine aY [] [] (x:=fL.of Tryz.f119 DE DW) (by kernel_rfl) ?_;refine oh h ?_;exact fi
def iN (x:Int):aq:=.flat (.int .i64 x)
def Ty.fv (t:Ty):List Int:=t.cf 0 []
theorem D8 {t:Ty}:gm (0+t.size) t.fv:=Zl t 0 ⟨List.Pairwise.nil,Nat.le_refl _⟩
theorem Bb {t:Ty} (hs:t.size < 400000000) (hx:t.eX):ag 119 [.dat t.enc] (.dat (sl (t.fv.map iN))):=by
 have h1:=CV t 0 (s:=[]) ⟨List.Pairwise.nil,Nat.le_refl 0⟩ (by omega) (by have:=ln t;omega) hx 1 1 (by decide) (by decide);have h2:=D8 (t:=t);unfold Ty.fv at h2 ⊢;generalize t.cf 0 []=s at h1 h2;obtain⟨k,nm,ix,l⟩:=t;have h3:=Te h1
 cases s with
 | nil=>
  refine aC.rn h3 ?_;rintro v hp m ⟨rfl,rfl,rfl⟩;exact⟨[],rfl,rfl,rfl,rfl,rfl⟩
 | cons x r=>exact aC.Xu h3 (by have:=h2.2;simp only[lim];omega)
def iz:List Ty->Bool
 | t::_=>t.closed 0
 | []=>false
def jo (k:Int) (nm:List UInt8) (ix:Int) (l:List Ty):Bool:=
 if (!aQ k 2&&!dv nm [])=true then false
 else if (!aQ k 5&&!aQ ix 0)=true then false
 else if (aQ k 0||aQ k 1)=true then aQ (Int.ofNat (ax l).length) 0
 else if aQ k 2=true then isIdent nm&&(!gS nm&&(!bn 6 (Int.ofNat (ax l).length)&&!hZ l))
 else if aQ k 3=true then !bn 6 (Int.ofNat (ax l).length)
 else if aQ k 4=true then !bn (Int.ofNat (ax l).length) 2
 else if aQ k 5=true then aQ (Int.ofNat (ax l).length) 0&&(!bn ix 0&&!bn 200 ix)
 else if aQ k 6=true then aQ (Int.ofNat (ax l).length) 2&&iz l
 else false
theorem Hp {k:Int} {nm:List UInt8} {ix:Int} {l:List Ty} (hp:∀t∈l,ag 117 [.dat t.enc] (bv t.plain)) (hcl:∀t∈l,ag 139 [.dat t.enc,iv (Int.ofNat 0)] (bv (t.closed 0)))
  (hb:l.length < 1000000000):ag 167 [.dat (Ty.mk k nm ix l).enc] (bv (jo k nm ix l)):=by
 have hid:=wc nm;have hrs:=xz nm;have hpa:=xy (k:=k) (nm:=nm) (ix:=ix) hp hb;have hfc:∀t r,l=t::r->ag 139 [.dat t.enc,iv (Int.ofNat 0)] (bv (iz l)):=by
  rintro t r rfl;exact hcl t (by simp)
 unfold jo;generalize iz l=fc at hfc;generalize isIdent nm=ci at hid;generalize gS nm=cr at hrs;generalize hZ l=cp at hpa;generalize h0:aQ k 0=c0;generalize h1:aQ k 1=c1;generalize h2:aQ k 2=c2;generalize h3:aQ k 3=c3;generalize h4:aQ k 4=c4;generalize h5:aQ k 5=c5;generalize h6:aQ k 6=c6;generalize hn:dv nm []=cn;generalize hx:aQ ix 0=cx;generalize hl6:bn 6 (Int.ofNat (ax l).length)=l6;generalize hl2:bn (Int.ofNat (ax l).length) 2=l2;generalize he0:aQ (Int.ofNat (ax l).length) 0=e0;generalize he2:aQ (Int.ofNat (ax l).length) 2=e2;generalize hx0:bn ix 0=x0;generalize hx2:bn 200 ix=x2;clear hp hcl hb
 rcases l with _|⟨t,r⟩ <;>
 ·refine co [5,9,14,18,24,25,31,53,59,65,81,29,46,57,63,69,73,78,85] [89] (x:=.of Tryz.f167 IE Lv) ?_;refine bz (b:=!c2) (c:=!aQ k 2) (by rw[h2]) (by kernel_rfl) ?_
  cases c2
  ·refine bz (b:=!cn) (c:=!dv nm []) (by rw[hn]) (by kernel_rfl) ?_
   cases cn with
   | false=>exact fi
   | true=>
    refine bz (b:=!c5) (c:=!aQ k 5) (by rw[h5]) (by kernel_rfl) ?_
    cases c5
    ·refine bz (b:=!cx) (c:=!aQ ix 0) (by rw[hx]) (by kernel_rfl) ?_
     cases cx with
     | false=>exact fi
     | true=>
      refine ob h0 ?_
      cases c0
      ·refine ob h1 ?_
       cases c1
       ·refine ob h2 ?_;refine ob h3 ?_
        cases c3
        ·refine ob h4 ?_
         cases c4
         ·refine ob h5 ?_;refine ob h6 ?_
          cases c6 with
          | false=>exact fi
          | true=>
           refine ob he2 ?_
           cases e2 with
           | false=>exact fi
           | true=>
            first
            |exact absurd he2 (by decide)
            |have hc:=hfc _ _ rfl
             have hidx:=jU (l:=t::r) (i:=0) (t:=t) rfl;obtain⟨k2,nm2,ix2,a2⟩:=t
             rcases a2 with _|⟨b,d⟩ <;>
             ·refine oo hidx ?_;refine on hc ?_
              cases fc <;> exact fi
         refine bz (b:=!l2) (c:=!bn _ 2) (by rw[hl2]) (by kernel_rfl) ?_
         cases l2 <;> exact fi
        refine bz (b:=!l6) (c:=!bn 6 _) (by rw[hl6]) (by kernel_rfl) ?_
        cases l6 <;> exact fi
       refine ob he0 ?_
       cases e0 <;> exact fi
      refine ob he0 ?_
      cases e0 <;> exact fi
    refine ob h0 ?_
    cases c0
    ·refine ob h1 ?_
     cases c1
     ·refine ob h2 ?_;refine ob h3 ?_
      cases c3
      ·refine ob h4 ?_
       cases c4
       ·refine ob h5 ?_;refine ob he0 ?_
        cases e0 with
        | false=>exact fi
        | true=>
         refine bz (b:=!x0) (c:=!bn ix 0) (by rw[hx0]) (by kernel_rfl) ?_
         cases x0
         ·refine bz (b:=!x2) (c:=!bn 200 ix) (by rw[hx2]) (by kernel_rfl) ?_
          cases x2 <;> exact fi
         exact fi
       exact absurd h4 (by rw[gV] at h5 ⊢;simp at h5 ⊢;omega)
      exact absurd h3 (by rw[gV] at h5 ⊢;simp at h5 ⊢;omega)
     exact absurd h1 (by rw[gV] at h5 ⊢;simp at h5 ⊢;omega)
    exact absurd h0 (by rw[gV] at h5 ⊢;simp at h5 ⊢;omega)
  refine bz (b:=!c5) (c:=!aQ k 5) (by rw[h5]) (by kernel_rfl) ?_
  cases c5
  ·refine bz (b:=!cx) (c:=!aQ ix 0) (by rw[hx]) (by kernel_rfl) ?_
   cases cx with
   | false=>exact fi
   | true=>
    refine ob h0 ?_
    cases c0
    ·refine ob h1 ?_
     cases c1
     ·refine ob h2 ?_;refine on hid ?_
      cases ci with
      | false=>exact fi
      | true=>
       refine on hrs ?_
       cases cr
       ·refine bz (b:=!l6) (c:=!bn 6 _) (by rw[hl6]) (by kernel_rfl) ?_
        cases l6
        ·refine on hpa ?_
         cases cp <;> exact fi
        exact fi
       exact fi
     exact absurd h1 (by rw[gV] at h2 ⊢;simp at h2 ⊢;omega)
    exact absurd h0 (by rw[gV] at h2 ⊢;simp at h2 ⊢;omega)
  exact absurd h5 (by rw[gV] at h2 ⊢;simp at h2 ⊢;omega)
mutual
def Ty.valid:Ty->Bool
 | .mk k nm ix l=>jo k nm ix l&&!me l
def me:List Ty->Bool
 | []=>false
 | t::r=>!t.valid||me r
end
theorem C1:∀l:List Ty,me l=l.any (fun t=>!t.valid)
 | []=>by simp[me]
 | t::r=>by simp[me,C1 r]
theorem HP {k:Int} {nm:List UInt8} {ix:Int} {l:List Ty} (hv:∀t∈l,ag 138 [.dat t.enc] (bv t.valid)) (hs:(Ty.mk k nm ix l).size < 1000000000):ag 138 [.dat (Ty.mk k nm ix l).enc] (bv (Ty.mk k nm ix l).valid):=by
 have hsz:aS l < 1000000000:=by simp only[Ty.size] at hs;omega
 have hb:l.length < 1000000000:=by have:=eh l;omega
 have hdp:=jZ l;have h1:=Hp (k:=k) (nm:=nm) (ix:=ix) (A6 l hsz) (we l 0 hsz (by omega)) hb;have h2:∀t∈l,ag 168 [.dat t.enc] (bv (!t.valid)):=by
  intro t ht;have hc:=hv t ht;generalize t.valid=c at hc;obtain⟨k2,nm2,ix2,a2⟩:=t
  rcases a2 with _|⟨b,d⟩ <;> cases c <;>
  ·refine co [] [] (x:=.of Tryz.f168 ID Lu) ?_;refine on hc ?_;exact fi
 have h3:=Bj h2 hb;rw[Ty.valid,C1];generalize l.any (fun t=>!t.valid)=ca at h3;generalize jo k nm ix l=cn at h1;clear hv hs hsz hb hdp h2
 rcases l with _|⟨b,d⟩ <;>
 ·refine co [] [] (x:=.of Tryz.f138 IK LC) ?_;refine on h1 ?_
  cases cn with
  | false=>exact fi
  | true=>
   refine on h3 ?_
   cases ca <;> exact fi
mutual
theorem Ma:∀t:Ty,t.size < 1000000000->ag 138 [.dat t.enc] (bv t.valid)
 | .mk k nm ix l,h=>HP (Hq l (by simp only[Ty.size] at h;omega)) h
theorem Hq:∀l:List Ty,aS l < 1000000000->∀t∈l,ag 138 [.dat t.enc] (bv t.valid)
 | [],_,t,ht=>by simp at ht
 | x::r,h,t,ht=>by
  simp only[aS] at h
  rcases List.mem_cons.1 ht with h1|ht
  ·rw[h1];exact Ma x (by omega)
  exact Hq r (by omega) t ht
end
def Ty.validate (t:Ty):Int:=match bn 200 (Int.ofNat t.size)||bn 12 (Int.ofNat t.depth) with|true=>4|false=>(match t.valid with|true=>0|false=>2)
theorem J2 (t:Ty) (h:t.size < 1000000000):ag 116 [.dat t.enc] (iv t.validate):=by
 have h1:=T9 t h;have h2:=Mf t h;have h3:=Ma t h;unfold Ty.validate;generalize hs:t.size=n at h1 h;generalize t.depth=m at h2;generalize t.valid=c at h3;generalize hn:bn 200 (Int.ofNat n)=cn;generalize hm:bn 12 (Int.ofNat m)=cm;clear hs h;obtain⟨k2,nm2,ix2,a2⟩:=t
 rcases a2 with _|⟨b,d⟩ <;>
 ·refine co [6,10] [] (x:=.of Tryz.f116 IT LK) ?_;refine on h1 ?_;refine ob hn ?_
  cases cn
  ·refine on h2 ?_;refine ob hm ?_
   cases cm
   ·refine on h3 ?_
    cases c <;> exact fi
   exact fi
  exact fi
noncomputable def U3:TI:=match Go.Tp.elemOf (env au.aI) 22 with|some t=>t|none=>default
theorem OV:Go.Tp.elemOf (env au.aI) 22=some U3:=by kernel_rfl
theorem pb:U3.size=1:=by kernel_rfl
theorem Nz {l:List Int} {i:Nat} {t:Int} (h:l[i]?=some t):aJ (env au.aI) 22 [.dat (.slice (l.map iN)),.dat (.flat (.int .i64 (Int.ofNat i)))]=some ⟨.ref [iN t],.keep⟩:=
 uO (d:=iN t) OV rfl (by rw[List.getElem?_map,h];rfl) (by rw[pb];rfl) (by rw[pb];decide)
theorem X3 {x ar:Int}:ag 120 [iv x,.ref [iN ar]] (bv (!bn x ar)):=by
 generalize h:bn x ar=c;refine co [6] [] (x:=.of Tryz.f120 IP LH) ?_;refine ox h ?_
 cases c <;>
 ·exact fi
def fnO (ar:Int):ac:=.fn (.func 120) [] [.ref [iN ar]]
noncomputable def aaW:Hints:=⟨an,Dz,ap,rowsOf ap 141⟩
def stO (ar:Int) (a:aq) (n:Nat) (i:Int):ab:=⟨[(8,iv i),(7,iv (Int.ofNat n)),(0,.dat a),(1,fnO ar)],[],[],0⟩
def ad6 (ar:Int) (a:aq) (n:Nat):ab:=⟨[(9,bv false),(8,iv (Int.ofNat n)),(7,iv (Int.ofNat n)),(0,.dat a),(1,fnO ar)],[],[],0⟩
def ad7 (i:Nat):ab:=⟨[(4,iv (Int.ofNat i))],[],[],0⟩
theorem Iy {l:List Int} {x ar:Int} {i:Nat} {c:Bool} {T:Exit->aa->Prop} (hi:i < (l.map iN).length) (ht:l[i]?=some x) (hc:ag 120 [iv x,.ref [iN ar]] (bv c))
  (e1:c=false->T .normal ((stO ar (.slice (l.map iN)) (l.map iN).length (aG .i64 (Int.ofNat i+1))).aw Tryz.f141.ntmps)) (e2:c=true->T .ret ((ad7 i).aw Tryz.f141.ntmps)) :
  KD (roundOf Tryz.f141 0) T ((stO ar (.slice (l.map iN)) (l.map iN).length (Int.ofNat i)).aw Tryz.f141.ntmps):=by
 have h1:=bd hi;have h2:=Nz ht;generalize l.map iN=es at *;clear ht hi
 cases c
 ·refine aB [9] [14] (H:=aaW) (live:=tV) (by kernel_rfl) ?_;refine ob h1 ?_;refine oo h2 ?_;refine on hc ?_;exact oe (e1 rfl)
 refine aB [9] [14] (H:=aaW) (live:=tV) (by kernel_rfl) ?_;refine ob h1 ?_;refine oo h2 ?_;refine on hc ?_;exact oe (e2 rfl)
theorem QA {ar:Int} {a:aq} {n:Nat} {T:Exit->aa->Prop} (e1:T (.exit 0) ((ad6 ar a n).aw Tryz.f141.ntmps)) :
  KD (roundOf Tryz.f141 0) T ((stO ar a n (Int.ofNat n)).aw Tryz.f141.ntmps):=by
 have h1:=br (i:=n) (L:=n) (by omega);refine aB [9] [] (H:=aaW) (live:=tV) (by kernel_rfl) ?_;refine ob h1 ?_;exact oe e1
theorem VL {l:List Int} {ar:Int} (hb:l.length < 1000000000):ag 141 [.dat (sl (l.map iN)),fnO ar] (iv (va (fun x=>!bn x ar) l 0)):=by
 have hl:∀a,a=sl (l.map iN)->KD (.loop (roundOf Tryz.f141 0)) (fun e s=>(e=.exit 0/\va (fun x=>!bn x ar) l 0=-1/\s=(ad6 ar a (l.map iN).length).aw Tryz.f141.ntmps)∨(e=.ret/\∃i:Nat,va (fun x=>!bn x ar) l 0=Int.ofNat i/\s=(ad7 i).aw Tryz.f141.ntmps)) ((stO ar a (l.map iN).length (Int.ofNat 0)).aw Tryz.f141.ntmps):=by
  intro a ha;refine cE (St:=fun i=>(stO ar a (l.map iN).length (Int.ofNat i)).aw Tryz.f141.ntmps) (fun i=>va (fun x=>!bn x ar) l 0=va (fun x=>!bn x ar) (l.drop i) i) (l.map iN).length ?_ ?_ (i:=0) (Nat.zero_le _) rfl
  ·intro i hi hI;have hi2:=hi;rw[List.length_map] at hi2;have ht:l[i]?=some l[i]:=List.getElem?_eq_getElem hi2;generalize l[i]=t at ht;have hd:=Av (p:=fun x=>!bn x ar) ht;have hw:aG .i64 (Int.ofNat i+1)=Int.ofNat (i+1):=bb (by omega);rw[←hI] at hd;have ha2:a=.slice (l.map iN):=by
    rw[ha]
    cases l with
    | nil=>simp at ht
    | cons x r=>rfl
   subst ha2;have hc:=X3 (x:=t) (ar:=ar);generalize (!bn t ar)=c at hc hd;refine Iy hi ht hc ?_ ?_
   ·rintro rfl;rw[hw];exact⟨rfl,hd⟩
   rintro rfl;exact .inr ⟨rfl,i,hd,rfl⟩
  intro hI;refine QA (.inl ⟨rfl,?_,rfl⟩);rw[hI,List.length_map,List.drop_length];rfl
 have hl:=hl _ rfl;clear hb;generalize hj:va (fun x=>!bn x ar) l 0=j at hl;clear hj;generalize l.map iN=es at *
 rcases es with _|⟨x,es⟩ <;>
 ·refine co [] [] (x:=.of Tryz.f141 Dz tV) ?_;refine lo hl ?_;rintro ex s (⟨rfl,rfl,rfl⟩|⟨rfl,⟨x0,rfl,rfl⟩⟩) <;>
  ·refine⟨_,rfl,?_⟩;exact fi
theorem QB {l:List Int} {ar:Int} (hb:l.length < 1000000000):ag 118 [.dat (sl (l.map iN)),fnO ar] (bv (l.any (fun x=>!bn x ar))):=by
 have h:=VL (ar:=ar) hb;have h3:=D2 (p:=fun x=>!bn x ar) (l:=l) (i:=0);generalize va (fun x=>!bn x ar) l 0=j at h h3;have e:l.any (fun x=>!bn x ar)=!(!(l.any (fun x=>!bn x ar))):=by rw[Bool.not_not]
 rw[e];generalize l.any (fun x=>!bn x ar)=c at h3;generalize l.map iN=es at *;clear hb e
 rcases es with _|⟨x,es⟩ <;>
 ·refine co [8] [] (x:=.of Tryz.f118 IQ LI) ?_;refine on h ?_;refine ox h3 ?_;exact fi
theorem M8 {k:Int} {nm:List UInt8} {ix ar v:Int} {l fv:List aq} {c1 c2 c3:Bool} (h1:ag 116 [.dat (.agg [i64 k,sb nm,i64 ix,sl l])] (iv v)) (hv:aQ v 0=c1) (h2:ag 117 [.dat (.agg [i64 k,sb nm,i64 ix,sl l])] (bv c2))
 (h3:ag 119 [.dat (.agg [i64 k,sb nm,i64 ix,sl l])] (.dat (sl fv))) (h4:ag 118 [.dat (sl fv),fnO ar] (bv c3)):ag 89 [.dat (.agg [i64 k,sb nm,i64 ix,sl l]),iv ar] (bv (c1&&(c2&&!c3))):=by
 rcases l with _|⟨x,l⟩ <;>
 ·rcases fv with _|⟨y,fv⟩ <;>
  ·refine co [7] [] (x:=.of Tryz.f89 QE Sr) ?_;refine on h1 ?_;refine ob hv ?_
   cases c1
   ·exact fi
   refine on h2 ?_
   cases c2
   ·exact fi
   refine on h3 ?_;refine on h4 ?_;exact fi
def Ty.over (t:Ty) (ar:Int):Bool:=aQ t.validate 0&&(t.plain&&!(t.fv.any (fun x=>!bn x ar)))
theorem xx {t:Ty} {ar:Int} (h:t.cX):ag 89 [.dat t.enc,iv ar] (bv (t.over ar)):=by
 have hs:=h.1;have h1:=J2 t (by omega);have h2:=Md t (by omega);have h3:=Bb (by omega) h.2;have h4:=QB (l:=t.fv) (ar:=ar) (by have:=(D8 (t:=t)).2;omega);obtain⟨k,nm,ix,l⟩:=t;exact M8 h1 rfl h2 h3 h4
def aaA (c:Bool) (r m:Int):Int:=match c with|true=>aG .i64 (r+m)|false=>r
theorem Vr {n m:Int} (h:aQ m 0=false):fW (env au.aI) .rem 3 [iv n,iv m]=some ⟨iv (n.tmod m),.keep⟩:=by
 have h1:fW (env au.aI) .rem 3 [iv n,iv m]=Y3 (if aQ m 0=true then none else some (.int .i64 (n.tmod m))):=by kernel_rfl
 rw[h1,h];rfl
theorem aaz {n m:Int} {c:Bool} (h1:fW (env au.aI) .rem 3 [iv n,iv m]=some ⟨iv (n.tmod m),.keep⟩) (h2:bn (n.tmod m) 0=c):ag 13 [iv n,iv m] (iv (aaA c (n.tmod m) m)):=by
 refine co [9] [7] (x:=.of Tryz.f13 RO SO) ?_;refine oo h1 ?_;refine ob h2 ?_
 cases c <;>
 ·exact fi
theorem LX (n:Int) {m:Nat} (hm:0 < m) (hb:m < 1000000000):ag 13 [iv n,iv (Int.ofNat m)] (iv (n % Int.ofNat m)):=by
 have h:=aaz (n:=n) (m:=Int.ofNat m) (Vr (by rw[gV,beq_eq_false_iff_ne];intro h;have:=Int.ofNat.inj (h.trans (show (0:Int)=Int.ofNat 0 from rfl));omega)) rfl;have e:aaA (bn (n.tmod (Int.ofNat m)) 0) (n.tmod (Int.ofNat m)) (Int.ofNat m)=n % Int.ofNat m:=by
  have h0:(0:Int) < Int.ofNat m:=by simp;omega
  have h1:=Int.emod_nonneg n (show Int.ofNat m≠0 by omega);have h2:=Int.emod_lt_of_pos n h0;have h3:Int.ofNat m < 1000000000:=by simp;omega
  rw[gr];have ht:=Int.tmod_eq_emod (a:=n) (b:=Int.ofNat m);generalize Int.ofNat m=M at *;generalize n % M=q at *;rw[ht];unfold aaA
  split at ht
  ·rename_i hc;rw[if_pos hc,show ((0:Nat):Int)=0 from rfl,Int.sub_zero];rw[decide_eq_false (by omega)]
  rename_i hc;rw[if_neg hc];have hM:(M.natAbs:Int)=M:=by omega
  rw[hM];rw[decide_eq_true (by omega)];dsimp only;rw[dR,wrap_i64 (by omega) (by omega)];omega
 rw[e] at h;exact h
def fy (l:List aq) (k:Int):Heap:=[(.out 0,.cells [.dat (.slice l),iv k])]
def fg:ac:=.ptr (.out 0) 0
theorem Tc {l:List aq}:KC 15 [.dat (.slice l)] [] 0 (XQ ⟨fg,fy l 0,1⟩):=by
 refine co [] [] (x:=.of Tryz.f15 RE SM) ?_;exact fi
theorem Lk {l:List aq} {k n x r:Int} {c:Bool} (h1:bn k (Int.ofNat l.length)=c) (h2:c=true->aJ (env au.aI) 22 [.dat (.slice l),.dat (.flat (.int .i64 (aG .i64 (aG .i64 (k+1) - 1))))]=some ⟨.ref [iN x],.keep⟩) (h3:ag 13 [iv x,iv n] (iv r)) :
  KC 64 [fg,iv n] (fy l k) 1 (XQ ⟨iv (match c with|true=>r|false=>0),fy l (match c with|true=>aG .i64 (k+1)|false=>k),1⟩):=by
 refine co [14] [31] (x:=.of Tryz.f64 QN SB) ?_;refine ox h1 ?_
 cases c
 ·exact fi
 refine oo (h2 rfl) ?_;refine on h3 ?_;exact fi
theorem eY {l:List Int} {k:Nat} {n:Nat} (hl:l.length < 1000000000) (hk0:k<=l.length) (hn:0 < n) (hb:n < 1000000000) :
  ∃r k2:Nat,(r < n/\k<=k2/\k2<=l.length/\(0 < r->k < k2))/\KC 64 [fg,iv (Int.ofNat n)] (fy (l.map iN) (Int.ofNat k)) 1 (XQ ⟨iv (Int.ofNat r),fy (l.map iN) (Int.ofNat k2),1⟩):=by
 by_cases hk:k < l.length
 ·have hg:l[k]?=some l[k]:=List.getElem?_eq_getElem hk;have hw:aG .i64 (Int.ofNat k+1)=Int.ofNat (k+1):=bb (by omega);have hw2:aG .i64 (Int.ofNat (k+1) - 1)=Int.ofNat k:=by
   rw[dR,show Int.ofNat (k+1) - 1=Int.ofNat k by simp];exact wrap_i64 (by show _<=(k:Int);omega) (by show (k:Int)<=_;omega)
  have h0:=Int.emod_nonneg l[k] (show Int.ofNat n≠0 from fun h=>absurd (Int.ofNat.inj (h.trans (show (0:Int)=Int.ofNat 0 from rfl))) (by omega));have h2:=Int.emod_lt_of_pos l[k] (show (0:Int) < Int.ofNat n from Int.ofNat_lt.2 hn);refine⟨(l[k] % Int.ofNat n).toNat,k+1,⟨(Int.toNat_lt h0).2 h2,by omega,by omega,fun _=>by omega⟩,?_⟩;have h:=Lk (l:=l.map iN) (k:=Int.ofNat k) (x:=l[k]) (n:=Int.ofNat n) (r:=l[k] % Int.ofNat n) (c:=true) (by rw[iM,List.length_map,decide_eq_true hk]) (fun _=>by rw[hw,hw2];exact Nz hg) (LX _ hn hb);dsimp only at h;rw[hw] at h;rw[show Int.ofNat (l[k] % Int.ofNat n).toNat=l[k] % Int.ofNat n from Int.toNat_of_nonneg h0];exact h
 refine⟨0,k,⟨hn,by omega,by omega,fun h=>by omega⟩,?_⟩;exact Lk (l:=l.map iN) (k:=Int.ofNat k) (x:=0) (n:=Int.ofNat n) (r:=0) (c:=false) (by rw[iM,List.length_map,decide_eq_false hk]) (fun h=>by simp at h) (by have:=LX 0 hn hb;rw[Int.zero_emod] at this;exact this)
def fu:List dY->List (Go.Value×aq)
 | []=>[]
 | f::r=>(.string ⟨⟨f.nm⟩⟩,bl true)::fu r
theorem B5 (b:List dY):∀a:List dY,fu (a++b)=fu a++fu b
 | []=>rfl
 | x::r=>by simp only[List.cons_append,fu,B5 b r]
def oM:List dY->List UInt8->Bool
 | [],_=>false
 | f::r,nm=>match dv nm f.nm with|true=>true|false=>oM r nm
theorem sI:∀(l:List dY) (nm:List UInt8) (j:Nat),findF .string (.string ⟨⟨nm⟩⟩) (fu l) j=some (match oM l nm with|true=>some (match findF .string (.string ⟨⟨nm⟩⟩) (fu l) j with|some (some (i,_))=>i|_=>0,bl true)|false=>none)
 | [],nm,j=>rfl
 | d::r,nm,j=>by
  have e:findF .string (.string ⟨⟨nm⟩⟩) (fu (d::r)) j=(match tu .string (.string ⟨⟨nm⟩⟩) (.string ⟨⟨d.nm⟩⟩) with|some true=>some (some (j,bl true))|some false=>findF .string (.string ⟨⟨nm⟩⟩) (fu r) (j+1)|none=>none):=rfl;rw[e,show tu .string (.string ⟨⟨nm⟩⟩) (.string ⟨⟨d.nm⟩⟩)=some (dv nm d.nm) from rfl];unfold oM
  cases he:dv nm d.nm with
  | true=>rfl
  | false=>exact sI r nm (j+1)
theorem Nn (l:List dY) (nm:List UInt8):eM (env au.aI) 97 false [.map (.loc 50),.dat (sb nm)] (some (.map (fu l)))=some ⟨bv (oM l nm),.keep⟩:=by
 have h1:eM (env au.aI) 97 false [.map (.loc 50),.dat (sb nm)] (some (.map (fu l)))=(match findF .string (.string ⟨⟨nm⟩⟩) (fu l) 0 with
  | some (some (_,d))=>some ⟨.dat d,.keep⟩|some none=>some ⟨bv false,.keep⟩|none=>none):=by kernel_rfl
 rw[h1,sI]
 cases oM l nm <;> rfl
theorem Qr {l:List dY} {f:dY} (h:oM l f.nm=false):cM (env au.aI) 97 [.map (.loc 50),.dat (sb f.nm),bv true] (some (.map (fu l)))=some ⟨.undef,.set (.map (fu (l++[f])))⟩:=by
 have h1:cM (env au.aI) 97 [.map (.loc 50),.dat (sb f.nm),bv true] (some (.map (fu l)))=(match findF .string (.string ⟨⟨f.nm⟩⟩) (fu l) 0 with
  | some (some (i,_))=>some ⟨.undef,.set (.map (setAt i (bl true) (fu l)))⟩|some none=>some ⟨.undef,.set (.map (fu l++[(.string ⟨⟨f.nm⟩⟩,bl true)]))⟩|none=>none):=by kernel_rfl
 rw[h1,sI,h,B5];rfl
noncomputable def Zb:Hints:=⟨an,FY,ap,rowsOf ap 50⟩
def V1 (es:List (Go.Value×aq)) (nm:List UInt8) (ar k:Int) (nm2:List UInt8) (ix:Int) (a:aq) (con:Bool) (b:aq):Heap:=[(.loc 50,.map es),(.loc 1,.cells [.dat (sb nm),iv ar,iv k,.dat (sb nm2),iv ix,.dat a,.dat (bl con),.dat b])]
def stW (lo:Heap) (b:aq) (n:Nat) (i:Int):ab:=⟨[(54,iv i),(53,iv (Int.ofNat n)),(52,.dat b),(3,.map (.loc 50)),(1,.ptr (.loc 1) 0)],lo,[],0⟩
def ZV (lo:Heap) (b:aq) (n:Nat) (i:Int):ab:=⟨[(55,bv false),(54,iv i),(53,iv (Int.ofNat n)),(52,.dat b),(3,.map (.loc 50)),(1,.ptr (.loc 1) 0)],lo,[],0⟩
def ZW (c:Bool):ab:=⟨[(2,bv c)],[],[],0⟩
theorem HO {nm:List UInt8} {ar k:Int} {nm2:List UInt8} {ix:Int} {la:List aq} {con:Bool} {l pre:List dY} {f:dY} {i:Nat} {c1 c2 c3:Bool} {T:Exit->aa->Prop} (hi:i < (aN l).length) (ht:l[i]?=some f)
  (h1:ag 87 [.dat (sb f.nm)] (bv c1)) (hs:oM pre f.nm=c2) (h2:ag 89 [.dat f.ty.enc,iv ar] (bv c3))
  (e1:(c1&&(!c2&&c3))=true->T .normal ((stW (V1 (fu (pre++[f])) nm ar k nm2 ix (sl la) con (.slice (aN l))) (.slice (aN l)) (aN l).length (aG .i64 (Int.ofNat i+1))).aw Tryz.f50.ntmps))
  (e2:(c1&&(!c2&&c3))=false->T .ret ((ZW false).aw Tryz.f50.ntmps)) :
  KD (roundOf Tryz.f50 0) T ((stW (V1 (fu pre) nm ar k nm2 ix (sl la) con (.slice (aN l))) (.slice (aN l)) (aN l).length (Int.ofNat i)).aw Tryz.f50.ntmps):=by
 have g1:=bd hi;have g2:=sG ht;have g3:=Nn pre f.nm;rw[hs] at g3;have g4:c2=false->cM (env au.aI) 97 [.map (.loc 50),.dat (sb f.nm),bv true] (some (.map (fu pre)))=some ⟨.undef,.set (.map (fu (pre++[f])))⟩:=fun h=>Qr (by rw[hs,h])
 generalize fu pre=es at *;generalize fu (pre++[f])=es2 at *;obtain⟨fnm,fk,ftn,fix,fa⟩:=f;generalize aN l=xs at *;clear ht hi hs
 rcases la with _|⟨x,la⟩ <;>
 ·rcases fa with _|⟨z,fa⟩ <;>
  ·refine aB [55] [56,66,100076] (H:=Zb) (live:=Ao) (by kernel_rfl) ?_;refine ob g1 ?_;refine oo g2 ?_;refine on h1 ?_
   cases c1
   ·exact oe (e2 rfl)
   refine oo g3 ?_
   cases c2
   ·refine on h2 ?_
    cases c3
    ·exact oe (e2 rfl)
    refine oo (g4 rfl) ?_;exact oe (e1 rfl)
   exact oe (e2 rfl)
theorem Mn {es:List (Go.Value×aq)} {nm:List UInt8} {ar k:Int} {nm2:List UInt8} {ix:Int} {la:List aq} {con:Bool} {b:aq} {n:Nat} {T:Exit->aa->Prop}
  (e:T (.exit 0) ((ZV (V1 es nm ar k nm2 ix (sl la) con b) b n (Int.ofNat n)).aw Tryz.f50.ntmps)) :
  KD (roundOf Tryz.f50 0) T ((stW (V1 es nm ar k nm2 ix (sl la) con b) b n (Int.ofNat n)).aw Tryz.f50.ntmps):=by
 have h1:=br (i:=n) (L:=n) (by omega);refine aB [55] [] (H:=Zb) (live:=Ao) (by kernel_rfl) ?_;refine ob h1 ?_;exact oe e
def HJ (ar:Int):List dY->List dY->Bool
 | _,[]=>true
 | pre,f::r=>(isIdent f.nm&&(!oM pre f.nm&&f.ty.over ar))&&HJ ar (pre++[f]) r
theorem ET {ar:Int} {l:List dY} {i:Nat} {f:dY} (h:l[i]?=some f):HJ ar (l.take i) (l.drop i)=((isIdent f.nm&&(!oM (l.take i) f.nm&&f.ty.over ar))&&HJ ar (l.take (i+1)) (l.drop (i+1))):=by
 rw[dC h,dZ h];rfl
theorem Mm {nm:List UInt8} {ar k:Int} {nm2:List UInt8} {ix:Int} {la:List aq} {con:Bool} {l:List dY} {b:aq} (hb:b=sl (aN l)) (hn:l.length < 1000000000) (hf:∀f∈l,f.ty.cX) :
  KD (.loop (roundOf Tryz.f50 0)) (fun e s=>(e=.exit 0/\HJ ar [] l=true/\s=(ZV (V1 (fu l) nm ar k nm2 ix (sl la) con b) b (aN l).length (Int.ofNat (aN l).length)).aw Tryz.f50.ntmps)∨(e=.ret/\HJ ar [] l=false/\s=(ZW false).aw Tryz.f50.ntmps))
   ((stW (V1 [] nm ar k nm2 ix (sl la) con b) b (aN l).length (Int.ofNat 0)).aw Tryz.f50.ntmps):=by
 refine cE (St:=fun i=>(stW (V1 (fu (l.take i)) nm ar k nm2 ix (sl la) con b) b (aN l).length (Int.ofNat i)).aw Tryz.f50.ntmps) (fun i=>HJ ar [] l=HJ ar (l.take i) (l.drop i)) (aN l).length ?_ ?_ (i:=0) (Nat.zero_le _) rfl
 ·intro i hi hI;obtain⟨f,ht,hm⟩:=gx hi;have hi2:=hi;rw[bc] at hi2;have hd:=ET (ar:=ar) ht;rw[←hI] at hd;have hw:aG .i64 (Int.ofNat i+1)=Int.ofNat (i+1):=bb (by omega);have hb2:b=.slice (aN l):=by
   rw[hb]
   cases l with
   | nil=>simp at ht
   | cons x r=>rfl
  subst hb2;refine HO hi ht (wc f.nm) rfl (xx (ar:=ar) (hf f hm)) ?_ ?_
  ·intro h;rw[h] at hd;rw[hw,←dZ ht];exact⟨rfl,hd⟩
  intro h;rw[h] at hd;exact .inr ⟨rfl,hd,rfl⟩
 intro hI;rw[bc,List.take_length,List.drop_length] at hI;rw[bc,List.take_length];exact Mn (.inl ⟨rfl,hI,rfl⟩)
def SP (l:List aq):Bool:=match l with|[]=>false|_=>true
theorem OI {nm nm2:List UInt8} {ar k ix:Int} {la lb:List aq} {es:List (Go.Value×aq)} {con c1 c2 c3 c4 c5 c6 c7:Bool} (h1:ag 87 [.dat (sb nm)] (bv c1)) (h2:ag 88 [.dat (.slice (encS oW)),.dat (sb nm)] (bv c2)) (h3:bn ar 0=c3)
  (h4:aQ k 0=c4) (h5:aQ k 2=c5) (h6:ag 89 [.dat (.agg [i64 k,sb nm2,i64 ix,sl la]),iv ar] (bv c6))
  (h7:KD (.loop (roundOf Tryz.f50 0)) (fun e s=>(e=.exit 0/\c7=true/\s=(ZV (V1 es nm ar k nm2 ix (sl la) con (sl lb)) (sl lb) lb.length (Int.ofNat lb.length)).aw Tryz.f50.ntmps)∨(e=.ret/\c7=false/\s=(ZW false).aw Tryz.f50.ntmps))
   ((stW (V1 [] nm ar k nm2 ix (sl la) con (sl lb)) (sl lb) lb.length (Int.ofNat 0)).aw Tryz.f50.ntmps)) :
  ag 50 [.dat (dw nm ar k nm2 ix la con lb)] (bv (c1&&(!c2&&(!c3&&(!(!con&&SP lb)&&((c4||c5)&&(c6&&c7))))))):=by
 rcases la with _|⟨x,la⟩ <;>
 ·rcases lb with _|⟨y,lb⟩
  ·refine co [19,35,40] [] (x:=.of Tryz.f50 FY Ao) ?_;refine on h1 ?_
   cases c1
   ·exact fi
   refine on h2 ?_
   cases c2
   ·refine ob h3 ?_
    cases c3
    ·cases con <;>
     ·refine ox h4 ?_
      cases c4
      ·refine ox h5 ?_
       cases c5
       ·exact fi
       refine on h6 ?_
       cases c6
       ·exact fi
       refine lo h7 ?_;rintro ex s (⟨rfl,rfl,rfl⟩|⟨rfl,rfl,rfl⟩) <;>
       ·refine⟨_,rfl,?_⟩;exact fi
      refine on h6 ?_
      cases c6
      ·exact fi
      refine lo h7 ?_;rintro ex s (⟨rfl,rfl,rfl⟩|⟨rfl,rfl,rfl⟩) <;>
      ·refine⟨_,rfl,?_⟩;exact fi
    exact fi
   exact fi
  refine co [19,35,40] [] (x:=.of Tryz.f50 FY Ao) ?_;refine on h1 ?_
  cases c1
  ·exact fi
  refine on h2 ?_
  cases c2
  ·refine ob h3 ?_
   cases c3
   ·cases con
    ·exact fi
    refine ox h4 ?_
    cases c4
    ·refine ox h5 ?_
     cases c5
     ·exact fi
     refine on h6 ?_
     cases c6
     ·exact fi
     refine lo h7 ?_;rintro ex s (⟨rfl,rfl,rfl⟩|⟨rfl,rfl,rfl⟩) <;>
     ·refine⟨_,rfl,?_⟩;exact fi
    refine on h6 ?_
    cases c6
    ·exact fi
    refine lo h7 ?_;rintro ex s (⟨rfl,rfl,rfl⟩|⟨rfl,rfl,rfl⟩) <;>
    ·refine⟨_,rfl,?_⟩;exact fi
   exact fi
  exact fi
def Ty.kind:Ty->Int
 | .mk k _ _ _=>k
def Ty.Cz:Ty->Int
 | .mk _ _ i _=>i
def aZ.wf (d:aZ):Bool:=isIdent d.nm&&(!gS d.nm&&(!bn d.ar 0&&(!(!d.con&&SP (aN d.fl))&&((aQ d.sup.kind 0||aQ d.sup.kind 2)&&(d.sup.over d.ar&&HJ d.ar [] d.fl)))))
theorem Ez {d:aZ} (h:d.cX):ag 50 [.dat d.enc] (bv d.wf):=by
 obtain⟨h1,h2,h3⟩:=h;have g1:=wc d.nm;have g2:=xz d.nm;have g6:=xx (ar:=d.ar) h1;obtain⟨nm,ar,⟨k,tn,ix,la⟩,con,fl⟩:=d;exact OI g1 g2 rfl rfl rfl g6 (Mm rfl h3 h2)
theorem Cq:∀cs:List aq,bS (av cs)=true
 | []=>rfl
 | d::r=>by show (fU (.dat d)&&bS (av r))=true;rw[Cq r];rfl
theorem R7 (cs:List aq):dj (.cells (av cs))=true:=Cq cs
theorem adk {cs cs2:List aq} {es es2:List (Go.Value×aq)} {n:Nat} {nm nm2:List UInt8} {ar k ix:Int} {con:Bool} {la lb:List aq}
  (h0:qt (env au.aI) 23 [.win (.out 2) 8 0 n] none=some ⟨iv (Int.ofNat n),.keep⟩)
  (h1:cM (env au.aI) 80 [.map (.out 0),.dat (sb nm),iv (Int.ofNat n)] (some (.map es))=some ⟨.undef,.set (.map es2)⟩)
  (h2:cj (env au.aI) true 23 [.win (.out 2) 8 0 n,.dat (.slice [dw nm ar k nm2 ix la con lb])] (some (.cells (av cs)))=some ⟨.undef,.grow (.cells (av cs2)) 8 (n+1)⟩) :
  KC 52 [hP,.dat (dw nm ar k nm2 ix la con lb)] (hG 2 (av cs) es n) 3 (XQ ⟨.tup [],hG 3 (av cs2) es2 (n+1),4⟩):=by
 have hn:=R7 cs2
 rcases la with _|⟨x,la⟩ <;>
 ·rcases lb with _|⟨y,lb⟩ <;>
  ·refine aY [500022] [14,100007,22] (x:=fL.of Tryz.f52 QS SG) (by kernel_rfl) ?_;refine oo h0 ?_;refine oo h1 ?_;refine oo h2 ?_;refine ob hn ?_;exact fi
theorem aai {cs:List aq} {es es2:List (Go.Value×aq)} {n:Nat} {nm:List UInt8}
  (h0:qt (env au.aI) 23 [.win (.out 2) 8 0 (n+1)] none=some ⟨iv (Int.ofNat (n+1)),.keep⟩)
  (h2:aJ (env au.aI) 23 [.win (.out 2) 8 0 (n+1),iv (aG .i64 (Int.ofNat (n+1) - 1))]=some ⟨.ptr (.out 2) (0+n*8),.keep⟩)
  (h3:lr (env au.aI) false 9 [.ptr (.out 2) (0+n*8)] (some (.cells (av cs)))=some ⟨.dat (sb nm),.keep⟩)
  (h4:mg (env au.aI) 80 [.map (.out 0),.dat (sb nm)] (some (.map es))=some ⟨.tup [],.set (.map es2)⟩)
  (h5:ff (env au.aI) 23 none (some (.tmp 26)) none [.win (.out 2) 8 0 (n+1),iv (aG .i64 (Int.ofNat (n+1) - 1))]=some ⟨.win (.out 2) 8 0 n,.keep⟩) :
  KC 56 [hP] (hG 2 (av cs) es (n+1)) 3 (XQ ⟨.tup [],hG 2 (av cs) es2 n,3⟩):=by
 refine aY [] [7,18,20,100012,27] (x:=fL.of Tryz.f56 QQ SE) (by kernel_rfl) ?_;refine oo h0 ?_;refine oo h2 ?_;refine oo h3 ?_;refine oo h4 ?_;refine oo h5 ?_;exact fi
theorem yv {r n:Nat} (h:n<=lim):qt (env au.aI) 23 [.win (.out r) 8 0 n] none=some ⟨iv (Int.ofNat n),.keep⟩:=by
 have h1:qt (env au.aI) 23 [.win (.out r) 8 0 n] none=(if Nat.ble n lim=true then some ⟨iv (Int.ofNat n),.keep⟩ else none):=by kernel_rfl
 rw[h1,if_pos (by rw[Nat.ble_eq];exact h)]
theorem Az (b:List aZ):∀(a:List aZ) (i:Nat),bH (a++b) i=bH a i++bH b (i+a.length)
 | [],i=>by simp[bH]
 | x::r,i=>by
  simp only[List.cons_append,bH,List.length_cons];rw[Az b r (i+1),show i+1+r.length=i+(r.length+1) by omega]
theorem mN (b:List aZ):∀a:List aZ,bL (a++b)=bL a++bL b
 | []=>rfl
 | x::r=>by simp only[List.cons_append,bL,mN b r,List.append_assoc]
theorem VJ {ds:List aZ} {d:aZ} (h:gH ds d.nm=none):cM (env au.aI) 80 [.map (.out 0),.dat (sb d.nm),iv (Int.ofNat ds.length)] (some (.map (bH ds 0)))=some ⟨.undef,.set (.map (bH (ds++[d]) 0))⟩:=by
 have h1:cM (env au.aI) 80 [.map (.out 0),.dat (sb d.nm),iv (Int.ofNat ds.length)] (some (.map (bH ds 0)))=(match findF .string (.string ⟨⟨d.nm⟩⟩) (bH ds 0) 0 with
  | some (some (i,_))=>some ⟨.undef,.set (.map (setAt i (i64 (Int.ofNat ds.length)) (bH ds 0)))⟩|some none=>some ⟨.undef,.set (.map (bH ds 0++[(.string ⟨⟨d.nm⟩⟩,i64 (Int.ofNat ds.length))]))⟩|none=>none):=by kernel_rfl
 rw[h1,mZ,h,Az,Nat.zero_add];rfl
theorem X8 {l:List ac} (h:3<=l.length):cN l=false:=by
 rcases l with _|⟨a,_|⟨b,_|⟨c,r⟩⟩⟩ <;> simp at h
 exact Uo a b c r
noncomputable def HU:TI:=match Go.Tp.elemOf (env au.aI) 23 with|some t=>t|none=>default
theorem Ya {ds:List aZ} {d:aZ} {tl:List aq} (hn:ds.length < 1000):cj (env au.aI) true 23 [.win (.out 2) 8 0 ds.length,.dat (.slice [d.enc])] (some (.cells (av (bL ds++tl))))=some ⟨.undef,.grow (.cells (av (bL (ds++[d])))) 8 (ds.length+1)⟩:=by
 have h1:∀(n:Nat) (cs:List ac) (x:ac),cj (env au.aI) true 23 [.win (.out 2) 8 0 n,x] (some (.cells cs))=jG (env au.aI) HU n cs x:=fun n cs x=>by kernel_rfl
 have h2:eL au.aI HU [] (.dat (.slice [d.enc]))=some [d.enc]:=by
  obtain⟨nm,ar,⟨k,tn,ix,la⟩,con,fl⟩:=d
  kernel_rfl
 have h3:∀(n:Nat) (cs:List ac) (x:ac),jG (env au.aI) HU n cs x=(match eL au.aI HU [] x with
  | some ds=>if (Nat.ble ((n+ds.length)*HU.bytes) 140737488355328&&Nat.ble (n+ds.length) lim&&Nat.ble (n*8) cs.length&&!cN (fm (n*8) cs++(ds.flatMap aq.cells).map .dat))=true
   then some ⟨.undef,.grow (.cells (fm (n*8) cs++(ds.flatMap aq.cells).map .dat)) 8 (n+ds.length)⟩ else none
  | none=>none):=fun n cs x=>by kernel_rfl
 have hb:HU.bytes<=1000:=fH (by kernel_rfl);have hl:=jM ds;have hc:fm (ds.length*8) (av (bL ds++tl))++([d.enc].flatMap aq.cells).map .dat=av (bL (ds++[d])):=by
  rw[E0,←hl,List.take_left,mN];simp only[av,List.map_append,List.flatMap_cons,List.flatMap_nil,List.append_nil,bL];rfl
 rw[h1,h3,h2];dsimp only;rw[hc];have hd:(bL (ds++[d])).length=ds.length*8+8:=by rw[jM];simp;omega
 rw[if_pos]
 ·rfl
 have e1:cN (av (bL (ds++[d])))=false:=X8 (by simp[av,hd]);rw[e1];simp only[List.length_singleton,Bool.and_eq_true,Nat.ble_eq,Bool.not_false,and_true];refine⟨⟨?_,?_⟩,?_⟩
 ·calc (ds.length+1)*HU.bytes<=1000*1000:=Nat.mul_le_mul (by omega) hb
   _<=140737488355328:=by decide
 ·simp only[lim];omega
 simp[av,hl]
theorem adb {ds:List aZ} {d:aZ} {tl:List aq} (hn:ds.length < 1000) (h:gH ds d.nm=none):KC 52 [hP,.dat d.enc] (hH 2 ds tl) 3 (XQ ⟨.tup [],hH 3 (ds++[d]) [],4⟩):=by
 have h0:=yv (r:=2) (n:=ds.length) (by simp only[lim];omega);have h1:=VJ h;have h2:=Ya (d:=d) (tl:=tl) hn;have e:hH 3 (ds++[d]) []=hG 3 (av (bL (ds++[d]))) (bH (ds++[d]) 0) (ds.length+1):=by unfold hH;rw[List.append_nil,List.length_append,List.length_singleton]
 rw[e];obtain⟨nm,ar,⟨k,tn,ix,la⟩,con,fl⟩:=d;exact adk h0 h1 h2
theorem Qz {ds:List aZ} {d:aZ} (h:gH ds d.nm=none):gH (ds++[d]) d.nm=some ds.length:=by
 induction ds with
 | nil=>simp[gH,hU]
 | cons x r ih=>
  simp only[gH,List.cons_append] at h ⊢
  cases he:dv d.nm x.nm with
  | true=>rw[he] at h;simp at h
  | false=>
   rw[he] at h;simp only[Option.map_eq_none_iff] at h;rw[ih h];rfl
theorem JY (a:List (Go.Value×aq)) (x:Go.Value×aq):xu a.length (a++[x])=a:=by
 induction a with
 | nil=>rfl
 | cons y r ih=>simp only[List.length_cons,List.cons_append,xu,ih]
theorem xf:∀(ds:List aZ) (i:Nat),(bH ds i).length=ds.length
 | [],_=>rfl
 | x::r,i=>by simp only[bH,List.length_cons,xf r]
theorem aga {ds:List aZ} {d:aZ} {tl:List aq} (hn:ds.length < 1000) (h:gH ds d.nm=none):KC 56 [hP] (hH 2 (ds++[d]) tl) 3 (XQ ⟨.tup [],hH 2 ds (d.cells++tl),3⟩):=by
 have e1:hH 2 (ds++[d]) tl=hG 2 (av (bL (ds++[d])++tl)) (bH (ds++[d]) 0) (ds.length+1):=by unfold hH;rw[List.length_append,List.length_singleton]
 have e2:hH 2 ds (d.cells++tl)=hG 2 (av (bL (ds++[d])++tl)) (bH ds 0) ds.length:=by
  unfold hH;rw[mN,List.append_assoc];simp only[bL,List.append_nil]
 have hw:aG .i64 (Int.ofNat (ds.length+1) - 1)=Int.ofNat ds.length:=by
  rw[dR,show (Int.ofNat (ds.length+1) - 1:Int)=Int.ofNat ds.length by simp];exact wrap_i64 (by simp only[Int.ofNat_eq_natCast];omega) (by simp only[Int.ofNat_eq_natCast];omega)
 have h0:=yv (r:=2) (n:=ds.length+1) (by simp only[lim];omega);have h2:=yy (r:=2) (n:=ds.length+1) (k:=ds.length) (by omega);rw[←hw] at h2;have hg:(ds++[d])[ds.length]?=some d:=by simp
 have h3:lr (env au.aI) false 9 [.ptr (.out 2) (0+ds.length*8)] (some (.cells (av (bL (ds++[d])++tl))))=some ⟨.dat (sb d.nm),.keep⟩:=by
  have k1:∀cs,lr (env au.aI) false 9 [.ptr (.out 2) (0+ds.length*8)] (some (.cells cs))=uZ (match cs[0+ds.length*8]? with
   | some (.own es)=>some (.dat (.slice es))|some .undef=>none|some (.agg _)=>none|some (.tup _)=>none|some a=>some a|none=>none):=fun cs=>by kernel_rfl
  have k2:(av (bL (ds++[d])++tl))[0+ds.length*8]?=some (.dat (sb d.nm)):=by
   rw[mN,List.append_assoc];unfold av;rw[List.getElem?_map,Nat.zero_add,List.getElem?_append_right (by rw[jM];omega),jM,Nat.sub_self];rfl
  rw[k1,k2];rfl
 have h4:mg (env au.aI) 80 [.map (.out 0),.dat (sb d.nm)] (some (.map (bH (ds++[d]) 0)))=some ⟨.tup [],.set (.map (bH ds 0))⟩:=by
  have k1:mg (env au.aI) 80 [.map (.out 0),.dat (sb d.nm)] (some (.map (bH (ds++[d]) 0)))=(match findF .string (.string ⟨⟨d.nm⟩⟩) (bH (ds++[d]) 0) 0 with
   | some (some (i,_))=>some ⟨.tup [],.set (.map (xu i (bH (ds++[d]) 0)))⟩|some none=>some ⟨.tup [],.set (.map (bH (ds++[d]) 0))⟩|none=>none):=by kernel_rfl
  rw[k1,mZ,Qz h];simp only[Option.map_some,Nat.zero_add];rw[Az,←xf ds 0];simp only[bH];rw[JY]
 have h5:ff (env au.aI) 23 none (some (.tmp 26)) none [.win (.out 2) 8 0 (ds.length+1),iv (aG .i64 (Int.ofNat (ds.length+1) - 1))]=some ⟨.win (.out 2) 8 0 ds.length,.keep⟩:=by
  rw[hw];have k1:∀m n:Nat,ff (env au.aI) 23 none (some (.tmp 26)) none [.win (.out 2) 8 0 m,iv (Int.ofNat n)]=(if (Nat.ble 0 n&&Nat.ble n m&&Nat.beq 8 8)=true then some ⟨.win (.out 2) 8 0 n,.keep⟩ else none):=fun m n=>by kernel_rfl
  rw[k1,if_pos (by simp)]
 rw[e1,e2];obtain⟨nm,ar,⟨k,tn,ix,la⟩,con,fl⟩:=d;exact aai h0 h2 h3 h4 h5
def uH:Name×aT:=(.out 4,.cells [hP])
def bQ:ac:=.ptr (.out 4) 0
noncomputable def Xj:Hints:=⟨an,FX,ap,rowsOf ap 67⟩
def UL:ac:=.fn (.func 55) [] [bQ]
def sfI (H:Heap) (nx:Nat) (l:List aq) (i:Int):ab:=⟨[(8,iv i),(7,iv (Int.ofNat l.length)),(0,.dat (.slice l)),(1,UL)],[],H,nx⟩
def aej (H:Heap) (nx:Nat) (l:List aq):ab:=⟨[(9,bv false),(8,iv (Int.ofNat l.length)),(7,iv (Int.ofNat l.length)),(0,.dat (.slice l)),(1,UL)],[],H,nx⟩
def aek (H:Heap) (nx:Nat) (i:Nat):ab:=⟨[(4,iv (Int.ofNat i))],[],H,nx⟩
def Z8 (H:Heap) (nx:Nat):ab:=⟨[(8,iv 0),(7,iv 0),(0,.dat nl),(1,UL)],[],H,nx⟩
def YN (H:Heap) (nx:Nat):ab:=⟨[(9,bv false),(8,iv 0),(7,iv 0),(0,.dat nl),(1,UL)],[],H,nx⟩
theorem D4 {l:List dY} {t:dY} {H:Heap} {nx i:Nat} {c:Bool} {T:Exit->aa->Prop} (hi:i < (aN l).length) (ht:l[i]?=some t) (hc:KC 55 [.dat t.enc,bQ] H nx (XQ ⟨bv c,H,nx⟩))
  (e1:c=false->T .normal ((sfI H nx (aN l) (aG .i64 (Int.ofNat i+1))).aw Tryz.f67.ntmps)) (e2:c=true->T .ret ((aek H nx i).aw Tryz.f67.ntmps)) :
  KD (roundOf Tryz.f67 0) T ((sfI H nx (aN l) (Int.ofNat i)).aw Tryz.f67.ntmps):=by
 have h1:=bd hi;have h2:=sG ht;generalize aN l=es at *;clear ht hi;obtain⟨fnm,k2,nm2,ix2,a2⟩:=t
 rcases a2 with _|⟨b,d⟩ <;>
 ·cases c
  ·refine aB [9] [14] (H:=Xj) (live:=sy) (by kernel_rfl) ?_;refine ob h1 ?_;refine oo h2 ?_;refine oh hc ?_;exact oe (e1 rfl)
  refine aB [9] [14] (H:=Xj) (live:=sy) (by kernel_rfl) ?_;refine ob h1 ?_;refine oo h2 ?_;refine oh hc ?_;exact oe (e2 rfl)
theorem JA {l:List aq} {H:Heap} {nx:Nat} {T:Exit->aa->Prop} (e1:T (.exit 0) ((aej H nx l).aw Tryz.f67.ntmps)) :
  KD (roundOf Tryz.f67 0) T ((sfI H nx l (Int.ofNat l.length)).aw Tryz.f67.ntmps):=by
 have h1:=br (i:=l.length) (L:=l.length) (by omega);refine aB [9] [] (H:=Xj) (live:=sy) (by kernel_rfl) ?_;refine ob h1 ?_;exact oe e1
theorem GA {H:Heap} {nx:Nat} {T:Exit->aa->Prop} (e1:T (.exit 0) ((YN H nx).aw Tryz.f67.ntmps)) :
  KD (roundOf Tryz.f67 0) T ((Z8 H nx).aw Tryz.f67.ntmps):=by
 refine aB [] [] (H:=Xj) (live:=sy) (by kernel_rfl) ?_;exact oe e1
theorem GB {l:List dY} {p:dY->Bool} {H:Heap} {nx:Nat} {x:aq} {r:List aq} (hl0:aN l=x::r) (hg:∀v,du nx v=false->ri nx ⟨v,H,nx⟩=⟨v,H,nx⟩) (hp:∀t∈l,KC 55 [.dat t.enc,bQ] H nx (XQ ⟨bv (p t),H,nx⟩)) (hb:l.length < 1000000000) :
  KC 67 [.dat (.slice (x::r)),UL] H nx (XQ ⟨iv (va p l 0),H,nx⟩):=by
 have hl:KD (.loop (roundOf Tryz.f67 0)) (fun e s=>(e=.exit 0/\va p l 0=-1/\s=(aej H nx (x::r)).aw Tryz.f67.ntmps)∨(e=.ret/\∃i:Nat,va p l 0=Int.ofNat i/\s=(aek H nx i).aw Tryz.f67.ntmps)) ((sfI H nx (x::r) (Int.ofNat 0)).aw Tryz.f67.ntmps):=by
  rw[←hl0];refine cE (St:=fun i=>(sfI H nx (aN l) (Int.ofNat i)).aw Tryz.f67.ntmps) (fun i=>va p l 0=va p (l.drop i) i) (aN l).length ?_ ?_ (i:=0) (Nat.zero_le _) rfl
  ·intro i hi hI;obtain⟨t,ht,hm⟩:=gx hi;have ha:=Av (p:=p) ht;have hw:aG .i64 (Int.ofNat i+1)=Int.ofNat (i+1):=bb (by rw[bc] at hi;omega);have hc:=hp t hm;rw[←hI] at ha;generalize p t=c at hc ha;refine D4 hi ht hc ?_ ?_
   ·rintro rfl;rw[hw];exact⟨rfl,ha⟩
   rintro rfl;exact .inr ⟨rfl,i,ha,rfl⟩
  intro hI;refine JA (.inl ⟨rfl,?_,rfl⟩);rw[hI,bc,List.drop_length];rfl
 have hg1:=hg (iv (va p l 0)) rfl;clear hp hb hg;generalize hj:va p l 0=j at hg1 hl;clear hj hl0;refine co [] [] (x:=.of Tryz.f67 FX sy) ?_;refine lo hl ?_;rintro ex s (⟨rfl,rfl,rfl⟩|⟨rfl,⟨x0,rfl,rfl⟩⟩) <;>
 ·refine⟨_,rfl,?_⟩;exact bB (by kernel_rfl) hg1
theorem Yf {l:List dY} {p:dY->Bool} {H:Heap} {nx:Nat} (hg:∀v,du nx v=false->ri nx ⟨v,H,nx⟩=⟨v,H,nx⟩) (hp:∀t∈l,KC 55 [.dat t.enc,bQ] H nx (XQ ⟨bv (p t),H,nx⟩)) (hb:l.length < 1000000000) :
  KC 54 [.dat (sl (aN l)),UL] H nx (XQ ⟨bv (l.any p),H,nx⟩):=by
 cases l with
 | nil=>
  have h0:KC 67 [.dat nl,UL] H nx (XQ ⟨iv (-1),H,nx⟩):=by
   have hg1:=hg (iv (-1)) rfl;have hl:KD (.loop (roundOf Tryz.f67 0)) (fun e s=>(e=.exit 0/\s=(YN H nx).aw Tryz.f67.ntmps)) ((Z8 H nx).aw Tryz.f67.ntmps):=by
    refine ba (St:=fun _=>(Z8 H nx).aw Tryz.f67.ntmps) 0 (fun i hi=>absurd hi (Nat.not_lt_zero i)) ?_ (i:=0) (Nat.le_refl _);exact GA ⟨rfl,rfl⟩
   clear hg hp hb;refine co [] [] (x:=.of Tryz.f67 FX sy) ?_;refine lo hl ?_;rintro ex s ⟨rfl,rfl⟩;refine⟨_,rfl,?_⟩;exact bB (by kernel_rfl) hg1
  have hg1:=hg (bv false) rfl;clear hg hp hb;refine co [] [] (x:=.of Tryz.f54 K5 Jb) ?_;refine oh h0 ?_;exact bB (by kernel_rfl) hg1
 | cons t r=>
  have h:=GB (l:=t::r) (x:=t.enc) (r:=aN r) rfl hg hp hb;have h3:=D2 (p:=p) (l:=t::r) (i:=0);have hg1:=hg (bv (!(!((t::r).any p)))) rfl;generalize (t::r).any p=c at h3 hg1;have hg2:ri nx ⟨bv (!(!c)),H,nx⟩=⟨bv c,H,nx⟩:=by rw[hg1,Bool.not_not]
  clear hg1;generalize va p (t::r) 0=j at h3 h;show KC 54 [.dat (.slice (t.enc::aN r)),UL] H nx _;generalize t.enc=x at h;generalize aN r=xs at h;clear hp hb hg;refine co [8] [] (x:=.of Tryz.f54 K5 Jb) ?_;refine oh h ?_;refine ox h3 ?_;exact bB (by kernel_rfl) hg2
def Xk (cs:List aq) (es:List (Go.Value×aq)) (n:Nat):Heap:=uH::hG 3 (av cs) es n
theorem gcE (v:ac) (cs:List aq) (es:List (Go.Value×aq)) (n:Nat) (hv:du 5 v=false):ri 5 ⟨v,Xk cs es n,5⟩=⟨v,Xk cs es n,5⟩:=by
 have h1:eH 5 (Xk cs es n)=Xk cs es n:=rfl;have h2:cC 5 (Xk cs es n)=false:=by simp[cC,Xk,hG,ly,jD,dt,du,uH,hP];exact⟨rfl,rfl,rfl⟩
 unfold ri;dsimp only;rw[h1,h2,hv];rfl
abbrev EN (g:FuncId) (args:List ac) (cs:List aq) (es:List (Go.Value×aq)) (n:Nat) (v:ac):Prop:=KC g args (Xk cs es n) 5 (XQ ⟨v,Xk cs es n,5⟩)
theorem TQ {cs:List aq} {es:List (Go.Value×aq)} {n:Nat} {k ix:Int} {fnm nm:List UInt8} {l:List aq} {c:Bool} (h:EN 39 [hP,.dat (.agg [i64 k,sb nm,i64 ix,sl l])] cs es n (bv c)) :
  EN 55 [.dat (.agg [sb fnm,i64 k,sb nm,i64 ix,sl l]),bQ] cs es n (bv (!c)):=by
 have hg:=gcE (bv (!c)) cs es n rfl
 rcases l with _|⟨z,l⟩ <;>
 ·refine co [] [] (x:=.of Tryz.f55 QR SF) ?_;refine oh h ?_;exact bB (by kernel_rfl) hg
theorem Ue {ds:List aZ} {tl:List aq} {l:List dY} (hf:∀f∈l,f.ty.cX) (hn:l.length < 1000000000) :
  EN 54 [.dat (sl (aN l)),UL] (bL ds++tl) (bH ds 0) ds.length (bv (l.any (fun f=>!cF ds f.ty))):=by
 refine Yf (p:=fun f=>!cF ds f.ty) (fun v hv=>gcE v _ _ _ hv) ?_ hn;intro f hm;have h2:=nG (r:=3) (m:=5) rfl rfl rfl [uH] (yH ds tl f.ty (by have:=(hf f hm).1;omega));obtain⟨fnm,k2,nm2,ix2,l2⟩:=f;exact TQ h2
def cellsD (nm:List UInt8) (ar k:Int) (tn:List UInt8) (ix:Int) (la:List aq) (con:Bool) (lb:List aq):List ac:=[.dat (sb nm),iv ar,iv k,.dat (sb tn),iv ix,.dat (sl la),.dat (bl con),.dat (sl lb)]
theorem cG (l:Nat) (nm:List UInt8) (ar k:Int) (tn:List UInt8) (ix:Int) (la:List aq) (con:Bool) (lb:List aq) :
  sS (env au.aI) 35 [.ptr (.loc l) 0,.dat (dw nm ar k tn ix la con lb)] (some (.cells (cellsD [] 0 0 [] 0 [] false [])))=some ⟨.undef,.set (.cells (cellsD nm ar k tn ix la con lb))⟩:=by
 rcases la with _|⟨x,la⟩ <;> rcases lb with _|⟨y,lb⟩ <;> kernel_rfl
theorem iP (t:Bool) (l:Nat) (nm:List UInt8) (ar k:Int) (tn:List UInt8) (ix:Int) (la:List aq) (con:Bool) (lb:List aq) :
  lr (env au.aI) t 35 [.ptr (.loc l) 0] (some (.cells (cellsD nm ar k tn ix la con lb)))=some ⟨.dat (dw nm ar k tn ix la con lb),.keep⟩:=by
 cases t <;> rcases la with _|⟨x,la⟩ <;> rcases lb with _|⟨y,lb⟩ <;> kernel_rfl
def r3 (c:Int) (cs:List aq) (es:List (Go.Value×aq)) (n:Nat):ew:=⟨iv c,hG 2 (av cs) es n,3⟩
def r5 (c:Int) (cs:List aq) (es:List (Go.Value×aq)) (n:Nat):ew:=⟨iv c,uH::hG 3 (av cs) es n,5⟩
def Zf (cs cs2:List aq) (es es2 es3:List (Go.Value×aq)) (n:Nat) (oex c0 c1 c2 c3 c4 c5 c6 c7 c8:Bool):ew:=
 match c0 with
 | false=>r3 2 cs es n
 | true=>match c1 with
  | true=>r3 4 cs es n
  | false=>match c2 with
   | true=>r3 4 cs es n
   | false=>match oex with
    | true=>(match c3 with|true=>r3 0 cs es n|false=>r3 6 cs es n)
    | false=>match c4 with
     | false=>r3 8 cs es n
     | true=>match c5 with
      | false=>r3 5 cs es n
      | true=>match c6 with
       | true=>r5 5 cs2 es3 n
       | false=>match c7 with
        | false=>r5 0 cs2 es2 (n+1)
        | true=>match c8 with
         | true=>r5 10 cs2 es3 n
         | false=>r5 0 cs2 es2 (n+1)
theorem XO {cs cs2:List aq} {es es2 es3:List (Go.Value×aq)} {n:Nat} {nm nm2:List UInt8} {ar k ix:Int} {con:Bool} {la lb:List aq}
  {onm onm2:List UInt8} {oar ok oix:Int} {ocon oex:Bool} {ola olb:List aq} {snm snm2:List UInt8} {sar sk six:Int} {c8 sex:Bool} {sla slb:List aq} {c0 c1 c2 c3 c4 c5 c6 c7:Bool}
  (hf:eS 49 [hP,.dat (sb nm)] cs es n (.tup [.dat (dw onm oar ok onm2 oix ola ocon olb),bv oex]))
  (hw:ag 50 [.dat (dw nm ar k nm2 ix la con lb)] (bv c0))
  (h1:bn 6 ar=c1) (h2:bn 6 (Int.ofNat lb.length)=c2)
  (he:ag 51 [.dat (dw onm oar ok onm2 oix ola ocon olb),.dat (dw nm ar k nm2 ix la con lb)] (bv c3))
  (hl:qt (env au.aI) 23 [.win (.out 2) 8 0 n] none=some ⟨iv (Int.ofNat n),.keep⟩) (h3:bn (Int.ofNat n) 60=c4)
  (hk:eS 39 [hP,.dat (.agg [i64 k,sb nm2,i64 ix,sl la])] cs es n (bv c5)) 
  (hc:ag 53 [.dat (dw nm ar k nm2 ix la con lb)] (.dat (dw nm ar k nm2 ix la con lb)))
  (ha:oex=false->KC 52 [hP,.dat (dw nm ar k nm2 ix la con lb)] (hG 2 (av cs) es n) 3 (XQ ⟨.tup [],hG 3 (av cs2) es2 (n+1),4⟩))
  (hcf:KC 54 [.dat (sl lb),UL] (uH::hG 3 (av cs2) es2 (n+1)) 5 (XQ ⟨bv c6,uH::hG 3 (av cs2) es2 (n+1),5⟩))
  (hr:oex=false->KC 56 [hP] (uH::hG 3 (av cs2) es2 (n+1)) 5 (XQ ⟨.tup [],uH::hG 3 (av cs2) es3 n,5⟩))
  (hs:KC 49 [hP,.dat (sb nm2)] (uH::hG 3 (av cs2) es2 (n+1)) 5 (XQ ⟨.tup [.dat (dw snm sar sk snm2 six sla c8 slb),bv sex],uH::hG 3 (av cs2) es2 (n+1),5⟩))
  (h4:aQ k 2=c7) :
  KC 16 [hP,.dat (dw nm ar k nm2 ix la con lb)] (hG 2 (av cs) es n) 3 (XQ (Zf cs cs2 es es2 es3 n oex c0 c1 c2 c3 c4 c5 c6 c7 c8)):=by
 have q1:=cG 5 onm oar ok onm2 oix ola ocon olb;have q2:=iP false 5 onm oar ok onm2 oix ola ocon olb;have q4:=cG 7 snm sar sk snm2 six sla c8 slb
 rcases lb with _|⟨y,lb⟩
 ·have z:c2=false:=h2.symm;subst z;clear h2
  rcases la with _|⟨x,la⟩ <;>
  ·refine aY [23,45,73] [100005,33,44,100007] (x:=fL.of Tryz.f16 Li Jf) (by kernel_rfl) ?_;refine oh hf ?_;refine oo q1 ?_;refine on hw ?_
   cases c0
   ·exact fi
   refine ob h1 ?_
   cases c1
   ·cases oex
    ·refine oo hl ?_;refine ox h3 ?_
     cases c4
     ·exact fi
     refine oh hk ?_
     cases c5
     ·exact fi
     refine on hc ?_;refine oh (ha rfl) ?_;refine oh hcf ?_
     cases c6
     ·refine oh hs ?_;refine oo q4 ?_;refine ob h4 ?_
      cases c7
      ·exact fi
      cases c8
      ·exact fi
      refine oh (hr rfl) ?_;exact fi
     refine oh (hr rfl) ?_;exact fi
    refine oo q2 ?_;refine on he ?_
    cases c3 <;>
    ·exact fi
   exact fi
 rcases la with _|⟨x,la⟩ <;>
 ·refine aY [23,28,45,73] [100005,33,44,100007] (x:=fL.of Tryz.f16 Li Jf) (by kernel_rfl) ?_;refine oh hf ?_;refine oo q1 ?_;refine on hw ?_
  cases c0
  ·exact fi
  refine ob h1 ?_
  cases c1
  ·refine ob h2 ?_
   cases c2
   ·cases oex
    ·refine oo hl ?_;refine ox h3 ?_
     cases c4
     ·exact fi
     refine oh hk ?_
     cases c5
     ·exact fi
     refine on hc ?_;refine oh (ha rfl) ?_;refine oh hcf ?_
     cases c6
     ·refine oh hs ?_;refine oo q4 ?_;refine ob h4 ?_
      cases c7
      ·exact fi
      cases c8
      ·exact fi
      refine oh (hr rfl) ?_;exact fi
     refine oh (hr rfl) ?_;exact fi
    refine oo q2 ?_;refine on he ?_
    cases c3 <;>
    ·exact fi
   exact fi
  exact fi
theorem VY {g:FuncId} {args:List ac} {v:ac} {cs cs2:List aq} {es es2:List (Go.Value×aq)} {n n2 r m:Nat} (ha:dt 3 args=false) (he:fO (Ov r) args=args) (hv:eN (gv (Ov r) 3 m) v=v) (pre:Heap)
  (h:KC g args (hG 2 (av cs) es n) 3 (XQ ⟨v,hG 2 (av cs2) es2 n2,3⟩)) :
  KC g args (pre++hG r (av cs) es n) m (XQ ⟨v,pre++hG r (av cs2) es2 n2,m⟩):=by
 have e1:∀(cs:List aq) (es:List (Go.Value×aq)) (n:Nat) (ρ:Nat->Nat),ρ 0=0->ρ 1=1->ρ 2=r->kK ρ (hG 2 (av cs) es n)=hG r (av cs) es n:=by
  intro cs es n ρ h0 h1 h2;simp[hG,kK,mI,rf,rW,fO,eN,h0,h1,h2]
 have hf:=aC.frame h (Ov r) (heap:=pre++hG r (av cs) es n) (rest:=pre) (next:=m) (by rw[e1 _ _ _ _ rfl rfl rfl];exact List.perm_append_comm) (by rfl) (by simp[cC,hG,ly,jD,dt,du];exact⟨rfl,rfl⟩) (by rfl) ha;rw[he] at hf;refine aC.jm hf ?_;rintro v' h' m' ⟨v0,h1,n1,⟨rfl,rfl,rfl⟩,rfl,rfl,rfl⟩;rw[hv,e1 _ _ _ _ rfl rfl rfl];exact⟨_,List.perm_append_comm,rfl,rfl,rfl⟩
theorem yn (p:Nat->Bool):∀l:List aq,gR p (av l)=true
 | []=>rfl
 | d::r=>by show (Bv p (.dat d)&&gR p (av r))=true;rw[yn p r];rfl
theorem rn3 {g:FuncId} {args:List ac} {h0:Heap} {c:Int} {cs:List aq} {es:List (Go.Value×aq)} {n:Nat} (h:KC g args h0 3 (XQ (r3 c cs es n))):KC g args h0 3 (XQ ⟨iv c,hG 3 (av cs) es n,4⟩):=by
 refine aC.rn h ?_;rintro v hp m ⟨rfl,rfl,rfl⟩;refine⟨[2],rfl,?_,?_⟩
 ·simp[r3,hG,bI,F6,IW,gR,Bv,dP,gI,yn];rfl
 simp[r3,hG,bI,kK,mI,rf,fO,eN,dP,gI,kj,oX,rW];exact⟨rfl,rfl,rfl⟩
theorem rn5 {g:FuncId} {args:List ac} {h0:Heap} {c:Int} {cs:List aq} {es:List (Go.Value×aq)} {n:Nat} (h:KC g args h0 3 (XQ (r5 c cs es n))):KC g args h0 3 (XQ ⟨iv c,hG 3 (av cs) es n,4⟩):=by
 refine aC.rn h ?_;rintro v hp m ⟨rfl,rfl,rfl⟩;have e:bI (dP 3 [3]) (r5 c cs es n).heap=hG 3 (av cs) es n:=rfl;refine⟨[3],rfl,?_,?_⟩
 ·rw[e];simp[hG,F6,IW,gR,Bv,dP,gI,yn]
 rw[e];simp[hG,kK,mI,rf,fO,eN,gI,kj,oX,rW];exact⟨rfl,rfl,rfl⟩
def Ty.nm:Ty->List UInt8
 | .mk _ n _ _=>n
def fV (ds:List aZ) (d:aZ):Int×List aZ:=
 match d.wf with
 | false=>(2,ds)
 | true=>match bn 6 d.ar with
  | true=>(4,ds)
  | false=>match bn 6 (Int.ofNat (aN d.fl).length) with
   | true=>(4,ds)
   | false=>match aF ds d.nm with
    | some o=>(match o.eq d with|true=>(0,ds)|false=>(6,ds))
    | none=>match bn (Int.ofNat ds.length) 60 with
     | false=>(8,ds)
     | true=>match cF ds d.sup with
      | false=>(5,ds)
      | true=>match d.fl.any (fun f=>!cF (ds++[d]) f.ty) with
       | true=>(5,ds)
       | false=>match aQ d.sup.kind 2 with
        | false=>(0,ds++[d])
        | true=>match (iZ (aF (ds++[d]) d.sup.nm)).con with
         | true=>(10,ds)
         | false=>(0,ds++[d])
theorem vd:aZ.zero.cX:=⟨⟨by decide,by simp[aZ.zero,Ty.eX,dE,aQ]⟩,by simp[aZ.zero],by decide⟩
theorem na:∀{ds:List aZ} {nm:List UInt8} {o:aZ},aF ds nm=some o->o∈ds
 | [],nm,o,h=>by simp[aF] at h
 | d::r,nm,o,h=>by
  unfold aF at h
  split at h
  ·simp at h;subst h;simp
  exact List.mem_cons_of_mem _ (na h)
theorem NL {ds:List aZ} {nm:List UInt8} (h:aF ds nm=none):gH ds nm=none:=by
 cases hp:gH ds nm with
 | none=>rfl
 | some k=>
  obtain⟨d,_,h2,_⟩:=iK hp;rw[h2] at h;simp at h
theorem TN {ds:List aZ} {d:aZ} {tl:List aq} (hd:d.cX) (hds:∀o∈ds,o.cX) (hn:ds.length < 999) :
  KC 16 [hP,.dat d.enc] (hH 2 ds tl) 3 (XQ (Zf (bL ds++tl) (bL (ds++[d])++[]) (bH ds 0) (bH (ds++[d]) 0) (bH ds 0) ds.length (fj (aF ds d.nm)) d.wf (bn 6 d.ar) (bn 6 (Int.ofNat (aN d.fl).length)) ((iZ (aF ds d.nm)).eq d) (bn (Int.ofNat ds.length) 60) (cF ds d.sup) (d.fl.any (fun f=>!cF (ds++[d]) f.ty)) (aQ d.sup.kind 2) (iZ (aF (ds++[d]) d.sup.nm)).con)):=by
 have hf:eS 49 [hP,.dat (sb d.nm)] (bL ds++tl) (bH ds 0) ds.length (.tup [.dat (iZ (aF ds d.nm)).enc,bv (fj (aF ds d.nm))]):=qX ds tl d.nm;have hw:=Ez hd;have ho:(iZ (aF ds d.nm)).cX:=by
  cases h:aF ds d.nm with
  | none=>exact vd
  | some o=>exact hds o (na h)
 have he:=EC ho hd;have hl:=yv (r:=2) (n:=ds.length) (by simp only[lim];omega);have hk:eS 39 [hP,.dat d.sup.enc] (bL ds++tl) (bH ds 0) ds.length (bv (cF ds d.sup)):=yH ds tl d.sup (by have:=hd.1.1;omega);have hc:=qg hd;have hpos:fj (aF ds d.nm)=false->gH ds d.nm=none:=by
  intro h
  cases hf:aF ds d.nm with
  | none=>exact NL hf
  | some o=>rw[hf] at h;simp[fj] at h
 have ha:=fun h=>adb (tl:=tl) (by omega) (hpos h)
 have hcf:=Ue (ds:=ds++[d]) (tl:=[]) hd.2.1 hd.2.2;have hr:fj (aF ds d.nm)=false->KC 56 [hP] (uH::hG 3 (av (bL (ds++[d])++[])) (bH (ds++[d]) 0) (ds.length+1)) 5 (XQ ⟨.tup [],uH::hG 3 (av (bL (ds++[d])++[])) (bH ds 0) ds.length,5⟩):=by
  intro h;have h2:=aga (tl:=[]) (by omega) (hpos h);have e2:hH 2 ds (d.cells++[])=hG 2 (av (bL (ds++[d])++[])) (bH ds 0) ds.length:=by
   unfold hH;rw[mN];simp only[bL,List.append_nil]
  rw[e2] at h2;have e1:hH 2 (ds++[d]) []=hG 2 (av (bL (ds++[d])++[])) (bH (ds++[d]) 0) (ds.length+1):=by unfold hH;rw[List.length_append,List.length_singleton]
  rw[e1] at h2;exact VY (r:=3) (m:=5) rfl rfl rfl [uH] h2
 have hs:=EB 3 5 [uH] (ds++[d]) [] d.sup.nm;have el:(ds++[d]).length=ds.length+1:=by simp
 have e3:hH 3 (ds++[d]) []=hG 3 (av (bL (ds++[d])++[])) (bH (ds++[d]) 0) (ds.length+1):=by unfold hH;rw[el]
 rw[e3] at hs;simp only[e3] at ha;unfold EN Xk at hcf;rw[el] at hcf;generalize (iZ (aF ds d.nm)).eq d=c3 at he ⊢;generalize d.fl.any (fun f=>!cF (ds++[d]) f.ty)=c6 at hcf ⊢;generalize d.wf=c0 at hw ⊢;generalize cF ds d.sup=c5 at hk ⊢;generalize iZ (aF ds d.nm)=o at *;generalize iZ (aF (ds++[d]) d.sup.nm)=so at *;generalize fj (aF (ds++[d]) d.sup.nm)=sb at *;generalize bL (ds++[d])++[]=cs2 at *;generalize bH (ds++[d]) 0=es2 at *;have e0:hH 2 ds tl=hG 2 (av (bL ds++tl)) (bH ds 0) ds.length:=rfl;rw[e0] at ha ⊢;generalize bH ds 0=es at *;generalize bL ds++tl=cs at *;obtain⟨nm,ar,⟨k,tn,ix,la⟩,con,fl⟩:=d;obtain⟨onm,oar,⟨ok,otn,oix,ola⟩,ocon,ofl⟩:=o;obtain⟨snm,sar,⟨sk,stn,six,sla⟩,scon,sfl⟩:=so;exact XO hf hw rfl rfl he hl rfl hk hc ha hcf hr hs rfl
theorem S5 (r:Nat) (ds:List aZ) (d:aZ):hH r (ds++[d]) []=hG r (av (bL (ds++[d])++[])) (bH (ds++[d]) 0) (ds.length+1):=by unfold hH;rw[List.length_append,List.length_singleton]
theorem S4 (r:Nat) (ds:List aZ) (d:aZ):hH r ds d.cells=hG r (av (bL (ds++[d])++[])) (bH ds 0) ds.length:=by
 unfold hH;rw[mN];simp only[bL,List.append_nil]
theorem Oe {ds:List aZ} {d:aZ} {tl:List aq} (hd:d.cX) (hds:∀o∈ds,o.cX) (hn:ds.length < 999) :
  ∃tl2,KC 16 [hP,.dat d.enc] (hH 2 ds tl) 3 (XQ ⟨iv (fV ds d).1,hH 3 (fV ds d).2 tl2,4⟩):=by
 have h:=TN (tl:=tl) hd hds hn;unfold fV;generalize d.wf=c0 at h ⊢
 cases c0 with
 | false=>exact⟨tl,rn3 h⟩
 | true=>
  generalize bn 6 d.ar=c1 at h ⊢
  cases c1
  ·generalize bn 6 (Int.ofNat (aN d.fl).length)=c2 at h ⊢
   cases c2
   ·generalize aF ds d.nm=fo at h ⊢
    cases fo with
    | some o=>
     dsimp only[iZ,fj] at h ⊢;generalize o.eq d=c3 at h ⊢
     cases c3 <;>
     ·exact⟨tl,rn3 h⟩
    | none=>
     dsimp only[iZ,fj] at h ⊢;generalize bn (Int.ofNat ds.length) 60=c4 at h ⊢
     cases c4 with
     | false=>exact⟨tl,rn3 h⟩
     | true=>
      generalize cF ds d.sup=c5 at h ⊢
      cases c5 with
      | false=>exact⟨tl,rn3 h⟩
      | true=>
       generalize d.fl.any (fun f=>!cF (ds++[d]) f.ty)=c6 at h ⊢
       cases c6
       ·generalize aQ d.sup.kind 2=c7 at h ⊢
        cases c7 with
        | false=>
         dsimp only;exact⟨[],by rw[S5];exact rn5 h⟩
        | true=>
         dsimp only[iZ] at h ⊢;generalize (match aF (ds++[d]) d.sup.nm with|some d=>d|none=>aZ.zero).con=c8 at h ⊢
         cases c8
         ·dsimp only;exact⟨[],by rw[S5];exact rn5 h⟩
         dsimp only;exact⟨d.cells,by rw[S4];exact rn5 h⟩
       dsimp only;exact⟨d.cells,by rw[S4];exact rn5 h⟩
   exact⟨tl,rn3 h⟩
  exact⟨tl,rn3 h⟩
def sO (nm:List UInt8):aZ:=⟨nm,0,.mk 0 [] 0 [],true,[]⟩
def cT:List aZ:=gw.map sO
theorem agc:KC 44 [] [] 0 (XQ ⟨hP,hH 2 cT [],3⟩):=by
 have h:KC 44 [] [] 0 (XQ ⟨hP,hG 5 (av (bL cT++[])) (bH cT 0) 4,6⟩):=aM _ _ _ _ _ (by kernel_rfl);refine aC.rn h ?_;rintro v hp m ⟨rfl,rfl,rfl⟩;exact⟨[0,1,5],rfl,rfl,rfl,rfl,rfl⟩
def aK:List aZ->List aq
 | []=>[]
 | d::r=>d.enc::aK r
theorem qd:∀l:List aZ,aK l=l.map aZ.enc
 | []=>by simp[aK]
 | t::r=>by simp[aK,qd r]
theorem bi (l:List aZ):(aK l).length=l.length:=by simp[qd]
theorem TE {l:List aZ} {i:Nat} {t:aZ} (h:l[i]?=some t):(aK l)[i]?=some t.enc:=by simp[qd,h]
theorem TT (d:aZ):d.enc.cells.length=8:=by obtain⟨a,b,⟨e,f,g,h⟩,i,j⟩:=d;rfl
theorem TC {l:List aZ} {d:aq} (h:d∈aK l):∃t,d=aZ.enc t:=by
 rw[qd] at h;obtain⟨t,_,rfl⟩:=List.mem_map.1 h;exact⟨t,rfl⟩
theorem uD (a b:List aZ):aK (a++b)=aK a++aK b:=by simp[qd]
theorem ow (l:List aZ):sizedB 8 (aK l)=true:=gF (fun d hd=>by obtain⟨t,rfl⟩:=TC hd;exact TT t)
theorem AS (l:List aZ):ez (aK l)=false:=by
 cases l with
 | nil=>rfl
 | cons t r=>rfl
theorem HT:Go.Tp.elemOf (env au.aI) 23=some HU:=by kernel_rfl
theorem tb:HU.size=8:=by kernel_rfl
theorem EH {pre:List aZ} {t:aZ} (hl:pre.length < 1000000000):cj (env au.aI) false 23 [.own (aK pre),.dat (.slice [t.enc])] none=some ⟨.own (aK (pre++[t])),.keep⟩:=by
 rw[uD];refine ra (i:=HU) (ds:=[t.enc]) (k:=7) HT rfl tb ?_ ?_ (by kernel_rfl) ?_ ?_ ?_ (by simp)
 ·exact ow [t]
 ·exact ow pre
 ·have h1:HU.bytes<=1000:=fH (by kernel_rfl);rw[bi]
  calc (pre.length+1)*HU.bytes<=1000000000*1000:=Nat.mul_le_mul (by omega) h1
   _<=140737488355328:=by decide
 ·rw[bi];simp[lim];omega
 unfold fQ;rw[show aK pre++[t.enc]=aK (pre++[t]) by rw[uD];rfl,AS]
def FR:List aZ->ac
 | []=>.dat nl
 | t::r=>.own (aK (t::r))
noncomputable def S9:Hints:=⟨an,Lg,ap,rowsOf ap 19⟩
def stD (cs:List aq) (es:List (Go.Value×aq)) (n:Nat) (pre:List aZ) (i:Int):ab:=⟨[(11,iv i),(10,iv (Int.ofNat n)),(9,.win (.out 2) 8 0 n),(3,FR pre)],[],hG 2 (av cs) es n,3⟩
def aeg (cs:List aq) (es:List (Go.Value×aq)) (n:Nat) (pre:List aZ) (i:Int):ab:=⟨[(12,bv false),(11,iv i),(10,iv (Int.ofNat n)),(9,.win (.out 2) 8 0 n),(3,FR pre)],[],hG 2 (av cs) es n,3⟩
theorem He {cs:List aq} {es:List (Go.Value×aq)} {n i:Nat} {pre:List aZ} {t:aZ} (hi:i < n) (h2:aJ (env au.aI) 23 [.win (.out 2) 8 0 n,iv (Int.ofNat i)]=some ⟨.ptr (.out 2) (0+i*8),.keep⟩)
  (h3:lr (env au.aI) false 35 [.ptr (.out 2) (0+i*8)] (some (.cells (av cs)))=some ⟨.dat t.enc,.keep⟩) (hc:ag 53 [.dat t.enc] (.dat t.enc)) (hp:pre.length < 1000000000) {T:Exit->aa->Prop}
  (e:T .normal ((stD cs es n (pre++[t]) (aG .i64 (Int.ofNat i+1))).aw Tryz.f19.ntmps)) :
  KD (roundOf Tryz.f19 0) T ((stD cs es n pre (Int.ofNat i)).aw Tryz.f19.ntmps):=by
 have h1:=bd hi;have h4:=EH (t:=t) hp;clear hi hp;obtain⟨nm,ar,⟨k,tn,ix,la⟩,con,fl⟩:=t
 rcases la with _|⟨x,la⟩ <;>
 ·rcases fl with _|⟨y,fl⟩ <;>
  ·rcases pre with _|⟨z,pre⟩ <;>
   ·refine aB [12] [13,14,19] (H:=S9) (live:=DT) (by kernel_rfl) ?_;refine ob h1 ?_;refine oo h2 ?_;refine oo h3 ?_;refine on hc ?_;refine oo h4 ?_;exact oe e
theorem JZ {cs:List aq} {es:List (Go.Value×aq)} {n:Nat} {pre:List aZ} {T:Exit->aa->Prop} (e:T (.exit 0) ((aeg cs es n pre (Int.ofNat n)).aw Tryz.f19.ntmps)) :
  KD (roundOf Tryz.f19 0) T ((stD cs es n pre (Int.ofNat n)).aw Tryz.f19.ntmps):=by
 have h1:=br (i:=n) (L:=n) (by omega)
 rcases pre with _|⟨z,pre⟩ <;>
 ·refine aB [12] [] (H:=S9) (live:=DT) (by kernel_rfl) ?_;refine ob h1 ?_;exact oe e
theorem N4 {cs:List aq} {es:List (Go.Value×aq)} {n:Nat} {pre:List aZ} (h0:qt (env au.aI) 23 [.win (.out 2) 8 0 n] none=some ⟨iv (Int.ofNat n),.keep⟩)
  (hl:KD (.loop (roundOf Tryz.f19 0)) (fun e s=>e=.exit 0/\s=(aeg cs es n pre (Int.ofNat n)).aw Tryz.f19.ntmps) ((stD cs es n [] (Int.ofNat 0)).aw Tryz.f19.ntmps)):eS 19 [hP] cs es n (FR pre):=by
 rcases pre with _|⟨z,pre⟩ <;>
 ·refine aY [] [10] (x:=fL.of Tryz.f19 Lg DT) (by kernel_rfl) ?_;refine oo h0 ?_;refine lo hl ?_;rintro ex s ⟨rfl,rfl⟩;refine⟨_,rfl,?_⟩;exact fi
theorem X6 (r m:Nat) (pre:Heap) {ds:List aZ} {tl:List aq} (hds:∀o∈ds,o.cX) (hn:ds.length < 1000):KC 19 [hP] (pre++hH r ds tl) m (XQ ⟨FR ds,pre++hH r ds tl,m⟩):=by
 have h:eS 19 [hP] (bL ds++tl) (bH ds 0) ds.length (FR ds):=by
  refine N4 (yv (by simp only[lim];omega)) ?_;refine ba (St:=fun i=>(stD (bL ds++tl) (bH ds 0) ds.length (ds.take i) (Int.ofNat i)).aw Tryz.f19.ntmps) ds.length ?_ ?_ (i:=0) (Nat.zero_le _)
  ·intro i hi;have ht:ds[i]?=some ds[i]:=List.getElem?_eq_getElem hi;have hm:ds[i]∈ds:=List.getElem_mem hi;generalize ds[i]=t at ht hm;refine He hi (yy hi) (Gk ht) (qg (hds t hm)) (by rw[List.length_take];omega) ?_;rw[bb (by omega),←dZ ht];rfl
  refine JZ ⟨rfl,?_⟩;rw[List.take_length]
 cases ds with
 | nil=>exact nG rfl rfl rfl pre h
 | cons d ds=>exact nG rfl rfl rfl pre h
theorem CC (i:Int):ag 47 [iv i] (.dat (Ty.mk 5 [] i []).enc):=by
 refine co [] [] (x:=.of Tryz.f47 QU SI) ?_;exact fi
theorem AG:ag 82 [] (.dat (Ty.mk 0 [] 0 []).enc):=by
 refine co [] [] (x:=.of Tryz.f82 QK Sy) ?_;exact fi
theorem Xq:ag 86 [] (.dat (Ty.mk 1 [] 0 []).enc):=by
 refine co [] [] (x:=.of Tryz.f86 QH Sv) ?_;exact fi
theorem pM (nm:List UInt8):ag 46 [.dat (sb nm),.dat nl] (.dat (Ty.mk 2 nm 0 []).enc):=by
 refine co [] [] (x:=.of Tryz.f46 K8 Jd) ?_;exact fi
theorem AF (nm:List UInt8) (x:aq) (l:List aq):ag 46 [.dat (sb nm),.dat (.slice (x::l))] (.dat (.agg [i64 2,sb nm,i64 0,.slice (x::l)])):=by
 refine co [] [] (x:=.of Tryz.f46 K8 Jd) ?_;exact fi
theorem LY (x:aq) (l:List aq):ag 84 [.dat (.slice (x::l))] (.dat (.agg [i64 4,sb [],i64 0,.slice (x::l)])):=by
 refine co [] [] (x:=.of Tryz.f84 QJ Sx) ?_;exact fi
theorem pN (t u:Ty):ag 85 [.dat t.enc,.dat u.enc] (.dat (Ty.mk 6 [] 0 [t,u]).enc):=by
 refine co [] [] (x:=.of Tryz.f85 QI Sw) ?_;obtain⟨v0,v1,v2,v3⟩:=t
 rcases v3 with _|⟨v10,v11⟩
 ·obtain⟨v4,v5,v6,v7⟩:=u
  rcases v7 with _|⟨v8,v9⟩ <;>
  ·exact fi
 obtain⟨v12,v13,v14,v15⟩:=u
 rcases v15 with _|⟨v16,v17⟩ <;>
 ·exact fi
theorem Tw {L:List (List UInt8)} {i:Nat} {b:List UInt8} (h:L[i]?=some b):(encS L)[i]?=some (sb b):=by simp[encS,h,sb]
noncomputable def U2:TI:=match Go.Tp.elemOf (env au.aI) 60 with|some t=>t|none=>default
theorem OU:Go.Tp.elemOf (env au.aI) 60=some U2:=by kernel_rfl
theorem pa:U2.size=1:=by kernel_rfl
theorem aaT {L:List (List UInt8)} {i:Nat} {b:List UInt8} (h:L[i]?=some b):aJ (env au.aI) 60 [.dat (.slice (encS L)),.dat (.flat (.int .i64 (Int.ofNat i)))]=some ⟨.ref [sb b],.keep⟩:=
 uO OU rfl (Tw h) (by rw[pa];rfl) (by rw[pa];decide)
theorem uh {l:List aZ} {i:Nat} {t:aZ} (h:l[i]?=some t):aJ (env au.aI) 23 [.dat (.slice (aK l)),.dat (.flat (.int .i64 (Int.ofNat i)))]=some ⟨.ref t.cells,.keep⟩:=
 uO HT rfl (TE h) (by rw[tb];exact TT t) (by rw[tb];decide)
theorem Sd {l ds:List aq} {k k2:Int} {r v dp:Int} {b:List UInt8} (h1:KC 64 [fg,iv (aG .i64 (Int.ofNat ds.length+4))] (fy l k) 1 (XQ ⟨iv r,fy l k2,1⟩)) (h2:bn r 4=true)
  (hi:aJ (env au.aI) 60 [.dat (.slice (encS gw)),.dat (.flat (.int .i64 r))]=some ⟨.ref [sb b],.keep⟩) :
  KC 83 [fg,.dat (.slice ds),iv dp,iv v] (fy l k) 1 (XQ ⟨.dat (Ty.mk 2 b 0 []).enc,fy l k2,1⟩):=by
 have h3:=pM b;refine co [19] [22] (x:=.of Tryz.f83 FW Am) ?_;refine oh h1 ?_;refine ob h2 ?_;refine oo hi ?_;refine on h3 ?_;exact fi
noncomputable def S1:Hints:=⟨an,FW,ap,rowsOf ap 83⟩
def loN (lo:Heap) (nm:List UInt8) (pre:List Ty):Heap:=(.loc 11,.cells [iv 2,.dat (sb nm),iv 0,VK pre])::lo
def I5 (cs:List ac):Heap:=[(.loc 10,.cells cs),(.loc 8,.cells [iv 0,.dat (sb []),iv 0,.dat nl])]
def Pe (lo:Heap) (l ds:List aq) (dp v K i:Int):ab:=⟨[(12,iv i),(11,.ptr (.loc 11) 0),(10,.ptr (.loc 10) 0),(8,.ptr (.loc 8) 0),(0,fg),(1,.dat (.slice ds)),(2,iv dp),(3,iv v)],lo,fy l K,1⟩
def Yw (lo:Heap) (l ds:List aq) (dp v K i:Int):ab:=⟨[(36,bv false),(12,iv i),(11,.ptr (.loc 11) 0),(10,.ptr (.loc 10) 0),(8,.ptr (.loc 8) 0),(0,fg),(1,.dat (.slice ds)),(2,iv dp),(3,iv v)],lo,fy l K,1⟩
theorem R9 {l ds:List aq} {dp v K K2 ar i kk ix:Int} {nm tn:List UInt8} {con:Bool} {la lb:List aq} {pre:List Ty} {t:Ty} (h1:bn i ar=true)
  (h2:KC 65 [fg,.dat (.slice ds),iv (aG .i64 (dp - 1)),iv v] (fy l K) 1 (XQ ⟨.dat t.enc,fy l K2,1⟩)) (hp:pre.length < 1000000000) {T:Exit->aa->Prop}
  (e:T .normal ((Pe (loN (I5 (cellsD nm ar kk tn ix la con lb)) nm (pre++[t])) l ds dp v K2 (aG .i64 (i+1))).aw Tryz.f83.ntmps)) :
  KD (roundOf Tryz.f83 0) T ((Pe (loN (I5 (cellsD nm ar kk tn ix la con lb)) nm pre) l ds dp v K i).aw Tryz.f83.ntmps):=by
 have h3:=Yd (t:=t) hp;clear hp
 rcases pre with _|⟨d,r⟩ <;>
 ·refine aB [36] [48] (H:=S1) (live:=Am) (by kernel_rfl) ?_;refine ob h1 ?_;refine oh h2 ?_;obtain⟨v0,v1,v2,v3⟩:=t;refine oo h3 ?_;exact oe e
theorem VU {l ds:List aq} {dp v K ar i kk ix:Int} {nm tn:List UInt8} {con:Bool} {la lb:List aq} {pre:List Ty} (h1:bn i ar=false) {T:Exit->aa->Prop}
  (e:T (.exit 0) ((Yw (loN (I5 (cellsD nm ar kk tn ix la con lb)) nm pre) l ds dp v K i).aw Tryz.f83.ntmps)) :
  KD (roundOf Tryz.f83 0) T ((Pe (loN (I5 (cellsD nm ar kk tn ix la con lb)) nm pre) l ds dp v K i).aw Tryz.f83.ntmps):=by
 rcases pre with _|⟨d,r⟩ <;>
 ·refine aB [36] [] (H:=S1) (live:=Am) (by kernel_rfl) ?_;refine ob h1 ?_;exact oe e
theorem Se {l:List aq} {ds:List aq} {k k2 k3:Int} {r v dp:Int} {nm tn:List UInt8} {ar kk ix ie:Int} {con:Bool} {la lb:List aq} {ts:List Ty} (h1:KC 64 [fg,iv (aG .i64 (Int.ofNat ds.length+4))] (fy l k) 1 (XQ ⟨iv r,fy l k2,1⟩)) (h2:bn r 4=false)
  (hi:aJ (env au.aI) 23 [.dat (.slice ds),.dat (.flat (.int .i64 (aG .i64 (r - 4))))]=some ⟨.ref [sb nm,i64 ar,i64 kk,sb tn,i64 ix,sl la,bl con,sl lb],.keep⟩)
  (hl:KD (.loop (roundOf Tryz.f83 0)) (fun e s=>e=.exit 0/\s=(Yw (loN (I5 (cellsD nm ar kk tn ix la con lb)) nm ts) l ds dp v k3 ie).aw Tryz.f83.ntmps) ((Pe (loN (I5 (cellsD nm ar kk tn ix la con lb)) nm []) l ds dp v k2 0).aw Tryz.f83.ntmps)) :
  KC 83 [fg,.dat (.slice ds),iv dp,iv v] (fy l k) 1 (XQ ⟨.dat (Ty.mk 2 nm 0 ts).enc,fy l k3,1⟩):=by
 have q1:=cG 10 nm ar kk tn ix la con lb
 rcases ts with _|⟨t,ts⟩ <;>
 ·refine co [19] [28,100010] (x:=.of Tryz.f83 FW Am) ?_;refine oh h1 ?_;refine ob h2 ?_;refine oo hi ?_;refine oo q1 ?_;refine lo hl ?_;rintro ex s ⟨rfl,rfl⟩;refine⟨_,rfl,?_⟩;exact fi
theorem X9 {l ds:List aq} {k k2 k3 r v dp i:Int} (h1:KC 64 [fg,iv 6] (fy l k) 1 (XQ ⟨iv r,fy l k2,1⟩)) (h2:bn r 2=true) (h3:bn 0 v=true) (h4:KC 64 [fg,iv v] (fy l k2) 1 (XQ ⟨iv i,fy l k3,1⟩)) :
  KC 65 [fg,.dat (.slice ds),iv dp,iv v] (fy l k) 1 (XQ ⟨.dat (Ty.mk 5 [] i []).enc,fy l k3,1⟩):=by
 have h5:=CC i;refine co [14,17] [] (x:=.of Tryz.f65 wW sA) ?_;refine oh h1 ?_;refine ob h2 ?_;refine ob h3 ?_;refine oh h4 ?_;refine on h5 ?_;exact fi
theorem Uw {l ds:List aq} {k k2 k3 r v dp i:Int} {b:List UInt8} {c2 c3:Bool} (h1:KC 64 [fg,iv 6] (fy l k) 1 (XQ ⟨iv r,fy l k2,1⟩)) (h2:bn r 2=c2) (h3:bn 0 v=c3) (hc:c2=true->c3=false) (hd:bn 0 dp=false) (h4:KC 64 [fg,iv 4] (fy l k2) 1 (XQ ⟨iv i,fy l k3,1⟩))
  (hi:aJ (env au.aI) 60 [.dat (.slice (encS gw)),.dat (.flat (.int .i64 i))]=some ⟨.ref [sb b],.keep⟩) :
  KC 65 [fg,.dat (.slice ds),iv dp,iv v] (fy l k) 1 (XQ ⟨.dat (Ty.mk 2 b 0 []).enc,fy l k3,1⟩):=by
 have h5:=pM b
 cases c2
 ·refine co [14,25] [29] (x:=.of Tryz.f65 wW sA) ?_;refine oh h1 ?_;refine ob h2 ?_;refine ox hd ?_;refine oh h4 ?_;refine oo hi ?_;refine on h5 ?_;exact fi
 obtain rfl:=hc rfl;refine co [14,17,25] [29] (x:=.of Tryz.f65 wW sA) ?_;refine oh h1 ?_;refine ob h2 ?_;refine ob h3 ?_;refine ox hd ?_;refine oh h4 ?_;refine oo hi ?_;refine on h5 ?_;exact fi
theorem Oj {l ds:List aq} {k k2 k3 r v dp:Int} {t:Ty} {c2 c3:Bool} (h1:KC 64 [fg,iv 6] (fy l k) 1 (XQ ⟨iv r,fy l k2,1⟩)) (h2:bn r 2=c2) (h3:bn 0 v=c3) (hc:c2=true->c3=false) (hd:bn 0 dp=true) (h4:bn r 4=true)
  (h5:KC 83 [fg,.dat (.slice ds),iv dp,iv v] (fy l k2) 1 (XQ ⟨.dat t.enc,fy l k3,1⟩)) :
  KC 65 [fg,.dat (.slice ds),iv dp,iv v] (fy l k) 1 (XQ ⟨.dat t.enc,fy l k3,1⟩):=by
 obtain⟨ek,en,ei,ea⟩:=t
 cases c2
 ·rcases ea with _|⟨x,ea⟩ <;>
  ·refine co [14,25,34] [] (x:=.of Tryz.f65 wW sA) ?_;refine oh h1 ?_;refine ob h2 ?_;refine ox hd ?_;refine ob h4 ?_;refine oh h5 ?_;exact fi
 obtain rfl:=hc rfl
 rcases ea with _|⟨x,ea⟩ <;>
 ·refine co [14,17,25,34] [] (x:=.of Tryz.f65 wW sA) ?_;refine oh h1 ?_;refine ob h2 ?_;refine ob h3 ?_;refine ox hd ?_;refine ob h4 ?_;refine oh h5 ?_;exact fi
theorem Uu {l ds:List aq} {k k2 k3 r v dp:Int} {t:Ty} (h1:KC 64 [fg,iv 6] (fy l k) 1 (XQ ⟨iv r,fy l k2,1⟩)) (h2:bn r 2=false) (hd:bn 0 dp=true) (h4:bn r 4=false)
  (h5:KC 48 [fg,.dat (.slice ds),iv (aG .i64 (dp - 1)),iv 0] (fy l k2) 1 (XQ ⟨.dat t.enc,fy l k3,1⟩)) :
  KC 65 [fg,.dat (.slice ds),iv dp,iv v] (fy l k) 1 (XQ ⟨.dat t.enc,fy l k3,1⟩):=by
 obtain⟨ek,en,ei,ea⟩:=t
 rcases ea with _|⟨x,ea⟩ <;>
 ·refine co [14,25,34] [] (x:=.of Tryz.f65 wW sA) ?_;refine oh h1 ?_;refine ob h2 ?_;refine ox hd ?_;refine ob h4 ?_;refine oh h5 ?_;exact fi
abbrev bR (l:List aq) (k n r k2:Int):Prop:=KC 64 [fg,iv n] (fy l k) 1 (XQ ⟨iv r,fy l k2,1⟩)
abbrev dU (l ds:List aq) (dp v k:Int) (d:aq) (k2:Int):Prop:=KC 48 [fg,.dat (.slice ds),iv dp,iv v] (fy l k) 1 (XQ ⟨.dat d,fy l k2,1⟩)
abbrev wB (l ds:List aq) (dp v k:Int) (d:aq) (k2:Int):Prop:=KC 83 [fg,.dat (.slice ds),iv dp,iv v] (fy l k) 1 (XQ ⟨.dat d,fy l k2,1⟩)
theorem yU {l ds:List aq} {k k2 k3 v dp i:Int} {c:Bool} {b:List UInt8} (h1:bR l k 14 0 k2) (h2:bn 0 dp=c) (h4:bR l k2 4 i k3)
  (hi:aJ (env au.aI) 60 [.dat (.slice (encS gw)),.dat (.flat (.int .i64 i))]=some ⟨.ref [sb b],.keep⟩):dU l ds dp v k (Ty.mk 2 b 0 []).enc k3:=by
 have h5:=pM b;refine co [17] [29] (x:=.of Tryz.f48 fT dV) ?_;refine oh h1 ?_;refine ox h2 ?_
 cases c <;>
 ·refine oh h4 ?_;refine oo hi ?_;refine on h5 ?_;exact fi
theorem yT {l ds:List aq} {k k2 k3 v dp i:Int} {c:Bool} {b:List UInt8} (h1:bR l k 14 1 k2) (h2:bn 0 dp=c) (h4:bR l k2 4 i k3)
  (hi:aJ (env au.aI) 60 [.dat (.slice (encS gw)),.dat (.flat (.int .i64 i))]=some ⟨.ref [sb b],.keep⟩):dU l ds dp v k (Ty.mk 2 b 0 []).enc k3:=by
 have h5:=pM b;refine co [17] [29] (x:=.of Tryz.f48 fT dV) ?_;refine oh h1 ?_;refine ox h2 ?_
 cases c <;>
 ·refine oh h4 ?_;refine oo hi ?_;refine on h5 ?_;exact fi
theorem Mr {l ds:List aq} {k k2 k3 v dp i r:Int} {b:List UInt8} (h1:bR l k 14 r k2) (h2:bn 0 dp=false) (h3:bn 5 r=true) (h4:bR l k2 4 i k3)
  (hi:aJ (env au.aI) 60 [.dat (.slice (encS gw)),.dat (.flat (.int .i64 i))]=some ⟨.ref [sb b],.keep⟩):dU l ds dp v k (Ty.mk 2 b 0 []).enc k3:=by
 have h5:=pM b;refine co [17,20] [29] (x:=.of Tryz.f48 fT dV) ?_;refine oh h1 ?_;refine ox h2 ?_;refine ob h3 ?_;refine oh h4 ?_;refine oo hi ?_;refine on h5 ?_;exact fi
theorem EZ {l ds:List aq} {k k2 v dp:Int} {c:Bool} (h1:bR l k 14 2 k2) (h2:bn 0 dp=c):dU l ds dp v k (Ty.mk 0 [] 0 []).enc k2:=by
 have h5:=AG;refine co [17] [] (x:=.of Tryz.f48 fT dV) ?_;refine oh h1 ?_;refine ox h2 ?_
 cases c <;>
 ·refine on h5 ?_;exact fi
theorem BR {l ds:List aq} {k k2 k3 v dp i:Int} {c:Bool} (h1:bR l k 14 3 k2) (h2:bn 0 dp=c) (h3:bn 0 v=true) (h4:bR l k2 v i k3):dU l ds dp v k (Ty.mk 5 [] i []).enc k3:=by
 have h5:=CC i;refine co [17,39] [] (x:=.of Tryz.f48 fT dV) ?_;refine oh h1 ?_;refine ox h2 ?_
 cases c <;>
 ·refine ob h3 ?_;refine oh h4 ?_;refine on h5 ?_;exact fi
theorem BU {l ds:List aq} {k k2 k3 v dp:Int} {c:Bool} {t:Ty} (h1:bR l k 14 3 k2) (h2:bn 0 dp=c) (h3:bn 0 v=false) (h4:wB l ds dp v k2 t.enc k3):dU l ds dp v k t.enc k3:=by
 obtain⟨ek,en,ei,ea⟩:=t
 rcases ea with _|⟨x,ea⟩ <;>
 ·refine co [17,39] [] (x:=.of Tryz.f48 fT dV) ?_;refine oh h1 ?_;refine ox h2 ?_
  cases c <;>
  ·refine ob h3 ?_;refine oh h4 ?_;exact fi
theorem BQ {l ds:List aq} {k k2 k3 v dp i:Int} {c:Bool} (h1:bR l k 14 4 k2) (h2:bn 0 dp=c) (h3:bn 0 v=true) (h4:bR l k2 v i k3):dU l ds dp v k (Ty.mk 5 [] i []).enc k3:=by
 have h5:=CC i;refine co [17,39] [] (x:=.of Tryz.f48 fT dV) ?_;refine oh h1 ?_;refine ox h2 ?_
 cases c <;>
 ·refine ob h3 ?_;refine oh h4 ?_;refine on h5 ?_;exact fi
theorem BT {l ds:List aq} {k k2 k3 v dp:Int} {c:Bool} {t:Ty} (h1:bR l k 14 4 k2) (h2:bn 0 dp=c) (h3:bn 0 v=false) (h4:wB l ds dp v k2 t.enc k3):dU l ds dp v k t.enc k3:=by
 obtain⟨ek,en,ei,ea⟩:=t
 rcases ea with _|⟨x,ea⟩ <;>
 ·refine co [17,39] [] (x:=.of Tryz.f48 fT dV) ?_;refine oh h1 ?_;refine ox h2 ?_
  cases c <;>
  ·refine ob h3 ?_;refine oh h4 ?_;exact fi
theorem BS {l ds:List aq} {k k2 k3 v dp:Int} {c:Bool} {t:Ty} (h1:bR l k 14 5 k2) (h2:bn 0 dp=c) (h4:wB l ds dp v k2 t.enc k3):dU l ds dp v k t.enc k3:=by
 obtain⟨ek,en,ei,ea⟩:=t
 rcases ea with _|⟨x,ea⟩ <;>
 ·refine co [17] [] (x:=.of Tryz.f48 fT dV) ?_;refine oh h1 ?_;refine ox h2 ?_
  cases c <;>
  ·refine oh h4 ?_;exact fi
theorem Mq {l ds:List aq} {k k2 k3 v dp:Int} {t:Ty} (h1:bR l k 14 6 k2) (h2:bn 0 dp=true) (h4:wB l ds dp v k2 t.enc k3):dU l ds dp v k t.enc k3:=by
 obtain⟨ek,en,ei,ea⟩:=t
 rcases ea with _|⟨x,ea⟩ <;>
 ·refine co [17] [] (x:=.of Tryz.f48 fT dV) ?_;refine oh h1 ?_;refine ox h2 ?_;refine oh h4 ?_;exact fi
theorem Mp {l ds:List aq} {k k2 k3 v dp:Int} {t:Ty} (h1:bR l k 14 7 k2) (h2:bn 0 dp=true) (h4:wB l ds dp v k2 t.enc k3):dU l ds dp v k t.enc k3:=by
 obtain⟨ek,en,ei,ea⟩:=t
 rcases ea with _|⟨x,ea⟩ <;>
 ·refine co [17] [] (x:=.of Tryz.f48 fT dV) ?_;refine oh h1 ?_;refine ox h2 ?_;refine oh h4 ?_;exact fi
theorem OY {l ds:List aq} {k k2 k3 k4 v dp:Int} {t u:Ty} (h1:bR l k 14 8 k2) (h2:bn 0 dp=true) (h4:dU l ds (aG .i64 (dp - 1)) v k2 t.enc k3) (h5:dU l ds (aG .i64 (dp - 1)) v k3 u.enc k4):dU l ds dp v k (Ty.mk 4 [] 0 [t,u]).enc k4:=by
 have h6:=LY t.enc [u.enc];obtain⟨ek,en,ei,ea⟩:=t;obtain⟨uk,un,ui,ua⟩:=u
 rcases ea with _|⟨x,ea⟩ <;>
 ·rcases ua with _|⟨y,ua⟩ <;>
  ·refine co [17] [] (x:=.of Tryz.f48 fT dV) ?_;refine oh h1 ?_;refine ox h2 ?_;refine oh h4 ?_;refine oh h5 ?_;refine on h6 ?_;exact fi
theorem OX {l ds:List aq} {k k2 k3 k4 v dp:Int} {t u:Ty} (h1:bR l k 14 9 k2) (h2:bn 0 dp=true) (h4:dU l ds (aG .i64 (dp - 1)) v k2 t.enc k3) (h5:dU l ds (aG .i64 (dp - 1)) v k3 u.enc k4):dU l ds dp v k (Ty.mk 4 [] 0 [t,u]).enc k4:=by
 have h6:=LY t.enc [u.enc];obtain⟨ek,en,ei,ea⟩:=t;obtain⟨uk,un,ui,ua⟩:=u
 rcases ea with _|⟨x,ea⟩ <;>
 ·rcases ua with _|⟨y,ua⟩ <;>
  ·refine co [17] [] (x:=.of Tryz.f48 fT dV) ?_;refine oh h1 ?_;refine ox h2 ?_;refine oh h4 ?_;refine oh h5 ?_;refine on h6 ?_;exact fi
noncomputable def Zc:Hints:=⟨an,fT,ap,rowsOf ap 48⟩
def aeC (pre:List Ty):Heap:=[(.loc 10,.cells [iv 3,.dat (sb []),iv 0,VK pre]),(.loc 8,.cells [iv 0,.dat (sb []),iv 0,.dat nl])]
def H8 (l ds:List aq) (dp v n K i:Int) (pre:List Ty):ab:=⟨[(12,iv i),(11,iv n),(10,.ptr (.loc 10) 0),(8,.ptr (.loc 8) 0),(0,fg),(1,.dat (.slice ds)),(2,iv dp),(3,iv v)],aeC pre,fy l K,1⟩
def Kt (l ds:List aq) (dp v n K i:Int) (pre:List Ty):ab:=⟨[(83,bv false),(12,iv i),(11,iv n),(10,.ptr (.loc 10) 0),(8,.ptr (.loc 8) 0),(0,fg),(1,.dat (.slice ds)),(2,iv dp),(3,iv v)],aeC pre,fy l K,1⟩
theorem OO {l ds:List aq} {dp v n K K2 i:Int} {pre:List Ty} {t:Ty} (h1:bn i n=true) (h2:dU l ds (aG .i64 (dp - 1)) v K t.enc K2) (hp:pre.length < 1000000000) {T:Exit->aa->Prop}
  (e:T .normal ((H8 l ds dp v n K2 (aG .i64 (i+1)) (pre++[t])).aw Tryz.f48.ntmps)) :
  KD (roundOf Tryz.f48 0) T ((H8 l ds dp v n K i pre).aw Tryz.f48.ntmps):=by
 have h3:=Yd (t:=t) hp;clear hp
 rcases pre with _|⟨d,r⟩ <;>
 ·refine aB [83] [95] (H:=Zc) (live:=dV) (by kernel_rfl) ?_;refine ob h1 ?_;refine oh h2 ?_;obtain⟨v0,v1,v2,v3⟩:=t;refine oo h3 ?_;exact oe e
theorem U0 {l ds:List aq} {dp v n K i:Int} {pre:List Ty} (h1:bn i n=false) {T:Exit->aa->Prop}
  (e:T (.exit 1) ((Kt l ds dp v n K i pre).aw Tryz.f48.ntmps)) :
  KD (roundOf Tryz.f48 0) T ((H8 l ds dp v n K i pre).aw Tryz.f48.ntmps):=by
 rcases pre with _|⟨d,r⟩ <;>
 ·refine aB [83] [] (H:=Zc) (live:=dV) (by kernel_rfl) ?_;refine ob h1 ?_;exact oe e
theorem HW {l ds:List aq} {k k2 k3 k4 v dp n ie:Int} {ts:List Ty} (h1:bR l k 14 10 k2) (h2:bn 0 dp=true) (h4:bR l k2 4 n k3)
  (hl:KD (.loop (roundOf Tryz.f48 0)) (fun e s=>e=.exit 1/\s=(Kt l ds dp v n k4 ie ts).aw Tryz.f48.ntmps) ((H8 l ds dp v n k3 0 []).aw Tryz.f48.ntmps)):dU l ds dp v k (Ty.mk 3 [] 0 ts).enc k4:=by
 rcases ts with _|⟨x,ea⟩ <;>
 ·refine co [17] [] (x:=.of Tryz.f48 fT dV) ?_;refine oh h1 ?_;refine ox h2 ?_;refine oh h4 ?_;refine lo hl ?_;rintro ex s ⟨rfl,rfl⟩;refine⟨_,rfl,?_⟩;exact fi
theorem HV {l ds:List aq} {k k2 k3 k4 v dp n ie:Int} {ts:List Ty} (h1:bR l k 14 11 k2) (h2:bn 0 dp=true) (h4:bR l k2 4 n k3)
  (hl:KD (.loop (roundOf Tryz.f48 0)) (fun e s=>e=.exit 1/\s=(Kt l ds dp v n k4 ie ts).aw Tryz.f48.ntmps) ((H8 l ds dp v n k3 0 []).aw Tryz.f48.ntmps)):dU l ds dp v k (Ty.mk 3 [] 0 ts).enc k4:=by
 rcases ts with _|⟨x,ea⟩ <;>
 ·refine co [17] [] (x:=.of Tryz.f48 fT dV) ?_;refine oh h1 ?_;refine ox h2 ?_;refine oh h4 ?_;refine lo hl ?_;rintro ex s ⟨rfl,rfl⟩;refine⟨_,rfl,?_⟩;exact fi
theorem O0 {l ds:List aq} {k k2 k3 k4 v dp:Int} {u:Ty} (h1:bR l k 14 12 k2) (h2:bn 0 dp=true) (h4:bR l k2 2 0 k3) (h5:dU l ds (aG .i64 (dp - 1)) (aG .i64 (v+1)) k3 u.enc k4):dU l ds dp v k (Ty.mk 6 [] 0 [.mk 0 [] 0 [],u]).enc k4:=by
 have h6:=AG;have h7:=pN (.mk 0 [] 0 []) u;obtain⟨uk,un,ui,ua⟩:=u
 rcases ua with _|⟨y,ua⟩ <;>
 ·refine co [17] [] (x:=.of Tryz.f48 fT dV) ?_;refine oh h1 ?_;refine ox h2 ?_;refine on h6 ?_;refine oh h4 ?_;refine oh h5 ?_;refine on h7 ?_;exact fi
theorem OZ {l ds:List aq} {k k2 k3 k4 k5 v dp:Int} {t u:Ty} (h1:bR l k 14 12 k2) (h2:bn 0 dp=true) (h3:bR l k2 2 1 k3) (h4:dU l ds 1 0 k3 t.enc k4) (h5:dU l ds (aG .i64 (dp - 1)) (aG .i64 (v+1)) k4 u.enc k5):dU l ds dp v k (Ty.mk 6 [] 0 [t,u]).enc k5:=by
 have h6:=AG;have h7:=pN t u;obtain⟨ek,en,ei,ea⟩:=t;obtain⟨uk,un,ui,ua⟩:=u
 rcases ea with _|⟨x,ea⟩ <;>
 ·rcases ua with _|⟨y,ua⟩ <;>
  ·refine co [17] [] (x:=.of Tryz.f48 fT dV) ?_;refine oh h1 ?_;refine ox h2 ?_;refine on h6 ?_;refine oh h3 ?_;refine oh h4 ?_;refine oh h5 ?_;refine on h7 ?_;exact fi
theorem HX {l ds:List aq} {k k2 k3 v dp:Int} (h1:bR l k 14 13 k2) (h2:bn 0 dp=true) (h4:bR l k2 4 0 k3):dU l ds dp v k (Ty.mk 1 [] 0 []).enc k3:=by
 have h6:=Xq;refine co [17] [] (x:=.of Tryz.f48 fT dV) ?_;refine oh h1 ?_;refine ox h2 ?_;refine oh h4 ?_;refine on h6 ?_;exact fi
def Kb:Ty:=.mk 6 [] 0 [.mk 0 [] 0 [],.mk 2 [66,111,120] 0 [.mk 5 [] 0 []]]
theorem Mu {l ds:List aq} {k k2 k3 v dp:Int} (h1:bR l k 14 13 k2) (h2:bn 0 dp=true) (h4:bR l k2 4 1 k3):dU l ds dp v k Kb.enc k3:=by
 have h5:=AG;have h6:=CC 0;have h7:=AF [66,111,120] (Ty.mk 5 [] 0 []).enc [];have h8:=pN (.mk 0 [] 0 []) (.mk 2 [66,111,120] 0 [.mk 5 [] 0 []]);refine co [17] [] (x:=.of Tryz.f48 fT dV) ?_;refine oh h1 ?_;refine ox h2 ?_;refine oh h4 ?_;refine on h5 ?_;refine on h6 ?_;refine on h7 ?_;refine on h8 ?_;exact fi
theorem Mt {l ds:List aq} {k k2 k3 v dp:Int} (h1:bR l k 14 13 k2) (h2:bn 0 dp=true) (h4:bR l k2 4 2 k3):dU l ds dp v k Kb.enc k3:=by
 have h5:=AG;have h6:=CC 0;have h7:=AF [66,111,120] (Ty.mk 5 [] 0 []).enc [];have h8:=pN (.mk 0 [] 0 []) (.mk 2 [66,111,120] 0 [.mk 5 [] 0 []]);refine co [17] [] (x:=.of Tryz.f48 fT dV) ?_;refine oh h1 ?_;refine ox h2 ?_;refine oh h4 ?_;refine on h5 ?_;refine on h6 ?_;refine on h7 ?_;refine on h8 ?_;exact fi
theorem Ms {l ds:List aq} {k k2 k3 v dp:Int} (h1:bR l k 14 13 k2) (h2:bn 0 dp=true) (h4:bR l k2 4 3 k3):dU l ds dp v k Kb.enc k3:=by
 have h5:=AG;have h6:=CC 0;have h7:=AF [66,111,120] (Ty.mk 5 [] 0 []).enc [];have h8:=pN (.mk 0 [] 0 []) (.mk 2 [66,111,120] 0 [.mk 5 [] 0 []]);refine co [17] [] (x:=.of Tryz.f48 fT dV) ?_;refine oh h1 ?_;refine ox h2 ?_;refine oh h4 ?_;refine on h5 ?_;refine on h6 ?_;refine on h7 ?_;refine on h8 ?_;exact fi
mutual
def Ty.from (P:List UInt8->Nat->Prop):Ty->Prop
 | .mk k nm _ args=>(k=2->P nm args.length)/\lh P args
def lh (P:List UInt8->Nat->Prop):List Ty->Prop
 | []=>True
 | t::r=>t.from P/\lh P r
end
theorem GK {P:List UInt8->Nat->Prop}:∀{l:List Ty},(∀t∈l,t.from P)->lh P l
 | [],_=>trivial
 | t::r,h=>⟨h t (by simp),GK (fun x hx=>h x (by simp[hx]))⟩
theorem Gr:∀{l:List Ty},(∀t∈l,t.eX)->dE l
 | [],_=>by simp[dE]
 | t::r,h=>by simp only[dE];exact⟨h t (by simp),Gr (fun x hx=>h x (by simp[hx]))⟩
structure GT (P:List UInt8->Nat->Prop) (N:Nat) (t:Ty) (k k2:Nat):Prop where
 size:t.size+4*k<=4*k2+1
 ix:t.eX
 frm:t.from P
 le:k<=k2
 top:k2<=N
def GR (l:List Int) (P:List UInt8->Nat->Prop) (g:FuncId) (args:List ac) (k:Nat):Prop:=∃t k2,GT P l.length t k k2/\KC g args (fy (l.map iN) (Int.ofNat k)) 1 (XQ ⟨.dat t.enc,fy (l.map iN) (Int.ofNat k2),1⟩)
theorem Ev {l:List Int} {P:List UInt8->Nat->Prop} {g:FuncId} {args:List ac} {k:Nat} (hk:k<=l.length) (h:∀k',k<=k'->k'<=l.length->GR l P g args k'):∀n:Nat,∃(ts:List Ty) (ks:Nat->Nat),ts.length=n/\ks 0=k/\k<=ks n/\ks n<=l.length/\aS ts+4*k<=4*ks n+n/\dE ts/\lh P ts ∧
  ∀i t,ts[i]?=some t->KC g args (fy (l.map iN) (Int.ofNat (ks i))) 1 (XQ ⟨.dat t.enc,fy (l.map iN) (Int.ofNat (ks (i+1))),1⟩)
 | 0=>⟨[],fun _=>k,rfl,rfl,Nat.le_refl _,hk,by simp[aS],by simp[dE],trivial,fun i t h=>by simp at h⟩
 | n+1=>by
  obtain⟨ts,ks,h1,h2,h3,h4,h5,h6,h7,h8⟩:=Ev hk h n;obtain⟨t,k2,ht,hc⟩:=h (ks n) h3 h4;have hsz:aS (ts++[t])=aS ts+t.size:=by
   have:=ij (l:=ts++[t]) (i:=n) (t:=t) (by rw[←h1];simp)
   rw[show (ts++[t]).take (n+1)=ts++[t] from List.take_of_length_le (by simp;omega),show (ts++[t]).take n=ts by rw[←h1];simp] at this;exact this
  have hmem:∀{Q:Ty->Prop},(∀x∈ts,Q x)->Q t->∀x∈ts++[t],Q x:=by
   intro Q ha hb x hx
   rcases List.mem_append.1 hx with hx|hx
   ·exact ha x hx
   simp at hx;rw[hx];exact hb
  have hto1:∀{l:List Ty},dE l->∀x∈l,x.eX:=by
   intro l
   induction l with
   | nil=>intro _ x hx;simp at hx
   | cons a r ih=>intro h x hx;simp only[dE] at h;rcases List.mem_cons.1 hx with rfl|hx;exact h.1;exact ih h.2 x hx
  have hto2:∀{l:List Ty},lh P l->∀x∈l,x.from P:=by
   intro l
   induction l with
   | nil=>intro _ x hx;simp at hx
   | cons a r ih=>intro h x hx;simp only[lh] at h;rcases List.mem_cons.1 hx with rfl|hx;exact h.1;exact ih h.2 x hx
  refine⟨ts++[t],fun i=>if i<=n then ks i else k2,by simp[h1],by simp[h2],?_,?_,?_,Gr (hmem (hto1 h6) ht.ix),GK (hmem (hto2 h7) ht.frm),?_⟩
  ·have:=ht.le;dsimp only;rw[if_neg (by omega:¬n+1<=n)];omega
  ·have:=ht.top;dsimp only;rw[if_neg (by omega:¬n+1<=n)];omega
  ·have:=ht.size;dsimp only;rw[if_neg (by omega:¬n+1<=n),hsz];omega
  intro i u hu
  by_cases hi:i < n
  ·rw[List.getElem?_append_left (by omega)] at hu;dsimp only;rw[if_pos (by omega:i<=n),if_pos (by omega:i+1<=n)];exact h8 i u hu
  have hin:i=n:=by
   have:=(List.getElem?_eq_some_iff.1 hu).1
   simp at this;omega
  subst hin;rw[List.getElem?_append_right (by omega),h1,Nat.sub_self] at hu;simp at hu;subst hu;dsimp only;rw[if_pos (Nat.le_refl _),if_neg (by omega:¬i+1<=i)];exact hc
theorem gq {a b:Nat} (h:a < b):bn (Int.ofNat a) (Int.ofNat b)=true:=by rw[iM,decide_eq_true h]
theorem jx {a b:Nat} (h:¬a < b):bn (Int.ofNat a) (Int.ofNat b)=false:=by rw[iM,decide_eq_false h]
theorem Iv {dp:Int} (h:0 < dp):bn 0 dp=true:=by rw[gr,decide_eq_true h]
theorem Sb {dp:Int} (h:¬0 < dp):bn 0 dp=false:=by rw[gr,decide_eq_false h]
theorem mJ {dp:Int} (h1:0<=dp) (h2:dp<=100):aG .i64 (dp - 1)=dp - 1:=by rw[dR,wrap_i64 (by omega) (by omega)]
theorem W6 (i:Nat) (h:i < 4):∃b,gw[i]?=some b/\b∈gw:=⟨gw[i],List.getElem?_eq_getElem h,List.getElem_mem h⟩
theorem Aq {i:Nat} (h:i < 4):∃b,b∈gw/\aJ (env au.aI) 60 [.dat (.slice (encS gw)),.dat (.flat (.int .i64 (Int.ofNat i)))]=some ⟨.ref [sb b],.keep⟩:=by
 obtain⟨b,hb,hm⟩:=W6 i h;exact⟨b,hm,aaT hb⟩
theorem od {P:List UInt8->Nat->Prop} {N k k2:Nat} {b:List UInt8} (hP:P b 0) (h1:k<=k2) (h2:k2<=N):GT P N (.mk 2 b 0 []) k k2:=
 ⟨by simp[Ty.size,aS];omega,by simp[Ty.eX,dE,aQ],by simp[Ty.from,lh];exact hP,h1,h2⟩
theorem AB {P:List UInt8->Nat->Prop} {N k k2 i:Nat} (hi:i < 100) (h1:k<=k2) (h2:k2<=N):GT P N (.mk 5 [] (Int.ofNat i) []) k k2:=
 ⟨by simp[Ty.size,aS];omega,by simp only[Ty.eX,dE];exact⟨fun _=>gq hi,trivial⟩,by simp[Ty.from,lh],h1,h2⟩
section
variable {l:List Int} {ds:List aZ} {P:List UInt8->Nat->Prop} (hl:l.length < 10000000) (hds:ds.length < 1000) (har:∀d∈ds,∃n:Nat,d.ar=Int.ofNat n/\n<=4/\P d.nm n) (hP0:∀b∈gw,P b 0) (hPB:P [66,111,120] 1)
def aA (ds:List aZ) (dp:Int) (v:Nat):List ac:=[fg,.dat (.slice (aK ds)),iv dp,iv (Int.ofNat v)]
include hl hds har hP0
theorem Ga {k:Nat} (hk:k<=l.length) {dp:Int} {v:Nat} (h0:0<=dp) (h3:dp<=3) (ih:∀k',k < k'->k'<=l.length->GR l P 65 (aA ds (dp - 1) v) k'):GR l P 83 (aA ds dp v) k:=by
 have hw:aG .i64 (Int.ofNat (aK ds).length+4)=Int.ofNat (ds.length+4):=by
  rw[bi,dR];exact wrap_i64 (by simp;omega) (by simp;omega)
 obtain⟨r,k2,⟨hr,hk2,hk3,hk4⟩,hc⟩:=eY (n:=ds.length+4) (by omega:l.length < 1000000000) hk (by omega) (by omega);rw[←hw] at hc
 by_cases h4:r < 4
 ·obtain⟨b,hb,hi⟩:=Aq h4;exact⟨_,k2,od (hP0 b hb) hk2 hk3,Sd hc (gq h4) hi⟩
 have hlt:r - 4 < ds.length:=by omega
 have hg:ds[r - 4]?=some ds[r - 4]:=List.getElem?_eq_getElem hlt;obtain⟨n,hn,hn4,hPn⟩:=har _ (List.getElem_mem hlt);have hkk:=hk4 (by omega);obtain⟨ts,ks,c1,c2,c3,c4,c5,c6,c7,c8⟩:=Ev (g:=65) (args:=aA ds (dp - 1) v) (P:=P) hk3 (fun k' hk' hkl=>ih k' (by omega) hkl) n;have hi:=uh hg;have hw2:Int.ofNat (r - 4)=aG .i64 (Int.ofNat r - 4):=by
  rw[dR,wrap_i64 (by simp;omega) (by simp;omega)];simp;omega
 rw[hw2] at hi;generalize ds[r - 4]=d at *;obtain⟨nm,ar,⟨kk,tn,ix,la⟩,con,fl⟩:=d;dsimp only at hn hPn;subst hn;refine⟨.mk 2 nm 0 ts,ks n,⟨by simp only[Ty.size];omega,by simp only[Ty.eX];exact⟨by simp[aQ],c6⟩,by simp only[Ty.from];exact⟨fun _=>by rw[c1];exact hPn,c7⟩,by omega,c4⟩,?_⟩;refine Se (la:=ax la) (lb:=aN fl) (ie:=Int.ofNat n) hc (jx h4) hi ?_;rw[←c2];refine ba (St:=fun i=>(Pe (loN (I5 (cellsD nm (Int.ofNat n) kk tn ix (ax la) con (aN fl))) nm (ts.take i)) (l.map iN) (aK ds) dp (Int.ofNat v) (Int.ofNat (ks i)) (Int.ofNat i)).aw Tryz.f83.ntmps) n ?_ ?_ (i:=0) (Nat.zero_le _)
 ·intro i hi2;have hti:ts[i]?=some ts[i]:=List.getElem?_eq_getElem (by omega);have hci:=c8 i _ hti;have hwp:dp - 1=aG .i64 (dp - 1):=(mJ h0 (by omega)).symm;unfold aA at hci;rw[hwp] at hci;refine R9 (gq hi2) hci (by rw[List.length_take];omega) ?_;rw[bb (by omega),←dZ hti];exact rfl
 refine VU (jx (by omega)) ⟨rfl,?_⟩;rw[List.take_of_length_le (by omega)]
omit hds har in
theorem Uv {k:Nat} (hk:k<=l.length) {dp:Int} {v:Nat} (h0:-1<=dp) (h3:dp<=3) (hv:v < 100) (ihn:0 < dp->∀k',k<=k'->k'<=l.length->GR l P 83 (aA ds dp v) k') (iht:0 < dp->∀k',k < k'->k'<=l.length->GR l P 48 (aA ds (dp - 1) 0) k'):GR l P 65 (aA ds dp v) k:=by
 obtain⟨r,k2,⟨hr,hk2,hk3,hk4⟩,hc⟩:=eY (n:=6) (by omega:l.length < 1000000000) hk (by omega) (by omega)
 by_cases hv0:r < 2/\0 < v
 ·obtain⟨i,k3,⟨hi,hk5,hk6,hk7⟩,hc2⟩:=eY (n:=v) (by omega:l.length < 1000000000) hk3 hv0.2 (by omega);exact⟨_,k3,AB (by omega) (by omega) hk6,X9 hc (gq hv0.1) (gq (a:=0) hv0.2) hc2⟩
 have hcc:bn (Int.ofNat r) (Int.ofNat 2)=true->bn (Int.ofNat 0) (Int.ofNat v)=false:=by
  intro h;rw[iM,decide_eq_true_eq] at h;exact jx (by omega)
 by_cases hdp:0 < dp
 ·by_cases hr4:r < 4
  ·obtain⟨t,k3,ht,hct⟩:=ihn hdp k2 hk2 hk3;refine⟨t,k3,⟨?_,ht.ix,ht.frm,?_,ht.top⟩,Oj hc rfl rfl hcc (Iv hdp) (gq hr4) hct⟩
   ·have:=ht.size;omega
   have:=ht.le;omega
  obtain⟨t,k3,ht,hct⟩:=iht hdp k2 (hk4 (by omega)) hk3;unfold aA at hct;rw[←mJ (by omega:0<=dp) (by omega)] at hct;refine⟨t,k3,⟨?_,ht.ix,ht.frm,?_,ht.top⟩,Uu hc (jx (b:=2) (by omega)) (Iv hdp) (jx hr4) hct⟩
  ·have:=ht.size;omega
  have:=ht.le;omega
 obtain⟨i,k3,⟨hi,hk5,hk6,hk7⟩,hc2⟩:=eY (n:=4) (by omega:l.length < 1000000000) hk3 (by omega) (by omega);obtain⟨b,hb,hix⟩:=Aq hi;exact⟨_,k3,od (hP0 b hb) (by omega) hk6,Uw hc rfl rfl hcc (Sb hdp) hc2 hix⟩
omit hds har in
include hPB in
theorem Kq {k:Nat} (hk:k<=l.length) {dp:Int} {v:Nat} (h0:0<=dp) (h3:dp<=3) (hv:v+dp<=10) (ihn:∀k',k < k'->k'<=l.length->GR l P 83 (aA ds dp v) k')
  (iht:∀k',k < k'->k'<=l.length->∀(dp:Int) (v:Nat),0<=dp->dp<=3->v+dp<=10->GR l P 48 (aA ds dp v) k'):GR l P 48 (aA ds dp v) k:=by
 obtain⟨r,k2,⟨hr,hk2,hk3,hk4⟩,hc⟩:=eY (n:=14) (by omega:l.length < 1000000000) hk (by omega) (by omega);have leaf:∃i k3 b,(k2<=k3/\k3<=l.length/\P b 0)/\bR (l.map iN) (Int.ofNat k2) 4 (Int.ofNat i) (Int.ofNat k3)/\aJ (env au.aI) 60 [.dat (.slice (encS gw)),.dat (.flat (.int .i64 (Int.ofNat i)))]=some ⟨.ref [sb b],.keep⟩:=by
  obtain⟨i,k3,⟨hi,hk5,hk6,hk7⟩,hc2⟩:=eY (n:=4) (by omega:l.length < 1000000000) hk3 (by omega) (by omega);obtain⟨b,hb,hix⟩:=Aq hi;exact⟨i,k3,b,⟨hk5,hk6,hP0 b hb⟩,hc2,hix⟩
 have hnam:∀{c:Nat},0 < r->∃t k3,GT P l.length t k k3/\wB (l.map iN) (aK ds) dp (Int.ofNat v) (Int.ofNat k2) t.enc (Int.ofNat k3):=by
  intro c h;obtain⟨t,k3,ht,hct⟩:=ihn k2 (hk4 h) hk3;exact⟨t,k3,⟨by have:=ht.size;omega,ht.ix,ht.frm,by have:=ht.le;omega,ht.top⟩,hct⟩
 by_cases hdp:0 < dp
 ·have hd:=Iv hdp;have sub:∀(k':Nat),k < k'->k'<=l.length->∃t k3,GT P l.length t k' k3/\dU (l.map iN) (aK ds) (aG .i64 (dp - 1)) (Int.ofNat v) (Int.ofNat k') t.enc (Int.ofNat k3):=by
   intro k' h1 h2;obtain⟨t,k3,ht,hct⟩:=iht k' h1 h2 (dp - 1) v (by omega) (by omega) (by omega);rw[mJ (by omega) (by omega)];exact⟨t,k3,ht,hct⟩
  have hcase:r=0∨r=1∨r=2∨r=3∨r=4∨r=5∨r=6∨r=7∨r=8∨r=9∨r=10∨r=11∨r=12∨r=13:=by omega
  have hun:0 < r->∃t u k3 k4,GT P l.length (.mk 4 [] 0 [t,u]) k k4/\dU (l.map iN) (aK ds) (aG .i64 (dp - 1)) (Int.ofNat v) (Int.ofNat k2) t.enc (Int.ofNat k3)/\dU (l.map iN) (aK ds) (aG .i64 (dp - 1)) (Int.ofNat v) (Int.ofNat k3) u.enc (Int.ofNat k4):=by
   intro h;have hkk:=hk4 h;obtain⟨t,k3,ht,hct⟩:=sub k2 hkk hk3;obtain⟨u,k4,hu,hcu⟩:=sub k3 (by have:=ht.le;omega) ht.top;refine⟨t,u,k3,k4,⟨?_,?_,?_,?_,hu.top⟩,hct,hcu⟩
   ·have:=ht.size;have:=hu.size;simp only[Ty.size,aS];omega
   ·simp only[Ty.eX,dE];exact⟨by simp[aQ],ht.ix,hu.ix,trivial⟩
   ·simp only[Ty.from,lh];exact⟨fun h=>by simp at h,ht.frm,hu.frm,trivial⟩
   have:=ht.le;have:=hu.le;omega
  have htup:0 < r->∃n k3 ts k4,bR (l.map iN) (Int.ofNat k2) 4 n (Int.ofNat k3)/\GT P l.length (.mk 3 [] 0 ts) k k4/\KD (.loop (roundOf Tryz.f48 0)) (fun e s=>e=.exit 1/\s=(Kt (l.map iN) (aK ds) dp (Int.ofNat v) n (Int.ofNat k4) n ts).aw Tryz.f48.ntmps) ((H8 (l.map iN) (aK ds) dp (Int.ofNat v) n (Int.ofNat k3) 0 []).aw Tryz.f48.ntmps):=by
   intro h;have hkk:=hk4 h;obtain⟨n,k3,⟨hn,hk5,hk6,hk7⟩,hc2⟩:=eY (n:=4) (by omega:l.length < 1000000000) hk3 (by omega) (by omega);obtain⟨ts,ks,c1,c2,c3,c4,c5,c6,c7,c8⟩:=Ev (g:=48) (args:=aA ds (dp - 1) v) (P:=P) hk6 (fun k' h1 h2=>iht k' (by omega) h2 (dp - 1) v (by omega) (by omega) (by omega)) n;refine⟨_,k3,ts,ks n,hc2,⟨by simp only[Ty.size];omega,by simp only[Ty.eX];exact⟨by simp[aQ],c6⟩,by simp only[Ty.from];exact⟨fun h=>by simp at h,c7⟩,by omega,c4⟩,?_⟩;rw[←c2];refine ba (St:=fun i=>(H8 (l.map iN) (aK ds) dp (Int.ofNat v) (Int.ofNat n) (Int.ofNat (ks i)) (Int.ofNat i) (ts.take i)).aw Tryz.f48.ntmps) n ?_ ?_ (i:=0) (Nat.zero_le _)
   ·intro i hi2;have hti:ts[i]?=some ts[i]:=List.getElem?_eq_getElem (by omega);have hci:=c8 i _ hti;unfold aA at hci;rw[←mJ h0 (by omega)] at hci;refine OO (gq hi2) hci (by rw[List.length_take];omega) ?_;rw[bb (by omega),←dZ hti];exact rfl
   refine U0 (jx (by omega)) ⟨rfl,?_⟩;rw[List.take_of_length_le (by omega)]
  rcases hcase with rfl|rfl|rfl|rfl|rfl|rfl|rfl|rfl|rfl|rfl|rfl|rfl|rfl|rfl
  ·obtain⟨i,k3,b,⟨g1,g2,g3⟩,hc2,hix⟩:=leaf;exact⟨_,k3,od g3 (by omega) g2,yU hc rfl hc2 hix⟩
  ·obtain⟨i,k3,b,⟨g1,g2,g3⟩,hc2,hix⟩:=leaf;exact⟨_,k3,od g3 (by omega) g2,yT hc rfl hc2 hix⟩
  ·exact⟨_,k2,⟨by simp[Ty.size,aS];omega,by simp[Ty.eX,dE,aQ],by simp[Ty.from,lh],hk2,hk3⟩,EZ hc rfl⟩
  ·by_cases hv0:0 < v
   ·obtain⟨i,k3,⟨hi,hk5,hk6,hk7⟩,hc2⟩:=eY (n:=v) (by omega:l.length < 1000000000) hk3 hv0 (by omega);exact⟨_,k3,AB (by omega) (by omega) hk6,BR hc rfl (gq (a:=0) hv0) hc2⟩
   obtain⟨t,k3,ht,hct⟩:=hnam (c:=0) (by omega);exact⟨t,k3,ht,BU hc rfl (jx (a:=0) hv0) hct⟩
  ·by_cases hv0:0 < v
   ·obtain⟨i,k3,⟨hi,hk5,hk6,hk7⟩,hc2⟩:=eY (n:=v) (by omega:l.length < 1000000000) hk3 hv0 (by omega);exact⟨_,k3,AB (by omega) (by omega) hk6,BQ hc rfl (gq (a:=0) hv0) hc2⟩
   obtain⟨t,k3,ht,hct⟩:=hnam (c:=0) (by omega);exact⟨t,k3,ht,BT hc rfl (jx (a:=0) hv0) hct⟩
  ·obtain⟨t,k3,ht,hct⟩:=hnam (c:=0) (by omega);exact⟨t,k3,ht,BS hc rfl hct⟩
  ·obtain⟨t,k3,ht,hct⟩:=hnam (c:=0) (by omega);exact⟨t,k3,ht,Mq hc hd hct⟩
  ·obtain⟨t,k3,ht,hct⟩:=hnam (c:=0) (by omega);exact⟨t,k3,ht,Mp hc hd hct⟩
  ·obtain⟨t,u,k3,k4,g,ht,hu⟩:=hun (by omega);exact⟨_,k4,g,OY hc hd ht hu⟩
  ·obtain⟨t,u,k3,k4,g,ht,hu⟩:=hun (by omega);exact⟨_,k4,g,OX hc hd ht hu⟩
  ·obtain⟨n,k3,ts,k4,hn,g,hlp⟩:=htup (by omega);exact⟨_,k4,g,HW hc hd hn hlp⟩
  ·obtain⟨n,k3,ts,k4,hn,g,hlp⟩:=htup (by omega);exact⟨_,k4,g,HV hc hd hn hlp⟩
  ·have hkk:=hk4 (by omega);obtain⟨i,k3,⟨hi,hk5,hk6,hk7⟩,hc2⟩:=eY (n:=2) (by omega:l.length < 1000000000) hk3 (by omega) (by omega);have hwv:aG .i64 (Int.ofNat v+1)=Int.ofNat (v+1):=bb (by omega);have hwp:aG .i64 (dp - 1)=dp - 1:=mJ h0 (by omega)
   by_cases hi0:i=0
   ·subst hi0;obtain⟨u,k4,hu,hcu⟩:=iht k3 (by omega) hk6 (dp - 1) (v+1) (by omega) (by omega) (by omega);refine⟨_,k4,⟨?_,?_,?_,?_,hu.top⟩,O0 hc hd hc2 (by rw[hwp,hwv];exact hcu)⟩
    ·have:=hu.size;simp only[Ty.size,aS];omega
    ·simp only[Ty.eX,dE];exact⟨by simp[aQ],⟨by simp[aQ],trivial⟩,hu.ix,trivial⟩
    ·simp only[Ty.from,lh];exact⟨fun h=>by simp at h,⟨fun h=>by simp at h,trivial⟩,hu.frm,trivial⟩
    have:=hu.le;omega
   have hi1:i=1:=by omega
   subst hi1;obtain⟨t,k4,ht,hct⟩:=iht k3 (by omega) hk6 1 0 (by omega) (by omega) (by omega);obtain⟨u,k5,hu,hcu⟩:=iht k4 (by have:=ht.le;omega) ht.top (dp - 1) (v+1) (by omega) (by omega) (by omega);refine⟨_,k5,⟨?_,?_,?_,?_,hu.top⟩,OZ hc hd hc2 hct (by rw[hwp,hwv];exact hcu)⟩
   ·have:=ht.size;have:=hu.size;simp only[Ty.size,aS];omega
   ·simp only[Ty.eX,dE];exact⟨by simp[aQ],ht.ix,hu.ix,trivial⟩
   ·simp only[Ty.from,lh];exact⟨fun h=>by simp at h,ht.frm,hu.frm,trivial⟩
   have:=ht.le;have:=hu.le;omega
  have hkk:=hk4 (by omega);obtain⟨i,k3,⟨hi,hk5,hk6,hk7⟩,hc2⟩:=eY (n:=4) (by omega:l.length < 1000000000) hk3 (by omega) (by omega);have gb:GT P l.length Kb k k3:=⟨by simp[Kb,Ty.size,aS];omega,by simp[Kb,Ty.eX,dE,aQ,bn],by simp[Kb,Ty.from,lh];exact hPB,by omega,hk6⟩;have hic:i=0∨i=1∨i=2∨i=3:=by omega
  rcases hic with rfl|rfl|rfl|rfl
  ·exact⟨_,k3,⟨by simp[Ty.size,aS];omega,by simp[Ty.eX,dE,aQ],by simp[Ty.from,lh],by omega,hk6⟩,HX hc hd hc2⟩
  ·exact⟨_,k3,gb,Mu hc hd hc2⟩
  ·exact⟨_,k3,gb,Mt hc hd hc2⟩
  exact⟨_,k3,gb,Ms hc hd hc2⟩
 have hd:=Sb hdp
 by_cases h5:5 < r
 ·obtain⟨i,k3,b,⟨g1,g2,g3⟩,hc2,hix⟩:=leaf;exact⟨_,k3,od g3 (by omega) g2,Mr hc hd (gq (a:=5) h5) hc2 hix⟩
 have hcase:r=0∨r=1∨r=2∨r=3∨r=4∨r=5:=by omega
 rcases hcase with rfl|rfl|rfl|rfl|rfl|rfl
 ·obtain⟨i,k3,b,⟨g1,g2,g3⟩,hc2,hix⟩:=leaf;exact⟨_,k3,od g3 (by omega) g2,yU hc rfl hc2 hix⟩
 ·obtain⟨i,k3,b,⟨g1,g2,g3⟩,hc2,hix⟩:=leaf;exact⟨_,k3,od g3 (by omega) g2,yT hc rfl hc2 hix⟩
 ·exact⟨_,k2,⟨by simp[Ty.size,aS];omega,by simp[Ty.eX,dE,aQ],by simp[Ty.from,lh],hk2,hk3⟩,EZ hc rfl⟩
 ·by_cases hv0:0 < v
  ·obtain⟨i,k3,⟨hi,hk5,hk6,hk7⟩,hc2⟩:=eY (n:=v) (by omega:l.length < 1000000000) hk3 hv0 (by omega);exact⟨_,k3,AB (by omega) (by omega) hk6,BR hc rfl (gq (a:=0) hv0) hc2⟩
  obtain⟨t,k3,ht,hct⟩:=hnam (c:=0) (by omega);exact⟨t,k3,ht,BU hc rfl (jx (a:=0) hv0) hct⟩
 ·by_cases hv0:0 < v
  ·obtain⟨i,k3,⟨hi,hk5,hk6,hk7⟩,hc2⟩:=eY (n:=v) (by omega:l.length < 1000000000) hk3 hv0 (by omega);exact⟨_,k3,AB (by omega) (by omega) hk6,BQ hc rfl (gq (a:=0) hv0) hc2⟩
  obtain⟨t,k3,ht,hct⟩:=hnam (c:=0) (by omega);exact⟨t,k3,ht,BT hc rfl (jx (a:=0) hv0) hct⟩
 obtain⟨t,k3,ht,hct⟩:=hnam (c:=0) (by omega);exact⟨t,k3,ht,BS hc rfl hct⟩
include hPB in
theorem LW:∀(m k:Nat),k<=l.length->l.length - k<=m->
  (∀(dp:Int) (v:Nat),0<=dp->dp<=3->v+dp<=10->GR l P 83 (aA ds dp v) k)/\(∀(dp:Int) (v:Nat),-1<=dp->dp<=3->v+dp<=10->GR l P 65 (aA ds dp v) k)/\(∀(dp:Int) (v:Nat),0<=dp->dp<=3->v+dp<=10->GR l P 48 (aA ds dp v) k):=by
 intro m
 induction m with
 | zero=>
  intro k hk hm;have hn:∀(dp:Int) (v:Nat),0<=dp->dp<=3->v+dp<=10->GR l P 83 (aA ds dp v) k:=fun dp v h0 h3 hv=>Ga hl hds har hP0 hk h0 h3 (fun k' h1 h2=>by omega)
  refine⟨hn,?_,?_⟩
  ·intro dp v h0 h3 hv;refine Uv hl hP0 hk h0 h3 (by omega) (fun hp k' h1 h2=>?_) (fun hp k' h1 h2=>by omega)
   have:k'=k:=by omega
   subst this;exact hn dp v (by omega) h3 hv
  intro dp v h0 h3 hv;exact Kq hl hP0 hPB hk h0 h3 hv (fun k' h1 h2=>by omega) (fun k' h1 h2=>by omega)
 | succ m ih=>
  intro k hk hm;have hn:∀(dp:Int) (v:Nat),0<=dp->dp<=3->v+dp<=10->GR l P 83 (aA ds dp v) k:=fun dp v h0 h3 hv=>Ga hl hds har hP0 hk h0 h3 (fun k' h1 h2=>(ih k' h2 (by omega)).2.1 _ _ (by omega) (by omega) (by omega))
  refine⟨hn,?_,?_⟩
  ·intro dp v h0 h3 hv;refine Uv hl hP0 hk h0 h3 (by omega) (fun hp k' h1 h2=>?_) (fun hp k' h1 h2=>(ih k' h2 (by omega)).2.2 _ _ (by omega) (by omega) (by omega))
   by_cases hkk:k'=k
   ·subst hkk;exact hn dp v (by omega) h3 hv
   exact (ih k' h2 (by omega)).1 _ _ (by omega) h3 hv
  intro dp v h0 h3 hv;exact Kq hl hP0 hPB hk h0 h3 hv (fun k' h1 h2=>(ih k' h2 (by omega)).1 _ _ h0 h3 hv) (fun k' h1 h2 dp v a b c=>(ih k' h2 (by omega)).2.2 _ _ a b c)
end
def iB:List aZ:=[⟨[66,111,120],1,(.mk 0 [] 0 []),false,[]⟩,
 ⟨[67,101,108,108],1,(.mk 2 [66,111,120] 0 [(.mk 5 [] 0 [])]),true,[⟨[105,116,101,109],(.mk 5 [] 0 [])⟩]⟩,
 ⟨[73,110,116,66,111,120],0,(.mk 2 [66,111,120] 0 [(.mk 2 [73,110,116] 0 [])]),true,[⟨[105,116,101,109],(.mk 2 [73,110,116] 0 [])⟩]⟩,
 ⟨[83,104,97,112,101],0,(.mk 0 [] 0 []),false,[]⟩,
 ⟨[68,111,116],0,(.mk 2 [83,104,97,112,101] 0 []),true,[]⟩,
 ⟨[68,105,115,107],0,(.mk 2 [83,104,97,112,101] 0 []),true,[⟨[114,97,100,105,117,115],(.mk 2 [73,110,116] 0 [])⟩]⟩,
 ⟨[80,97,105,114],2,(.mk 0 [] 0 []),true,[⟨[102,105,114,115,116],(.mk 5 [] 0 [])⟩,⟨[115,101,99,111,110,100],(.mk 5 [] 1 [])⟩]⟩,
 ⟨[78,101,115,116],1,(.mk 2 [66,111,120] 0 [(.mk 2 [66,111,120] 0 [(.mk 5 [] 0 [])])]),true,[⟨[105,110,110,101,114],(.mk 2 [66,111,120] 0 [(.mk 5 [] 0 [])])⟩]⟩]
theorem aa1:ag 43 [] (.own (aK iB)):=aM _ _ _ _ _ (by kernel_rfl)
noncomputable def S6:Hints:=⟨an,Lf,ap,rowsOf ap 28⟩
def ml (l:List aq) (ds:List aq) (K n i:Int):ab:=⟨[(6,iv i),(5,iv n),(0,fg),(1,.own ds)],[],fy l K,1⟩
def Lp (b:List UInt8) (ar kk:Int) (tn:List UInt8) (A:ac) (con:Bool) (F:ac):Heap:=[(.loc 7,.cells [.dat (sb b),iv ar,iv kk,.dat (sb tn),iv 0,A,.dat (bl con),F])]
def De (lo:Heap) (l ds:List aq) (K n i j:Int) (pre:List aZ):ab:=⟨[(9,iv j),(8,FR pre),(7,.ptr (.loc 7) 0),(6,iv i),(5,iv n),(0,fg),(1,.own ds)],lo,fy l K,1⟩
def E8 (lo:Heap) (l ds:List aq) (K n i j:Int) (pre:List aZ):ab:=⟨[(35,bv false),(9,iv j),(8,FR pre),(7,.ptr (.loc 7) 0),(6,iv i),(5,iv n),(0,fg),(1,.own ds)],lo,fy l K,1⟩
theorem Tj {b:List UInt8} {ar K n i j:Int} {con:Bool} {l:List aq} {ds pre:List aZ} {t:aZ} (h1:bn j (Int.ofNat (aK ds).length)=true) (hi:aJ (env au.aI) 23 [.dat (.slice (aK ds)),.dat (.flat (.int .i64 j))]=some ⟨.ref t.cells,.keep⟩) (hp:pre.length < 1000000000) {T:Exit->aa->Prop}
  (e1:t.con=true->T .normal ((De (Lp b ar 0 [] (.dat nl) con (.dat nl)) l (aK ds) K n i (aG .i64 (j+1)) pre).aw Tryz.f28.ntmps))
  (e2:t.con=false->T .normal ((De (Lp b ar 0 [] (.dat nl) con (.dat nl)) l (aK ds) K n i (aG .i64 (j+1)) (pre++[t])).aw Tryz.f28.ntmps)) :
  KD (roundOf Tryz.f28 1) T ((De (Lp b ar 0 [] (.dat nl) con (.dat nl)) l (aK ds) K n i j pre).aw Tryz.f28.ntmps):=by
 have h3:=EH (t:=t) hp;clear hp;generalize aK ds=es at *;obtain⟨nm,ar2,⟨kk,tn,ix,la⟩,con2,fl⟩:=t
 rcases pre with _|⟨d,r⟩ <;>
 ·refine aB [35] [40,47,50] (H:=S6) (live:=js) (by kernel_rfl) ?_;refine ob h1 ?_;refine oo hi ?_
  cases con2
  ·refine oo hi ?_;refine oo h3 ?_;exact oe (e2 rfl)
  exact oe (e1 rfl)
theorem XB {b:List UInt8} {ar K n i j:Int} {con:Bool} {l ds:List aq} {pre:List aZ} (h1:bn j (Int.ofNat ds.length)=false) {T:Exit->aa->Prop}
  (e:T (.exit 2) ((E8 (Lp b ar 0 [] (.dat nl) con (.dat nl)) l ds K n i j pre).aw Tryz.f28.ntmps)) :
  KD (roundOf Tryz.f28 1) T ((De (Lp b ar 0 [] (.dat nl) con (.dat nl)) l ds K n i j pre).aw Tryz.f28.ntmps):=by
 rcases pre with _|⟨d,r⟩ <;>
 ·refine aB [35] [] (H:=S6) (live:=js) (by kernel_rfl) ?_;refine ob h1 ?_;exact oe e
def vG (cs:List ac) (b:List UInt8) (ar:Int) (tn:List UInt8) (pre:List Ty) (con:Bool):Heap:=[(.loc 10,.cells cs),(.loc 7,.cells [.dat (sb b),iv ar,iv 2,.dat (sb tn),iv 0,VK pre,.dat (bl con),.dat nl])]
def E4 (lo:Heap) (l ds:List aq) (K n i j:Int):ab:=⟨[(11,iv j),(10,.ptr (.loc 10) 0),(7,.ptr (.loc 7) 0),(6,iv i),(5,iv n),(0,fg),(1,.own ds)],lo,fy l K,1⟩
def E1 (lo:Heap) (l ds:List aq) (K n i j:Int):ab:=⟨[(65,bv false),(11,iv j),(10,.ptr (.loc 10) 0),(7,.ptr (.loc 7) 0),(6,iv i),(5,iv n),(0,fg),(1,.own ds)],lo,fy l K,1⟩
abbrev adm (l ds:List aq) (dp v k:Int) (d:aq) (k2:Int):Prop:=KC 65 [fg,.dat (.slice ds),iv dp,iv v] (fy l k) 1 (XQ ⟨.dat d,fy l k2,1⟩)
theorem PJ {b nm tn tn2:List UInt8} {ar ar2 kk ix K K2 n i j:Int} {con con2:Bool} {l ds la lb:List aq} {pre:List Ty} {t:Ty} (h1:bn j ar2=true) (h2:adm l ds 1 ar K t.enc K2) (hp:pre.length < 1000000000) {T:Exit->aa->Prop}
  (e:T .normal ((E4 (vG (cellsD nm ar2 kk tn2 ix la con2 lb) b ar tn (pre++[t]) con) l ds K2 n i (aG .i64 (j+1))).aw Tryz.f28.ntmps)) :
  KD (roundOf Tryz.f28 2) T ((E4 (vG (cellsD nm ar2 kk tn2 ix la con2 lb) b ar tn pre con) l ds K n i j).aw Tryz.f28.ntmps):=by
 have h3:=Yd (t:=t) hp;clear hp
 rcases pre with _|⟨d,r⟩ <;>
 ·refine aB [65] [77] (H:=S6) (live:=js) (by kernel_rfl) ?_;refine ob h1 ?_;refine oh h2 ?_;obtain⟨v0,v1,v2,v3⟩:=t;refine oo h3 ?_;exact oe e
theorem Vf {b nm tn tn2:List UInt8} {ar ar2 kk ix K n i j:Int} {con con2:Bool} {l ds la lb:List aq} {pre:List Ty} (h1:bn j ar2=false) {T:Exit->aa->Prop}
  (e:T (.exit 4) ((E1 (vG (cellsD nm ar2 kk tn2 ix la con2 lb) b ar tn pre con) l ds K n i j).aw Tryz.f28.ntmps)) :
  KD (roundOf Tryz.f28 2) T ((E4 (vG (cellsD nm ar2 kk tn2 ix la con2 lb) b ar tn pre con) l ds K n i j).aw Tryz.f28.ntmps):=by
 rcases pre with _|⟨d,r⟩ <;>
 ·refine aB [65] [] (H:=S6) (live:=js) (by kernel_rfl) ?_;refine ob h1 ?_;exact oe e
theorem acW {l:List aq} {ds:List aZ} {k k2 k3 k4 n i ar:Int} {b:List UInt8} (h1:bn i n=true) (hS:aJ (env au.aI) 60 [.dat (.slice (encS iT)),.dat (.flat (.int .i64 i))]=some ⟨.ref [sb b],.keep⟩)
  (n1:bR l k 3 ar k2) (n2:bR l k2 2 0 k3) (n3:bR l k3 3 0 k4)
  (hp:ds.length < 1000000000) {T:Exit->aa->Prop} (e:T .normal ((ml l (aK (ds++[⟨b,ar,(.mk 0 [] 0 []),false,[]⟩])) k4 n (aG .i64 (i+1))).aw Tryz.f28.ntmps)) :
  KD (roundOf Tryz.f28 0) T ((ml l (aK ds) k n i).aw Tryz.f28.ntmps):=by
 have h9:=EH (t:=⟨b,ar,(.mk 0 [] 0 []),false,[]⟩) hp;clear hp;refine aB [16] [21,98] (H:=S6) (live:=js) (by kernel_rfl) ?_;refine ob h1 ?_;refine oo hS ?_;refine oh n1 ?_;refine oh n2 ?_;refine oh n3 ?_;refine oo h9 ?_;exact oe e
theorem acV {l:List aq} {ds abs:List aZ} {a ah:aZ} {k k2 k3 k4 k5 k6 n i ar sp ai ej ek:Int} {b:List UInt8} {ts:List Ty} (h1:bn i n=true) (hS:aJ (env au.aI) 60 [.dat (.slice (encS iT)),.dat (.flat (.int .i64 i))]=some ⟨.ref [sb b],.keep⟩)
  (n1:bR l k 3 ar k2) (n2:bR l k2 2 0 k3) (n3:bR l k3 3 sp k4) (hsp:bn 0 sp=true)
  (hl:KD (.loop (roundOf Tryz.f28 1)) (fun e s=>e=.exit 2/\s=(E8 (Lp b ar 0 [] (.dat nl) false (.dat nl)) l (aK ds) k4 n i ej (ah::abs)).aw Tryz.f28.ntmps) ((De (Lp b ar 0 [] (.dat nl) false (.dat nl)) l (aK ds) k4 n i 0 []).aw Tryz.f28.ntmps))
  (n5:bR l k4 (Int.ofNat (aK (ah::abs)).length) ai k5) (hi:aJ (env au.aI) 23 [.dat (.slice (aK (ah::abs))),.dat (.flat (.int .i64 ai))]=some ⟨.ref a.cells,.keep⟩)
  (hl2:KD (.loop (roundOf Tryz.f28 2)) (fun e s=>e=.exit 4/\s=(E1 (vG (cellsD a.nm a.ar a.sup.kind a.sup.nm a.sup.Cz (ax a.sup.args) a.con (aN a.fl)) b ar a.nm ts false) l (aK ds) k6 n i ek).aw Tryz.f28.ntmps) ((E4 (vG (cellsD a.nm a.ar a.sup.kind a.sup.nm a.sup.Cz (ax a.sup.args) a.con (aN a.fl)) b ar a.nm [] false) l (aK ds) k5 n i 0).aw Tryz.f28.ntmps))
  (hp:ds.length < 1000000000) {T:Exit->aa->Prop} (e:T .normal ((ml l (aK (ds++[⟨b,ar,(.mk 2 a.nm 0 ts),false,[]⟩])) k6 n (aG .i64 (i+1))).aw Tryz.f28.ntmps)) :
  KD (roundOf Tryz.f28 0) T ((ml l (aK ds) k n i).aw Tryz.f28.ntmps):=by
 have h9:=EH (t:=⟨b,ar,(.mk 2 a.nm 0 ts),false,[]⟩) hp;clear hp;obtain⟨anm,aar,⟨akk,atn,aix,ala⟩,acon,afl⟩:=a;have q1:=cG 10 anm aar akk atn aix (ax ala) acon (aN afl);dsimp only[Ty.kind,Ty.nm,Ty.Cz,Ty.args] at hi hl2 h9 e
 rcases ts with _|⟨z1,y1⟩ <;>
 ·refine aB [16,31] [21,56,100010,98] (H:=S6) (live:=js) (by kernel_rfl) ?_;refine ob h1 ?_;refine oo hS ?_;refine oh n1 ?_;refine oh n2 ?_;refine oh n3 ?_;refine ob hsp ?_;refine lo hl ?_;rintro ex s ⟨rfl,rfl⟩;refine⟨_,rfl,?_⟩;refine oh n5 ?_;refine oo hi ?_;refine oo q1 ?_;refine lo hl2 ?_;rintro ex s ⟨rfl,rfl⟩;refine⟨_,rfl,?_⟩;refine oo h9 ?_;exact oe e
theorem acU {l:List aq} {ds:List aZ} {k k2 k3 k4 k7 n i ar:Int} {b:List UInt8} (h1:bn i n=true) (hS:aJ (env au.aI) 60 [.dat (.slice (encS iT)),.dat (.flat (.int .i64 i))]=some ⟨.ref [sb b],.keep⟩)
  (n1:bR l k 3 ar k2) (n2:bR l k2 2 1 k3) (n3:bR l k3 3 0 k4) (n6:bR l k4 2 0 k7)
  (hp:ds.length < 1000000000) {T:Exit->aa->Prop} (e:T .normal ((ml l (aK (ds++[⟨b,ar,(.mk 0 [] 0 []),true,[]⟩])) k7 n (aG .i64 (i+1))).aw Tryz.f28.ntmps)) :
  KD (roundOf Tryz.f28 0) T ((ml l (aK ds) k n i).aw Tryz.f28.ntmps):=by
 have h9:=EH (t:=⟨b,ar,(.mk 0 [] 0 []),true,[]⟩) hp;clear hp;refine aB [16] [21,98] (H:=S6) (live:=js) (by kernel_rfl) ?_;refine ob h1 ?_;refine oo hS ?_;refine oh n1 ?_;refine oh n2 ?_;refine oh n3 ?_;refine oh n6 ?_;refine oo h9 ?_;exact oe e
theorem acT {l:List aq} {ds:List aZ} {k k2 k3 k4 k7 k8 n i ar:Int} {b:List UInt8} {t:Ty} (h1:bn i n=true) (hS:aJ (env au.aI) 60 [.dat (.slice (encS iT)),.dat (.flat (.int .i64 i))]=some ⟨.ref [sb b],.keep⟩)
  (n1:bR l k 3 ar k2) (n2:bR l k2 2 1 k3) (n3:bR l k3 3 0 k4) (n6:bR l k4 2 1 k7) (n7:adm l (aK ds) 1 ar k7 t.enc k8)
  (hp:ds.length < 1000000000) {T:Exit->aa->Prop} (e:T .normal ((ml l (aK (ds++[⟨b,ar,(.mk 0 [] 0 []),true,[⟨[112,97,114,116],t⟩]⟩])) k8 n (aG .i64 (i+1))).aw Tryz.f28.ntmps)) :
  KD (roundOf Tryz.f28 0) T ((ml l (aK ds) k n i).aw Tryz.f28.ntmps):=by
 have h9:=EH (t:=⟨b,ar,(.mk 0 [] 0 []),true,[⟨[112,97,114,116],t⟩]⟩) hp;clear hp;obtain⟨ek2,en,ei,ea⟩:=t
 rcases ea with _|⟨z1,y1⟩ <;>
 ·refine aB [16] [21,98] (H:=S6) (live:=js) (by kernel_rfl) ?_;refine ob h1 ?_;refine oo hS ?_;refine oh n1 ?_;refine oh n2 ?_;refine oh n3 ?_;refine oh n6 ?_;refine oh n7 ?_;refine oo h9 ?_;exact oe e
theorem acS {l:List aq} {ds abs:List aZ} {a ah:aZ} {k k2 k3 k4 k5 k6 k7 n i ar sp ai ej ek:Int} {b:List UInt8} {ts:List Ty} (h1:bn i n=true) (hS:aJ (env au.aI) 60 [.dat (.slice (encS iT)),.dat (.flat (.int .i64 i))]=some ⟨.ref [sb b],.keep⟩)
  (n1:bR l k 3 ar k2) (n2:bR l k2 2 1 k3) (n3:bR l k3 3 sp k4) (hsp:bn 0 sp=true)
  (hl:KD (.loop (roundOf Tryz.f28 1)) (fun e s=>e=.exit 2/\s=(E8 (Lp b ar 0 [] (.dat nl) true (.dat nl)) l (aK ds) k4 n i ej (ah::abs)).aw Tryz.f28.ntmps) ((De (Lp b ar 0 [] (.dat nl) true (.dat nl)) l (aK ds) k4 n i 0 []).aw Tryz.f28.ntmps))
  (n5:bR l k4 (Int.ofNat (aK (ah::abs)).length) ai k5) (hi:aJ (env au.aI) 23 [.dat (.slice (aK (ah::abs))),.dat (.flat (.int .i64 ai))]=some ⟨.ref a.cells,.keep⟩)
  (hl2:KD (.loop (roundOf Tryz.f28 2)) (fun e s=>e=.exit 4/\s=(E1 (vG (cellsD a.nm a.ar a.sup.kind a.sup.nm a.sup.Cz (ax a.sup.args) a.con (aN a.fl)) b ar a.nm ts true) l (aK ds) k6 n i ek).aw Tryz.f28.ntmps) ((E4 (vG (cellsD a.nm a.ar a.sup.kind a.sup.nm a.sup.Cz (ax a.sup.args) a.con (aN a.fl)) b ar a.nm [] true) l (aK ds) k5 n i 0).aw Tryz.f28.ntmps)) (n6:bR l k6 2 0 k7)
  (hp:ds.length < 1000000000) {T:Exit->aa->Prop} (e:T .normal ((ml l (aK (ds++[⟨b,ar,(.mk 2 a.nm 0 ts),true,[]⟩])) k7 n (aG .i64 (i+1))).aw Tryz.f28.ntmps)) :
  KD (roundOf Tryz.f28 0) T ((ml l (aK ds) k n i).aw Tryz.f28.ntmps):=by
 have h9:=EH (t:=⟨b,ar,(.mk 2 a.nm 0 ts),true,[]⟩) hp;clear hp;obtain⟨anm,aar,⟨akk,atn,aix,ala⟩,acon,afl⟩:=a;have q1:=cG 10 anm aar akk atn aix (ax ala) acon (aN afl);dsimp only[Ty.kind,Ty.nm,Ty.Cz,Ty.args] at hi hl2 h9 e
 rcases ts with _|⟨z1,y1⟩ <;>
 ·refine aB [16,31] [21,56,100010,98] (H:=S6) (live:=js) (by kernel_rfl) ?_;refine ob h1 ?_;refine oo hS ?_;refine oh n1 ?_;refine oh n2 ?_;refine oh n3 ?_;refine ob hsp ?_;refine lo hl ?_;rintro ex s ⟨rfl,rfl⟩;refine⟨_,rfl,?_⟩;refine oh n5 ?_;refine oo hi ?_;refine oo q1 ?_;refine lo hl2 ?_;rintro ex s ⟨rfl,rfl⟩;refine⟨_,rfl,?_⟩;refine oh n6 ?_;refine oo h9 ?_;exact oe e
theorem acR {l:List aq} {ds abs:List aZ} {a ah:aZ} {k k2 k3 k4 k5 k6 k7 k8 n i ar sp ai ej ek:Int} {b:List UInt8} {ts:List Ty} {t:Ty} (h1:bn i n=true) (hS:aJ (env au.aI) 60 [.dat (.slice (encS iT)),.dat (.flat (.int .i64 i))]=some ⟨.ref [sb b],.keep⟩)
  (n1:bR l k 3 ar k2) (n2:bR l k2 2 1 k3) (n3:bR l k3 3 sp k4) (hsp:bn 0 sp=true)
  (hl:KD (.loop (roundOf Tryz.f28 1)) (fun e s=>e=.exit 2/\s=(E8 (Lp b ar 0 [] (.dat nl) true (.dat nl)) l (aK ds) k4 n i ej (ah::abs)).aw Tryz.f28.ntmps) ((De (Lp b ar 0 [] (.dat nl) true (.dat nl)) l (aK ds) k4 n i 0 []).aw Tryz.f28.ntmps))
  (n5:bR l k4 (Int.ofNat (aK (ah::abs)).length) ai k5) (hi:aJ (env au.aI) 23 [.dat (.slice (aK (ah::abs))),.dat (.flat (.int .i64 ai))]=some ⟨.ref a.cells,.keep⟩)
  (hl2:KD (.loop (roundOf Tryz.f28 2)) (fun e s=>e=.exit 4/\s=(E1 (vG (cellsD a.nm a.ar a.sup.kind a.sup.nm a.sup.Cz (ax a.sup.args) a.con (aN a.fl)) b ar a.nm ts true) l (aK ds) k6 n i ek).aw Tryz.f28.ntmps) ((E4 (vG (cellsD a.nm a.ar a.sup.kind a.sup.nm a.sup.Cz (ax a.sup.args) a.con (aN a.fl)) b ar a.nm [] true) l (aK ds) k5 n i 0).aw Tryz.f28.ntmps)) (n6:bR l k6 2 1 k7) (n7:adm l (aK ds) 1 ar k7 t.enc k8)
  (hp:ds.length < 1000000000) {T:Exit->aa->Prop} (e:T .normal ((ml l (aK (ds++[⟨b,ar,(.mk 2 a.nm 0 ts),true,[⟨[112,97,114,116],t⟩]⟩])) k8 n (aG .i64 (i+1))).aw Tryz.f28.ntmps)) :
  KD (roundOf Tryz.f28 0) T ((ml l (aK ds) k n i).aw Tryz.f28.ntmps):=by
 have h9:=EH (t:=⟨b,ar,(.mk 2 a.nm 0 ts),true,[⟨[112,97,114,116],t⟩]⟩) hp;clear hp;obtain⟨ek2,en,ei,ea⟩:=t;obtain⟨anm,aar,⟨akk,atn,aix,ala⟩,acon,afl⟩:=a;have q1:=cG 10 anm aar akk atn aix (ax ala) acon (aN afl);dsimp only[Ty.kind,Ty.nm,Ty.Cz,Ty.args] at hi hl2 h9 e
 rcases ts with _|⟨z2,y2⟩ <;>
 ·rcases ea with _|⟨z1,y1⟩ <;>
  ·refine aB [16,31] [21,56,100010,98] (H:=S6) (live:=js) (by kernel_rfl) ?_;refine ob h1 ?_;refine oo hS ?_;refine oh n1 ?_;refine oh n2 ?_;refine oh n3 ?_;refine ob hsp ?_;refine lo hl ?_;rintro ex s ⟨rfl,rfl⟩;refine⟨_,rfl,?_⟩;refine oh n5 ?_;refine oo hi ?_;refine oo q1 ?_;refine lo hl2 ?_;rintro ex s ⟨rfl,rfl⟩;refine⟨_,rfl,?_⟩;refine oh n6 ?_;refine oh n7 ?_;refine oo h9 ?_;exact oe e
theorem T5 {α:Type} {n:Nat} {Inv:Nat->α->Prop} {R:Nat->α->α->Prop} (a0:α) (h0:Inv 0 a0) (h:∀i a,i < n->Inv i a->∃b,R i a b/\Inv (i+1) b) :
  ∃f:Nat->α,f 0=a0/\(∀i,i<=n->Inv i (f i))/\∀i,i < n->R i (f i) (f (i+1)):=by
 induction n with
 | zero=>
  refine⟨fun _=>a0,rfl,?_,fun i hi=>absurd hi (Nat.not_lt_zero i)⟩;intro i hi
  have:i=0:=by omega
  subst this;exact h0
 | succ n ih=>
  obtain⟨f,h1,h2,h3⟩:=ih (fun i a hi=>h i a (by omega));obtain⟨b,hb,hi⟩:=h n (f n) (by omega) (h2 n (Nat.le_refl _));refine⟨fun i=>if i<=n then f i else b,by simp[h1],?_,?_⟩
  ·intro i hin;dsimp only
   by_cases hi2:i<=n
   ·rw[if_pos hi2];exact h2 i hi2
   obtain rfl:i=n+1:=by omega
   rw[if_neg hi2];exact hi
  intro i hin;dsimp only
  by_cases hi2:i < n
  ·rw[if_pos (by omega:i<=n),if_pos (by omega:i+1<=n)];exact h3 i hi2
  obtain rfl:i=n:=by omega
  rw[if_pos (Nat.le_refl _),if_neg (by omega:¬i+1<=i)];exact hb
def JE:List (List UInt8):=iB.map aZ.nm++iT
structure DOk (d:aZ):Prop where
 cX:d.cX
 ar:∃n:Nat,d.ar=Int.ofNat n/\n<=2
 nm:d.nm∈JE
 flen:d.fl.length<=2
structure GD (ds:List aZ):Prop where
 len:ds.length<=900
 each:∀d∈ds,DOk d
 abs:∃d∈ds,d.con=false
theorem GV {ds:List aZ} {j:Nat} {t:aZ} (h:ds[j]?=some t):(ds.take (j+1)).filter (fun d=>!d.con)=(ds.take j).filter (fun d=>!d.con)++(if t.con then [] else [t]):=by
 rw[dZ h,List.filter_append]
 cases hc:t.con <;> simp[hc]
theorem lY {l:List aZ} {i:Nat} (h:i < (aK l).length):∃t,l[i]?=some t/\t∈l:=by
 rw[bi] at h;exact⟨l[i],List.getElem?_eq_getElem h,List.getElem_mem h⟩
theorem XA {b:List UInt8} {ar K n i:Int} {con:Bool} {l:List aq} {ds:List aZ} (hb:ds.length < 1000000) :
  KD (.loop (roundOf Tryz.f28 1)) (fun e s=>e=.exit 2/\s=(E8 (Lp b ar 0 [] (.dat nl) con (.dat nl)) l (aK ds) K n i (Int.ofNat ds.length) (ds.filter (fun d=>!d.con))).aw Tryz.f28.ntmps)
   ((De (Lp b ar 0 [] (.dat nl) con (.dat nl)) l (aK ds) K n i 0 []).aw Tryz.f28.ntmps):=by
 refine ba (St:=fun j=>(De (Lp b ar 0 [] (.dat nl) con (.dat nl)) l (aK ds) K n i (Int.ofNat j) ((ds.take j).filter (fun d=>!d.con))).aw Tryz.f28.ntmps) (aK ds).length ?_ ?_ (i:=0) (Nat.zero_le _)
 ·intro j hj;obtain⟨t,ht,hm⟩:=lY hj;have hw:aG .i64 (Int.ofNat j+1)=Int.ofNat (j+1):=bb (by rw[bi] at hj;omega);have hft:=GV ht;refine Tj (gq hj) (uh ht) (by have:=List.length_filter_le (fun d:aZ=>!d.con) (ds.take j);rw[List.length_take] at this;omega) ?_ ?_
  ·intro hc;rw[hw];rw[hc] at hft;simp only[if_true,List.append_nil] at hft;rw[←hft];exact rfl
  intro hc;rw[hw];rw[hc] at hft;simp only[if_false,Bool.false_eq_true] at hft;rw[←hft];exact rfl
 refine XB (jx (by omega)) ⟨rfl,?_⟩;rw[bi,List.take_length]
section
variable {l:List Int} {ds:List aZ} (hl:l.length < 10000000) (hd:GD ds)
include hl hd
theorem D7 {k:Nat} (hk:k<=l.length) {v:Nat} (hv:v<=2):GR l (fun _ _=>True) 65 (aA ds 1 v) k:=
 (LW (P:=fun _ _=>True) hl (by have:=hd.len;omega) (fun d hm=>by obtain⟨n,h1,h2⟩:=(hd.each d hm).ar;exact⟨n,h1,by omega,trivial⟩) (fun _ _=>trivial) trivial (l.length - k) k hk (Nat.le_refl _)).2.1 1 v (by omega) (by omega) (by omega)
omit hd in
theorem AE {t:Ty} {k k2:Nat} (h:GT (fun _ _=>True) l.length t k k2):t.cX:=⟨by have:=h.size;have:=h.top;omega,h.ix⟩
theorem JT {n i k:Nat} (hk:k<=l.length) (hi:i < n) (hn:n<=4):∃d k2,DOk d/\k2<=l.length/\∀T:Exit->aa->Prop,T .normal ((ml (l.map iN) (aK (ds++[d])) (Int.ofNat k2) (Int.ofNat n) (Int.ofNat (i+1))).aw Tryz.f28.ntmps)->
  KD (roundOf Tryz.f28 0) T ((ml (l.map iN) (aK ds) (Int.ofNat k) (Int.ofNat n) (Int.ofNat i)).aw Tryz.f28.ntmps):=by
 have hb:l.length < 1000000000:=by omega
 have hw:aG .i64 (Int.ofNat i+1)=Int.ofNat (i+1):=bb (by omega);rw[←hw];obtain⟨b,hbx,hS⟩:∃b,b∈iT/\aJ (env au.aI) _ [.dat (.slice (encS iT)),.dat (.flat (.int .i64 (Int.ofNat i)))]=some ⟨.ref [sb b],.keep⟩:=by
  have h4:i < iT.length:=by show i < 4;omega
  exact⟨iT[i],List.getElem_mem h4,aaT (List.getElem?_eq_getElem h4)⟩
 have hbn:b∈JE:=List.mem_append_right _ hbx;have h1:=gq hi;have hp:ds.length < 1000000000:=by have:=hd.len;omega
 obtain⟨ar,k2,⟨a1,a2,a3,_⟩,n1⟩:=eY (n:=3) hb hk (by omega) (by omega);obtain⟨cc,k3,⟨b1,b2,b3,_⟩,n2⟩:=eY (n:=2) hb a3 (by omega) (by omega);obtain⟨sp,k4,⟨c1,c2,c3,_⟩,n3⟩:=eY (n:=3) hb b3 (by omega) (by omega);have hcc:cc=0∨cc=1:=by omega
 have har:∃n:Nat,Int.ofNat ar=Int.ofNat n/\n<=2:=⟨ar,rfl,by omega⟩;have anyF:Ty.cX (.mk 0 [] 0 []):=⟨by simp[Ty.size,aS],by simp[Ty.eX,dE,aQ]⟩
 by_cases hsp:sp=0
 ·subst hsp
  rcases hcc with rfl|rfl
  ·exact⟨_,k4,⟨⟨anyF,by simp,by simp⟩,har,hbn,by simp⟩,c3,fun T e=>acW h1 hS n1 n2 n3 hp e⟩
  obtain⟨fb,k7,⟨f1,f2,f3,_⟩,n6⟩:=eY (n:=2) hb c3 (by omega) (by omega);have hfb:fb=0∨fb=1:=by omega
  rcases hfb with rfl|rfl
  ·exact⟨_,k7,⟨⟨anyF,by simp,by simp⟩,har,hbn,by simp⟩,f3,fun T e=>acU h1 hS n1 n2 n3 n6 hp e⟩
  obtain⟨t,k8,ht,n7⟩:=D7 hl hd f3 (v:=ar) (by omega);have tf:=AE hl ht;exact⟨_,k8,⟨⟨anyF,by intro f hf;rw[List.mem_singleton.1 hf];exact tf,by simp⟩,har,hbn,by simp⟩,ht.top,fun T e=>acT h1 hS n1 n2 n3 n6 n7 hp e⟩
 have hsp2:bn 0 (Int.ofNat sp)=true:=gq (a:=0) (by omega);have hfl:=fun con=>XA (b:=b) (ar:=Int.ofNat ar) (K:=Int.ofNat k4) (n:=Int.ofNat n) (i:=Int.ofNat i) (con:=con) (l:=l.map iN) (ds:=ds) (by have:=hd.len;omega)
 obtain⟨d0,hd0,hc0⟩:=hd.abs;have hmem:∀x∈ds.filter (fun d=>!d.con),x∈ds:=fun x hx=>(List.mem_filter.1 hx).1
 have hne:d0∈ds.filter (fun d=>!d.con):=List.mem_filter.2 ⟨hd0,by simp[hc0]⟩;have hle:=List.length_filter_le (fun d:aZ=>!d.con) ds
 cases hab:ds.filter (fun d=>!d.con) with
 | nil=>rw[hab] at hne;simp at hne
 | cons ah abs=>
  rw[hab] at hmem hle hfl;obtain⟨ai,k5,⟨d1,d2,d3,_⟩,n5⟩:=eY (n:=(aK (ah::abs)).length) hb c3 (by simp[aK]) (by rw[bi];have:=hd.len;omega);obtain⟨a,ha,ham⟩:=lY d1;have hi:=uh ha;obtain⟨m,hm1,hm2⟩:=(hd.each a (hmem a ham)).ar;have hanm:=(hd.each a (hmem a ham)).nm;obtain⟨ts,ks,e1,e2,e3,e4,e5,e6,e7,e8⟩:=Ev (g:=65) (args:=aA ds 1 ar) (P:=fun _ _=>True) d3 (fun k' hk' hkl=>D7 hl hd hkl (by omega)) m;have supF:Ty.cX (.mk 2 a.nm 0 ts):=⟨by simp only[Ty.size];omega,by simp only[Ty.eX];exact⟨by simp[aQ],e6⟩⟩;have hl2:∀con:Bool,KD (.loop (roundOf Tryz.f28 2)) (fun e s=>e=.exit 4/\s=(E1 (vG (cellsD a.nm a.ar a.sup.kind a.sup.nm a.sup.Cz (ax a.sup.args) a.con (aN a.fl)) b (Int.ofNat ar) a.nm ts con) (l.map iN) (aK ds) (Int.ofNat (ks m)) (Int.ofNat n) (Int.ofNat i) (Int.ofNat m)).aw Tryz.f28.ntmps)
    ((E4 (vG (cellsD a.nm a.ar a.sup.kind a.sup.nm a.sup.Cz (ax a.sup.args) a.con (aN a.fl)) b (Int.ofNat ar) a.nm [] con) (l.map iN) (aK ds) (Int.ofNat k5) (Int.ofNat n) (Int.ofNat i) 0).aw Tryz.f28.ntmps):=by
   intro con;rw[←e2];refine ba (St:=fun j=>(E4 (vG (cellsD a.nm a.ar a.sup.kind a.sup.nm a.sup.Cz (ax a.sup.args) a.con (aN a.fl)) b (Int.ofNat ar) a.nm (ts.take j) con) (l.map iN) (aK ds) (Int.ofNat (ks j)) (Int.ofNat n) (Int.ofNat i) (Int.ofNat j)).aw Tryz.f28.ntmps) m ?_ ?_ (i:=0) (Nat.zero_le _)
   ·intro j hj;have hti:ts[j]?=some ts[j]:=List.getElem?_eq_getElem (by omega);refine PJ (by rw[hm1];exact gq hj) (e8 j _ hti) (by rw[List.length_take];omega) ?_;rw[bb (by omega),←dZ hti];exact rfl
   refine Vf (by rw[hm1];exact jx (by omega)) ⟨rfl,?_⟩;rw[List.take_of_length_le (by omega)]
  rcases hcc with rfl|rfl
  ·exact⟨_,ks m,⟨⟨supF,by simp,by simp⟩,har,hbn,by simp⟩,e4,fun T e=>acV h1 hS n1 n2 n3 hsp2 (hfl false) n5 hi (hl2 false) hp e⟩
  obtain⟨fb,k7,⟨f1,f2,f3,_⟩,n6⟩:=eY (n:=2) hb e4 (by omega) (by omega);have hfb:fb=0∨fb=1:=by omega
  rcases hfb with rfl|rfl
  ·exact⟨_,k7,⟨⟨supF,by simp,by simp⟩,har,hbn,by simp⟩,f3,fun T e=>acS h1 hS n1 n2 n3 hsp2 (hfl true) n5 hi (hl2 true) n6 hp e⟩
  obtain⟨t,k8,ht,n7⟩:=D7 hl hd f3 (v:=ar) (by omega);have tf:=AE hl ht;exact⟨_,k8,⟨⟨supF,by intro f hf;rw[List.mem_singleton.1 hf];exact tf,by simp⟩,har,hbn,by simp⟩,ht.top,fun T e=>acR h1 hS n1 n2 n3 hsp2 (hfl true) n5 hi (hl2 true) n6 n7 hp e⟩
end
def YC (l:List aq) (ds:List aq) (K n i:Int):ab:=⟨[(16,bv false),(6,iv i),(5,iv n),(0,fg),(1,.own ds)],[],fy l K,1⟩
theorem XF {l ds:List aq} {k n i:Int} (h1:bn i n=false) {T:Exit->aa->Prop} (e:T (.exit 0) ((YC l ds k n i).aw Tryz.f28.ntmps)) :
  KD (roundOf Tryz.f28 0) T ((ml l ds k n i).aw Tryz.f28.ntmps):=by
 refine aB [16] [] (H:=S6) (live:=js) (by kernel_rfl) ?_;refine ob h1 ?_;exact oe e
theorem Ts {l ds ds2:List aq} {k k2 k3 n:Int} (h1:bR l k 5 n k2) (hl:KD (.loop (roundOf Tryz.f28 0)) (fun e s=>e=.exit 0/\s=(YC l ds2 k3 n n).aw Tryz.f28.ntmps) ((ml l ds k2 n 0).aw Tryz.f28.ntmps)) :
  KC 28 [fg,.own ds] (fy l k) 1 (XQ ⟨.own ds2,fy l k3,1⟩):=by
 refine co [] [] (x:=.of Tryz.f28 Lf js) ?_;refine oh h1 ?_;refine lo hl ?_;rintro ex s ⟨rfl,rfl⟩;refine⟨_,rfl,?_⟩;exact fi
theorem GD.add {ds:List aZ} {d:aZ} (h:GD ds) (hd:DOk d) (hn:ds.length < 900):GD (ds++[d]) where
 len:=by simp;omega
 each:=by
  intro x hx
  rcases List.mem_append.1 hx with hx|hx
  ·exact h.each x hx
  rw[List.mem_singleton.1 hx];exact hd
 abs:=by
  obtain⟨d,h1,h2⟩:=h.abs;exact⟨d,List.mem_append_left _ h1,h2⟩
theorem LZ {l:List Int} {ds:List aZ} (hl:l.length < 10000000) (hd:GD ds) (hn:ds.length<=800) {k:Nat} (hk:k<=l.length) :
  ∃(m:List aZ) (k2:Nat),GD (ds++m)/\m.length<=4/\k2<=l.length/\KC 28 [fg,.own (aK ds)] (fy (l.map iN) (Int.ofNat k)) 1 (XQ ⟨.own (aK (ds++m)),fy (l.map iN) (Int.ofNat k2),1⟩):=by
 obtain⟨n,k2,⟨h1,h2,h3,_⟩,hc⟩:=eY (n:=5) (by omega:l.length < 1000000000) hk (by omega) (by omega);obtain⟨f,f0,fI,fR⟩:=T5 (α:=List aZ×Nat) (n:=n) (Inv:=fun i a=>GD (ds++a.1)/\a.1.length=i/\a.2<=l.length)
  (R:=fun i a b=>∀T:Exit->aa->Prop,T .normal ((ml (l.map iN) (aK (ds++b.1)) (Int.ofNat b.2) (Int.ofNat n) (Int.ofNat (i+1))).aw Tryz.f28.ntmps)->
   KD (roundOf Tryz.f28 0) T ((ml (l.map iN) (aK (ds++a.1)) (Int.ofNat a.2) (Int.ofNat n) (Int.ofNat i)).aw Tryz.f28.ntmps))
  ([],k2) ⟨by rw[List.append_nil];exact hd,rfl,h3⟩ (by
   rintro i ⟨m,kk⟩ hi ⟨g1,g2,g3⟩;obtain⟨d,k3,hd3,hk3,hR⟩:=JT hl g1 g3 hi (by omega);refine⟨(m++[d],k3),?_,?_,by simp at g2 ⊢;omega,hk3⟩
   ·intro T hT;rw[←List.append_assoc] at hT;exact hR T hT
   rw[←List.append_assoc];refine g1.add hd3 ?_;simp at g2 ⊢;omega)
 obtain⟨g1,g2,g3⟩:=fI n (Nat.le_refl _);refine⟨(f n).1,(f n).2,g1,by omega,g3,Ts hc ?_⟩;have e:ml (l.map iN) (aK ds) (Int.ofNat k2) (Int.ofNat n) 0=ml (l.map iN) (aK (ds++(f 0).1)) (Int.ofNat (f 0).2) (Int.ofNat n) (Int.ofNat 0):=by rw[f0];simp
 rw[e];refine ba (St:=fun i=>(ml (l.map iN) (aK (ds++(f i).1)) (Int.ofNat (f i).2) (Int.ofNat n) (Int.ofNat i)).aw Tryz.f28.ntmps) n ?_ ?_ (i:=0) (Nat.zero_le _)
 ·intro i hi;exact fR i hi _ rfl
 exact XF (jx (by omega)) ⟨rfl,rfl⟩
theorem Us:GD iB where
 len:=by decide
 each:=by
  have key:∀d∈iB,(d.sup.size < 100000000/\d.sup.eX)/\(∀f∈d.fl,f.ty.size < 100000000/\f.ty.eX)/\d.fl.length<=2/\(∃n:Nat,d.ar=Int.ofNat n/\n<=2):=by
   intro d hd;simp only[iB,List.mem_cons,List.mem_nil_iff,or_false] at hd
   rcases hd with rfl|rfl|rfl|rfl|rfl|rfl|rfl|rfl <;>
    simp[Ty.size,aS,Ty.eX,dE,aQ,bn]
   all_goals first|exact⟨0,rfl,by omega⟩|exact⟨1,rfl,by omega⟩|exact⟨2,rfl,by omega⟩
  intro d hd;obtain⟨h1,h2,h3,h4⟩:=key d hd;exact⟨⟨h1,h2,by omega⟩,h4,List.mem_append_left _ (List.mem_map_of_mem hd),h3⟩
 abs:=⟨_,List.mem_cons_self,rfl⟩
theorem TM {l ds ds2:List aq} {k:Int} (h1:ag 43 [] (.own ds)) (h2:KC 15 [.dat (.slice l)] [] 0 (XQ ⟨fg,fy l 0,1⟩)) (h3:KC 28 [fg,.own ds] (fy l 0) 1 (XQ ⟨.own ds2,fy l k,1⟩)) :
  ag 9 [.dat (.slice l)] (.own ds2):=by
 refine co [] [] (x:=.of Tryz.f9 aav Y4) ?_;refine oh h2 ?_;refine on h1 ?_;refine oh h3 ?_;exact fi
theorem Xs {l:List Int} (hl:l.length < 10000000):∃m:List aZ,GD (iB++m)/\m.length<=4/\ag 9 [.dat (.slice (l.map iN))] (.own (aK (iB++m))):=by
 obtain⟨m,k2,h1,h2,h3,h4⟩:=LZ hl Us (by decide) (Nat.zero_le _);exact⟨m,h1,h2,TM aa1 Tc h4⟩
theorem VP {l ds:List aq} {k k2 v:Int} {t:Ty} (h:dU l ds 3 v k t.enc k2):KC 14 [fg,.dat (.slice ds),iv v] (fy l k) 1 (XQ ⟨.dat t.enc,fy l k2,1⟩):=by
 obtain⟨ek2,en,ei,ea⟩:=t
 rcases ea with _|⟨x,ea⟩ <;>
 ·refine co [] [] (x:=.of Tryz.f14 RI SN) ?_;refine oh h ?_;exact fi
def fX (j:Nat) (k:Int) (nm:List UInt8) (ix:Int) (a:aq):Heap:=[(.loc j,.cells [iv k,.dat (sb nm),iv ix,.dat a])]
def xM (lo:Heap) (i n:Int):ab:=⟨[(4,iv i),(3,iv n),(1,.ptr (.loc 1) 0)],lo,[],0⟩
def BZ (lo:Heap) (i n:Int):ab:=⟨[(9,bv false),(4,iv i),(3,iv n),(1,.ptr (.loc 1) 0)],lo,[],0⟩
theorem lG {l:List Ty} {i:Nat} (h:i < (ax l).length):sl (ax l)=.slice (ax l):=by cases l with|nil=>simp[ax] at h|cons x r=>rfl
noncomputable def hRS:Hints:=⟨an,Dw,ap,rowsOf ap 175⟩
theorem PO {k:Int} {nm:List UInt8} {ix n m:Int} {l:List Ty} {t:Ty} {i:Nat} (hi:i < (ax l).length) (ht:l[i]?=some t) (hc:ag 175 [.dat t.enc] (iv m)) {T:Exit->aa->Prop}
  (e:T .normal ((xM (fX 1 k nm ix (.slice (ax l))) (aG .i64 (Int.ofNat i+1)) (aG .i64 (n+m))).aw Tryz.f175.ntmps)) :
  KD (roundOf Tryz.f175 0) T ((xM (fX 1 k nm ix (.slice (ax l))) (Int.ofNat i) n).aw Tryz.f175.ntmps):=by
 have h1:=bd hi;have h2:=jU ht;generalize ax l=es at *;clear ht hi;obtain⟨k2,nm2,ix2,a2⟩:=t
 rcases a2 with _|⟨b,d⟩ <;>
 ·refine aB [9] [16] (H:=hRS) (live:=tT) (by kernel_rfl) ?_;refine ob h1 ?_;refine oo h2 ?_;refine on hc ?_;exact oe e
theorem Vh {k:Int} {nm:List UInt8} {ix n:Int} {l:List aq} {T:Exit->aa->Prop} (e:T (.exit 0) ((BZ (fX 1 k nm ix (sl l)) (Int.ofNat l.length) n).aw Tryz.f175.ntmps)) :
  KD (roundOf Tryz.f175 0) T ((xM (fX 1 k nm ix (sl l)) (Int.ofNat l.length) n).aw Tryz.f175.ntmps):=by
 have h1:=br (i:=l.length) (L:=l.length) (by omega)
 rcases l with _|⟨x,l⟩
 ·refine aB [] [] (H:=hRS) (live:=tT) (by kernel_rfl) ?_;exact oe e
 refine aB [9] [] (H:=hRS) (live:=tT) (by kernel_rfl) ?_;refine ob h1 ?_;exact oe e
theorem aad {k:Int} {nm:List UInt8} {ix n:Int} {l:List aq} (hl:KD (.loop (roundOf Tryz.f175 0)) (fun e s=>e=.exit 0/\s=(BZ (fX 1 k nm ix (sl l)) (Int.ofNat l.length) n).aw Tryz.f175.ntmps) ((xM (fX 1 k nm ix (sl l)) (Int.ofNat 0) 1).aw Tryz.f175.ntmps)) :
  ag 175 [.dat (.agg [i64 k,sb nm,i64 ix,sl l])] (iv n):=by
 rcases l with _|⟨x,l⟩ <;>
 ·refine co [] [] (x:=.of Tryz.f175 Dw tT) ?_;refine lo hl ?_;rintro ex s ⟨rfl,rfl⟩;refine⟨_,rfl,?_⟩;exact fi
mutual
theorem Qa:∀t:Ty,t.size < 1000000000->ag 175 [.dat t.enc] (iv (Int.ofNat t.size))
 | .mk k nm ix l,h=>by
  simp only[Ty.size] at h;have ih:=KL l (by omega);have hlen:=eh l;refine aad ?_;rw[show Int.ofNat (Ty.mk k nm ix l).size=Int.ofNat (1+aS l) by simp only[Ty.size];rw[Nat.add_comm]];refine ba (St:=fun i=>(xM (fX 1 k nm ix (sl (ax l))) (Int.ofNat i) (Int.ofNat (1+aS (l.take i)))).aw Tryz.f175.ntmps) (ax l).length ?_ ?_ (i:=0) (Nat.zero_le _)
  ·intro i hi;obtain⟨t,ht,hm⟩:=get_mem hi;have hs:=ij ht;have hle:=mM (l:=l) (i+1);have hsl:=lG hi;have e:=PO (k:=k) (nm:=nm) (ix:=ix) (n:=Int.ofNat (1+aS (l.take i))) hi ht (ih t hm) (T:=iY (fun s=>s=(xM (fX 1 k nm ix (sl (ax l))) (Int.ofNat (i+1)) (Int.ofNat (1+aS (l.take (i+1))))).aw Tryz.f175.ntmps) (fun e s=>e=.exit 0/\s=(BZ (fX 1 k nm ix (sl (ax l))) (Int.ofNat (ax l).length) (Int.ofNat (1+aS l))).aw Tryz.f175.ntmps)) (by
    rw[aE] at hi;rw[bb (by omega),wrap_add (by omega),hs,hsl,Nat.add_assoc];rfl)
   rw[hsl] at e ⊢;exact e
  refine Vh ⟨rfl,?_⟩;rw[aE,List.take_length]
theorem KL:∀l:List Ty,aS l < 1000000000->∀t∈l,ag 175 [.dat t.enc] (iv (Int.ofNat t.size))
 | [],_,t,ht=>by simp at ht
 | u::r,h,t,ht=>by
  simp only[aS] at h
  rcases List.mem_cons.1 ht with h1|ht
  ·rw[h1];exact Qa u (by omega)
  exact KL r (by omega) t ht
end
noncomputable def hRD:Hints:=⟨an,Dv,ap,rowsOf ap 176⟩
theorem P1 {k:Int} {nm:List UInt8} {ix:Int} {n m:Nat} {l:List Ty} {t:Ty} {i:Nat} (hi:i < (ax l).length) (ht:l[i]?=some t) (hc:ag 176 [.dat t.enc] (iv (Int.ofNat m))) {T:Exit->aa->Prop}
  (e:T .normal ((xM (fX 1 k nm ix (.slice (ax l))) (aG .i64 (Int.ofNat i+1)) (match bn (Int.ofNat n) (Int.ofNat m) with|true=>Int.ofNat m|false=>Int.ofNat n)).aw Tryz.f176.ntmps)) :
  KD (roundOf Tryz.f176 0) T ((xM (fX 1 k nm ix (.slice (ax l))) (Int.ofNat i) (Int.ofNat n)).aw Tryz.f176.ntmps):=by
 have h1:=bd hi;have h2:=jU ht;generalize ax l=es at *;clear ht hi;obtain⟨k2,nm2,ix2,a2⟩:=t
 rcases a2 with _|⟨b,d⟩ <;>
 ·refine aB [9] [16] (H:=hRD) (live:=tS) (by kernel_rfl) ?_;refine ob h1 ?_;refine oo h2 ?_;refine on hc ?_;exact oe e
theorem Vu {k:Int} {nm:List UInt8} {ix n:Int} {l:List aq} {T:Exit->aa->Prop} (e:T (.exit 0) ((BZ (fX 1 k nm ix (sl l)) (Int.ofNat l.length) n).aw Tryz.f176.ntmps)) :
  KD (roundOf Tryz.f176 0) T ((xM (fX 1 k nm ix (sl l)) (Int.ofNat l.length) n).aw Tryz.f176.ntmps):=by
 have h1:=br (i:=l.length) (L:=l.length) (by omega)
 rcases l with _|⟨x,l⟩
 ·refine aB [] [] (H:=hRD) (live:=tS) (by kernel_rfl) ?_;exact oe e
 refine aB [9] [] (H:=hRD) (live:=tS) (by kernel_rfl) ?_;refine ob h1 ?_;exact oe e
theorem aaj {k:Int} {nm:List UInt8} {ix n:Int} {l:List aq} (hl:KD (.loop (roundOf Tryz.f176 0)) (fun e s=>e=.exit 0/\s=(BZ (fX 1 k nm ix (sl l)) (Int.ofNat l.length) n).aw Tryz.f176.ntmps) ((xM (fX 1 k nm ix (sl l)) (Int.ofNat 0) 0).aw Tryz.f176.ntmps)) :
  ag 176 [.dat (.agg [i64 k,sb nm,i64 ix,sl l])] (iv (aG .i64 (n+1))):=by
 rcases l with _|⟨x,l⟩ <;>
 ·refine co [] [] (x:=.of Tryz.f176 Dv tS) ?_;refine lo hl ?_;rintro ex s ⟨rfl,rfl⟩;refine⟨_,rfl,?_⟩;exact fi
mutual
theorem KQ:∀t:Ty,t.size < 1000000000->ag 176 [.dat t.enc] (iv (Int.ofNat t.depth))
 | .mk k nm ix l,h=>by
  simp only[Ty.size] at h;have ih:=FC l (by omega);have hlen:=eh l;have hdl:=jZ l;rw[show Int.ofNat (Ty.mk k nm ix l).depth=aG .i64 (Int.ofNat (cK l)+1) by rw[bb (by omega)];rfl];refine aaj ?_;refine ba (St:=fun i=>(xM (fX 1 k nm ix (sl (ax l))) (Int.ofNat i) (Int.ofNat (cK (l.take i)))).aw Tryz.f176.ntmps) (ax l).length ?_ ?_ (i:=0) (Nat.zero_le _)
  ·intro i hi;obtain⟨t,ht,hm⟩:=get_mem hi;have hs:=xt ht;have hsl:=lG hi;have e:=P1 (k:=k) (nm:=nm) (ix:=ix) (n:=cK (l.take i)) hi ht (ih t hm) (T:=iY (fun s=>s=(xM (fX 1 k nm ix (sl (ax l))) (Int.ofNat (i+1)) (Int.ofNat (cK (l.take (i+1))))).aw Tryz.f176.ntmps) (fun e s=>e=.exit 0/\s=(BZ (fX 1 k nm ix (sl (ax l))) (Int.ofNat (ax l).length) (Int.ofNat (cK l))).aw Tryz.f176.ntmps)) (by
    rw[aE] at hi;rw[bb (by omega),hs,hsl];have e2:(match bn (Int.ofNat (cK (l.take i))) (Int.ofNat t.depth) with|true=>Int.ofNat t.depth|false=>Int.ofNat (cK (l.take i)))=Int.ofNat (max (cK (l.take i)) t.depth):=by
     rw[iM]
     by_cases hlt:cK (l.take i) < t.depth
     ·rw[decide_eq_true hlt,Nat.max_eq_right (by omega)]
     rw[decide_eq_false hlt,Nat.max_eq_left (by omega)]
    rw[e2];rfl)
   rw[hsl] at e ⊢;exact e
  refine Vu ⟨rfl,?_⟩;rw[aE,List.take_length]
theorem FC:∀l:List Ty,aS l < 1000000000->∀t∈l,ag 176 [.dat t.enc] (iv (Int.ofNat t.depth))
 | [],_,t,ht=>by simp at ht
 | u::r,h,t,ht=>by
  simp only[aS] at h
  rcases List.mem_cons.1 ht with h1|ht
  ·rw[h1];exact KQ u (by omega)
  exact FC r (by omega) t ht
end
def M9 (c:Bool):Int:=match c with|true=>-1|false=>1
theorem KO (c:Bool):ag 96 [bv c] (iv (M9 c)):=by
 cases c <;> exact aM _ _ _ _ _ (by kernel_rfl)
noncomputable def hRC:Hints:=⟨an,wX,ap,rowsOf ap 61⟩
def V2 (k:Int) (nm:List UInt8) (ix:Int) (a:aq) (k2:Int) (nm2:List UInt8) (ix2:Int) (a2:aq):Heap:=[(.loc 3,.cells [iv k2,.dat (sb nm2),iv ix2,.dat a2]),(.loc 2,.cells [iv k,.dat (sb nm),iv ix,.dat a])]
def stQ (lo:Heap) (i:Int):ab:=⟨[(5,iv i),(3,.ptr (.loc 3) 0),(2,.ptr (.loc 2) 0)],lo,[],0⟩
def ZX (lo:Heap) (i:Int):ab:=⟨[(63,bv false),(5,iv i),(3,.ptr (.loc 3) 0),(2,.ptr (.loc 2) 0)],lo,[],0⟩
def ZY (c:Int):ab:=⟨[(4,iv c)],[],[],0⟩
theorem P3 {k:Int} {nm:List UInt8} {ix:Int} {l:List Ty} {k2:Int} {nm2:List UInt8} {ix2:Int} {l2:List Ty} {t u:Ty} {i:Nat} {c:Int} {cz:Bool} (hi:i < (ax l).length) (ht:l[i]?=some t) (hu:l2[i]?=some u) (hc:ag 61 [.dat t.enc,.dat u.enc] (iv c)) (hz:aQ c 0=cz) {T:Exit->aa->Prop}
  (e1:cz=true->T .normal ((stQ (V2 k nm ix (.slice (ax l)) k2 nm2 ix2 (.slice (ax l2))) (aG .i64 (Int.ofNat i+1))).aw Tryz.f61.ntmps)) (e2:cz=false->T .ret ((ZY c).aw Tryz.f61.ntmps)) :
  KD (roundOf Tryz.f61 0) T ((stQ (V2 k nm ix (.slice (ax l)) k2 nm2 ix2 (.slice (ax l2))) (Int.ofNat i)).aw Tryz.f61.ntmps):=by
 have h1:=bd hi;have h2:=jU ht;have h3:=jU hu;generalize ax l=es at *;generalize ax l2=es2 at *;clear ht hi hu;obtain⟨tk,tn,tix,ta⟩:=t;obtain⟨uk,un,uix,ua⟩:=u
 rcases ta with _|⟨b,d⟩ <;>
 ·rcases ua with _|⟨b2,d2⟩ <;>
  ·refine aB [63,78] [69,74] (H:=hRC) (live:=nP) (by kernel_rfl) ?_;refine ob h1 ?_;refine oo h2 ?_;refine oo h3 ?_;refine on hc ?_;refine ox hz ?_
   cases cz
   ·exact oe (e2 rfl)
   exact oe (e1 rfl)
theorem Vx {k:Int} {nm:List UInt8} {ix:Int} {l:List aq} {k2:Int} {nm2:List UInt8} {ix2:Int} {a:List aq} {T:Exit->aa->Prop} (e:T (.exit 1) ((ZX (V2 k nm ix (sl l) k2 nm2 ix2 (sl a)) (Int.ofNat l.length)).aw Tryz.f61.ntmps)) :
  KD (roundOf Tryz.f61 0) T ((stQ (V2 k nm ix (sl l) k2 nm2 ix2 (sl a)) (Int.ofNat l.length)).aw Tryz.f61.ntmps):=by
 have h1:=br (i:=l.length) (L:=l.length) (by omega)
 rcases l with _|⟨x,l⟩
 ·refine aB [] [] (H:=hRC) (live:=nP) (by kernel_rfl) ?_;exact oe e
 refine aB [63] [] (H:=hRC) (live:=nP) (by kernel_rfl) ?_;refine ob h1 ?_;exact oe e
def KI (c1 c2 c3 c4 c5 c6 c7 c8:Bool) (r:Int):Int:=match c1 with|false=>M9 c5|true=>match c2 with|false=>M9 c6|true=>match c3 with|false=>M9 c7|true=>match c4 with|false=>M9 c8|true=>r
theorem aam {k:Int} {nm:List UInt8} {ix:Int} {l:List aq} {k2:Int} {nm2:List UInt8} {ix2:Int} {l2:List aq} {c1 c2 c3 c4 c5 c6 c7 c8:Bool} {r:Int} (h1:aQ k k2=c1) (h2:dv nm nm2=c2) (h3:aQ ix ix2=c3) (h4:aQ (Int.ofNat l.length) (Int.ofNat l2.length)=c4) (h5:bn k k2=c5) (h6:jE nm nm2=c6) (h7:bn ix ix2=c7) (h8:bn (Int.ofNat l.length) (Int.ofNat l2.length)=c8)
 (hl:c4=true->KD (.loop (roundOf Tryz.f61 0)) (fun e s=>(e=.exit 1/\r=0/\s=(ZX (V2 k nm ix (sl l) k2 nm2 ix2 (sl l2)) (Int.ofNat l.length)).aw Tryz.f61.ntmps)∨(e=.ret/\s=(ZY r).aw Tryz.f61.ntmps)) ((stQ (V2 k nm ix (sl l) k2 nm2 ix2 (sl l2)) (Int.ofNat 0)).aw Tryz.f61.ntmps)) :
 ag 61 [.dat (.agg [i64 k,sb nm,i64 ix,sl l]),.dat (.agg [i64 k2,sb nm2,i64 ix2,sl l2])] (iv (KI c1 c2 c3 c4 c5 c6 c7 c8 r)):=by
 have o1:=KO true;have o2:=KO false
 rcases l with _|⟨x,l⟩
 ·rcases l2 with _|⟨y,l2⟩
  ·have z:c4=true:=h4.symm;subst z;have hl2:=hl rfl;clear hl h4 h8;refine co [12,24,36,41,29,17] [] (x:=.of Tryz.f61 wX nP) ?_;refine ox h1 ?_
   cases c1
   ·refine ob h5 ?_
    cases c5
    ·refine on o2 ?_;exact fi
    refine on o1 ?_;exact fi
   refine ox h2 ?_
   cases c2
   ·refine ob h6 ?_
    cases c6
    ·refine on o2 ?_;exact fi
    refine on o1 ?_;exact fi
   refine ox h3 ?_
   cases c3
   ·refine ob h7 ?_
    cases c7
    ·refine on o2 ?_;exact fi
    refine on o1 ?_;exact fi
   refine lo hl2 ?_;rintro ex s (⟨rfl,rfl,rfl⟩|⟨rfl,rfl⟩) <;>
   ·refine⟨_,rfl,?_⟩;exact fi
  have z:c4=false:=h4.symm;have z8:c8=true:=h8.symm;subst z z8;clear hl h4 h8;refine co [12,24,36,41,29,17] [] (x:=.of Tryz.f61 wX nP) ?_;refine ox h1 ?_
  cases c1
  ·refine ob h5 ?_
   cases c5
   ·refine on o2 ?_;exact fi
   refine on o1 ?_;exact fi
  refine ox h2 ?_
  cases c2
  ·refine ob h6 ?_
   cases c6
   ·refine on o2 ?_;exact fi
   refine on o1 ?_;exact fi
  refine ox h3 ?_
  cases c3
  ·refine ob h7 ?_
   cases c7
   ·refine on o2 ?_;exact fi
   refine on o1 ?_;exact fi
  refine on o1 ?_;exact fi
 rcases l2 with _|⟨y,l2⟩
 ·have z:c4=false:=h4.symm;have z8:c8=false:=h8.symm;subst z z8;clear hl h4 h8;refine co [12,24,36,41,29,17] [] (x:=.of Tryz.f61 wX nP) ?_;refine ox h1 ?_
  cases c1
  ·refine ob h5 ?_
   cases c5
   ·refine on o2 ?_;exact fi
   refine on o1 ?_;exact fi
  refine ox h2 ?_
  cases c2
  ·refine ob h6 ?_
   cases c6
   ·refine on o2 ?_;exact fi
   refine on o1 ?_;exact fi
  refine ox h3 ?_
  cases c3
  ·refine ob h7 ?_
   cases c7
   ·refine on o2 ?_;exact fi
   refine on o1 ?_;exact fi
  refine on o2 ?_;exact fi
 cases c4
 ·clear hl;refine co [12,24,36,50,57,41,29,17] [] (x:=.of Tryz.f61 wX nP) ?_;refine ox h1 ?_
  cases c1
  ·refine ob h5 ?_
   cases c5
   ·refine on o2 ?_;exact fi
   refine on o1 ?_;exact fi
  refine ox h2 ?_
  cases c2
  ·refine ob h6 ?_
   cases c6
   ·refine on o2 ?_;exact fi
   refine on o1 ?_;exact fi
  refine ox h3 ?_
  cases c3
  ·refine ob h7 ?_
   cases c7
   ·refine on o2 ?_;exact fi
   refine on o1 ?_;exact fi
  refine ox h4 ?_;refine ob h8 ?_
  cases c8
  ·refine on o2 ?_;exact fi
  refine on o1 ?_;exact fi
 have hl2:=hl rfl;clear hl;refine co [12,24,36,50,41,29,17] [] (x:=.of Tryz.f61 wX nP) ?_;refine ox h1 ?_
 cases c1
 ·refine ob h5 ?_
  cases c5
  ·refine on o2 ?_;exact fi
  refine on o1 ?_;exact fi
 refine ox h2 ?_
 cases c2
 ·refine ob h6 ?_
  cases c6
  ·refine on o2 ?_;exact fi
  refine on o1 ?_;exact fi
 refine ox h3 ?_
 cases c3
 ·refine ob h7 ?_
  cases c7
  ·refine on o2 ?_;exact fi
  refine on o1 ?_;exact fi
 refine ox h4 ?_;refine lo hl2 ?_;rintro ex s (⟨rfl,rfl,rfl⟩|⟨rfl,rfl⟩) <;>
 ·refine⟨_,rfl,?_⟩;exact fi
mutual
def Im:Ty->Ty->Int
 | .mk k nm ix l,.mk k2 nm2 ix2 l2=>KI (aQ k k2) (dv nm nm2) (aQ ix ix2) (aQ (Int.ofNat (ax l).length) (Int.ofNat (ax l2).length)) (bn k k2) (jE nm nm2) (bn ix ix2) (bn (Int.ofNat (ax l).length) (Int.ofNat (ax l2).length)) (KJ l l2)
def KJ:List Ty->List Ty->Int
 | t::r,u::v=>match aQ (Im t u) 0 with|true=>KJ r v|false=>Im t u
 | _,_=>0
end
theorem P4 {l l2:List Ty} {i:Nat} {t u:Ty} (ht:l[i]?=some t) (hu:l2[i]?=some u):KJ (l.drop i) (l2.drop i)=(match aQ (Im t u) 0 with|true=>KJ (l.drop (i+1)) (l2.drop (i+1))|false=>Im t u):=by rw[dC ht,dC hu,KJ]
theorem Vw {k:Int} {nm:List UInt8} {ix:Int} {l:List Ty} {k2:Int} {nm2:List UInt8} {ix2:Int} {l2:List Ty} (hlen:l.length=l2.length) (hb:l.length < 1000000000) (ih:∀t∈l,∀u∈l2,ag 61 [.dat t.enc,.dat u.enc] (iv (Im t u))) :
  KD (.loop (roundOf Tryz.f61 0)) (fun e s=>(e=.exit 1/\KJ l l2=0/\s=(ZX (V2 k nm ix (sl (ax l)) k2 nm2 ix2 (sl (ax l2))) (Int.ofNat (ax l).length)).aw Tryz.f61.ntmps)∨(e=.ret/\s=(ZY (KJ l l2)).aw Tryz.f61.ntmps)) ((stQ (V2 k nm ix (sl (ax l)) k2 nm2 ix2 (sl (ax l2))) (Int.ofNat 0)).aw Tryz.f61.ntmps):=by
 refine cE (St:=fun i=>(stQ (V2 k nm ix (sl (ax l)) k2 nm2 ix2 (sl (ax l2))) (Int.ofNat i)).aw Tryz.f61.ntmps) (fun i=>KJ l l2=KJ (l.drop i) (l2.drop i)) (ax l).length ?_ ?_ (i:=0) (Nat.zero_le _) rfl
 ·intro i hi hI;obtain⟨t,ht,hm⟩:=get_mem hi;have hi2:=hi;rw[aE] at hi2;have hu:l2[i]?=some l2[i]:=List.getElem?_eq_getElem (by omega);have hm2:l2[i]∈l2:=List.getElem_mem _;generalize l2[i]=u at hu hm2;have h:=ih t hm u hm2;have hd:=P4 ht hu;rw[←hI] at hd;have hw:aG .i64 (Int.ofNat i+1)=Int.ofNat (i+1):=bb (by omega);have hs1:=lG hi;have hs2:sl (ax l2)=.slice (ax l2):=lG (i:=i) (by rw[aE];omega);rw[hs1,hs2];generalize Im t u=c at h hd;refine P3 hi ht hu h rfl ?_ ?_
  ·intro hz;rw[hz] at hd;rw[hw];exact⟨rfl,hd⟩
  intro hz;rw[hz] at hd;dsimp only at hd;exact .inr ⟨rfl,by rw[hd]⟩
 intro hI;refine Vx (.inl ⟨rfl,?_,rfl⟩);rw[hI,aE,List.drop_length]
 cases l2.drop l.length <;> rfl
mutual
theorem zO:∀(t u:Ty),t.thin->ag 61 [.dat t.enc,.dat u.enc] (iv (Im t u))
 | .mk k nm ix l,.mk k2 nm2 ix2 l2,h=>by
  simp only[Ty.thin] at h;have ih:=wQ l h.2;rw[Im];refine aam rfl rfl rfl rfl rfl rfl rfl rfl (fun he=>?_);rw[qa,aE,aE] at he;exact Vw (by simpa using he) h.1 (fun t ht u _=>ih t ht u)
theorem wQ:∀l:List Ty,kT l->∀t∈l,∀u,ag 61 [.dat t.enc,.dat u.enc] (iv (Im t u))
 | [],_,t,ht,_=>by simp at ht
 | x::r,h,t,ht,u=>by
  simp only[kT] at h
  rcases List.mem_cons.1 ht with h1|ht
  ·rw[h1];exact zO x u h.1
  exact wQ r h.2 t ht u
end
theorem aep {k ix k2 ix2 r:Int} {nm nm2:List UInt8} {l l2:List aq} {c:Bool} (h:ag 61 [.dat (.agg [i64 k,sb nm,i64 ix,sl l]),.dat (.agg [i64 k2,sb nm2,i64 ix2,sl l2])] (iv r)) (hc:aQ r 0=c):ag 24 [.dat (.agg [i64 k,sb nm,i64 ix,sl l]),.dat (.agg [i64 k2,sb nm2,i64 ix2,sl l2])] (bv c):=by
 rcases l with _|⟨x,l⟩ <;>
 ·rcases l2 with _|⟨y,l2⟩ <;>
  ·refine co [8] [] (x:=.of Tryz.f24 QW SK) ?_;refine on h ?_;refine ob hc ?_
   cases c <;>
   ·exact fi
def reT (t u:Ty):Bool:=aQ (Im t u) 0
theorem Qe (t u:Ty) (h:t.thin):ag 24 [.dat t.enc,.dat u.enc] (bv (reT t u)):=by
 have h1:=zO t u h;obtain⟨k,nm,ix,l⟩:=t;obtain⟨k2,nm2,ix2,l2⟩:=u;exact aep h1 rfl
theorem VC (t u:Ty) (h:t.size < 1000000000):ag 24 [.dat t.enc,.dat u.enc] (bv (reT t u)):=Qe t u (nC t h)
theorem VO (c:Bool):M9 c≠0:=by cases c <;> decide
theorem mz {a b:List UInt8} (h:dv a b=true):a=b:=by rw[io] at h;simpa using h
theorem gU {a b:Int} (h:aQ a b=true):a=b:=by rw[gV] at h;simpa using h
theorem Io {c1 c2 c3 c4 c5 c6 c7 c8:Bool} {r:Int} (h:KI c1 c2 c3 c4 c5 c6 c7 c8 r=0):c1=true/\c2=true/\c3=true/\c4=true/\r=0:=by
 cases c1 <;> cases c2 <;> cases c3 <;> cases c4 <;> simp[KI,VO] at h ⊢ <;> exact h
mutual
theorem Fx:∀(t u:Ty),Im t u=0->t=u
 | .mk k nm ix l,.mk k2 nm2 ix2 l2,h=>by
  rw[Im] at h;obtain⟨h1,h2,h3,h4,h5⟩:=Io h;rw[gU h1,mz h2,gU h3];rw[qa,aE,aE] at h4;rw[Fz l l2 (by simpa using h4) h5]
theorem Fz:∀(l l2:List Ty),l.length=l2.length->KJ l l2=0->l=l2
 | [],[],_,_=>rfl
 | [],_::_,h,_=>by simp at h
 | _::_,[],h,_=>by simp at h
 | t::r,u::v,h,h2=>by
  rw[KJ] at h2
  cases hz:aQ (Im t u) 0 with
  | true=>
   rw[hz] at h2;rw[Fx t u (gU hz),Fz r v (by simpa using h) h2]
  | false=>
   rw[hz] at h2;dsimp only at h2;rw[h2,ep] at hz;simp at hz
end
mutual
theorem Fy:∀t:Ty,Im t t=0
 | .mk k nm ix l=>by rw[Im,ep,hU,ep,ep,FA l];rfl
theorem FA:∀l:List Ty,KJ l l=0
 | []=>by simp[KJ]
 | t::r=>by rw[KJ,Fy t,ep,FA r]
end
theorem Vs {t u:Ty}:reT t u=true↔t=u:=by
 unfold reT
 constructor
 ·intro h;exact Fx t u (gU h)
 rintro rfl;rw[Fy,ep]
theorem uG (nm:List UInt8) (ar k:Int) (tn:List UInt8) (ix:Int) (la:List aq) (con:Bool) (lb:List aq) :
  Yp [.dat (dw nm ar k tn ix la con lb)]=some ⟨.undef,.new (.cells (cellsD nm ar k tn ix la con lb))⟩:=by
 rcases la with _|⟨x,la⟩ <;> rcases lb with _|⟨y,lb⟩ <;> kernel_rfl
theorem D1 (t:Bool) (l:Nat) (nm:List UInt8) (ar k:Int) (tn:List UInt8) (ix:Int) (la:List aq) (con:Bool) (lb:List aq) :
  lr (env au.aI) t 32 [.ptr (.loc l) 2] (some (.cells (cellsD nm ar k tn ix la con lb)))=some ⟨.dat (.agg [i64 k,sb tn,i64 ix,sl la]),.keep⟩:=by
 cases t <;> rcases la with _|⟨x,la⟩ <;> rcases lb with _|⟨y,lb⟩ <;> kernel_rfl
end Go.Proofs.YtiihadmgkoamoaaGreatDoor
