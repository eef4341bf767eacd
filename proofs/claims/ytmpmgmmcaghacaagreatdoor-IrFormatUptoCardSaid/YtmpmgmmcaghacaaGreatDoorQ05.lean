/- Part 5 of what the last text proves. -/
import Derived.Shelf.Slices.SearchI
import Derived.Shelf.Spec.SlicesInsert
import Derived.Shelf.Spec.SlicesInsertGrow
import Derived.Ground.NamesProg
import Derived.Shelf.Strconv.Itoa4
import Derived.Test.YtmpmgmmcaghacaaGreatDoorProg
import Derived.Test.YtmpmgmmcaghacaaGreatDoorQ04
set_option linter.unusedVariables false
set_option linter.unusedSimpArgs false
open Int (ofNat)
set_option maxRecDepth 100000
set_option maxHeartbeats 4000000
namespace Go.Tp
open Go.Proofs Go.Shelf Go.RowKit
def cH (l:List Int):List ac:=l.map iv
def ints (l:List Int):List Value:=l.map (Value.int .i64)
section
theorem oD {w:World} {R:Own} {N:Name->Option Nat}:∀{l:List Int} {c:List Value} {B:List Nat},ah w R N (cH l) c B->c=ints l/\B=[]/\∀x∈l,bJ (.int .i64 x)=true
 | [],c,B,h=>by obtain⟨rfl,rfl⟩:=aM h;simp[ints]
 | x::l,c,B,h=>by
  have h:ah w R N (iv x::cH l) c B:=h;obtain⟨v,g,r,Q,rfl,rfl,a,b⟩:=au h;obtain⟨rfl,rfl,f⟩:=oD b;simp only[ai] at a;obtain⟨rfl,a⟩:=a;have a:eU w R v (.flat (.int .i64 x)):=a
  cases a with
  | flat e=>exact⟨rfl,rfl,by rintro y d;rcases List.mem_cons.1 d with rfl|d;exact e;exact f y d⟩
theorem Es {w:World} {R:Own} {N:Name->Option Nat}:∀{l:List Int},(∀x∈l,bJ (.int .i64 x)=true)->ah w R N (cH l) (ints l) []
 | [],_=>aP
 | x::l,h=>by
  have a:ai w R N (iv x) (.int .i64 x) []:=by
   simp only[ai];exact⟨trivial,.flat (h x (by simp))⟩
  exact aD (b1:=[]) (b2:=[]) a (Es (l:=l) (fun y b=>h y (by simp[b])))
theorem uy {l:List Int}:∀v∈ints l,v.oneCell'=true:=by
 intro v V;obtain⟨x,_,rfl⟩:=List.mem_map.1 V;rfl
theorem ab7 {l:List Int} {j:Nat} {v:Value} (h:(ints l)[j]?=some v):∃x,l[j]?=some x/\v=.int .i64 x:=by
 grind[ints]
theorem aeP {w:World} {b a:Nat} {c:Array Value} {e:TypeId} {f:Nat×Nat} (d:w.heap[b]?=some (.cells c e f)) {v:Value} (h:c.toList[a]?=some v):w.cell? ⟨b,a,none⟩=some v:=by
 rw[Array.getElem?_toList] at h;simp[World.cell?,d,h]
theorem iB {w:World} (b o:Nat) (e:TypeId) (c:List Value) (d:Array Value) (J:w.heap[b]?=some (.cells d e (0,0))) (f:o+c.length<=d.size) (a:∀u∈c,u.oneCell'=true) :
  w.setCells b o c=w.setRow b (d.toList.take o++c++d.toList.drop (o+c.length)).toArray:=by
 have i:∀j,j < c.length->(w.cell? ⟨b,o+0+j,none⟩).isSome=true:=by
  intro j l;rw[aeP J (v:=d.toList[o+0+j]'(by simp;omega)) (by simp)];rfl
 have k:∀j,j < c.length->w.frozen? ⟨b,o+0+j,none⟩=false:=by
  intro j _;simp[World.frozen?,J]
 have h:=run_storeCells_cells (P:=default) b o c 0 w i k a;have g:=run_storeCells_at default b o e c 0 d w J (by simpa using f) a;rw[h] at g;simp only[Nat.add_zero,Result.ok.injEq] at g;exact g.2
end
section
variable {P:Program} {l:List Int} {w:World} {x:Int}
theorem qn {R:Own} {g:Nat} {a:Array Value} {t:TypeId} (J:w.heap[g]?=some (.cells a t (0,0))) (b:Array Value) (f:b.size=a.size) (e:∀j,j < a.size->R g j) (c:0 < a.size) (B:List Nat) (d:g∉B):bp w R (w.setRow g b) R B:=
 jH J b f (fun _ _ h=>h) (fun _ _ _ h=>h) (fun k i=>by
  grind) ⟨0,e 0 c⟩ B d
theorem vU {b:World} {R a:Own} {B:List Nat} (k:bp w.drew R b a B):bp w R b a B:=
 ⟨⟨k.step.os,k.step.tape,k.step.output,k.step.size,k.step.block,k.step.cell,k.step.sizes⟩,k.same⟩
theorem Jr {R:Own} (q:Nat) (B:List Nat):bp w R (w.drewN q) R B:=
 ⟨⟨rfl,rfl,rfl,Nat.le_refl _,fun b _ h=>⟨rfl,h⟩,fun b a _ h=>⟨h,rfl⟩,fun b _=>rfl⟩,fun b _ _=>⟨rfl,fun _ h=>h⟩⟩
theorem RQ {ρ:Ren} {G:bA} (L:Lays2.n25 P ρ) (s:l.Pairwise (·<=·)) (hn:l.length < 1000000000) :
  ay P G (ρ.f 25) [.win (.out 0) 1 0 l.length,iv x] [(.out 0,.cells (cH l))] 1 (XQ ⟨.tup [iv (ofNat (l.countP (· < x))),bv (l.contains x)],[(.out 0,.cells (cH l))],1⟩):=by
 intro w R N D Y H z m f I J F hF;obtain⟨v0,r1,c0,d1,rfl,rfl,o,t⟩:=au m;obtain⟨X,r2,p,d2,rfl,rfl,a,K⟩:=au t;obtain⟨rfl,rfl⟩:=aM K;have g:=f;obtain⟨b,b1,b2,rfl,d,y,c⟩:=f;have c:b2=[]:=c;subst c;obtain⟨vs,Q,sp,v,M,Z,_⟩:=y;simp only[ai] at o a;obtain⟨rfl,A,C,u,rfl,T,_,S,W⟩:=o
 have:A=b:=by rw[d] at u;simpa using u.symm
 subst this;obtain⟨rfl,a⟩:=a;have a:eU w R X (.flat (.int .i64 x)):=a;have E:X=.int .i64 x:=by cases a with|flat _=>rfl
 have ae:bJ (.int .i64 x)=true:=by cases a with|flat h=>exact h
 subst E;obtain⟨af,ag,q1,q2,O,rfl,t,_⟩:=eL M;obtain⟨rfl,rfl,ad⟩:=oD t;have r:∀j,j < l.length->w.cell? ⟨A,0+j,none⟩=some (.int .i64 (l.getD j 0)):=by
  intro j V;refine aeP v ?_;rw[O,Nat.zero_add,List.getElem?_append_left (by simp[ints];exact V)];simp[ints,V]
 refine (Any.slices_BinarySearch_int L A 0 l.length C l x w (Nat.le_refl _) (by omega) r (by rw[List.take_length];exact s)).mono ?_;rintro e w' ⟨rfl,q,rfl⟩;rw[List.take_length];have k:∀B,bp w R (w.drewN q) R B:=Jr q;refine⟨_,_,_,1,R,N,[],_,rfl,⟨rfl,rfl,rfl⟩,?_,g.keep (k _),by simpa using I,J,k _,fun _ _ h=>h⟩;have i:∀n:Nat,n < 9223372036854775808->bJ (.int .i64 (ofNat n))=true:=by
  intro n hn;simp[bJ,IntKind.min,IntKind.max,IntKind.signed,IntKind.bits];omega
 have U:l.countP (· < x)<=l.length:=List.countP_le_length;simp only[ai];refine⟨[.int .i64 (ofNat (l.countP (· < x))),.bool (l.contains x)],rfl,?_⟩;refine aD (b1:=[]) (b2:=[]) ?_ (aD (b1:=[]) (b2:=[]) ?_ aP)
 ·simp only[ai];exact⟨trivial,.flat (i _ (by omega))⟩
 simp only[ai];exact⟨trivial,.flat rfl⟩
def fw (l:List Int) (i:Nat) (x:Int):List Int:=l.take i++x::l.drop i
theorem uz {i:Nat} (h:i<=l.length):(fw l i x).length=l.length+1:=by grind[fw]
theorem oG {i:Nat}:ints (fw l i x)=(ints l).take i++.int .i64 x::(ints l).drop i:=by simp_all[fw,ints]
theorem JA {i:Nat} (h:∀y∈l,bJ (.int .i64 y)=true) (X:bJ (.int .i64 x)=true):∀y∈fw l i x,bJ (.int .i64 y)=true:=by
 grind[fw]
theorem LB (l:List Int):cd (cH l)=false:=by
 rcases l with _|⟨a,_|⟨b,_|⟨c,r⟩⟩⟩ <;> rfl
theorem mY {w:World} {R:Own} {N:Name->Option Nat}:∀{n:Nat} {c:List Value} {B:List Nat},ah w R N (List.replicate n .undef) c B->B=[]/\c.length=n
 | 0,c,B,h=>by grind[aM]
 | n+1,c,B,h=>by
  obtain⟨v,d,r,Q,rfl,rfl,a,b⟩:=au h;obtain⟨rfl,f⟩:=mY b;grind[ai]
theorem yx {m:World} {R R':Own} {N:Name->Option Nat} {vb g cap:Nat} {f:TypeId} {arr rest:List Value} {z:List Nat}
  (H:∀o b,N (.out o)=some b->o < 2) (k:∀B,g∉B->bp w R m R' B) (E:g∉z) (L:g≠vb) (M:(vb::z).Nodup)
  (J:m.heap[g]?=some (.cells arr.toArray f (0,0))) (q:arr=ints l++rest) (D:∀y∈l,bJ (.int .i64 y)=true) (u:∀j,j < arr.length->R' g j) (I:arr.length=cap) (A:cap<=jq) (F:l.length<=cap)
  (V:aj w R (outs N) [(.out 1,.cells [iv x])] [vb]) (t:Value) (C:t=.slice (some ⟨g,0,none⟩) l.length cap) :
  ∃v p c d s r n e,Ending.returned t=.returned p/\XQ ⟨.win (.out 2) 1 0 l.length,[(.out 2,.cells (cH l)),(.out 1,.cells [iv x])],3⟩ v c d/\ai m s (outs r) v p n/\aj m s (outs r) c e ∧
   (n++(e++z)).Nodup/\(∀o b,r (.out o)=some b->o < d)/\bp w R m s z/\(∀o b,N (.out o)=some b->r (.out o)=some b):=by
 have i:=FG (N:=N) (b:=g) H;have G:g < m.heap.size:=bN J;refine⟨_,t,_,3,R',bX N (.out 2) g,[],[g,vb],rfl,⟨rfl,rfl,rfl⟩,?_,?_,?_,?_,k z E,fun o b h=>i _ _ h⟩
 ·simp only[ai];refine⟨trivial,g,cap,by simp[outs,bX],C,F,⟨by decide,A⟩,G,?_⟩;rw[dF J];grind
 ·refine⟨g,[],[vb],rfl,by simp[outs,bX],?_,(V.keep (k _ (by grind))).ext (Gb i)⟩;refine⟨arr.toArray,f,rest.length,J,?_,fun j O=>u j (by grind),fun h=>by grind[LB]⟩;have a:ah m R' (outs (bX N (.out 2) g)) (cH l) (ints l) []:=Es D;have K:=fK (w:=m) (R:=R') (N:=outs (bX N (.out 2) g)) rest;simpa [q] using ct a K
 all_goals grind[bX]
theorem Uo (B a b:List Value) (x c:Value) (i:Nat) (h:B.length=i):(B++c::a++b).take i++[x]++(B++c::a++b).drop (i+1)=B++x::(a++b):=by
 subst h;simp_all
theorem MR (A:List Value) (e x:Value) (b:List Value) (i:Nat) (h:i<=A.length) :
  ((A++e::b).take (i+1)++A.drop i++(A++e::b).drop (i+1+(A.drop i).length)).take i++[x]++((A++e::b).take (i+1)++A.drop i++(A++e::b).drop (i+1+(A.drop i).length)).drop (i+1)=A.take i++x::A.drop i++b:=by
 obtain⟨c,d,rfl,a⟩:∃c d,A=c++d/\c.length=i:=⟨A.take i,A.drop i,(List.take_append_drop i A).symm,by grind⟩;subst a;have E:(c++d).drop c.length=d:=by simp
 have F:(c++d).take c.length=c:=by simp
 rw[E,F];obtain⟨y,t,T⟩:∃y t,d++e::b=y::t:=by cases d <;> simp_all
 have f:(c++d++e::b).take (c.length+1)=c++[y]:=by grind
 have g:(c++d++e::b).drop (c.length+1+d.length)=b:=by
  have:c.length+1+d.length=(c++d).length+1:=by grind
  rw[this,List.drop_length_add_append];rfl
 grind
theorem RS {ρ:Ren} {G:bA} (L:Lays2.n21 P ρ) {i:Nat} (hi:i<=l.length) (hn:l.length < 1000000000) :
  ay P G (ρ.f 21) [.win (.out 0) 1 0 l.length,iv (ofNat i),.win (.out 1) 1 0 1] [(.out 0,.cells (cH l)),(.out 1,.cells [iv x])] 2
   (XQ ⟨.win (.out 2) 1 0 (fw l i x).length,[(.out 2,.cells (cH (fw l i x))),(.out 1,.cells [iv x])],3⟩):=by
 intro w R N cm dg H z bf bo a7 a8 cr hF;obtain⟨v0,r1,c0,d1,rfl,rfl,o,bx⟩:=au bf;obtain⟨v1,r2,p,d2,rfl,rfl,h1,b0⟩:=au bx;obtain⟨v2,r3,q,d3,rfl,rfl,h2,cx⟩:=au b0;obtain⟨rfl,rfl⟩:=aM cx;obtain⟨b,b1,Q,rfl,d,ce,C⟩:=bo;have O:=C;obtain⟨vb,b3,b4,rfl,c3,bw,C⟩:=C;have C:b4=[]:=C;subst C;obtain⟨vs,J,sp,t,cz,al,_⟩:=ce;obtain⟨c7,be,dk,T,cg,c8,_⟩:=bw;simp only[ai] at o h1 h2;obtain⟨rfl,W,cap,b8,rfl,da,⟨_,a4⟩,c9,cf⟩:=o
 have:W=b:=by rw[d] at b8;simpa using b8.symm
 subst this;obtain⟨rfl,I,vc,bc,rfl,dj,_,df,c4⟩:=h2
 have:I=vb:=by rw[c3] at bc;simpa using bc.symm
 subst this;obtain⟨rfl,h1⟩:=h1;have h1:eU w R v1 (.flat (.int .i64 (ofNat i))):=h1;have E:v1=.int .i64 (ofNat i):=by cases h1 with|flat _=>rfl
 subst E;obtain⟨dl,b6,q1,q2,a9,rfl,bx,cv⟩:=eL cz;obtain⟨rfl,rfl,cq⟩:=oD bx;obtain⟨dn,dp,q3,q4,c5,rfl,b0,cw⟩:=eL cg;obtain⟨rfl,rfl,bi⟩:=oD (l:=[x]) b0;have bi:=bi x (by simp);obtain⟨rfl,_⟩:=mY cv;obtain⟨rfl,_⟩:=mY cw;simp only[List.nil_append,List.append_nil,List.cons_append] at a7;have a1:W≠I:=by
  have:=(List.nodup_cons.1 a7).1
  simp only[List.mem_cons,not_or] at this;exact this.1
 have b9:W∉z:=by
  have:=(List.nodup_cons.1 a7).1
  simp only[List.mem_cons,not_or] at this;exact this.2
 have ag:(I::z).Nodup:=(List.nodup_cons.1 a7).2;have ch:vs.size=cap:=by rw[dF t] at cf;omega
 have m:(ints l).length=l.length:=by simp[ints]
 have Y:(fw l i x).length=l.length+1:=uz hi;have af:=JA (i:=i) cq bi;have ba:∀j v,[Value.int .i64 x][j]?=some v->w.cell? ⟨I,0+j,none⟩=some v:=by
  intro j v hj;refine aeP T ?_;rw[c5]
  cases j with
  | zero=>simpa [ints] using hj
  | succ j=>simp at hj
 have bg:∀j v,(ints l)[j]?=some v->w.cell? ⟨W,0+j,none⟩=some v:=by
  intro j v hj;refine aeP t ?_
  have:j < (ints l).length:=(List.getElem?_eq_some_iff.1 hj).1
  rw[a9,Nat.zero_add,List.getElem?_append_left this];exact hj
 have ad:∀v∈[Value.int .i64 x],v.oneCell'=true:=by intro v V;simp at V;subst V;rfl
 have a0:∀j,j < cap->(w.cell? ⟨W,0+j,none⟩).isSome=true:=by
  intro j hj;have cs:j < vs.toList.length:=by simp;omega
  rw[aeP t (v:=vs.toList[j]) (by rw[Nat.zero_add];exact List.getElem?_eq_getElem cs)];rfl
 have aq:∀j,w.frozen? ⟨W,j,none⟩=false:=by intro j;simp[World.frozen?,t]
 have ci:b6.length=cap - l.length:=by
  have:=congrArg List.length a9
  simp[m] at this;omega
 by_cases X:l.length+1<=cap
 ·
  obtain⟨u0,ae,rfl⟩:∃u0 ae,b6=u0::ae:=by
   cases b6 with
   | nil=>simp at ci;omega
   | cons a r=>exact⟨a,r,rfl⟩
  rcases Nat.lt_or_ge i l.length with bu|a5
  ·refine (Any2.slices_Insert_int_shift L W 0 l.length cap i I 0 1 vc (ints l) [.int .i64 x] w bu (by decide) X ?_ (Ne.symm a1) m rfl bg (fun j hj=>a0 j (by omega)) (fun j _=>aq _) ba uy ad be J c7.size vs.size ?_ ?_ ?_ ?_ ?_).mono ?_
   ·exact a4
   ·simp[World.shape?,T]
   ·simp[World.shape?,t]
   ·omega
   ·simp[World.frozen?,T]
   ·simp[World.frozen?,T]
   rintro e w' ⟨rfl,rfl⟩;have ar:(w.drew).heap[W]?=some (.cells vs J (0,0)):=t;have D:((ints l).drop i).length=l.length - i:=by simp[m]
   rw[iB (w:=w.drew) W (0+(i+1)) J ((ints l).drop i) vs ar (by rw[D];omega) (fun u hu=>uy u (List.mem_of_mem_drop hu))];obtain⟨f,S⟩:∃f,f=vs.toList.take (0+(i+1))++(ints l).drop i++vs.toList.drop (0+(i+1)+((ints l).drop i).length):=⟨_,rfl⟩;rw[←S];have U:f.length=cap:=by
    rw[S];simp[m];omega
   have ax:=setRow_heap w.drew W vs f.toArray J (0,0) ar;rw[iB (w:=w.drew.setRow W f.toArray) W (0+i) J [.int .i64 x] f.toArray ax (by simp[U];omega) ad];obtain⟨c,k⟩:∃c,c=f.toArray.toList.take (0+i)++[.int .i64 x]++f.toArray.toList.drop (0+i+[Value.int .i64 x].length):=⟨_,rfl⟩;rw[←k];have y:c.length=cap:=by
    rw[k];simp[U];omega
   have az:=setRow_heap (w.drew.setRow W f.toArray) W f.toArray c.toArray J (0,0) ax;refine yx (g:=W) (vb:=I) (cap:=cap) (arr:=c) (rest:=ae) (R':=R) a8 (fun B d=>?_) b9 a1 ag az ?_ af (fun j hj=>al j (by omega)) y a4 (by rw[Y];exact X) O _ (by rw[Y])
   ·refine vU (bp.trans (qn ar f.toArray (by simp[U,ch]) al (by omega) B d) (qn ax c.toArray (by simp[U,y]) (fun j hj=>al j (by simp[U] at hj;omega)) (by simp[U];omega) B d))
   -- the cells
   have V:vs.toList=ints l++(u0::ae):=a9;rw[k,S,V,oG];simp only[Nat.zero_add,List.toList_toArray,List.length_singleton];exact MR (ints l) u0 (.int .i64 x) ae i (by rw[m];omega)
  have bt:i=l.length:=by omega
  subst bt;refine (Any2.slices_Insert_int_end_room L W 0 l.length cap I 0 1 vc [.int .i64 x] w (by decide) X a4 rfl (fun j hj=>?_) (fun j _=>aq _) ba ad).mono ?_
  ·rw[Nat.add_assoc];exact a0 _ (by omega)
  rintro e w' ⟨rfl,rfl⟩;rw[iB (w:=w) W (0+l.length) J [.int .i64 x] vs t (by simp;omega) ad];obtain⟨c,k⟩:∃c,c=vs.toList.take (0+l.length)++[.int .i64 x]++vs.toList.drop (0+l.length+[Value.int .i64 x].length):=⟨_,rfl⟩;rw[←k];have y:c.length=cap:=by
   rw[k];simp;omega
  have az:=setRow_heap w W vs c.toArray J (0,0) t;refine yx (g:=W) (vb:=I) (cap:=cap) (arr:=c) (rest:=ae) (R':=R) a8 (fun B d=>qn t c.toArray (by simp[y,ch]) al (by omega) B d) b9 a1 ag az ?_ af (fun j hj=>al j (by omega)) y a4 (by rw[Y];exact X) O _ (by rw[Y]);have V:vs.toList=ints l++(u0::ae):=a9;rw[k,V,oG,Nat.zero_add,←m,List.take_left,List.take_length,List.drop_length,List.length_singleton,List.drop_length_add_append];simp
 -- a new row
 have cp:cap=l.length:=by omega
 subst cp;have a5:=grownCap_ge w (l.length+1) l.length (ρ.t 3);have bl:grownCap w (l.length+1) l.length (ρ.t 3)<=jq:=Nat.le_trans (grownCap_le_maxLen w (l.length+1) l.length (ρ.t 3) (by unfold maxLen;omega)) (by decide);generalize ca:grownCap w (l.length+1) l.length (ρ.t 3)=gc at a5 bl;have dc:W < w.heap.size:=bN t;have dd:I < w.heap.size:=bN T;have b5:∀n,(Builtin.zeroCells (Value.int .i64 0).cells n).toList.length=n:=fun n=>by simp[Builtin.zeroCells,Value.cells]
 have b7:w.heap.size∉z:=fun h=>by have:=hF _ h;omega
 have a2:∀j,R.more w.heap.size w.heap.size j:=fun j=>.inl rfl
 rcases Nat.lt_or_ge i l.length with bu|db
 ·refine (Any2.slices_Insert_int_grow L W 0 l.length l.length i I 0 1 vc (ints l) [.int .i64 x] w bu (by decide) (Nat.le_refl _) (by omega) (by omega) m rfl bg ba uy ad).mono ?_;rw[ca];rintro e w' ⟨rfl,rfl⟩;obtain⟨z1,ck⟩:∃z1,z1=(Builtin.zeroCells (Value.int .i64 0).cells (l.length+1 - i)).toList:=⟨_,rfl⟩;obtain⟨z2,cl⟩:∃z2,z2=(Builtin.zeroCells (Value.int .i64 0).cells (gc - (l.length+1))).toList:=⟨_,rfl⟩;have U:z1.length=l.length+1 - i:=by rw[ck,b5]
  have cb:z2.length=gc - (l.length+1):=by rw[cl,b5]
  obtain⟨s,am⟩:∃s,s=(ints l).take i++z1++z2:=⟨_,rfl⟩;have cn:(((ints l).take i).toArray++Builtin.zeroCells (Value.int .i64 0).cells (l.length+1 - i)++Builtin.zeroCells (Value.int .i64 0).cells (gc - (l.length+1)))=s.toArray:=by rw[am,ck,cl];simp
  rw[cn];have a6:s.length=gc:=by rw[am];simp[U,cb,m];omega
  have bk:((w.alloc (.cells s.toArray (ρ.t 3))).drew).heap[w.heap.size]?=some (.cells s.toArray (ρ.t 3) (0,0)):=heap_alloc_new w _;rw[iB (w:=(w.alloc (.cells s.toArray (ρ.t 3))).drew) w.heap.size i (ρ.t 3) [.int .i64 x] s.toArray bk (by simp[a6];omega) ad];obtain⟨f,S⟩:∃f,f=s.toArray.toList.take i++[.int .i64 x]++s.toArray.toList.drop (i+[Value.int .i64 x].length):=⟨_,rfl⟩;rw[←S];have y:f.length=gc:=by rw[S];simp[a6];omega
  have ar:=setRow_heap (w.alloc (.cells s.toArray (ρ.t 3))).drew w.heap.size s.toArray f.toArray (ρ.t 3) (0,0) bk;have av:(((w.alloc (.cells s.toArray (ρ.t 3))).drew.setRow w.heap.size f.toArray).drew).heap[w.heap.size]?=some (.cells f.toArray (ρ.t 3) (0,0)):=ar;have D:((ints l).drop i).length=l.length - i:=by simp[m]
  rw[iB (w:=((w.alloc (.cells s.toArray (ρ.t 3))).drew.setRow w.heap.size f.toArray).drew) w.heap.size (i+1) (ρ.t 3) ((ints l).drop i) f.toArray av (by rw[D];simp[y];omega) (fun u hu=>uy u (List.mem_of_mem_drop hu))];obtain⟨c,k⟩:∃c,c=f.toArray.toList.take (i+1)++(ints l).drop i++f.toArray.toList.drop (i+1+((ints l).drop i).length):=⟨_,rfl⟩;rw[←k];have cc:c.length=gc:=by rw[k];simp[y,m];omega
  have ax:=setRow_heap ((w.alloc (.cells s.toArray (ρ.t 3))).drew.setRow w.heap.size f.toArray).drew w.heap.size f.toArray c.toArray (ρ.t 3) (0,0) av;refine yx (g:=w.heap.size) (vb:=I) (cap:=gc) (arr:=c) (rest:=z2) (R':=R.more w.heap.size) a8 (fun B d=>?_) b7 (by omega) ag ax ?_ af (fun j _=>a2 j) cc bl (by rw[Y];exact a5) O _ (by rw[Y])
  ·have k1:bp w R (w.alloc (.cells s.toArray (ρ.t 3))) (R.more w.heap.size) B:=gx _ (fun b c6 d=>Own.qj d) B;have K:=qn (R:=R.more w.heap.size) bk f.toArray (by simp[a6,y]) (fun j _=>a2 j) (by simp[a6];omega) B d;have M:=qn (R:=R.more w.heap.size) av c.toArray (by simp[cc,y]) (fun j _=>a2 j) (by simp[y];omega) B d;exact k1.trans (vU (K.trans (vU M)))
  have e0:((ints l).take i).length=i:=by simp[m];omega
  obtain⟨zz,Z,hz⟩:∃zz Z,z1=zz::Z:=by
   cases z1 with
   | nil=>simp at U;omega
   | cons a r=>exact⟨a,r,rfl⟩
  have cu:Z.length=l.length - i:=by rw[hz] at U;simp at U;omega
  have E:f=(ints l).take i++.int .i64 x::(Z++z2):=by
   rw[S,am,hz];simp only[List.toList_toArray,List.length_singleton];exact Uo _ Z z2 (.int .i64 x) zz i e0
  rw[k,E,oG];simp only[List.toList_toArray];have F:((ints l).take i++.int .i64 x::(Z++z2)).take (i+1)=(ints l).take i++[.int .i64 x]:=by
   rw[List.take_append,e0];simp[List.take_take]
  have e3:((ints l).take i++.int .i64 x::(Z++z2)).drop (i+1+((ints l).drop i).length)=z2:=by
   have:i+1+((ints l).drop i).length=((ints l).take i).length+(1+Z.length):=by rw[e0,D,cu];omega
   rw[this,List.drop_length_add_append,Nat.add_comm 1,List.drop_succ_cons,List.drop_left]
  rw[F,e3];simp
 have bt:i=l.length:=by omega
 subst bt;refine (Any2.slices_Insert_int_end_grow L (some ⟨W,0,none⟩) l.length l.length I 0 1 vc (ints l) [.int .i64 x] w (by decide) (Nat.le_refl _) (by omega) (by omega) m rfl (by simp) (fun a A j v hj=>?_) ba ad).mono ?_
 ·simp only[Option.some.injEq] at A;subst A;rw[add_plain];exact bg j v hj
 rw[ca];rintro e w' ⟨rfl,rfl⟩;obtain⟨c,k⟩:∃c,c=(ints l++[.int .i64 x])++(Builtin.zeroCells (Value.int .i64 0).cells (gc - (l.length+1))).toList:=⟨_,rfl⟩;have a3:((ints l++[Value.int .i64 x]).toArray++Builtin.zeroCells (Value.int .i64 0).cells (gc - (l.length+1)))=c.toArray:=by rw[k];simp
 rw[a3];have y:c.length=gc:=by rw[k,List.length_append,b5];simp[m];omega
 have az:(w.drew.alloc (.cells c.toArray (ρ.t 3))).heap[w.heap.size]?=some (.cells c.toArray (ρ.t 3) (0,0)):=heap_alloc_new w.drew _;refine yx (g:=w.heap.size) (vb:=I) (cap:=gc) (arr:=c) (rest:=(Builtin.zeroCells (Value.int .i64 0).cells (gc - (l.length+1))).toList) (R':=R.more w.heap.size) a8 (fun B d=>gV _ (fun b c6 d=>Own.qj d) B) b7 (by omega) ag az ?_ af (fun j _=>a2 j) y bl (by rw[Y];exact a5) O _ (by rw[Y]);rw[k,oG,←m,List.take_length,List.drop_length]
theorem EU {ρ:Ren} {G:bA} (L:Lays2.n21 P ρ) :
  ay P G (ρ.f 21) [.dat (.flat (.slice none 0 0)),iv (ofNat 0),.win (.out 0) 1 0 1] [(.out 0,.cells [iv x])] 1
   (XQ ⟨.win (.out 1) 1 0 1,[(.out 1,.cells [iv x]),(.out 0,.cells [iv x])],2⟩):=by
 intro w R N Z a7 H z I u U W al hF;obtain⟨v0,r1,c0,d1,rfl,rfl,Q,av⟩:=au I;obtain⟨v1,r2,p,d2,rfl,rfl,a,M⟩:=au av;obtain⟨v2,r3,q,d3,rfl,rfl,Y,ax⟩:=au M;obtain⟨rfl,rfl⟩:=aM ax;have A:=u;obtain⟨vb,b3,b4,rfl,az,K,m⟩:=u;have m:b4=[]:=m;subst m;obtain⟨be,ad,bc,t,X,a4,_⟩:=K;simp only[ai] at Q a Y;obtain⟨rfl,Q⟩:=Q;have V:v0=.slice none 0 0:=by
  have Q:eU w R v0 (.flat (.slice none 0 0)):=Q
  cases Q with|flat _=>rfl
 subst V;obtain⟨rfl,r,vc,D,rfl,a9,_,a6,a0⟩:=Y
 have:r=vb:=by rw[az] at D;simpa using D.symm
 subst this;obtain⟨rfl,a⟩:=a;have a:eU w R v1 (.flat (.int .i64 (ofNat 0))):=a;have E:v1=.int .i64 (ofNat 0):=by cases a with|flat _=>rfl
 subst E;obtain⟨bf,bg,q3,q4,a2,rfl,M,ar⟩:=eL X;obtain⟨rfl,rfl,ag⟩:=oD (l:=[x]) M;obtain⟨rfl,_⟩:=mY ar;simp only[List.nil_append,List.append_nil] at U;have a1:∀j v,[Value.int .i64 x][j]?=some v->w.cell? ⟨r,0+j,none⟩=some v:=by
  intro j v hj;refine aeP t ?_;rw[a2]
  cases j with
  | zero=>simpa [ints] using hj
  | succ j=>simp at hj
 have ae:∀v∈[Value.int .i64 x],v.oneCell'=true:=by intro v V;simp at V;subst V;rfl
 have a5:r < w.heap.size:=bN t;have af:w.heap.size∉z:=fun h=>by have:=hF _ h;omega
 refine (Any2.slices_Insert_int_end_grow L none 0 0 r 0 1 vc [] [.int .i64 x] w (by decide) (Nat.le_refl _) (by omega) (by omega) rfl rfl (by simp) (by simp) a1 ae).mono ?_;have S:=grownCap_ge w (0+1) 0 (ρ.t 3);have T:grownCap w (0+1) 0 (ρ.t 3)<=jq:=Nat.le_trans (grownCap_le_maxLen w (0+1) 0 (ρ.t 3) (by unfold maxLen;omega)) (by decide);generalize a8:grownCap w (0+1) 0 (ρ.t 3)=F at S T;have a3:∀n,(Builtin.zeroCells (Value.int .i64 0).cells n).toList.length=n:=fun n=>by simp[Builtin.zeroCells,Value.cells]
 rintro e w' ⟨rfl,rfl⟩;obtain⟨i,s⟩:∃i,i=Value.int .i64 x::(Builtin.zeroCells (Value.int .i64 0).cells (F - (0+1))).toList:=⟨_,rfl⟩;have y:(([]++[Value.int .i64 x]).toArray++Builtin.zeroCells (Value.int .i64 0).cells (F - (0+1)))=i.toArray:=by
  apply Array.toList_inj.1
  rw[s];simp
 rw[y];have am:i.length=F:=by rw[s,List.length_cons,a3];omega
 have J:(w.drew.alloc (.cells i.toArray (ρ.t 3))).heap[w.heap.size]?=some (.cells i.toArray (ρ.t 3) (0,0)):=heap_alloc_new w.drew _;have k:∀B,bp w R (w.drew.alloc (.cells i.toArray (ρ.t 3))) (R.more w.heap.size) B:=fun B=>gV _ (fun b ba d=>Own.qj d) B
 have C:=FG (N:=N) (b:=w.heap.size) W;refine⟨_,_,_,2,R.more w.heap.size,bX N (.out 1) w.heap.size,[],[w.heap.size,r],rfl,⟨rfl,rfl,rfl⟩,?_,?_,?_,?_,k z,fun o b h=>C _ _ h⟩
 ·simp only[ai];refine⟨trivial,w.heap.size,F,by simp[outs,bX],rfl,S,⟨by decide,T⟩,bN J,?_⟩;rw[dF J];simp[am]
 ·refine⟨w.heap.size,[],[r],rfl,by simp[outs,bX],?_,((by simpa using A:aj w R (outs N) _ [r]).keep (k _)).ext (Gb C)⟩;refine⟨i.toArray,ρ.t 3,(Builtin.zeroCells (Value.int .i64 0).cells (F - (0+1))).toList.length,J,?_,fun j _=>.inl rfl,fun h=>by simp[cd] at h⟩;have Y:=fK (w:=w.drew.alloc (.cells i.toArray (ρ.t 3))) (R:=R.more w.heap.size) (N:=outs (bX N (.out 1) w.heap.size)) (Builtin.zeroCells (Value.int .i64 0).cells (F - (0+1))).toList;have f:ah (w.drew.alloc (.cells i.toArray (ρ.t 3))) (R.more w.heap.size) (outs (bX N (.out 1) w.heap.size)) (cH [x]) (ints [x]) []:=Es ag;have g:=ct f Y;have e:i.toArray.toList=ints [x]++(Builtin.zeroCells (Value.int .i64 0).cells (F - (0+1))).toList:=by rw[s];rfl
  rw[e];exact g
 ·simp only[List.nil_append,List.cons_append];refine List.nodup_cons.2 ⟨?_,U⟩;simp only[List.mem_cons,not_or];exact⟨by omega,af⟩
 intro o c O
 by_cases aq:o=1
 ·omega
 have:N (.out o)=some c:=by simpa [bX,aq] using O
 have:=W o c this
 omega
theorem ay.UD {G:bA} {g:FuncId} {n:List ac} {r m:Nat} {I:Heap} (h:ay P G g n [] 0 (XQ ⟨.win (.out r) 1 0 l.length,(.out r,.cells (cH l))::I,m⟩)) (hn:l.length<=lim) :
  ay P G g n [] 0 (XQ ⟨.dat (.slice (l.map fun x=>.flat (.int .i64 x))),[],0⟩):=by
 intro w R N q L H z A hh Z E J hF;refine (h w R N q L H z A hh Z E J hF).mono ?_;rintro e w' ⟨v,cv,hp,m',R',N',ax,al,rfl,⟨rfl,rfl,rfl⟩,V,W,p,ar,k,hN⟩;simp only[ai] at V;obtain⟨rfl,b,M,d,rfl,D,_,aq,av⟩:=V;obtain⟨t,b1,Q,rfl,B,F,ae⟩:=W
 have:t=b:=by rw[d] at B;simpa using B.symm
 subst this;obtain⟨vs,am,sp,C,af,az,_⟩:=F;obtain⟨a0,a1,q1,q2,ag,rfl,ad,_⟩:=eL af;obtain⟨rfl,rfl,U⟩:=oD ad;have S:t∉z:=by
  intro hm;have a:(t::((([]++q2)++Q)++z)).Nodup:=by simpa using p
  exact (List.nodup_cons.1 a).1 (List.mem_append_right _ hm)
 let R2:Own:=fun c f=>c≠t/\R' c f
 have Y:bp w' R' w' R2 z:=⟨⟨rfl,rfl,rfl,Nat.le_refl _,fun c _ s=>⟨rfl,fun f h=>s f h.2⟩,fun c f _ s=>⟨fun h=>s h.2,rfl⟩,fun _ _=>rfl⟩,fun c u _=>⟨rfl,fun f h=>⟨fun e=>S (e ▸ u),h⟩⟩⟩;refine⟨_,_,_,0,R2,fun m=>match m with|.loc i=>N' (.loc i)|.out _=>none,[],[],rfl,⟨rfl,rfl,rfl⟩,?_,rfl,?_,by intro o c O;simp at O,k.trans Y,?_⟩
 ·simp only[ai];refine⟨trivial,?_⟩;have hl:l.length=(l.map fun x=>ak.flat (.int .i64 x)).length:=by simp
  rw[hl];refine eU.slice t 0 M 1 _ (fun i _=>.int .i64 (l.getD i 0)) (by decide) ?_ (by simpa using D) (by simpa using hn) ?_ ?_
  ·intro e K;obtain⟨x,_,rfl⟩:=List.mem_map.1 K;rfl
  ·intro i j y hj
   have:j=0:=by omega
   subst this;simp only[List.length_map] at y;refine⟨?_,fun h=>h.1 rfl⟩;refine aeP C ?_;rw[ag,show 0+i*1+0=i by omega,List.getElem?_append_left (by simp[ints];exact y)];simp[ints,y]
  intro i j e c K u;simp only[List.getElem?_map,Option.map_eq_some_iff] at K;obtain⟨x,X,rfl⟩:=K;have T:c=.flat (.int .i64 x):=by
   have u:[ak.flat (.int .i64 x)][j]?=some c:=u
   cases j with
   | zero=>simpa using u.symm
   | succ j=>simp at u
  subst T;obtain⟨y,rfl⟩:=List.getElem?_eq_some_iff.1 X
  have:l.getD i 0=l[i]:=by simp[y]
  rw[this];exact .flat (U _ (List.getElem_mem y))
 ·have a:(t::((([]++q2)++Q)++z)).Nodup:=by simpa using p
  have h2:=(List.nodup_cons.1 a).2;simpa using (List.nodup_append.1 h2).2.1
 intro o c O
 have:=E o c O
 omega
end
end Go.Tp
namespace Go.Proofs.YtmpmgmmcaghacaaGreatDoor
open Go.Tp
noncomputable abbrev lk:=Tryz.f178.ntmps
noncomputable abbrev od:=Tryz.f151.ntmps
noncomputable abbrev oc:=Tryz.f152.ntmps
noncomputable abbrev jV:=Tryz.f123.ntmps
noncomputable abbrev ael:=Tryz.f124.ntmps
noncomputable abbrev jh:=Tryz.f197.ntmps
noncomputable abbrev nY:=Tryz.f182.ntmps
noncomputable abbrev gL:=Tryz.f97.ntmps
noncomputable abbrev jX:=Tryz.f102.ntmps
noncomputable abbrev afq:=Tryz.f75.ntmps
variable {i m n u:Nat} {k x:Int} {l s:List Int}
theorem iS (e B:List Nat) {g:FuncId} {x:qS} (d:JE.find g=some x) {a:List ac} {b:Heap} {c:Nat} {r:eX} (h:(Pe (Sv e) (Sv B) ba cM bV bi x g a b c).Ok Tryz.prog cM (fun y=>y=r)) :
  KC g a b c (XQ r):=Du (Pd JS uD d (fun _ _=>h))
theorem tW (k:Nat):∀l:List Int,gZ k (cH l)=false
 | []=>rfl
 | d::r=>by show (iq k (iv d)||gZ k (cH r))=false;rw[tW k r];rfl
theorem fJ (ρ:Nat->Nat):∀l:List Int,il ρ (cH l)=cH l
 | []=>rfl
 | d::r=>by show fx ρ (iv d)::il ρ (cH r)=_;rw[fJ ρ r];rfl
theorem tQ (p:Nat->Bool):∀l:List Int,mE p (cH l)=true
 | []=>rfl
 | d::r=>by show (Nz p (iv d)&&mE p (cH r))=true;rw[tQ p r];rfl
theorem zQ {g:FuncId} {c:List ac} {d:Heap} {f:Nat} {Q y:ac->Heap->Nat->Prop} (h:KC g c d f Q) (M:∀v h m,Q v h m->∃b,h.Perm b/\y v b m):KC g c d f y:=by
 intro w R N i p H z A I s t J F;refine (h w R N i p H z A I s t J F).mono ?_;rintro e P ⟨v,E,a,j,D,C,q,B,rfl,u,V,r,l,n,k,G⟩;obtain⟨b,L,x⟩:=M _ _ _ u;obtain⟨o,O,K⟩:=r.perm L;refine⟨v,E,b,j,D,C,q,o,rfl,x,V,O,?_,n,k,G⟩;exact (List.Perm.nodup_iff (List.Perm.append_left _ (List.Perm.append_right _ K))).1 l
def sP:ac:=.ptr (.out 0) 0
def hS (r:Nat):List Int->Heap
 | []=>[(.out 0,.cells [.dat nl])]
 | x::l=>[(.out r,.cells (cH (x::l))),(.out 0,.cells [.win (.out r) 1 0 (x::l).length])]
def hR (r:Nat) (l:List Int) (n:Nat):Heap:=[(.out r,.cells (cH l)),(.out 0,.cells [.win (.out r) 1 0 n])]
theorem LH {r:Nat} (h:l≠[]):hS r l=hR r l l.length:=by cases l with|nil=>grind|cons x l=>rfl
theorem Mo (s:l.Pairwise (·<=·)) (N:l.length < 1000000000) (b:n=l.length) :
  KC 206 [.win (.out 1) 1 0 n,iv x] (hR 1 l n) 2 (XQ ⟨.tup [iv (ofNat (l.countP (· < x))),bv (l.contains x)],hR 1 l n,2⟩):=by
 subst b;have h:=ay.frame (RQ (G:=cM) Tryz.aff (x:=x) s N) (fun _=>1) (heap:=hR 1 l l.length) (rest:=[(.out 0,.cells [.win (.out 1) 1 0 l.length])]) (next:=2) (by simp[hR,jJ,pW,wX,fJ]) rfl (by simp[gH,BS,tW]) rfl rfl;refine zQ h ?_;rintro v h m ⟨d,a,c,⟨rfl,rfl,rfl⟩,rfl,rfl,rfl⟩;refine⟨hR 1 l l.length,?_,rfl,rfl,rfl⟩;simp[hR,jJ,pW,wX,fJ,ig];exact List.Perm.refl _
theorem MQ (b:i<=l.length) (N:l.length < 1000000000) (c:n=l.length) :
  KC 207 [.win (.out 1) 1 0 n,iv (ofNat i),.win (.out 2) 1 0 1] ((.out 2,.cells [iv x])::hR 1 l n) 3
   (XQ ⟨.win (.out 3) 1 0 (fw l i x).length,[(.out 3,.cells (cH (fw l i x))),(.out 2,.cells [iv x]),(.out 0,.cells [.win (.out 1) 1 0 n])],4⟩):=by
 subst c;have h:=ay.frame (RS (G:=cM) Tryz.VR (x:=x) b N) (fun o=>o+1) (heap:=(.out 2,.cells [iv x])::hR 1 l l.length) (rest:=[(.out 0,.cells [.win (.out 1) 1 0 l.length])]) (next:=3) (by simp[hR,jJ,pW,wX,fJ,il,fx];exact List.Perm.swap _ _ _) rfl (by simp[gH,BS,tW,gZ,iq]) rfl rfl;refine zQ h ?_;rintro v h m ⟨e,a,d,⟨rfl,rfl,rfl⟩,rfl,rfl,rfl⟩;refine⟨_,List.Perm.refl _,rfl,?_,rfl⟩;simp[jJ,pW,wX,fJ,il,fx,ig];exact⟨rfl,rfl⟩
theorem insert_nil :
  KC 207 [.dat nl,iv (ofNat 0),.win (.out 1) 1 0 1] [(.out 1,.cells [iv x]),(.out 0,.cells [.dat nl])] 2
   (XQ ⟨.win (.out 2) 1 0 1,[(.out 2,.cells [iv x]),(.out 1,.cells [iv x]),(.out 0,.cells [.dat nl])],3⟩):=by
 have h:=ay.frame (EU (G:=cM) Tryz.VR (x:=x)) (fun o=>o+1) (heap:=[(.out 1,.cells [iv x]),(.out 0,.cells [.dat nl])]) (rest:=[(.out 0,.cells [.dat nl])]) (next:=2) (by rfl) rfl rfl rfl rfl;refine zQ h ?_;rintro v h m ⟨c,a,b,⟨rfl,rfl,rfl⟩,rfl,rfl,rfl⟩;exact⟨_,List.Perm.refl _,rfl,rfl,rfl⟩
theorem Is:ae 206 [.dat nl,iv x] (.tup [iv (ofNat 0),bv false]):=dE _ _ _ _ _ (by kernel_rfl)
theorem U8:KC 195 [sP,iv x] [(.out 0,.cells [.dat nl])] 1 (XQ ⟨.tup [],[(.out 2,.cells [iv x]),(.out 1,.cells [iv x]),(.out 0,.cells [.win (.out 2) 1 0 1])],3⟩):=by
 have a:=Is (x:=x);have b:=insert_nil (x:=x);exact iS [] [] (x:=qS.of Tryz.f195 P8 yq) (by kernel_rfl) (on a (oh b fi))
theorem U9 {c:List Int} {d:Nat} (a:KC 206 [.win (.out 1) 1 0 n,iv x] (hR 1 l n) 2 (XQ ⟨.tup [iv (ofNat i),bv false],hR 1 l n,2⟩))
  (b:KC 207 [.win (.out 1) 1 0 n,iv (ofNat i),.win (.out 2) 1 0 1] ((.out 2,.cells [iv x])::hR 1 l n) 3
   (XQ ⟨.win (.out 3) 1 0 d,[(.out 3,.cells (cH c)),(.out 2,.cells [iv x]),(.out 0,.cells [.win (.out 1) 1 0 n])],4⟩)) :
  KC 195 [sP,iv x] (hR 1 l n) 2 (XQ ⟨.tup [],[(.out 3,.cells (cH c)),(.out 2,.cells [iv x]),(.out 0,.cells [.win (.out 3) 1 0 d])],4⟩):=by
 exact iS [] [] (x:=qS.of Tryz.f195 P8 yq) (by kernel_rfl) (oh a (oh b fi))
theorem U7 (a:KC 206 [.win (.out 1) 1 0 n,iv x] (hR 1 l n) 2 (XQ ⟨.tup [iv (ofNat i),bv true],hR 1 l n,2⟩)) :
  KC 195 [sP,iv x] (hR 1 l n) 2 (XQ ⟨.tup [],hR 1 l n,2⟩):=by
 exact iS [] [] (x:=qS.of Tryz.f195 P8 yq) (by kernel_rfl) (oh a fi)
def jc (l:List Int) (x:Int):List Int:=match l.contains x with|true=>l|false=>fw l (l.countP (· < x)) x
theorem GK:fw l i x≠[]:=by simp[fw]
theorem Va (o:l≠[]) (s:l.Pairwise (·<=·)) (N:l.length < 1000000000) :
  KC 195 [sP,iv x] (hR 1 l l.length) 2 (XQ ⟨.tup [],hR 2 (jc l x) (jc l x).length,3⟩):=by
 have a:=Mo (x:=x) s N rfl;unfold jc;generalize e:l.contains x=c at a
 cases c
 ·have b:=MQ (x:=x) (i:=l.countP (· < x)) List.countP_le_length N rfl;refine ay.rn (U9 a b) ?_;rintro v w m ⟨rfl,rfl,rfl⟩;refine⟨[3],rfl,?_,?_⟩
  ·simp[dN,Sr,VN,lr,ot,tQ];rfl
  simp[hR,dN,jJ,pW,wX,il,fx,lr,ot,BP,AI,fJ];exact⟨rfl,rfl,rfl⟩
 refine ay.rn (U7 a) ?_;rintro v w m ⟨rfl,rfl,rfl⟩;refine⟨[1],rfl,?_,?_⟩
 ·simp[hR,dN,Sr,VN,lr,ot,tQ];rfl
 simp[hR,dN,jJ,pW,wX,il,fx,lr,ot,BP,AI,fJ];exact⟨rfl,rfl,rfl⟩
theorem HK:KC 195 [sP,iv x] [(.out 0,.cells [.dat nl])] 1 (XQ ⟨.tup [],hR 1 [x] 1,2⟩):=by
 refine ay.rn (U8 (x:=x)) ?_;rintro v w m ⟨rfl,rfl,rfl⟩;exact⟨[2],rfl,rfl,rfl,rfl,rfl⟩
theorem adM (s:l.Pairwise (·<=·)) (N:l.length < 1000000000) (r m:Nat) :
  KC 195 [sP,iv x] (hS r l) m (XQ ⟨.tup [],hS m (jc l x),m+1⟩):=by
 cases l with
 | nil=>
  have h:=ay.frame (HK (x:=x)) (fun o=>o) (heap:=hS r []) (rest:=[]) (next:=m) (by rfl) rfl rfl rfl rfl;refine h.mono ?_;rintro v h c ⟨e,a,d,⟨rfl,rfl,rfl⟩,rfl,rfl,rfl⟩;refine⟨rfl,?_,rfl⟩;show _=hS m [x];simp[hS,hR,jJ,pW,wX,il,fx,fJ,ig];exact⟨rfl,rfl,rfl⟩
 | cons y l=>
  have b:jc (y::l) x≠[]:=by
   grind[jc,GK]
  rw[LH (by simp:(y::l)≠[]),LH b];have h:=ay.frame (Va (x:=x) (by simp:(y::l)≠[]) s N) (fun o=>match o with|0=>0|_=>r) (heap:=hR r (y::l) (y::l).length) (rest:=[]) (next:=m) (by simp[hR,jJ,pW,wX,fJ,il,fx]) (by rfl) (by simp[gH,hR,BS,tW,gZ,iq];rfl) (by rfl) rfl;refine h.mono ?_;rintro v h c ⟨e,a,d,⟨rfl,rfl,rfl⟩,rfl,rfl,rfl⟩;refine⟨rfl,?_,rfl⟩;simp[hR,jJ,pW,wX,il,fx,fJ,ig];exact⟨rfl,rfl,rfl⟩
noncomputable def aci:Hints:=⟨bV,vL,bi,rowsOf bi 178⟩
def WI (k:Int) (b:List UInt8) (x:Int) (a:ak) (n u:Nat) (H:Heap) (m:Nat) (i:Int):ab:=⟨[(26,iv i),(25,iv (ofNat n)),(24,.dat a),(3,.ptr (.loc 3) 0),(1,iv (ofNat u)),(2,sP)],[(.loc 3,.cells [iv k,.dat (sb b),iv x,.dat a])],H,m⟩
def S0 (k:Int) (b:List UInt8) (x:Int) (a:ak) (n u:Nat) (H:Heap) (m:Nat) (i:Int):ab:=⟨[(27,bv false),(26,iv i),(25,iv (ofNat n)),(24,.dat a),(3,.ptr (.loc 3) 0),(1,iv (ofNat u)),(2,sP)],[(.loc 3,.cells [iv k,.dat (sb b),iv x,.dat a])],H,m⟩
theorem Ni {n:List UInt8} {f:Int} {x:ak} {c:List ak} {l:List Ty} {t:Ty} {b j:Nat} {H g:Heap} (r:ax l=x::c) (q:i < (ax l).length) (s:l[i]?=some t)
  (d:ae 196 [.dat (.agg [i64 k,sb n,i64 f,.slice (x::c)]),iv (ofNat i)] (iv (ofNat b)))
  (p:KC 178 [.dat t.enc,iv (an .i64 (ofNat u+ofNat b)),sP] H m (XQ ⟨.tup [],g,j⟩)) {T:ej}
  (e:T .normal ((WI k n f (.slice (x::c)) (x::c).length u g j (an .i64 (ofNat i+1))).al lk)) :
  KD (roundOf Tryz.f178 0) T ((WI k n f (.slice (x::c)) (x::c).length u H m (ofNat i)).al lk):=by
 have a:=br q;have h:=pF s;rw[r] at a h;obtain⟨K,w,v,o⟩:=t
 rcases o with _|⟨Q,y⟩ <;>
 ·exact aq [27] [29] (H:=aci) (live:=rf) (ob a (oo h (on d (oh p (oe e)))))
theorem RK {b:List UInt8} {a:ak} {H:Heap} {T:ej} (e:T (.exit 0) ((S0 k b x a n u H m (ofNat n)).al lk)) :
  KD (roundOf Tryz.f178 0) T ((WI k b x a n u H m (ofNat n)).al lk):=by
 have c:=cj (i:=n) (L:=n) (by omega);exact aq [27] [] (H:=aci) (live:=rf) (ob c (oe e))
def eP (k x:Int) (u:Nat) (s:List Int):List Int:=match aB k 5 with|false=>s|true=>(match aF x (ofNat u) with|true=>s|false=>jc s (x - ofNat u))
mutual
def Ty.cf:Ty->Nat->List Int->List Int
 | .mk k _ x a,u,s=>se k a 0 u (eP k x u s)
def se (k:Int):List Ty->Nat->Nat->List Int->List Int
 | [],_,_,s=>s
 | t::r,j,u,s=>se k r (j+1) u (t.cf (u+ey k j) s)
end
theorem LQ {k:Int} {b:List Ty} {u:Nat}:∀{a:List Ty} {j:Nat} {s:List Int},se k (a++b) j u s=se k b (j+a.length) u (se k a j u s)
 | [],j,s=>by simp[se]
 | t::r,j,s=>by
  simp only[List.cons_append,se,List.length_cons];rw[LQ,show j+1+r.length=j+(r.length+1) by omega]
theorem Hr {l:List Ty} {t:Ty} (h:l[i]?=some t):se k (l.take (i+1)) 0 u s=t.cf (u+ey k i) (se k (l.take i) 0 u s):=by
 have a:=(List.getElem?_eq_some_iff.1 h).1;rw[List.take_add_one,h,Option.toList_some,LQ,Nat.zero_add,List.length_take,Nat.min_eq_left (by omega),se,se]
theorem Nj {n:List UInt8} {a:Int} {l:List ak} {h p:Nat} {C b:Bool} {H c i:Heap} (f:aB k 5=C) (J:aF a (ofNat u)=b)
  (A:C=true->b=false->KC 195 [sP,iv (an .i64 (a - ofNat u))] H m (XQ ⟨.tup [],c,h⟩)) (o:C=false∨b=true->c=H/\h=m)
  (g:KD (.loop (roundOf Tryz.f178 0)) (fun e s=>e=.exit 0/\s=(S0 k n a (sl l) l.length u i p (ofNat l.length)).al lk) ((WI k n a (sl l) l.length u c h (ofNat 0)).al lk)) :
  KC 178 [.dat (.agg [i64 k,sb n,i64 a,sl l]),iv (ofNat u),sP] H m (XQ ⟨.tup [],i,p⟩):=by
 cases C
 ·obtain⟨rfl,rfl⟩:=o (.inl rfl);rcases l with _|⟨x,l⟩ <;>
  ·refine iS [10] [] (x:=qS.of Tryz.f178 vL rf) (by kernel_rfl) (ob f ?_);refine lo g ?_;rintro j s ⟨rfl,rfl⟩;refine⟨_,rfl,?_⟩;exact fi
 cases b
 ·have d:=A rfl rfl;rcases l with _|⟨x,l⟩ <;>
  ·refine iS [10,15] [] (x:=qS.of Tryz.f178 vL rf) (by kernel_rfl) (ob f (ox J (oh d ?_)));refine lo g ?_;rintro j s ⟨rfl,rfl⟩;refine⟨_,rfl,?_⟩;exact fi
 obtain⟨rfl,rfl⟩:=o (.inr rfl);rcases l with _|⟨x,l⟩ <;>
 ·refine iS [10,15] [] (x:=qS.of Tryz.f178 vL rf) (by kernel_rfl) (ob f (ox J ?_));refine lo g ?_;rintro j s ⟨rfl,rfl⟩;refine⟨_,rfl,?_⟩;exact fi
def gr (b:Nat) (s:List Int):Prop:=s.Pairwise (·<=·)/\s.length<=b
theorem countP_split (s:l.Pairwise (·<=·)):(∀y∈l.take (l.countP (· < x)),y < x)/\(∀y∈l.drop (l.countP (· < x)),x<=y):=by
 induction l with
 | nil=>simp
 | cons a r e=>
  obtain⟨f,b⟩:=e (List.Pairwise.of_cons s)
  by_cases A:a < x
  ·simp_all
  have o:(a::r).countP (· < x)=0:=by
   rw[List.countP_eq_zero];intro y c;have d:a<=y:=by
    rcases List.mem_cons.1 c with rfl|c
    all_goals simp_all
   grind
  grind
theorem Mn {b:Nat} (h:gr b s):gr (b+1) (jc s x):=by
 obtain⟨a,c⟩:=h;unfold jc
 cases s.contains x with
 | true=>exact⟨a,Nat.le_succ_of_le c⟩
 | false=>
  obtain⟨p,q⟩:=countP_split (x:=x) a;refine⟨?_,?_⟩
  ·unfold fw;rw[List.pairwise_append];refine⟨a.sublist (List.take_sublist _ _),?_,?_⟩
   ·rw[List.pairwise_cons];grind
   grind
  rw[uz List.countP_le_length];omega
theorem zE {b:Nat} {k x:Int} {u:Nat} {s:List Int} (h:gr b s):gr (b+1) (eP k x u s):=by
 unfold eP
 cases aB k 5 with
 | false=>exact⟨h.1,Nat.le_succ_of_le h.2⟩
 | true=>
  cases aF x (ofNat u) with
  | true=>exact⟨h.1,Nat.le_succ_of_le h.2⟩
  | false=>exact Mn h
mutual
theorem V4:∀(t:Ty) (u:Nat) {b:Nat} {s:List Int},gr b s->gr (b+t.size) (t.cf u s)
 | .mk k n x l,u,b,s,h=>by
  rw[Ty.cf,Ty.size,show b+(aQ l+1)=b+1+aQ l by omega];exact EO l u (zE h)
theorem EO {k:Int}:∀(l:List Ty) {j:Nat} (u:Nat) {b:Nat} {s:List Int},gr b s->gr (b+aQ l) (se k l j u s)
 | [],j,u,b,s,h=>by grind[se,aQ]
 | t::r,j,u,b,s,h=>by
  rw[se,aQ,←Nat.add_assoc];exact EO r u (V4 t _ h)
end
def CF (t:Ty) (u:Nat) (s:List Int):Prop:=∀r m,0 < r->0 < m->KC 178 [.dat t.enc,iv (ofNat u),sP] (hS r s) m (XQ ⟨.tup [],hS m (t.cf u s),m+1⟩)
def FK (r m:Nat):Nat->Nat
 | 0=>r
 | i+1=>m+i
theorem FJ {r:Nat} (a:0 < r) (b:0 < m):0 < FK r m i:=by cases i <;> grind[FK]
theorem Xn {f:FuncId} {a:List ac} {o:Heap} {q mm:Nat} (g:0 < m) (i:0 < q) (h:KC f a o m (XQ ⟨.tup [],hS q s,mm⟩)):KC f a o m (XQ ⟨.tup [],hS m s,m+1⟩):=by
 refine ay.rn h ?_;rintro v w j ⟨rfl,rfl,rfl⟩;refine⟨[q],rfl,?_,?_⟩
 all_goals
  have E:ot 0 [q]=false:=by cases q with|zero=>omega|succ q=>rfl
  have F:ot q [q]=true:=by simp[ot]
  have b:lr m [q] 0=true:=by simp[lr,g]
  have c:lr m [q] q=true:=by simp[lr,F]
  have d:BP m [q] 0=0:=by simp[BP,E]
  have e:BP m [q] q=m:=by simp[BP,F,AI]
 ·cases s with
  | nil=>simp[hS,dN,Sr,VN,mE,Nz,b]
  | cons x l=>simp[hS,dN,Sr,VN,mE,Nz,b,c,tQ]
 ·cases s with
  | nil=>simp[hS,dN,jJ,pW,wX,il,fx,b,d];exact⟨rfl,rfl,rfl⟩
  | cons x l=>simp[hS,dN,jJ,pW,wX,il,fx,b,c,d,e,fJ];exact⟨rfl,rfl,rfl⟩
theorem UR {h:List UInt8} {a:Int} {l:List Ty} {b:Nat} (H:gr b s) (N:b+1+aQ l < 1000000000) (W:u < 1000000000) (g:aB k 5=true->aF a 9223372036854775808=true)
  (V:∀t∈l,∀v L,v<=u+1->gr (b+1+aQ l) L->(∃Q,gr Q L/\Q+t.size<=b+1+aQ l)->CF t v L):CF (.mk k h a l) u s:=by
 intro r m R C;have M:=gw l;obtain⟨f,c,A,y,o⟩:∃f c,0 < f/\0 < c/\((aB k 5=true->aF a (ofNat u)=false->KC 195 [sP,iv (an .i64 (a - ofNat u))] (hS r s) m (XQ ⟨.tup [],hS f (eP k a u s),c⟩))/\(aB k 5=false∨aF a (ofNat u)=true->hS f (eP k a u s)=hS r s/\c=m)):=by
  unfold eP
  cases P:aB k 5 with
  | false=>exact⟨r,m,R,C,by simp,fun _=>⟨rfl,rfl⟩⟩
  | true=>
   cases J:aF a (ofNat u) with
   | true=>exact⟨r,m,R,C,by simp,fun _=>⟨rfl,rfl⟩⟩
   | false=>
    refine⟨m,m+1,C,by omega,fun _ _=>?_,by simp⟩;have g:=g P;rw[dA] at J g;simp only[decide_eq_false_iff_not,decide_eq_true_eq] at J g;have e:an .i64 (a - ofNat u)=a - ofNat u:=by
     rw[cQ];simp only[Int.ofNat_eq_natCast] at J ⊢;exact wrap_i64 (by omega) (by omega)
    rw[e];exact adM H.1 (by have:=H.2;omega) r m
 have I:=@zE _ k a u _ H;refine Xn (q:=FK f c l.length) (mm:=c+l.length) C (FJ A y) ?_;have G:KD (.loop (roundOf Tryz.f178 0)) (fun e B=>e=.exit 0/\B=(S0 k h a (sl (ax l)) (ax l).length u (hS (FK f c l.length) (se k l 0 u (eP k a u s))) (c+l.length) (ofNat (ax l).length)).al lk)
   ((WI k h a (sl (ax l)) (ax l).length u (hS f (eP k a u s)) c (ofNat 0)).al lk):=by
  refine bm (St:=fun i=>(WI k h a (sl (ax l)) (ax l).length u (hS (FK f c i) (se k (l.take i) 0 u (eP k a u s))) (c+i) (ofNat i)).al lk) (ax l).length ?_ ?_ (i:=0) (Nat.zero_le _)
  ·intro i w;obtain⟨t,K,z⟩:=get_mem w;have F:=w;rw[aH] at F;have O:ey k i<=1:=by unfold ey;split <;> omega
   obtain⟨x,j,D⟩:∃x j,ax l=x::j:=by
    cases G:ax l with
    | nil=>rw[G] at w;simp at w
    | cons x j=>exact⟨x,j,rfl⟩
   have U:=ld K;have S:=tx (l:=l) (i+1);have d:gr (b+1+aQ (l.take i)) (se k (l.take i) 0 u (eP k a u s)):=EO _ u I;have p:=V t z (u+ey k i) (se k (l.take i) 0 u (eP k a u s)) (by omega) ⟨d.1,by have:=d.2;omega⟩ ⟨_,d,by omega⟩ (FK f c i) (c+i) (FJ A y) (by omega);rw[←wrap_add (n:=u) (m:=ey k i) (by omega)] at p;have E:=Dl k h a (.slice (x::j)) (.inr ⟨_,rfl⟩) i;have e:=Ni (T:=xU (fun B=>B=(WI k h a (sl (ax l)) (ax l).length u (hS (FK f c (i+1)) (se k (l.take (i+1)) 0 u (eP k a u s))) (c+(i+1)) (ofNat (i+1))).al lk)
    (fun e B=>e=.exit 0/\B=(S0 k h a (sl (ax l)) (ax l).length u (hS (FK f c l.length) (se k l 0 u (eP k a u s))) (c+l.length) (ofNat (ax l).length)).al lk)) D w K E p (by
     rw[D,bb (by omega),Hr K];rfl)
   rw[D];rw[D] at e;exact e
  refine RK ⟨rfl,?_⟩;rw[aH,List.take_length]
 exact Nj rfl rfl o.1 o.2 G
mutual
theorem Dk:∀(t:Ty) (u:Nat) {b:Nat} {s:List Int},gr b s->b+t.size < 1000000000->u+t.depth < 1000000000->t.fY->CF t u s
 | .mk k n x l,u,b,s,j,d,h,c=>by
  simp only[Ty.size] at d;simp only[Ty.depth] at h;exact UR j (by omega) (by omega) c.1 (Bl l u (by omega) (by omega) c.2)
theorem Bl:∀(l:List Ty) (u:Nat) {B:Nat},u+db l+1 < 1000000000->B < 1000000000->fg l->∀t∈l,∀v e,v<=u+1->gr B e->(∃Q,gr Q e/\Q+t.size<=B)->CF t v e
 | [],u,B,h,_,c,t,T,_,_,_,_,_=>by grind
 | y::r,u,B,h,hB,c,t,T,v,e,V,a,i=>by
  simp only[db] at h;rcases List.mem_cons.1 T with f|T
  ·obtain⟨Q,g,G⟩:=i;rw[f] at G ⊢;exact Dk y v g (by omega) (by omega) c.1
  exact Bl r u (by omega) hB c.2 t T v e V a i
end
theorem Q9 {n:List UInt8} {a:Int} {l:List ak} (h:KC 178 [.dat (.agg [i64 k,sb n,i64 a,sl l]),iv (ofNat 0),sP] [(.out 0,.cells [.dat nl])] 1 (XQ ⟨.tup [],hS 1 s,2⟩)) :
  KC 147 [.dat (.agg [i64 k,sb n,i64 a,sl l])] [] 0 (XQ (match s with|[]=>⟨.dat nl,hS 1 [],2⟩|x::r=>⟨.win (.out 1) 1 0 (x::r).length,hS 1 (x::r),2⟩)):=by
 rcases l with _|⟨y,l⟩ <;>
 ·cases s with
  | nil=>
   exact iS [] [] (x:=qS.of Tryz.f147 P8 En) (by kernel_rfl) (oh h fi)
  | cons x r=>
   exact iS [] [] (x:=qS.of Tryz.f147 P8 En) (by kernel_rfl) (oh h fi)
def iN (x:Int):ak:=.flat (.int .i64 x)
def Ty.fv (t:Ty):List Int:=t.cf 0 []
theorem X8 {t:Ty}:gr (0+t.size) t.fv:=V4 t 0 ⟨List.Pairwise.nil,Nat.le_refl _⟩
theorem J4 {t:Ty} (d:t.size < 400000000) (c:t.fY):ae 147 [.dat t.enc] (.dat (sl (t.fv.map iN))):=by
 have a:=Dk t 0 (s:=[]) ⟨List.Pairwise.nil,Nat.le_refl 0⟩ (by omega) (by grind[oS]) c 1 1 (by decide) (by decide);have b:=X8 (t:=t);unfold Ty.fv at b ⊢;generalize t.cf 0 []=s at a b;obtain⟨k,n,e,l⟩:=t;have f:=Q9 a
 cases s with
 | nil=>
  refine ay.rn f ?_;rintro v w m ⟨rfl,rfl,rfl⟩;exact⟨[],rfl,rfl,rfl,rfl,rfl⟩
 | cons x r=>exact ay.UD f (by have:=b.2;simp only[lim];omega)
def ik:List Ty->Bool
 | t::_=>t.closed 0
 | []=>false
def vQ (k:Int) (n:List UInt8) (x:Int) (l:List Ty):Bool:=
 if (!aB k 2&&!jP n [])=true then false
 else if (!aB k 5&&!aB x 0)=true then false
 else if (aB k 0||aB k 1)=true then aB (ofNat (ax l).length) 0
 else if aB k 2=true then isIdent n&&(!aeh n&&(!aF 6 (ofNat (ax l).length)&&!gT l))
 else if aB k 3=true then !aF 6 (ofNat (ax l).length)
 else if aB k 4=true then !aF (ofNat (ax l).length) 2
 else if aB k 5=true then aB (ofNat (ax l).length) 0&&(!aF x 0&&!aF 200 x)
 else if aB k 6=true then aB (ofNat (ax l).length) 2&&ik l
 else false
theorem Hu {k:Int} {n:List UInt8} {i:Int} {l:List Ty} (w:∀t∈l,ae 210 [.dat t.enc] (bv t.plain)) (m:∀t∈l,ae 204 [.dat t.enc,iv (ofNat 0)] (bv (t.closed 0)))
  (S:l.length < 1000000000):ae 192 [.dat (Ty.mk k n i l).enc] (bv (vQ k n i l)):=by
 have v:=Dj n;have B:=HA n;have A:=@xE k n i _ w S;have u:∀t r,l=t::r->ae 204 [.dat t.enc,iv (ofNat 0)] (bv (ik l)):=by
  rintro t r rfl;exact m t (by simp)
 unfold vQ;generalize ik l=fc at u;generalize isIdent n=I at v;generalize aeh n=cr at B;generalize gT l=cp at A;generalize o:aB k 0=H;generalize a:aB k 1=p;generalize h:aB k 2=q;generalize f:aB k 3=P;generalize g:aB k 4=Q;generalize G:aB k 5=C;generalize h6:aB k 6=Z;generalize N:jP n []=R;generalize T:aB i 0=D;generalize z:aF 6 (ofNat (ax l).length)=E;generalize L:aF (ofNat (ax l).length) 2=U;generalize j:aB (ofNat (ax l).length) 0=J;generalize s:aB (ofNat (ax l).length) 2=F;generalize M:aF i 0=V;generalize O:aF 200 i=W;clear w m S
 rcases l with _|⟨t,r⟩ <;>
 ·refine co [5,9,14,18,24,25,31,53,59,65,81,29,46,57,63,69,73,78,85] [89] (x:=.of Tryz.f192 P8 Lh) ?_;refine bn (b:=!q) (c:=!aB k 2) (by rw[h]) (by kernel_rfl) ?_
  cases q
  ·refine bn (b:=!R) (c:=!jP n []) (by rw[N]) (by kernel_rfl) ?_
   cases R with
   | false=>exact fi
   | true=>
    refine bn (b:=!C) (c:=!aB k 5) (by rw[G]) (by kernel_rfl) ?_
    cases C
    ·refine bn (b:=!D) (c:=!aB i 0) (by rw[T]) (by kernel_rfl) ?_
     cases D with
     | false=>exact fi
     | true=>
      refine ob o ?_
      cases H
      ·refine ob a ?_
       cases p
       ·refine ob h (ob f ?_)
        cases P
        ·refine ob g ?_
         cases Q
         ·refine ob G (ob h6 ?_)
          cases Z with
          | false=>exact fi
          | true=>
           refine ob s ?_
           cases F with
           | false=>exact fi
           | true=>
            first
            |exact absurd s (by decide)
            |have e:=u _ _ rfl
             have y:=@pF (t::r) 0 t rfl;obtain⟨K,af,ad,Y⟩:=t
             rcases Y with _|⟨b,d⟩ <;>
             ·refine oo y (on e ?_)
              cases fc <;> exact fi
         refine bn (b:=!U) (c:=!aF _ 2) (by rw[L]) (by kernel_rfl) ?_
         cases U <;> exact fi
        refine bn (b:=!E) (c:=!aF 6 _) (by rw[z]) (by kernel_rfl) ?_
        cases E <;> exact fi
       refine ob j ?_
       cases J <;> exact fi
      refine ob j ?_
      cases J <;> exact fi
    refine ob o ?_
    cases H
    ·refine ob a ?_
     cases p
     ·refine ob h (ob f ?_)
      cases P
      ·refine ob g ?_
       cases Q
       ·refine ob G (ob j ?_)
        cases J with
        | false=>exact fi
        | true=>
         refine bn (b:=!V) (c:=!aF i 0) (by rw[M]) (by kernel_rfl) ?_
         cases V
         ·refine bn (b:=!W) (c:=!aF 200 i) (by rw[O]) (by kernel_rfl) ?_
          cases W <;> exact fi
         exact fi
       exact absurd g (by rw[cN] at G ⊢;simp at G ⊢;omega)
      exact absurd f (by rw[cN] at G ⊢;simp at G ⊢;omega)
     exact absurd a (by rw[cN] at G ⊢;simp at G ⊢;omega)
    exact absurd o (by rw[cN] at G ⊢;simp at G ⊢;omega)
  refine bn (b:=!C) (c:=!aB k 5) (by rw[G]) (by kernel_rfl) ?_
  cases C
  ·refine bn (b:=!D) (c:=!aB i 0) (by rw[T]) (by kernel_rfl) ?_
   cases D with
   | false=>exact fi
   | true=>
    refine ob o ?_
    cases H
    ·refine ob a ?_
     cases p
     ·refine ob h (on v ?_)
      cases I with
      | false=>exact fi
      | true=>
       refine on B ?_
       cases cr
       ·refine bn (b:=!E) (c:=!aF 6 _) (by rw[z]) (by kernel_rfl) ?_
        cases E
        ·refine on A ?_
         cases cp <;> exact fi
        exact fi
       exact fi
     exact absurd a (by rw[cN] at h ⊢;simp at h ⊢;omega)
    exact absurd o (by rw[cN] at h ⊢;simp at h ⊢;omega)
  exact absurd G (by rw[cN] at h ⊢;simp at h ⊢;omega)
mutual
def Ty.valid:Ty->Bool
 | .mk k n x l=>vQ k n x l&&!pA l
def pA:List Ty->Bool
 | []=>false
 | t::r=>!t.valid||pA r
end
theorem Ds:∀l:List Ty,pA l=l.any (fun t=>!t.valid)
 | []=>by simp[pA]
 | t::r=>by simp[pA,Ds r]
theorem HQ {n:List UInt8} {h:Int} {l:List Ty} (V:∀t∈l,ae 177 [.dat t.enc] (bv t.valid)) (s:(Ty.mk k n h l).size < 1000000000):ae 177 [.dat (Ty.mk k n h l).enc] (bv (Ty.mk k n h l).valid):=by
 have g:aQ l < 1000000000:=by grind[Ty.size]
 have i:l.length < 1000000000:=by grind[gw]
 have q:=jR l;have a:=@Hu k n h _ (Bj l g) (wA l 0 g (by omega)) i;have p:∀t∈l,ae 194 [.dat t.enc] (bv (!t.valid)):=by
  intro t T;have e:=V t T;generalize t.valid=c at e;obtain⟨K,u,r,j⟩:=t
  rcases j with _|⟨b,d⟩ <;> cases c <;>
  ·refine co [] [] (x:=.of Tryz.f194 P8 QG) ?_;exact on e fi
 have f:=Bu p i;rw[Ty.valid,Ds];generalize l.any (fun t=>!t.valid)=m at f;generalize vQ k n h l=o at a;rcases l with _|⟨b,d⟩ <;>
 ·refine co [] [] (x:=.of Tryz.f177 P8 QG) ?_;refine on a ?_
  cases o with
  | false=>exact fi
  | true=>
   refine on f ?_
   cases m <;> exact fi
mutual
theorem LR:∀t:Ty,t.size < 1000000000->ae 177 [.dat t.enc] (bv t.valid)
 | .mk k n b l,h=>HQ (Hv l (by grind[Ty.size])) h
theorem Hv:∀l:List Ty,aQ l < 1000000000->∀t∈l,ae 177 [.dat t.enc] (bv t.valid)
 | [],_,t,T=>by grind
 | x::r,h,t,T=>by
  simp only[aQ] at h
  rcases List.mem_cons.1 T with a|T
  ·rw[a];exact LR x (by omega)
  exact Hv r (by omega) t T
end
def Ty.validate (t:Ty):Int:=match aF 200 (ofNat t.size)||aF 12 (ofNat t.depth) with|true=>4|false=>(match t.valid with|true=>0|false=>2)
theorem J1 (t:Ty) (h:t.size < 1000000000):ae 146 [.dat t.enc] (iv t.validate):=by
 have a:=RP t h;have e:=LV t h;have f:=LR t h;unfold Ty.validate;generalize s:t.size=n at a h;generalize t.depth=m at e;generalize t.valid=c at f;generalize N:aF 200 (ofNat n)=j;generalize k:aF 12 (ofNat m)=i;obtain⟨K,o,l,g⟩:=t
 rcases g with _|⟨b,d⟩ <;>
 ·refine co [6,10] [] (x:=.of Tryz.f146 P8 Lw) ?_;refine on a (ob N ?_)
  cases j
  ·refine on e (ob k ?_)
   cases i
   ·refine on f ?_
    cases c <;> exact fi
   exact fi
  exact fi
noncomputable def DE:TI:=match Go.Tp.elemOf ba 22 with|some t=>t|none=>default
theorem HU:Go.Tp.elemOf ba 22=some DE:=by kernel_rfl
theorem kV:DE.size=1:=by kernel_rfl
theorem wb {t:Int} (h:l[i]?=some t):ap ba 22 [.dat (.slice (l.map iN)),.dat (.flat (.int .i64 (ofNat i)))]=some ⟨.ref [iN t],.keep⟩:=
 pd (d:=iN t) HU rfl (by grind) (by rfl) (by decide)
def anv (l:List ak):Bool:=match l with|[]=>false|_=>true
theorem LX {l:List ac} (h:3<=l.length):cd l=false:=by
 rcases l with _|⟨a,_|⟨b,_|⟨c,r⟩⟩⟩ <;> simp at h
 exact R4 a b c r
noncomputable def tiD:TI:=match Go.Tp.elemOf ba 112 with|some t=>t|none=>default
def cellsD (n:List UInt8) (u k:Int) (t:List UInt8) (x:Int) (b:List ak) (a:Bool) (c:List ak):List ac:=[.dat (sb n),iv u,iv k,.dat (sb t),iv x,.dat (sl b),.dat (bl a),.dat (sl c)]
theorem SV (l:Nat) (n:List UInt8) (u k:Int) (t:List UInt8) (d:Int) (b:List ak) (a:Bool) (c:List ak) :
  cG ba 51 [.ptr (.loc l) 0,.dat (ae9 n u k t d b a c)] (some (.cells (cellsD [] 0 0 [] 0 [] false [])))=some ⟨.undef,.set (.cells (cellsD n u k t d b a c))⟩:=by
 rcases b with _|⟨x,b⟩ <;> rcases c with _|⟨y,c⟩ <;> kernel_rfl
def r3 (c:Int) (a:List ak) (b:List (Go.Value×ak)) (n:Nat):eX:=⟨iv c,hG 2 (av a) b n,3⟩
def lJ:List vh->List ak
 | []=>[]
 | d::r=>d.enc::lJ r
theorem A9:∀l:List vh,lJ l=l.map vh.enc
 | []=>by simp[lJ]
 | t::r=>by simp[lJ,A9 r]
theorem Hh (l:List vh):(lJ l).length=l.length:=by simp[A9]
theorem Rt {l:List vh} {t:vh} (h:l[i]?=some t):(lJ l)[i]?=some t.enc:=by simp[A9,h]
theorem ZB (d:vh):d.enc.cells.length=8:=by obtain⟨a,b,⟨e,f,g,h⟩,i,j⟩:=d;rfl
theorem WA:Go.Tp.elemOf ba 112=some tiD:=by kernel_rfl
theorem Fe:tiD.size=8:=by kernel_rfl
end Go.Proofs.YtmpmgmmcaghacaaGreatDoor
namespace Go.Proofs.YtmpmgmmcaghacaaGreatDoor
open Go.Tp Go.Shelf
def afs:Ren:=⟨fun|240=>72|276=>111|n=>n,fun|9=>9|0=>0|4=>4|20=>20|70=>74|72=>77|37=>75|164=>151|n=>n,fun|n=>n⟩
variable {s:List UInt8}
theorem ah9:Lays.n240 Tryz.prog afs:=
 {mixed:=by kernel_rfl
  f240:=Tryz.func72.trans (congrArg some (by kernel_rfl))
  f276:=Tryz.func111.trans (congrArg some (by kernel_rfl))
  t0:=Tryz.underlying0,a0:=Tryz.isAgg0,z0:=Tryz.sizeOf0,v0:=Tryz.zeroValue0
  t4:=Tryz.underlying4,a4:=Tryz.isAgg4,z4:=Tryz.sizeOf4,v4:=Tryz.zeroValue4
  t9:=Tryz.underlying9,a9:=Tryz.isAgg9,z9:=Tryz.sizeOf9,v9:=Tryz.zeroValue9
  t20:=Tryz.underlying20,a20:=Tryz.isAgg20,z20:=Tryz.sizeOf20,v20:=Tryz.zeroValue20
  t70:=Tryz.underlying74,a70:=Tryz.isAgg74,z70:=Tryz.sizeOf74,v70:=Tryz.zeroValue74
  t72:=Tryz.underlying77,a72:=Tryz.isAgg77,z72:=Tryz.sizeOf77,v72:=Tryz.zeroValue77
  t164:=Tryz.underlying151,a164:=Tryz.isAgg151,z164:=Tryz.sizeOf151,v164:=Tryz.zeroValue151 }
theorem aid:Builder.X72 Tryz.prog afs:={sizeBuilder:=by kernel_rfl,liesBuilder:=by kernel_rfl }
def hBd (k:Nat) (a:List ak):Heap:=[(.out k,.cells [.ptr (.out k) 0,.own a])]
def hB0 (k:Nat):Heap:=[(.out k,.cells [.dat (.flat (.pointer none)),.dat nl])]
def pB (k:Nat):ac:=.ptr (.out k) 0
theorem an7:KC 72 [pB 0] (hB0 0) 1 (XQ ⟨.tup [],[(.out 0,.cells [.ptr (.out 0) 0,.dat nl])],1⟩):=ZU (ρ:=afs) ah9 aid rfl rfl
theorem an6 {es:List ak}:KC 72 [pB 0] (hBd 0 es) 1 (XQ ⟨.tup [],hBd 0 es,1⟩):=ZU (ρ:=afs) ah9 aid rfl rfl
def agw:ac:=.dat (.flat .nilIface)
theorem ws1 {es a:List ak} (h:fS ba 75 9 [.own es,.dat (sb s)]=some ⟨.own a,.keep⟩) :
  KC 41 [pB 0,.dat (sb s)] (hBd 0 es) 1 (XQ ⟨.tup [iv (ofNat s.length),agw],hBd 0 a,1⟩):=by
 have e:=an6 (es:=es);exact iS [] [14] (x:=qS.of Tryz.f41 P8 XT) (by kernel_rfl) (oh e (oo h fi))
theorem ws0 {a:List ak} (h:fS ba 75 9 [.own [],.dat (sb s)]=some ⟨.own a,.keep⟩) :
  KC 41 [pB 0,.dat (sb s)] (hB0 0) 1 (XQ ⟨.tup [iv (ofNat s.length),agw],hBd 0 a,1⟩):=by
 have e:=an7;exact iS [] [14] (x:=qS.of Tryz.f41 P8 XT) (by kernel_rfl) (oh e (oo h fi))
theorem ahQ (a b:List UInt8):oX (a++b)=oX a++oX b:=by
 induction a with
 | nil=>rfl
 | cons x r c=>show _::oX (r++b)=_::(oX r++oX b);rw[c]
theorem sh (a:List UInt8):(oX a).length=a.length:=by
 induction a with
 | nil=>rfl
 | cons x r b=>show (oX r).length+1=r.length+1;rw[b]
theorem af6:∀a:List UInt8,sizedB 1 (oX a)=true
 | []=>rfl
 | x::r=>by
  have b:=af6 r;exact b
noncomputable def tiY:TI:=match Go.Tp.elemOf ba 75 with|some t=>t|none=>default
theorem aiD:tiY.size=1:=by kernel_rfl
theorem akZ (a:List ak):jr ba 75 a=true:=by
 have h:(match ba.desc 75 with|some (.slice e)=>Nat.beq e mQ|_=>false)=true:=by kernel_rfl
 unfold jr
 grind
theorem ak0 {c:bW} {i:TI} {l:List UInt8} (w:c=bW.nA) (e:i.size=1) (d:Nat.blt 0 i.bytes=true) (a:((oX l).length+(oX s).length)*i.bytes<=140737488355328) (b:(oX l).length+(oX s).length<=lim) :
  gS c i (oX l) (.dat (.slice (oX s)))=some (oX (l++s)):=by
 simp only[gS,w,e,bW.nA,Nat.zero_add,af6,d,gC a,gC b,ahQ]
theorem aix {l:List UInt8} (h:l.length+s.length < 1000000000):gS ba.pr tiY (oX l) (.dat (.slice (oX s)))=some (oX (l++s)):=by
 have a:tiY.bytes<=1000:=fD (by kernel_rfl);refine ak0 rfl aiD (by kernel_rfl) ?_ ?_
 ·rw[sh,sh]
  calc (l.length+s.length)*tiY.bytes<=1000000000*1000:=Nat.mul_le_mul (by omega) a
   _<=140737488355328:=by decide
 rw[sh,sh];simp only[lim];omega
theorem aij {l:List UInt8} (h:l.length+s.length < 1000000000):fS ba 75 9 [.own (oX l),.dat (sb s)]=some ⟨.own (oX (l++s)),.keep⟩:=by
 have a:∀b:List ak,fS ba 75 9 [.own b,.dat (sb s)]=(match gS ba.pr tiY b (.dat (.slice (oX s))) with|some r=>if jr ba 75 r=true then some ⟨.own r,.keep⟩ else none|none=>none):=fun b=>by kernel_rfl
 grind[aix,akZ]
def hBx (k:Nat) (o:Option (List UInt8)):Heap:=match o with|none=>hB0 k|some l=>hBd k (oX l)
def aj7 (o:Option (List UInt8)) (s:List UInt8):List UInt8:=match o with|none=>s|some l=>l++s
theorem aof {o:Option (List UInt8)} (h:(aj7 o s).length < 1000000000):KC 41 [pB 0,.dat (sb s)] (hBx 0 o) 1 (XQ ⟨.tup [iv (ofNat s.length),agw],hBx 0 (some (aj7 o s)),1⟩):=by
 cases o with
 | none=>exact ws0 (aij (l:=[]) (by grind[aj7]))
 | some l=>exact ws1 (aij (by grind[aj7]))
theorem afK:∀l:List UInt8,wB (oX l)=some l
 | []=>rfl
 | x::r=>by
  show (match wB (oX r) with|some l=>some (UInt8.ofNat x.toNat::l)|none=>none)=some (x::r);rw[afK r];simp
theorem aj9 {x:UInt8} {r:List UInt8}:KC 44 [pB 0] (hBx 0 (some (x::r))) 1 (XQ ⟨.dat (sb (x::r)),[(.out 0,.cells [.ptr (.out 0) 0,.dat (.slice (oX (x::r)))])],1⟩):=by
 refine adJ (ρ:=Tryz.qm) Tryz.Ug Tryz.vj rfl ?_;have h:=afK (x::r);show (match yw (.ptr (.out 0) 0),wB (oX (x::r)) with|true,some l=>some (⟨.dat (.flat (.string ⟨⟨l⟩⟩)),qG (.out 0) (.cells [.ptr (.out 0) 0,.dat (.slice (oX (x::r)))]) (hBx 0 (some (x::r))),1⟩:eX)|_,_=>none)=_;rw[h];rfl
theorem aj6 {a b:List UInt8} (h:a.length+b.length < 9000000000000000000):bW.nA.cat ⟨⟨a⟩⟩ ⟨⟨b⟩⟩=some ⟨⟨a++b⟩⟩:=by
 show (match Nat.ble (a.length+b.length) 9223372036854775807 with|true=>some (⟨⟨a++b⟩⟩:ByteArray)|false=>none)=_;rw[show Nat.ble (a.length+b.length) 9223372036854775807=true by rw[Nat.ble_eq];omega]
theorem aaa {a b:List UInt8} (h:a.length+b.length < 9000000000000000000):Ny ba .add 9 [.dat (sb a),.dat (sb b)]=some ⟨.dat (sb (a++b)),.keep⟩:=by
 have c:Ny ba .add 9 [.dat (sb a),.dat (sb b)]=XC (match bW.nA.cat ⟨⟨a⟩⟩ ⟨⟨b⟩⟩ with|some z=>some (.string z)|none=>none):=by kernel_rfl
 rw[c,aj6 h];rfl
def ak1:List UInt8:=[65,110,121]
def ag0:List UInt8:=[78,101,118,101,114]
def aoB:List UInt8:=[116,117,112,108,101]
def aoA:List UInt8:=[117,110,105,111,110]
def apb:List UInt8:=[101,120,105,115,116,115]
def agD (a b:Bool):List UInt8:=match a with|true=>aoB|false=>match b with|true=>aoA|false=>apb
mutual
def Ty.txt (a:Int->List UInt8):Ty->List UInt8
 | .mk k n x l=>match aB k 0 with
  | true=>ak1
  | false=>match aB k 1 with
   | true=>ag0
   | false=>match aB k 5 with
    | true=>[36]++a x
    | false=>match aB k 3||(aB k 4||aB k 6) with
     | true=>([40]++agD (aB k 3) (aB k 4))++acg a l++[41]
     | false=>match anv (ax l) with
      | false=>n
      | true=>([40]++n)++acg a l++[41]
def acg (a:Int->List UInt8):List Ty->List UInt8
 | []=>[]
 | t::r=>([32]++t.txt a)++acg a r
end
mutual
def Ty.vix (p:Int->Prop):Ty->Prop
 | .mk k _ x l=>(aB k 5=true->p x)/\ahi p l
def ahi (p:Int->Prop):List Ty->Prop
 | []=>True
 | t::r=>t.vix p/\ahi p r
end
theorem agt (c:Int->List UInt8) (b:List Ty):∀a:List Ty,acg c (a++b)=acg c a++acg c b
 | []=>by simp[acg]
 | x::r=>by simp only[List.cons_append,acg,agt c b r,List.append_assoc]
theorem afE {a:Int->List UInt8} {l:List Ty} {i:Nat} {t:Ty} (h:l[i]?=some t):acg a (l.take (i+1))=acg a (l.take i)++([32]++t.txt a):=by
 simp_all[Fi,agt,acg]
theorem ahT (a:Int->List UInt8) (l:List Ty) (i:Nat):(acg a (l.take i)).length<=(acg a l).length:=by
 have h:acg a l=acg a (l.take i)++acg a (l.drop i):=by rw[←agt,List.take_append_drop]
 grind
end Go.Proofs.YtmpmgmmcaghacaaGreatDoor
namespace Go.Proofs
open Go.Shelf
def Tryz.afH:Go.Shelf.Ren:=⟨fun|171=>42|173=>113|243=>73|246=>112|283=>155|284=>156|285=>157|286=>158|129=>136|317=>183|318=>184|319=>185|320=>186|337=>199|338=>200|n=>n,fun|3=>3|9=>9|2=>2|4=>4|171=>186|0=>0|53=>162|37=>75|5=>5|173=>188|212=>206|51=>178|20=>20|213=>207|46=>134|232=>221|233=>222|n=>n,fun|17=>6|18=>9|19=>10|n=>n⟩
theorem Tryz.alr:Go.Proofs.LaysM.n173 Tryz.prog Tryz.afH:={
 mixed:=by kernel_rfl
 f129:=Tryz.func136.trans (congrArg some (by kernel_rfl))
 f173:=Tryz.func113.trans (congrArg some (by kernel_rfl))
 f246:=Tryz.func112.trans (congrArg some (by kernel_rfl))
 f283:=Tryz.func155.trans (congrArg some (by kernel_rfl))
 f284:=Tryz.func156.trans (congrArg some (by kernel_rfl))
 f285:=Tryz.func157.trans (congrArg some (by kernel_rfl))
 f286:=Tryz.func158.trans (congrArg some (by kernel_rfl))
 f317:=Tryz.func183.trans (congrArg some (by kernel_rfl))
 f318:=Tryz.func184.trans (congrArg some (by kernel_rfl))
 f319:=Tryz.func185.trans (congrArg some (by kernel_rfl))
 f320:=Tryz.func186.trans (congrArg some (by kernel_rfl))
 f337:=Tryz.func199.trans (congrArg some (by kernel_rfl))
 f338:=Tryz.func200.trans (congrArg some (by kernel_rfl))
 t0:=Tryz.underlying0
 a0:=Tryz.isAgg0
 z0:=Tryz.sizeOf0
 v0:=Tryz.zeroValue0
 t2:=Tryz.underlying2
 a2:=Tryz.isAgg2
 z2:=Tryz.sizeOf2
 v2:=Tryz.zeroValue2
 t3:=Tryz.underlying3
 a3:=Tryz.isAgg3
 z3:=Tryz.sizeOf3
 v3:=Tryz.zeroValue3
 t4:=Tryz.underlying4
 a4:=Tryz.isAgg4
 z4:=Tryz.sizeOf4
 v4:=Tryz.zeroValue4
 t5:=Tryz.underlying5
 a5:=Tryz.isAgg5
 z5:=Tryz.sizeOf5
 v5:=Tryz.zeroValue5
 t9:=Tryz.underlying9
 a9:=Tryz.isAgg9
 z9:=Tryz.sizeOf9
 v9:=Tryz.zeroValue9
 t20:=Tryz.underlying20
 a20:=Tryz.isAgg20
 z20:=Tryz.sizeOf20
 v20:=Tryz.zeroValue20
 t37:=Tryz.underlying75
 a37:=Tryz.isAgg75
 z37:=Tryz.sizeOf75
 v37:=Tryz.zeroValue75
 t46:=Tryz.underlying134
 a46:=Tryz.isAgg134
 z46:=Tryz.sizeOf134
 v46:=Tryz.zeroValue134
 t51:=Tryz.underlying178
 a51:=Tryz.isAgg178
 z51:=Tryz.sizeOf178
 v51:=Tryz.zeroValue178
 t53:=Tryz.underlying162
 a53:=Tryz.isAgg162
 z53:=Tryz.sizeOf162
 v53:=Tryz.zeroValue162
 t171:=Tryz.underlying186
 a171:=Tryz.isAgg186
 z171:=Tryz.sizeOf186
 v171:=Tryz.zeroValue186
 t173:=Tryz.underlying188
 a173:=Tryz.isAgg188
 z173:=Tryz.sizeOf188
 v173:=Tryz.zeroValue188
 t212:=Tryz.underlying206
 a212:=Tryz.isAgg206
 z212:=Tryz.sizeOf206
 v212:=Tryz.zeroValue206
 t213:=Tryz.underlying207
 a213:=Tryz.isAgg207
 z213:=Tryz.sizeOf207
 t232:=Tryz.underlying221
 a232:=Tryz.isAgg221
 z232:=Tryz.sizeOf221
 v232:=Tryz.zeroValue221
 t233:=Tryz.underlying222
 a233:=Tryz.isAgg222
 z233:=Tryz.sizeOf222
 v233:=Tryz.zeroValue222
 g17:=by kernel_rfl
 g18:=by kernel_rfl
 g19:=by kernel_rfl
 i0:=by kernel_rfl
 i2:=by kernel_rfl
 i3:=by kernel_rfl
 i4:=by kernel_rfl
 i5:=by kernel_rfl
 i9:=by kernel_rfl
 i20:=by kernel_rfl
 i37:=by kernel_rfl
 i46:=by kernel_rfl
 i51:=by kernel_rfl
 i53:=by kernel_rfl
 i171:=by kernel_rfl
 i173:=by kernel_rfl
 i212:=by kernel_rfl
 i232:=by kernel_rfl
 i233:=by kernel_rfl
 m17:=by kernel_rfl
 m18:=by kernel_rfl
 m19:=by kernel_rfl }
theorem Tryz.anw:Go.Proofs.LaysM.n171 Tryz.prog Tryz.afH:={
 Tryz.alr with
 f171:=Tryz.func42.trans (congrArg some (by kernel_rfl))
 f243:=Tryz.func73.trans (congrArg some (by kernel_rfl))}
end Go.Proofs
namespace Go.Proofs.YtmpmgmmcaghacaaGreatDoor
open Go.Tp
variable {d:List UInt8} {n:Int}
theorem ahO:Tryz.prog.globalNamed "internal/strconv.uint64pow10"=some 6:=by kernel_rfl
theorem agp {i:Int} (o:-9223372036854775808<=i) (a:i<=9223372036854775807):ae 42 [iv i] (.dat (sb (Go.Lib.itoa i))):=
 amC (ρ:=Tryz.afH) Tryz.anw ahO rfl o a
theorem ahE {i:Int} (o:-9223372036854775808<=i) (a:i<=9223372036854775807):ae 113 [iv i,iv 10] (.dat (sb (Go.Lib.itoa i))):=
 aj8 (ρ:=Tryz.afH) Tryz.alr ahO rfl o a
abbrev uv (n:Int):ac:=.dat (.flat (.int .u64 n))
theorem aiA {r s c:Int} (a:aF n 10=true) (b:Ny ba .rem 162 [uv n,uv 10]=some ⟨uv r,.keep⟩) (f:Ny ba .add 162 [uv 48,uv r]=some ⟨uv s,.keep⟩)
  (g:BD ba 162 5 [uv s]=some ⟨.dat (.flat (.int .u8 c)),.keep⟩) (G:BD ba 75 9 [.dat (.slice [.flat (.int .u8 c)])]=some ⟨.dat (sb d),.keep⟩):ae 117 [uv n] (.dat (sb d)):=by
 exact iS [11] [5,6,7,9] (x:=qS.of Tryz.f117 P8 aha) (by kernel_rfl) (oo b (oo f (oo g (oo G (ob a fi)))))
theorem alD {r s c q:Int} {e:List UInt8} (a:aF n 10=false) (b:Ny ba .rem 162 [uv n,uv 10]=some ⟨uv r,.keep⟩) (f:Ny ba .add 162 [uv 48,uv r]=some ⟨uv s,.keep⟩)
  (g:BD ba 162 5 [uv s]=some ⟨.dat (.flat (.int .u8 c)),.keep⟩) (G:BD ba 75 9 [.dat (.slice [.flat (.int .u8 c)])]=some ⟨.dat (sb d),.keep⟩)
  (h:Ny ba .quo 162 [uv n,uv 10]=some ⟨uv q,.keep⟩) (i:ae 117 [uv q] (.dat (sb e))) (j:Ny ba .add 9 [.dat (sb e),.dat (sb d)]=some ⟨.dat (sb (e++d)),.keep⟩):ae 117 [uv n] (.dat (sb (e++d))):=by
 exact iS [11] [5,6,7,9,14,17] (x:=qS.of Tryz.f117 P8 aha) (by kernel_rfl) (oo b (oo f (oo g (oo G (ob a (oo h (on i (oo j fi))))))))
theorem afU (n:Int):an .u64 n=n % 18446744073709551616:=by rw[cQ,IntKind.wrap_u64]
theorem anj (n:Int):Ny ba .rem 162 [uv n,uv 10]=some ⟨uv (n.tmod 10),.keep⟩:=by kernel_rfl
theorem anq (n:Int):Ny ba .quo 162 [uv n,uv 10]=some ⟨uv (an .u64 (n.tdiv 10)),.keep⟩:=by kernel_rfl
def akS (r:Nat):Prop:=Ny ba .add 162 [uv 48,uv (ofNat r)]=some ⟨uv (ofNat (48+r)),.keep⟩/\BD ba 162 5 [uv (ofNat (48+r))]=some ⟨.dat (.flat (.int .u8 (ofNat (48+r)))),.keep⟩ ∧
 BD ba 75 9 [.dat (.slice [.flat (.int .u8 (ofNat (48+r)))])]=some ⟨.dat (sb [UInt8.ofNat (48+r)]),.keep⟩
theorem aj0:∀r:Nat,r < 10->akS r
 | 0,_=>⟨by kernel_rfl,by kernel_rfl,by kernel_rfl⟩
 | 1,_=>⟨by kernel_rfl,by kernel_rfl,by kernel_rfl⟩
 | 2,_=>⟨by kernel_rfl,by kernel_rfl,by kernel_rfl⟩
 | 3,_=>⟨by kernel_rfl,by kernel_rfl,by kernel_rfl⟩
 | 4,_=>⟨by kernel_rfl,by kernel_rfl,by kernel_rfl⟩
 | 5,_=>⟨by kernel_rfl,by kernel_rfl,by kernel_rfl⟩
 | 6,_=>⟨by kernel_rfl,by kernel_rfl,by kernel_rfl⟩
 | 7,_=>⟨by kernel_rfl,by kernel_rfl,by kernel_rfl⟩
 | 8,_=>⟨by kernel_rfl,by kernel_rfl,by kernel_rfl⟩
 | 9,_=>⟨by kernel_rfl,by kernel_rfl,by kernel_rfl⟩
 | n+10,h=>by omega
theorem aif (n:Nat) (h:n < 18446744073709551616):(Go.Lib.decDigits n).length<=20:=by
 rw[Go.Lib.decDigits_length];exact Go.Lib.nDigits_le20 n h
theorem ai5:∀n:Nat,n < 18446744073709551616->ae 117 [uv (ofNat n)] (.dat (sb (Go.Lib.decDigits n))):=by
 intro n
 induction n using Nat.strongRecOn with
 | _ n g=>
  intro N;obtain⟨a,c,d⟩:=aj0 (n % 10) (by omega);have R:(ofNat n).tmod 10=ofNat (n % 10):=rfl;have b:=anj (ofNat n);rw[R] at b;rw[Go.Lib.decDigits]
  by_cases h:n < 10
  ·rw[dif_pos h];rw[Nat.mod_eq_of_lt h] at b a c d;exact aiA (br (i:=n) (L:=10) h) b a c d
  rw[dif_neg h];have f:an .u64 ((ofNat n).tdiv 10)=ofNat (n / 10):=by
   grind[afU]
  have e:=anq (ofNat n);rw[f] at e;have D:=aif (n / 10) (by omega);exact alD (cj (i:=n) (L:=10) (by omega)) b a c d e (g (n / 10) (by omega) (by omega)) (aaa (by grind))
theorem alT {m:Int} (a:aF n 0=false) (b:BD ba 2 162 [iv n]=some ⟨uv m,.keep⟩) (f:ae 117 [uv m] (.dat (sb d))):ae 78 [iv n] (.dat (sb d)):=by
 exact iS [4] [11] (x:=qS.of Tryz.f78 P8 ahM) (by kernel_rfl) (ob a (oo b (on f fi)))
theorem alU {m k:Int} (a:aF n 0=true) (b:BD ba 2 162 [iv n]=some ⟨uv m,.keep⟩) (g:aUn ba .neg [uv m]=some ⟨uv k,.keep⟩) (f:ae 117 [uv k] (.dat (sb d)))
  (G:Ny ba .add 9 [.dat (sb [45]),.dat (sb d)]=some ⟨.dat (sb ([45]++d)),.keep⟩):ae 78 [iv n] (.dat (sb ([45]++d))):=by
 exact iS [4] [6,7,9] (x:=qS.of Tryz.f78 P8 ahM) (by kernel_rfl) (ob a (oo b (oo g (on f (oo G fi)))))
theorem aj4 (n:Int):BD ba 2 162 [iv n]=some ⟨uv (an .u64 n),.keep⟩:=by kernel_rfl
theorem anu (m:Int):aUn ba .neg [uv m]=some ⟨uv (an .u64 (0 - m)),.keep⟩:=by kernel_rfl
theorem af8 (o:-9223372036854775808<=n) (a:n<=9223372036854775807):ae 78 [iv n] (.dat (sb (Go.Lib.itoa n))):=by
 unfold Go.Lib.itoa
 by_cases h:n < 0
 ·rw[if_pos h];have E:an .u64 (0 - an .u64 n)=ofNat n.natAbs:=by
   grind[afU]
  have g:=anu (an .u64 n);rw[E] at g;exact alU (by rw[dA];grind) (aj4 n) g (ai5 _ (by omega)) (aaa (by grind[aif]))
 rw[if_neg h];have E:an .u64 n=ofNat n.toNat:=by
  grind[afU]
 have g:=aj4 n;rw[E] at g;exact alT (by rw[dA];grind) g (ai5 _ (by omega))
theorem ann (o:-9223372036854775808<=n) (a:n<=9223372036854775807):ae 45 [iv n] (.dat (sb (Go.Lib.itoa n))):=by
 have h:=af8 o a;generalize Go.Lib.itoa n=d at h;exact iS [] [] (x:=qS.of Tryz.f45 P8 QH) (by kernel_rfl) (on h fi)
theorem ahw (o:-9223372036854775808<=n) (a:n<=9223372036854775807):(Go.Lib.itoa n).length<=21:=Go.Lib.itoa_length_le n o a
def sx (z:Bool):List ak->ak
 | []=>(match z with|true=>.slice []|false=>nl)
 | d::r=>.slice (d::r)
structure Ins where
 op:Int
 dst:Int
 a:Int
 b:Int
 im:Int
 nm:List UInt8
 az:Bool
 ar:List Int
 ty:Ty
 ck:Int
 ci:Int
 cs:List UInt8
def Ins.cells (x:Ins):List ak:=[i64 x.op,i64 x.dst,i64 x.a,i64 x.b,i64 x.im,sb x.nm,sx x.az (x.ar.map iN)]++(x.ty.cells++[i64 x.ck,i64 x.ci,sb x.cs,nl])
def Ins.enc (x:Ins):ak:=.agg x.cells
def encI:List Ins->List ak
 | []=>[]
 | x::r=>x.enc::encI r
theorem gR:∀l:List Ins,encI l=l.map Ins.enc
 | []=>rfl
 | x::r=>by simp[encI,gR r]
theorem bH (l:List Ins):(encI l).length=l.length:=by simp[gR]
theorem Rr {l:List Ins} {i:Nat} {t:Ins} (h:l[i]?=some t):(encI l)[i]?=some t.enc:=by simp[gR,h]
theorem sT (x:Ins):x.cells.length=15:=by
 obtain⟨h,d,a,b,m,n,e,u,⟨k,t,f,g⟩,C,I,c⟩:=x;rfl
mutual
inductive gM where
 |mk (pa sl:Int) (iz:Bool) (ins:List Ins) (ez:Bool) (cD:List (List fG))
inductive fG where
 |mk (kind:Int) (decl:vh) (func:List UInt8) (sig:Ty) (pa:Int) (code:gM) (pkg:List UInt8)
end
mutual
def gM.cells:gM->List ak
 | .mk L s h a g b=>[i64 L,i64 s,sx h (encI a),sx g (aG b)]
def aG:List (List fG)->List ak
 | []=>[]
 | l::r=>.slice (ir l)::aG r
def ir:List fG->List ak
 | []=>[]
 | e::r=>.agg e.cells::ir r
def fG.cells:fG->List ak
 | .mk k d f j L c i=>i64 k::(d.cells++(sb f::(j.cells++(i64 L::(c.cells++[sb i])))))
end
def gM.enc (c:gM):ak:=.agg c.cells
def fG.enc (e:fG):ak:=.agg e.cells
def gM.pa:gM->Int|.mk L _ _ _ _ _=>L
def gM.sl:gM->Int|.mk _ s _ _ _ _=>s
def gM.iz:gM->Bool|.mk _ _ a _ _ _=>a
def gM.ins:gM->List Ins|.mk _ _ _ a _ _=>a
def gM.ez:gM->Bool|.mk _ _ _ _ a _=>a
def gM.cD:gM->List (List fG)|.mk _ _ _ _ _ a=>a
theorem A8:∀l:List fG,ir l=l.map fG.enc
 | []=>by simp[ir]
 | x::r=>by simp[ir,A8 r,fG.enc]
theorem nC:∀l:List (List fG),aG l=l.map (fun x=>.slice (ir x))
 | []=>by simp[aG]
 | x::r=>by simp[aG,nC r]
variable {i:Nat}
theorem xB (l:List fG):(ir l).length=l.length:=by simp[A8]
theorem dJ (l:List (List fG)):(aG l).length=l.length:=by simp[nC]
theorem Rs {l:List fG} {t:fG} (h:l[i]?=some t):(ir l)[i]?=some t.enc:=by simp[A8,h]
theorem Nc {l:List (List fG)} {t:List fG} (h:l[i]?=some t):(aG l)[i]?=some (.slice (ir t)):=by simp[nC,h]
noncomputable def rE:TI:=match Go.Tp.elemOf ba 23 with|some t=>t|none=>default
theorem DD:Go.Tp.elemOf ba 23=some rE:=by kernel_rfl
theorem kJ:rE.size=15:=by kernel_rfl
theorem xn {l:List Ins} {t:Ins} (h:l[i]?=some t):ap ba 23 [.dat (.slice (encI l)),.dat (.flat (.int .i64 (ofNat i)))]=some ⟨.ref t.cells,.keep⟩:=
 pd DD rfl (Rr h) (by exact sT t) (by decide)
theorem ZA (e:fG):e.cells.length=20:=by
 obtain⟨k,⟨j,u,⟨q,r,d,p⟩,a,m⟩,f,⟨v,t,g,s⟩,L,⟨i,c,n,b,l,h⟩,o⟩:=e;rfl
noncomputable def aaJ:TI:=match Go.Tp.elemOf ba 54 with|some t=>t|none=>default
theorem SP:Go.Tp.elemOf ba 54=some aaJ:=by kernel_rfl
theorem B9:aaJ.size=20:=by kernel_rfl
theorem VS {l:List fG} {t:fG} (h:l[i]?=some t):ap ba 54 [.dat (.slice (ir l)),.dat (.flat (.int .i64 (ofNat i)))]=some ⟨.ref t.cells,.keep⟩:=
 pd SP rfl (Rs h) (by exact ZA t) (by decide)
noncomputable def Fc:TI:=match Go.Tp.elemOf ba 24 with|some t=>t|none=>default
theorem DF:Go.Tp.elemOf ba 24=some Fc:=by kernel_rfl
theorem qU:Fc.size=1:=by kernel_rfl
theorem VT {l:List (List fG)} {t:List fG} (h:l[i]?=some t):ap ba 24 [.dat (.slice (aG l)),.dat (.flat (.int .i64 (ofNat i)))]=some ⟨.ref [.slice (ir t)],.keep⟩:=
 pd DF rfl (Nc h) (by rfl) (by decide)
structure kG where
 w:List UInt8
 dst:Bool
 a:Bool
 b:Bool
 im:Bool
 nm:Bool
 ar:Bool
 ty:Bool
 con:Bool
 call:Bool
 cond:Bool
 fin:Bool
def kG.enc (s:kG):ak:=.agg [sb s.w,bl s.dst,bl s.a,bl s.b,bl s.im,bl s.nm,bl s.ar,bl s.ty,bl s.con,bl s.call,bl s.cond,bl s.fin]
def kG.use (s:kG):ak:=.agg [bl s.dst,bl s.a,bl s.b,bl s.im,bl s.nm,bl s.ar,bl s.ty,bl s.con]
def kG.zero:kG:=⟨[],false,false,false,false,false,false,false,false,false,false,false⟩
def ki:Nat->Option kG
 | 1=>some ⟨[99,111,110,115,116],true,false,false,false,false,false,false,true,false,false,false⟩
 | 2=>some ⟨[109,111,118,101],true,true,false,false,false,false,false,false,false,false,false⟩
 | 3=>some ⟨[112,114,105,109],true,true,true,true,false,false,false,false,false,false,false⟩
 | 4=>some ⟨[110,101,119],true,false,false,false,false,true,true,false,false,false,false⟩
 | 5=>some ⟨[103,101,116],true,true,false,false,true,false,false,false,false,false,false⟩
 | 6=>some ⟨[115,101,116],false,true,true,false,true,false,false,false,false,false,false⟩
 | 7=>some ⟨[116,117,112,108,101],true,false,false,false,false,true,false,false,false,false,false⟩
 | 8=>some ⟨[101,108,101,109,101,110,116],true,true,false,true,false,false,false,false,false,false,false⟩
 | 9=>some ⟨[105,115,105,110,115,116,97,110,99,101],true,true,false,false,false,false,true,false,false,false,false⟩
 | 10=>some ⟨[99,97,108,108],true,false,false,false,true,true,false,false,true,false,false⟩
 | 11=>some ⟨[108,97,116,101,115,116],true,false,false,false,true,true,false,false,true,false,false⟩
 | 12=>some ⟨[106,117,109,112],false,false,false,true,false,false,false,false,false,false,true⟩
 | 13=>some ⟨[98,114,97,110,99,104],false,true,false,true,false,false,false,false,false,true,false⟩
 | 14=>some ⟨[116,105,99,107],false,false,false,false,false,false,false,false,true,false,false⟩
 | 15=>some ⟨[111,117,116,112,117,116],false,true,false,false,false,false,false,false,false,false,false⟩
 | 16=>some ⟨[102,97,105,108],false,true,false,false,false,false,false,false,false,false,true⟩
 | 17=>some ⟨[101,100,105,116],false,false,false,true,false,false,false,false,false,false,false⟩
 | 18=>some ⟨[112,97,117,115,101],false,false,false,false,false,false,false,false,false,false,false⟩
 | 19=>some ⟨[114,101,116,117,114,110],false,true,false,false,false,false,false,false,false,false,true⟩
 | 20=>some ⟨[101,110,116,101,114],false,false,false,true,false,false,false,false,true,false,false⟩
 | 21=>some ⟨[108,101,97,118,101],false,false,false,false,false,false,false,false,false,false,false⟩
 | 22=>some ⟨[105,110,118,111,107,101],true,false,false,true,false,true,false,false,true,false,false⟩
 | _=>none
def eO (a:Int):Option kG:=match a with|.ofNat n=>ki n|_=>none
def lU (o:Option kG):kG:=match o with|some s=>s|none=>kG.zero
def shS (o:Option kG):Bool:=match o with|some _=>true|none=>false
variable {C I K a b c d g k m r x:Int} {T:ej} {f y:ak} {h j p q:Bool} {i u:Nat} {l:List ak} {n:List UInt8} {s:kG} {t:Ty}
theorem WQ:∀n:Nat,1<=n->n<=22->ae 58 [iv (ofNat n)] (.tup [.dat (lU (ki n)).enc,bv (shS (ki n))])
 | 0,h,_=>absurd h (by omega)
 | 1,_,_=>dE _ _ _ _ _ (by kernel_rfl)
 | 2,_,_=>dE _ _ _ _ _ (by kernel_rfl)
 | 3,_,_=>dE _ _ _ _ _ (by kernel_rfl)
 | 4,_,_=>dE _ _ _ _ _ (by kernel_rfl)
 | 5,_,_=>dE _ _ _ _ _ (by kernel_rfl)
 | 6,_,_=>dE _ _ _ _ _ (by kernel_rfl)
 | 7,_,_=>dE _ _ _ _ _ (by kernel_rfl)
 | 8,_,_=>dE _ _ _ _ _ (by kernel_rfl)
 | 9,_,_=>dE _ _ _ _ _ (by kernel_rfl)
 | 10,_,_=>dE _ _ _ _ _ (by kernel_rfl)
 | 11,_,_=>dE _ _ _ _ _ (by kernel_rfl)
 | 12,_,_=>dE _ _ _ _ _ (by kernel_rfl)
 | 13,_,_=>dE _ _ _ _ _ (by kernel_rfl)
 | 14,_,_=>dE _ _ _ _ _ (by kernel_rfl)
 | 15,_,_=>dE _ _ _ _ _ (by kernel_rfl)
 | 16,_,_=>dE _ _ _ _ _ (by kernel_rfl)
 | 17,_,_=>dE _ _ _ _ _ (by kernel_rfl)
 | 18,_,_=>dE _ _ _ _ _ (by kernel_rfl)
 | 19,_,_=>dE _ _ _ _ _ (by kernel_rfl)
 | 20,_,_=>dE _ _ _ _ _ (by kernel_rfl)
 | 21,_,_=>dE _ _ _ _ _ (by kernel_rfl)
 | 22,_,_=>dE _ _ _ _ _ (by kernel_rfl)
 | n+23,_,h=>absurd h (by omega)
theorem Ox (a:aF b 1=true):ae 58 [iv b] (.tup [.dat kG.zero.enc,bv false]):=by
 refine co [29] [] (x:=.of Tryz.f58 P8 Jm) ?_;exact ob a fi
theorem Oy (a:aF c 1=false) (b:aF c 23=false):ae 58 [iv c] (.tup [.dat kG.zero.enc,bv false]):=by
 refine co [29,32] [] (x:=.of Tryz.f58 P8 Jm) ?_;exact ob a (ox b fi)
theorem DQ (h:aF a 1=true):eO a=none:=by
 rw[dA] at h;simp at h;unfold eO
 split
 ·rename_i n
  have:n=0:=by grind
  subst this;rfl
 rfl
theorem S5:∀n:Nat,ki (n+23)=none:=fun n=>rfl
theorem DR (h:aF a 23=false):eO a=none:=by
 rw[dA] at h;simp only[decide_eq_false_iff_not] at h;unfold eO
 split
 ·rename_i n;obtain⟨m,rfl⟩:∃m,n=m+23:=⟨n - 23,by grind⟩;exact S5 m
 rfl
theorem zo (a:aF c 1=false) (b:aF c 23=true):∃n:Nat,c=ofNat n/\1<=n/\n<=22:=by
 rw[dA] at a b;simp only[decide_eq_false_iff_not,decide_eq_true_eq] at a b;exact⟨c.toNat,by grind,by omega,by omega⟩
theorem uT (c:Int):ae 58 [iv c] (.tup [.dat (lU (eO c)).enc,bv (shS (eO c))]):=by
 cases d:aF c 1 with
 | true=>rw[DQ d];exact Ox d
 | false=>
  cases e:aF c 23 with
  | false=>rw[DR e];exact Oy d e
  | true=>
   obtain⟨n,rfl,a,b⟩:=zo d e;exact WQ n a b
theorem fa:∀n:Nat,1<=n->n<=22->ae 62 [iv (ofNat n)] (.dat (lU (ki n)).use)
 | 0,h,_=>absurd h (by omega)
 | 1,_,_=>dE _ _ _ _ _ (by kernel_rfl)
 | 2,_,_=>dE _ _ _ _ _ (by kernel_rfl)
 | 3,_,_=>dE _ _ _ _ _ (by kernel_rfl)
 | 4,_,_=>dE _ _ _ _ _ (by kernel_rfl)
 | 5,_,_=>dE _ _ _ _ _ (by kernel_rfl)
 | 6,_,_=>dE _ _ _ _ _ (by kernel_rfl)
 | 7,_,_=>dE _ _ _ _ _ (by kernel_rfl)
 | 8,_,_=>dE _ _ _ _ _ (by kernel_rfl)
 | 9,_,_=>dE _ _ _ _ _ (by kernel_rfl)
 | 10,_,_=>dE _ _ _ _ _ (by kernel_rfl)
 | 11,_,_=>dE _ _ _ _ _ (by kernel_rfl)
 | 12,_,_=>dE _ _ _ _ _ (by kernel_rfl)
 | 13,_,_=>dE _ _ _ _ _ (by kernel_rfl)
 | 14,_,_=>dE _ _ _ _ _ (by kernel_rfl)
 | 15,_,_=>dE _ _ _ _ _ (by kernel_rfl)
 | 16,_,_=>dE _ _ _ _ _ (by kernel_rfl)
 | 17,_,_=>dE _ _ _ _ _ (by kernel_rfl)
 | 18,_,_=>dE _ _ _ _ _ (by kernel_rfl)
 | 19,_,_=>dE _ _ _ _ _ (by kernel_rfl)
 | 20,_,_=>dE _ _ _ _ _ (by kernel_rfl)
 | 21,_,_=>dE _ _ _ _ _ (by kernel_rfl)
 | 22,_,_=>dE _ _ _ _ _ (by kernel_rfl)
 | n+23,_,h=>absurd h (by omega)
theorem eV {k:Nat} (h:aF c 1=true∨aF c 23=false) (a:1<=k) (b:k<=22):aB c (ofNat k)=false:=by
 rw[cN];simp;rintro rfl
 rcases h with h|h
 ·rw[dA] at h;grind
 rw[dA] at h;grind
theorem Ki (h:aF c 1=true∨aF c 23=false):ae 62 [iv c] (.dat kG.zero.use):=by
 have a:aB c 1=false:=eV h (k:=1) (by omega) (by omega);have b:aB c 2=false:=eV h (k:=2) (by omega) (by omega);have f:aB c 3=false:=eV h (k:=3) (by omega) (by omega);have g:aB c 4=false:=eV h (k:=4) (by omega) (by omega);have G:aB c 5=false:=eV h (k:=5) (by omega) (by omega);have r:aB c 6=false:=eV h (k:=6) (by omega) (by omega);have s:aB c 7=false:=eV h (k:=7) (by omega) (by omega);have t:aB c 8=false:=eV h (k:=8) (by omega) (by omega);have u:aB c 9=false:=eV h (k:=9) (by omega) (by omega);have d:aB c 10=false:=eV h (k:=10) (by omega) (by omega);have e:aB c 11=false:=eV h (k:=11) (by omega) (by omega);have i:aB c 12=false:=eV h (k:=12) (by omega) (by omega);have j:aB c 13=false:=eV h (k:=13) (by omega) (by omega);have l:aB c 15=false:=eV h (k:=15) (by omega) (by omega);have m:aB c 16=false:=eV h (k:=16) (by omega) (by omega);have n:aB c 17=false:=eV h (k:=17) (by omega) (by omega);have o:aB c 19=false:=eV h (k:=19) (by omega) (by omega);have p:aB c 20=false:=eV h (k:=20) (by omega) (by omega);have q:aB c 22=false:=eV h (k:=22) (by omega) (by omega)
 refine co [5,8,11,14,17,20,23,26,29,32,33,36,37,38,41,44,45,46,49] [] (x:=.of Tryz.f62 P8 Qw) ?_;exact ob a (ob b (ob f (ob g (ob G (ob r (ob s (ob t (ob u (ob d (ob e (ob i (ob n (ob p (ob j (ob l (ob m (ob o (ob q fi))))))))))))))))))
def kr (j:Nat) (k:Int) (n:List UInt8) (x:Int) (a:ak):Heap:=[(.loc j,.cells [iv k,.dat (sb n),iv x,.dat a])]
def xQ (lo:Heap) (i n:Int):ab:=⟨[(4,iv i),(3,iv n),(1,.ptr (.loc 1) 0)],lo,[],0⟩
def Co (lo:Heap) (i n:Int):ab:=⟨[(9,bv false),(4,iv i),(3,iv n),(1,.ptr (.loc 1) 0)],lo,[],0⟩
theorem nR {l:List Ty} (h:i < (ax l).length):sl (ax l)=.slice (ax l):=by cases l with|nil=>grind[ax]|cons x r=>rfl
noncomputable def hRS:Hints:=⟨bV,P8,bi,rowsOf bi 151⟩
theorem OI {k:Int} {c:List UInt8} {x n m:Int} {l:List Ty} {t:Ty} {i:Nat} (j:i < (ax l).length) (o:l[i]?=some t) (h:ae 151 [.dat t.enc] (iv m)) {T:ej}
  (e:T .normal ((xQ (kr 1 k c x (.slice (ax l))) (an .i64 (ofNat i+1)) (an .i64 (n+m))).al od)) :
  KD (roundOf Tryz.f151 0) T ((xQ (kr 1 k c x (.slice (ax l))) (ofNat i) n).al od):=by
 have a:=br j;have g:=pF o;generalize ax l=r at *;obtain⟨K,q,p,f⟩:=t
 rcases f with _|⟨b,d⟩ <;>
 ·exact aq [9] [16] (H:=hRS) (live:=ug) (ob a (oo g (on h (oe e))))
theorem S8 {c:List UInt8} {n:Int} (e:T (.exit 0) ((Co (kr 1 k c b (sl l)) (ofNat l.length) n).al od)) :
  KD (roundOf Tryz.f151 0) T ((xQ (kr 1 k c b (sl l)) (ofNat l.length) n).al od):=by
 have a:=cj (i:=l.length) (L:=l.length) (by omega)
 rcases l with _|⟨x,l⟩
 ·refine aq [] [] (H:=hRS) (live:=ug) ?_;exact oe e
 exact aq [9] [] (H:=hRS) (live:=ug) (ob a (oe e))
theorem Xl {b:List UInt8} {n:Int} (c:KD (.loop (roundOf Tryz.f151 0)) (fun e s=>e=.exit 0/\s=(Co (kr 1 k b a (sl l)) (ofNat l.length) n).al od) ((xQ (kr 1 k b a (sl l)) (ofNat 0) 1).al od)) :
  ae 151 [.dat (.agg [i64 k,sb b,i64 a,sl l])] (iv n):=by
 rcases l with _|⟨x,l⟩ <;>
 ·refine co [] [] (x:=.of Tryz.f151 P8 ug) ?_;refine lo c ?_;rintro d s ⟨rfl,rfl⟩;refine⟨_,rfl,?_⟩;exact fi
mutual
theorem O2:∀t:Ty,t.size < 1000000000->ae 151 [.dat t.enc] (iv (ofNat t.size))
 | .mk k n x l,h=>by
  simp only[Ty.size] at h;have m:=KA l (by omega);have d:=gw l;refine Xl ?_;rw[show ofNat (Ty.mk k n x l).size=ofNat (1+aQ l) by grind[Ty.size]];refine bm (St:=fun i=>(xQ (kr 1 k n x (sl (ax l))) (ofNat i) (ofNat (1+aQ (l.take i)))).al od) (ax l).length ?_ ?_ (i:=0) (Nat.zero_le _)
  ·intro i b;obtain⟨t,T,g⟩:=get_mem b;have j:=ld T;have f:=tx (l:=l) (i+1);have c:=nR b;have e:=@OI k n x (ofNat (1+aQ (l.take i))) _ _ _ _ b T (m t g) (xU (fun s=>s=(xQ (kr 1 k n x (sl (ax l))) (ofNat (i+1)) (ofNat (1+aQ (l.take (i+1))))).al od) (fun e s=>e=.exit 0/\s=(Co (kr 1 k n x (sl (ax l))) (ofNat (ax l).length) (ofNat (1+aQ l))).al od)) (by
    rw[aH] at b;rw[bb (by omega),wrap_add (by omega),j,c,Nat.add_assoc];rfl)
   grind
  refine S8 ⟨rfl,?_⟩;grind[aH]
theorem KA:∀l:List Ty,aQ l < 1000000000->∀t∈l,ae 151 [.dat t.enc] (iv (ofNat t.size))
 | [],_,t,T=>by grind
 | u::r,h,t,T=>by
  simp only[aQ] at h
  rcases List.mem_cons.1 T with a|T
  ·rw[a];exact O2 u (by omega)
  exact KA r (by omega) t T
end
noncomputable def hRD:Hints:=⟨bV,P8,bi,rowsOf bi 152⟩
theorem OT {k:Int} {c:List UInt8} {x:Int} {n m:Nat} {l:List Ty} {t:Ty} {i:Nat} (j:i < (ax l).length) (o:l[i]?=some t) (h:ae 152 [.dat t.enc] (iv (ofNat m))) {T:ej}
  (e:T .normal ((xQ (kr 1 k c x (.slice (ax l))) (an .i64 (ofNat i+1)) (match aF (ofNat n) (ofNat m) with|true=>ofNat m|false=>ofNat n)).al oc)) :
  KD (roundOf Tryz.f152 0) T ((xQ (kr 1 k c x (.slice (ax l))) (ofNat i) (ofNat n)).al oc):=by
 have a:=br j;have g:=pF o;generalize ax l=r at *;obtain⟨K,q,p,f⟩:=t
 rcases f with _|⟨b,d⟩ <;>
 ·exact aq [9] [16] (H:=hRD) (live:=ug) (ob a (oo g (on h (oe e))))
theorem Tj {c:List UInt8} {n:Int} (e:T (.exit 0) ((Co (kr 1 k c b (sl l)) (ofNat l.length) n).al oc)) :
  KD (roundOf Tryz.f152 0) T ((xQ (kr 1 k c b (sl l)) (ofNat l.length) n).al oc):=by
 have a:=cj (i:=l.length) (L:=l.length) (by omega)
 rcases l with _|⟨x,l⟩
 ·refine aq [] [] (H:=hRD) (live:=ug) ?_;exact oe e
 exact aq [9] [] (H:=hRD) (live:=ug) (ob a (oe e))
theorem Xt {b:List UInt8} {n:Int} (c:KD (.loop (roundOf Tryz.f152 0)) (fun e s=>e=.exit 0/\s=(Co (kr 1 k b a (sl l)) (ofNat l.length) n).al oc) ((xQ (kr 1 k b a (sl l)) (ofNat 0) 0).al oc)) :
  ae 152 [.dat (.agg [i64 k,sb b,i64 a,sl l])] (iv (an .i64 (n+1))):=by
 rcases l with _|⟨x,l⟩ <;>
 ·refine co [] [] (x:=.of Tryz.f152 P8 ug) ?_;refine lo c ?_;rintro d s ⟨rfl,rfl⟩;refine⟨_,rfl,?_⟩;exact fi
mutual
theorem KG:∀t:Ty,t.size < 1000000000->ae 152 [.dat t.enc] (iv (ofNat t.depth))
 | .mk k n x l,h=>by
  simp only[Ty.size] at h;have m:=FX l (by omega);have d:=gw l;have f:=jR l;rw[show ofNat (Ty.mk k n x l).depth=an .i64 (ofNat (db l)+1) by rw[bb (by omega)];rfl];refine Xt ?_;refine bm (St:=fun i=>(xQ (kr 1 k n x (sl (ax l))) (ofNat i) (ofNat (db (l.take i)))).al oc) (ax l).length ?_ ?_ (i:=0) (Nat.zero_le _)
  ·intro i b;obtain⟨t,T,g⟩:=get_mem b;have j:=xD T;have c:=nR b;have e:=@OT k n x (db (l.take i)) _ _ _ _ b T (m t g) (xU (fun s=>s=(xQ (kr 1 k n x (sl (ax l))) (ofNat (i+1)) (ofNat (db (l.take (i+1))))).al oc) (fun e s=>e=.exit 0/\s=(Co (kr 1 k n x (sl (ax l))) (ofNat (ax l).length) (ofNat (db l))).al oc)) (by
    rw[aH] at b;rw[bb (by omega),j,c];have F:(match aF (ofNat (db (l.take i))) (ofNat t.depth) with|true=>ofNat t.depth|false=>ofNat (db (l.take i)))=ofNat (max (db (l.take i)) t.depth):=by
     rw[gv]
     grind
    rw[F];rfl)
   grind
  refine Tj ⟨rfl,?_⟩;grind[aH]
theorem FX:∀l:List Ty,aQ l < 1000000000->∀t∈l,ae 152 [.dat t.enc] (iv (ofNat t.depth))
 | [],_,t,T=>by grind
 | u::r,h,t,T=>by
  simp only[aQ] at h
  rcases List.mem_cons.1 T with a|T
  ·rw[a];exact KG u (by omega)
  exact FX r (by omega) t T
end
def MC (c:Bool):Int:=match c with|true=>-1|false=>1
theorem KB (c:Bool):ae 166 [bv c] (iv (MC c)):=by
 cases c <;> exact dE _ _ _ _ _ (by kernel_rfl)
noncomputable def hRC:Hints:=⟨bV,qb,bi,rowsOf bi 123⟩
def TL (k:Int) (n:List UInt8) (x:Int) (a:ak) (K:Int) (c:List UInt8) (b:Int) (d:ak):Heap:=[(.loc 3,.cells [iv K,.dat (sb c),iv b,.dat d]),(.loc 2,.cells [iv k,.dat (sb n),iv x,.dat a])]
def Z1 (lo:Heap) (i:Int):ab:=⟨[(5,iv i),(3,.ptr (.loc 3) 0),(2,.ptr (.loc 2) 0)],lo,[],0⟩
def WE (lo:Heap) (i:Int):ab:=⟨[(63,bv false),(5,iv i),(3,.ptr (.loc 3) 0),(2,.ptr (.loc 2) 0)],lo,[],0⟩
def WG (c:Int):ab:=⟨[(4,iv c)],[],[],0⟩
theorem OV {l:List Ty} {h:List UInt8} {m:List Ty} {u:Ty} (q:i < (ax l).length) (r:l[i]?=some t) (s:m[i]?=some u) (e:ae 123 [.dat t.enc,.dat u.enc] (iv c)) (v:aB c 0=j)
  (E:j=true->T .normal ((Z1 (TL k n x (.slice (ax l)) K h g (.slice (ax m))) (an .i64 (ofNat i+1))).al jV)) (F:j=false->T .ret ((WG c).al jV)) :
  KD (roundOf Tryz.f123 0) T ((Z1 (TL k n x (.slice (ax l)) K h g (.slice (ax m))) (ofNat i)).al jV):=by
 have a:=br q;have p:=pF r;have f:=pF s;generalize ax l=C at *;generalize ax m=o at *;obtain⟨D,G,y,w⟩:=t;obtain⟨I,J,A,z⟩:=u
 rcases w with _|⟨b,d⟩ <;>
 ·rcases z with _|⟨Q,B⟩ <;>
  ·refine aq [63,78] [69,74] (H:=hRC) (live:=ku) (ob a (oo p (oo f (on e (ox v ?_)))))
   cases j
   ·exact oe (F rfl)
   exact oe (E rfl)
theorem Tl {c:List UInt8} {a:List ak} (e:T (.exit 1) ((WE (TL k n d (sl l) K c b (sl a)) (ofNat l.length)).al jV)) :
  KD (roundOf Tryz.f123 0) T ((Z1 (TL k n d (sl l) K c b (sl a)) (ofNat l.length)).al jV):=by
 have f:=cj (i:=l.length) (L:=l.length) (by omega)
 rcases l with _|⟨x,l⟩
 ·refine aq [] [] (H:=hRC) (live:=ku) ?_;exact oe e
 exact aq [63] [] (H:=hRC) (live:=ku) (ob f (oe e))
def Kw (p q a b c d e f:Bool) (r:Int):Int:=match p with|false=>MC c|true=>match q with|false=>MC d|true=>match a with|false=>MC e|true=>match b with|false=>MC f|true=>r
theorem Xv {F:Int} {i:List UInt8} {h:Int} {j:List ak} {m o t u v C:Bool} (a:aB k K=p) (b:jP n i=q) (f:aB F h=m) (g:aB (ofNat l.length) (ofNat j.length)=o) (G:aF k K=t) (D:ML n i=u) (E:aF F h=v) (B:aF (ofNat l.length) (ofNat j.length)=C)
 (w:o=true->KD (.loop (roundOf Tryz.f123 0)) (fun e s=>(e=.exit 1/\r=0/\s=(WE (TL k n F (sl l) K i h (sl j)) (ofNat l.length)).al jV)∨(e=.ret/\s=(WG r).al jV)) ((Z1 (TL k n F (sl l) K i h (sl j)) (ofNat 0)).al jV)) :
 ae 123 [.dat (.agg [i64 k,sb n,i64 F,sl l]),.dat (.agg [i64 K,sb i,i64 h,sl j])] (iv (Kw p q m o t u v C r)):=by
 have c:=KB true;have d:=KB false
 rcases l with _|⟨x,l⟩
 ·rcases j with _|⟨y,j⟩
  ·have z:o=true:=g.symm;subst z;have A:=w rfl;clear w g B;refine co [12,24,36,41,29,17] [] (x:=.of Tryz.f123 qb ku) ?_;refine ox a ?_
   cases p
   ·refine ob G ?_
    cases t
    ·exact on d fi
    exact on c fi
   refine ox b ?_
   cases q
   ·refine ob D ?_
    cases u
    ·exact on d fi
    exact on c fi
   refine ox f ?_
   cases m
   ·refine ob E ?_
    cases v
    ·exact on d fi
    exact on c fi
   refine lo A ?_;rintro I s (⟨rfl,rfl,rfl⟩|⟨rfl,rfl⟩) <;>
   ·refine⟨_,rfl,?_⟩;exact fi
  have z:o=false:=g.symm;have H:C=true:=B.symm;subst z H;clear w g B;refine co [12,24,36,41,29,17] [] (x:=.of Tryz.f123 qb ku) ?_;refine ox a ?_
  cases p
  ·refine ob G ?_
   cases t
   ·exact on d fi
   exact on c fi
  refine ox b ?_
  cases q
  ·refine ob D ?_
   cases u
   ·exact on d fi
   exact on c fi
  refine ox f ?_
  cases m
  ·refine ob E ?_
   cases v
   ·exact on d fi
   exact on c fi
  exact on c fi
 rcases j with _|⟨y,j⟩
 ·have z:o=false:=g.symm;have H:C=false:=B.symm;subst z H;clear w g B;refine co [12,24,36,41,29,17] [] (x:=.of Tryz.f123 qb ku) ?_;refine ox a ?_
  cases p
  ·refine ob G ?_
   cases t
   ·exact on d fi
   exact on c fi
  refine ox b ?_
  cases q
  ·refine ob D ?_
   cases u
   ·exact on d fi
   exact on c fi
  refine ox f ?_
  cases m
  ·refine ob E ?_
   cases v
   ·exact on d fi
   exact on c fi
  exact on d fi
 cases o
 ·clear w;refine co [12,24,36,50,57,41,29,17] [] (x:=.of Tryz.f123 qb ku) ?_;refine ox a ?_
  cases p
  ·refine ob G ?_
   cases t
   ·exact on d fi
   exact on c fi
  refine ox b ?_
  cases q
  ·refine ob D ?_
   cases u
   ·exact on d fi
   exact on c fi
  refine ox f ?_
  cases m
  ·refine ob E ?_
   cases v
   ·exact on d fi
   exact on c fi
  refine ox g (ob B ?_)
  cases C
  ·exact on d fi
  exact on c fi
 have A:=w rfl;clear w;refine co [12,24,36,50,41,29,17] [] (x:=.of Tryz.f123 qb ku) ?_;refine ox a ?_
 cases p
 ·refine ob G ?_
  cases t
  ·exact on d fi
  exact on c fi
 refine ox b ?_
 cases q
 ·refine ob D ?_
  cases u
  ·exact on d fi
  exact on c fi
 refine ox f ?_
 cases m
 ·refine ob E ?_
  cases v
  ·exact on d fi
  exact on c fi
 refine ox g ?_;refine lo A ?_;rintro I s (⟨rfl,rfl,rfl⟩|⟨rfl,rfl⟩) <;>
 ·refine⟨_,rfl,?_⟩;exact fi
mutual
def Ix:Ty->Ty->Int
 | .mk k n x l,.mk K b a c=>Kw (aB k K) (jP n b) (aB x a) (aB (ofNat (ax l).length) (ofNat (ax c).length)) (aF k K) (ML n b) (aF x a) (aF (ofNat (ax l).length) (ofNat (ax c).length)) (Ky l c)
def Ky:List Ty->List Ty->Int
 | t::r,u::v=>match aB (Ix t u) 0 with|true=>Ky r v|false=>Ix t u
 | _,_=>0
end
theorem OW {l a:List Ty} {u:Ty} (T:l[i]?=some t) (b:a[i]?=some u):Ky (l.drop i) (a.drop i)=(match aB (Ix t u) 0 with|true=>Ky (l.drop (i+1)) (a.drop (i+1))|false=>Ix t u):=by simp_all[kT,Ky]
theorem Tk {l:List Ty} {f:List UInt8} {a:List Ty} (w:l.length=a.length) (d:l.length < 1000000000) (A:∀t∈l,∀u∈a,ae 123 [.dat t.enc,.dat u.enc] (iv (Ix t u))) :
  KD (.loop (roundOf Tryz.f123 0)) (fun e s=>(e=.exit 1/\Ky l a=0/\s=(WE (TL k n x (sl (ax l)) K f b (sl (ax a))) (ofNat (ax l).length)).al jV)∨(e=.ret/\s=(WG (Ky l a)).al jV)) ((Z1 (TL k n x (sl (ax l)) K f b (sl (ax a))) (ofNat 0)).al jV):=by
 refine cV (St:=fun i=>(Z1 (TL k n x (sl (ax l)) K f b (sl (ax a))) (ofNat i)).al jV) (fun i=>Ky l a=Ky (l.drop i) (a.drop i)) (ax l).length ?_ ?_ (i:=0) (Nat.zero_le _) rfl
 ·intro i j m;obtain⟨t,T,y⟩:=get_mem j;have o:=j;rw[aH] at o;have r:a[i]?=some a[i]:=List.getElem?_eq_getElem (by omega);have g:a[i]∈a:=List.getElem_mem _;generalize a[i]=u at r g;have h:=A t y u g;have D:=OW T r;rw[←m] at D;have z:an .i64 (ofNat i+1)=ofNat (i+1):=bb (by omega);have p:=nR j;have q:sl (ax a)=.slice (ax a):=nR (i:=i) (by grind[aH]);rw[p,q];generalize Ix t u=c at h D;refine OV j T r h rfl ?_ ?_
  ·intro v;rw[v] at D;rw[z];exact⟨rfl,D⟩
  intro v;rw[v] at D;exact .inr ⟨rfl,by rw[D]⟩
 intro m;refine Tl (.inl ⟨rfl,?_,rfl⟩);rw[m,aH,List.drop_length]
 cases a.drop l.length <;> rfl
mutual
theorem zS:∀(t u:Ty),t.thin->ae 123 [.dat t.enc,.dat u.enc] (iv (Ix t u))
 | .mk k n f l,.mk K e d g,h=>by
  have c:=xd l h.2;refine Xv rfl rfl rfl rfl rfl rfl rfl rfl (fun b=>?_);rw[A0,aH,aH] at b;exact Tk (by grind) h.1 (fun t T u _=>c t T u)
theorem xd:∀l:List Ty,tt l->∀t∈l,∀u,ae 123 [.dat t.enc,.dat u.enc] (iv (Ix t u))
 | [],_,t,T,_=>by grind
 | x::r,h,t,T,u=>by
  rcases List.mem_cons.1 T with a|T
  ·rw[a];exact zS x u h.1
  exact xd r h.2 t T u
end
theorem abE {f:Int} {b:List UInt8} {d:List ak} {c:Bool} (h:ae 123 [.dat (.agg [i64 k,sb n,i64 f,sl l]),.dat (.agg [i64 K,sb b,i64 a,sl d])] (iv r)) (e:aB r 0=c):ae 86 [.dat (.agg [i64 k,sb n,i64 f,sl l]),.dat (.agg [i64 K,sb b,i64 a,sl d])] (bv c):=by
 rcases l with _|⟨x,l⟩ <;>
 ·rcases d with _|⟨y,d⟩ <;>
  ·refine co [8] [] (x:=.of Tryz.f86 P8 ajE) ?_;refine on h (ob e ?_)
   cases c <;>
   ·exact fi
def reT (t u:Ty):Bool:=aB (Ix t u) 0
theorem O5 (t u:Ty) (h:t.thin):ae 86 [.dat t.enc,.dat u.enc] (bv (reT t u)):=by
 have a:=zS t u h;obtain⟨k,n,x,l⟩:=t;obtain⟨K,c,b,d⟩:=u;exact abE a rfl
theorem To (t u:Ty) (h:t.size < 1000000000):ae 86 [.dat t.enc,.dat u.enc] (bv (reT t u)):=O5 t u (DG t h)
theorem Tv (c:Bool):MC c≠0:=by cases c <;> decide
theorem Rm {a b:List UInt8} (h:jP a b=true):a=b:=by rw[wu] at h;grind
theorem wq (h:aB a b=true):a=b:=by rw[cN] at h;grind
theorem Iy {a b c d e f:Bool} (h:Kw p q a b c d e f r=0):p=true/\q=true/\a=true/\b=true/\r=0:=by
 cases p <;> cases q <;> cases a <;> cases b <;> simp[Kw,Tv] at h ⊢ <;> exact h
mutual
theorem FR:∀(t u:Ty),Ix t u=0->t=u
 | .mk k n x l,.mk K i e c,h=>by
  obtain⟨a,b,f,g,G⟩:=Iy h;rw[wq a,Rm b,wq f];rw[A0,aH,aH] at g;rw[FU l c (by grind) G]
theorem FU:∀(l c:List Ty),l.length=c.length->Ky l c=0->l=c
 | [],[],_,_=>rfl
 | [],_::_,h,_=>by grind
 | _::_,[],h,_=>by grind
 | t::r,u::v,h,b=>by
  rw[Ky] at b
  cases d:aB (Ix t u) 0 with
  | true=>
   rw[d] at b;rw[FR t u (wq d),FU r v (by grind) b]
  | false=>
   grind[eu]
end
mutual
theorem FT:∀t:Ty,Ix t t=0
 | .mk k n x l=>by rw[Ix,eu,A4,eu,eu,FV l];rfl
theorem FV:∀l:List Ty,Ky l l=0
 | []=>by simp[Ky]
 | t::r=>by rw[Ky,FT t,eu,FV r]
end
theorem Th {u:Ty}:reT t u=true↔t=u:=by
 grind[reT,FR,wq,FT,eu]
theorem agr (n:List UInt8) (u k:Int) (t:List UInt8) (d:Int) (b:List ak) (a:Bool) (c:List ak) :
  Sj [.dat (ae9 n u k t d b a c)]=some ⟨.undef,.new (.cells (cellsD n u k t d b a c))⟩:=by
 rcases b with _|⟨x,b⟩ <;> rcases c with _|⟨y,c⟩ <;> kernel_rfl
theorem ahc (t:Bool) (l:Nat) (n:List UInt8) (u k:Int) (e:List UInt8) (d:Int) (a:List ak) (b:Bool) (c:List ak) :
  eB ba t 40 [.ptr (.loc l) 2] (some (.cells (cellsD n u k e d a b c)))=some ⟨.dat (.agg [i64 k,sb e,i64 d,sl a]),.keep⟩:=by
 cases t <;> rcases a with _|⟨x,a⟩ <;> rcases c with _|⟨y,c⟩ <;> kernel_rfl
def aec (n:List UInt8) (u k:Int) (t:List UInt8) (x:Int) (a:ak) (c:Bool) (b:ak):List ac:=[.dat (sb n),iv u,iv k,.dat (sb t),iv x,.dat a,.dat (bl c),.dat b]
noncomputable def hDE:Hints:=⟨bV,afQ,bi,rowsOf bi 124⟩
def ag2 (p q:List ac):Heap:=[(.loc 3,.cells q),(.loc 2,.cells p)]
def aik (lo:Heap) (i:Int):ab:=⟨[(5,iv i),(3,.ptr (.loc 3) 0),(2,.ptr (.loc 2) 0)],lo,[],0⟩
def aiR (lo:Heap) (i:Int):ab:=⟨[(46,bv false),(5,iv i),(3,.ptr (.loc 3) 0),(2,.ptr (.loc 2) 0)],lo,[],0⟩
def aiS:ab:=⟨[(4,bv false)],[],[],0⟩
theorem aj1 {m v o:List UInt8} {j:Int} {A q:ak} {c:Bool} {l p:List Z8} {t u:Z8} {c1 c2:Bool} (y:i < (BZ l).length) (z:l[i]?=some t) (B:p[i]?=some u) (N:jP t.nm u.nm=c1) (e:ae 86 [.dat t.ty.enc,.dat u.ty.enc] (bv c2))
  (E:(c1&&c2)=true->T .normal ((aik (ag2 (aec n r k v x A h (.slice (BZ l))) (aec m g K o j q c (.slice (BZ p)))) (an .i64 (ofNat i+1))).al ael)) (F:(c1&&c2)=false->T .ret (aiS.al ael)) :
  KD (roundOf Tryz.f124 0) T ((aik (ag2 (aec n r k v x A h (.slice (BZ l))) (aec m g K o j q c (.slice (BZ p)))) (ofNat i)).al ael):=by
 have a:=br y;have s:=al8 z;have f:=al8 B;generalize BZ l=M at *;generalize BZ p=w at *;obtain⟨O,R,G,D,C⟩:=t;obtain⟨P,S,U,J,I⟩:=u
 rcases C with _|⟨b,d⟩ <;>
 ·rcases I with _|⟨Q,L⟩ <;>
  ·refine aq [46,61] [52,58,66,72] (H:=hDE) (live:=afr) (ob a (oo s (oo f (ox N ?_))))
   cases c1
   ·exact oe (F rfl)
   refine oo s (oo f (on e ?_))
   cases c2
   ·exact oe (F rfl)
   exact oe (E rfl)
theorem akV {g t h:List UInt8} {u f:Int} {A j B:ak} {d b:Bool}
  (e:T (.exit 0) ((aiR (ag2 (aec n u k t m A d (sl l)) (aec g c K h f j b B)) (ofNat l.length)).al ael)) :
  KD (roundOf Tryz.f124 0) T ((aik (ag2 (aec n u k t m A d (sl l)) (aec g c K h f j b B)) (ofNat l.length)).al ael):=by
 have a:=cj (i:=l.length) (L:=l.length) (by omega)
 rcases l with _|⟨x,l⟩
 ·refine aq [] [] (H:=hDE) (live:=afr) ?_;exact oe e
 exact aq [46] [] (H:=hDE) (live:=afr) (ob a (oe e))
theorem amw {r:List UInt8} {u j E:Int} {t v:List UInt8} {F o A i:List ak} {c:Bool} {M w B d:Bool} (a:jP n r=p) (b:aB u j=q) (f:(h==c)=M) (g:ae 86 [.dat (.agg [i64 k,sb t,i64 E,sl F]),.dat (.agg [i64 K,sb v,i64 m,sl o])] (bv w)) (G:aB (ofNat A.length) (ofNat i.length)=B)
  (l:B=true->KD (.loop (roundOf Tryz.f124 0)) (fun e s=>(e=.exit 0/\d=true/\s=(aiR (ag2 (aec n u k t E (sl F) h (sl A)) (aec r j K v m (sl o) c (sl i))) (ofNat A.length)).al ael)∨(e=.ret/\d=false/\s=aiS.al ael)) ((aik (ag2 (aec n u k t E (sl F) h (sl A)) (aec r j K v m (sl o) c (sl i))) (ofNat 0)).al ael)) :
  ae 124 [.dat (ae9 n u k t E F h A),.dat (ae9 r j K v m o c i)] (bv (p&&(q&&(M&&(w&&(B&&d)))))):=by
 have I:=agr n u k t E F h A;have J:=agr r j K v m o c i;have C:=ahc false 2 n u k t E F h A;have D:=ahc false 3 r j K v m o c i;subst f
 rcases A with _|⟨x,A⟩
 ·rcases i with _|⟨y,i⟩
  ·have z:B=true:=G.symm;subst z;have H:=l rfl;clear l G;refine co [10,16] [2,3,27,29] (x:=.of Tryz.f124 afQ afr) ?_;refine oo I (oo J (ox a ?_))
   cases p
   ·exact fi
   refine ox b ?_
   cases q
   ·exact fi
   cases h
   ·cases c
    ·refine oo C (oo D (on g ?_))
     cases w
     ·exact fi
     refine lo H ?_;rintro L s (⟨rfl,rfl,rfl⟩|⟨rfl,rfl,rfl⟩) <;>
     ·refine⟨_,rfl,?_⟩;exact fi
    exact fi
   cases c
   ·exact fi
   refine oo C (oo D (on g ?_))
   cases w
   ·exact fi
   refine lo H ?_;rintro L s (⟨rfl,rfl,rfl⟩|⟨rfl,rfl,rfl⟩) <;>
   ·refine⟨_,rfl,?_⟩;exact fi
  have z:B=false:=G.symm;subst z;clear l G;refine co [10,16] [2,3,27,29] (x:=.of Tryz.f124 afQ afr) ?_;refine oo I (oo J (ox a ?_))
  cases p
  ·exact fi
  refine ox b ?_
  cases q
  ·exact fi
  cases h
  ·cases c
   ·refine oo C (oo D (on g ?_))
    cases w <;>
    ·exact fi
   exact fi
  cases c
  ·exact fi
  refine oo C (oo D (on g ?_))
  cases w <;>
  ·exact fi
 rcases i with _|⟨y,i⟩
 ·have z:B=false:=G.symm;subst z;clear l G;refine co [10,16] [2,3,27,29] (x:=.of Tryz.f124 afQ afr) ?_;refine oo I (oo J (ox a ?_))
  cases p
  ·exact fi
  refine ox b ?_
  cases q
  ·exact fi
  cases h
  ·cases c
   ·refine oo C (oo D (on g ?_))
    cases w <;>
    ·exact fi
   exact fi
  cases c
  ·exact fi
  refine oo C (oo D (on g ?_))
  cases w <;>
  ·exact fi
 refine co [10,16,40] [2,3,27,29] (x:=.of Tryz.f124 afQ afr) ?_;refine oo I (oo J (ox a ?_))
 cases p
 ·exact fi
 refine ox b ?_
 cases q
 ·exact fi
 cases h
 ·cases c
  ·refine oo C (oo D (on g ?_))
   cases w
   ·exact fi
   refine ox G ?_
   cases B
   ·exact fi
   refine lo (l rfl) ?_;rintro L s (⟨rfl,rfl,rfl⟩|⟨rfl,rfl,rfl⟩) <;>
   ·refine⟨_,rfl,?_⟩;exact fi
  exact fi
 cases c
 ·exact fi
 refine oo C (oo D (on g ?_))
 cases w
 ·exact fi
 refine ox G ?_
 cases B
 ·exact fi
 refine lo (l rfl) ?_;rintro L s (⟨rfl,rfl,rfl⟩|⟨rfl,rfl,rfl⟩) <;>
 ·refine⟨_,rfl,?_⟩;exact fi
theorem wx (x:Int):fP x x=0:=by
 unfold fP;rw[show aF x x=false by rw[dA];simp]
theorem Gv:∀x:List UInt8,ML x x=false
 | []=>rfl
 | c::r=>by
  unfold ML;rw[show Nat.blt c.toNat c.toNat=false by simp[Bool.eq_false_iff],show Nat.beq c.toNat c.toNat=true by simp];exact Gv r
theorem Nl (x:List UInt8):qB x x=0:=by
 grind[qB,Gv,A4]
theorem Nk {x y:List UInt8} (h:qB x y=0):x=y:=by
 grind[qB,Rm]
mutual
theorem Dd:∀(t u:Ty),oT t u=0->t=u
 | .mk k n x l,.mk K i e d,h=>by
  rw[oT] at h
  cases c:aB (BH [fP k K,qB n i,fP x e,fP (ofNat (ax l).length) (ofNat (ax d).length)]) 0 with
  | true=>
   rw[c] at h;have O:=Aj (qy c);have a:=ww (O (fP k K) (by simp));have b:=Nk (O (qB n i) (by simp));have f:=ww (O (fP x e) (by simp));have g:=AK c;rw[a,b,f,Df l d g h]
  | false=>
   grind[eu]
theorem Df:∀(l d:List Ty),l.length=d.length->rM l d=0->l=d
 | [],[],_,_=>rfl
 | [],_::_,h,_=>by grind
 | _::_,[],h,_=>by grind
 | t::r,u::v,h,b=>by
  rw[rM] at b
  cases c:aB (oT t u) 0 with
  | true=>
   rw[c] at b;rw[Dd t u (wq c),Df r v (by grind) b]
  | false=>
   grind[eu]
end
mutual
theorem De:∀t:Ty,oT t t=0
 | .mk k n x l=>by
  rw[oT,wx,Nl,wx,wx,Dg l];rfl
theorem Dg:∀l:List Ty,rM l l=0
 | []=>by simp[rM]
 | t::r=>by rw[rM,De t,eu,Dg r]
end
theorem UM {u:Ty}:NC t u=true↔t=u:=by
 grind[NC,Dd,wq,De,eu]
theorem Ti (t u:Ty):reT t u=NC t u:=by
 grind[Th,UM]
theorem O6 (t u:Ty) (h:t.size < 1000000000):ae 86 [.dat t.enc,.dat u.enc] (bv (NC t u)):=by
 grind[Ti,To]
theorem akU {h G j:List UInt8} {q F:Int} {A p B m:ak} {f b:Bool} {l a:List Z8} (H:B=sl (BZ l)) (d:m=sl (BZ a)) (I:l.length=a.length) (N:l.length < 1000000000) (J:∀t∈l,t.ty.gN) :
  KD (.loop (roundOf Tryz.f124 0)) (fun e s=>(e=.exit 0/\aga l a=true/\s=(aiR (ag2 (aec n q k G F A f B) (aec h c K j g p b m)) (ofNat (BZ l).length)).al ael)∨(e=.ret/\aga l a=false/\s=aiS.al ael))
   ((aik (ag2 (aec n q k G F A f B) (aec h c K j g p b m)) (ofNat 0)).al ael):=by
 refine cV (St:=fun i=>(aik (ag2 (aec n q k G F A f B) (aec h c K j g p b m)) (ofNat i)).al ael) (fun i=>aga l a=aga (l.drop i) (a.drop i)) (BZ l).length ?_ ?_ (i:=0) (Nat.zero_le _) rfl
 ·intro i C v;obtain⟨t,T,L⟩:=ajQ C;have E:=C;rw[abV] at E;have o:a[i]?=some a[i]:=List.getElem?_eq_getElem (by omega);generalize a[i]=u at o;have D:=ais T o;rw[←v] at D;have M:an .i64 (ofNat i+1)=ofNat (i+1):=bb (by omega);have w:B=.slice (BZ l):=by
   rw[H]
   cases l with
   | nil=>simp at T
   | cons x r=>rfl
  have y:m=.slice (BZ a):=by
   rw[d]
   cases a with
   | nil=>simp at o
   | cons x r=>rfl
  subst w;subst y;refine aj1 C T o (c1:=jP t.nm u.nm) (c2:=NC t.ty u.ty) rfl (O6 _ _ (by have:=(J t L).1;omega)) ?_ ?_
  ·intro z;rw[M];refine⟨rfl,?_⟩;rw[D];unfold Z8.eq;rw[z,Bool.true_and]
  intro z;refine .inr ⟨rfl,?_,rfl⟩;rw[D];unfold Z8.eq;rw[z,Bool.false_and]
 intro v;rw[H];refine akV (.inl ⟨rfl,?_,rfl⟩);rw[v,abV,List.drop_length]
 cases a.drop l.length <;> rfl
theorem ai7 {d o:vh} (D:d.gN):ae 124 [.dat d.enc,.dat o.enc] (bv (d.eq o)):=by
 have g:=O6 d.sup o.sup (by have:=D.1.1;omega);have h:=D.2.1;have N:=D.2.2;obtain⟨n,u,⟨k,t,x,q⟩,c,p⟩:=d;obtain⟨l,b,⟨K,m,i,j⟩,a,f⟩:=o;refine amw rfl rfl rfl g rfl ?_;intro e;exact akU rfl rfl (akQ rfl e) N h
theorem vh.eq_iff {d o:vh}:d.eq o=true↔d=o:=by
 have k:∀l e:List Z8,l.length=e.length->(aga l e=true↔l=e):=by
  intro l
  induction l with
  | nil=>grind[aga]
  | cons x r m=>
   intro e h
   cases e with
   | nil=>grind
   | cons y s=>
    simp only[aga,Bool.and_eq_true,m s (by grind),Z8.eq,UM,wu,beq_iff_eq,List.cons.injEq];obtain⟨a,b⟩:=x;obtain⟨c,d⟩:=y;simp
 obtain⟨n,u,t,i,q⟩:=d;obtain⟨p,g,v,f,j⟩:=o;simp only[vh.eq,akP,Bool.and_eq_true,wu,cN,UM,beq_iff_eq,abV,vh.mk.injEq]
 grind
noncomputable def acf:Hints:=⟨bV,Gd,bi,rowsOf bi 197⟩
def Sp (a:List ak) (x k:Int):ab:=⟨[(5,iv k),(0,.dat (.slice a)),(1,iv x)],[],[],0⟩
def Md (a:List ak) (x k:Int):ab:=⟨[(17,bv false),(5,iv k),(0,.dat (.slice a)),(1,iv x)],[],[],0⟩
theorem vY {c:List ak} {x y:Int} {i:Nat} {p q:Bool} (a:aF (ofNat i) (ofNat c.length)=p) (b:p=true->ap ba 22 [.dat (.slice c),.dat (.flat (.int .i64 (ofNat i)))]=some ⟨.ref [iN y],.keep⟩) (f:aF y x=q) {T:ej}
  (E:(p&&q)=true->T .normal ((Sp c x (an .i64 (ofNat i+1))).al jh)) (F:(p&&q)=false->T (.exit 0) ((Md c x (ofNat i)).al jh)) :
  KD (roundOf Tryz.f197 0) T ((Sp c x (ofNat i)).al jh):=by
 refine aq [9,16] [13] (H:=acf) (live:=Az) (ob a ?_)
 cases p
 ·exact oe (F rfl)
 refine oo (b rfl) (ob f ?_)
 cases q
 ·exact oe (F rfl)
 exact oe (E rfl)
theorem ko {g:FuncId} {c:List ac} {d:Heap} {f:Nat} {s:List ak} {b:Heap} {m:Nat} (h:KC g c d f (XQ ⟨.own s,b,m⟩)):KC g c d f (XQ ⟨.dat (.slice s),b,m⟩):=by
 intro w R N i n H z A E p q J C;refine (h w R N i n H z A E p q J C).mono ?_;rintro e F ⟨v,B,a,r,x,u,y,j,rfl,⟨rfl,rfl,rfl⟩,V,o,t,l,k,D⟩;refine⟨_,B,_,_,x,u,[],j,rfl,⟨rfl,rfl,rfl⟩,bQ (cy V).rep,o,?_,l,k,D⟩;grind
def Mc (x k:Int):ab:=⟨[(5,iv k),(0,.dat nl),(1,iv x)],[],[],0⟩
def Kq (x k:Int):ab:=⟨[(17,bv false),(5,iv k),(0,.dat nl),(1,iv x)],[],[],0⟩
theorem Jz (F:T (.exit 0) ((Kq x (ofNat 0)).al jh)) :
  KD (roundOf Tryz.f197 0) T ((Mc x (ofNat 0)).al jh):=by
 refine aq [] [] (H:=acf) (live:=Az) ?_;exact oe F
theorem Un (a:bB ba false 22 [.own [],.dat (.slice [iN x])] none=some ⟨.own [iN x],.keep⟩):ae 197 [.dat nl,iv x] (.own [iN x]):=by
 have l:KD (.loop (roundOf Tryz.f197 0)) (fun e s=>e=.exit 0/\s=(Kq x (ofNat 0)).al jh) ((Mc x (ofNat 0)).al jh):=
  bm (St:=fun _=>(Mc x (ofNat 0)).al jh) 0 (fun i b=>absurd b (Nat.not_lt_zero i)) (Jz ⟨rfl,rfl⟩) (i:=0) (Nat.le_refl _)
 refine co [] [40,44] (x:=.of Tryz.f197 Gd Az) ?_;refine lo l ?_;rintro c s ⟨rfl,rfl⟩;refine⟨_,rfl,?_⟩;exact oo a (oo a fi)
theorem LF {c:ak} {d p q:List ak} {x y:Int} {i:Nat} {g h:Bool} (a:aF (ofNat i) (ofNat (c::d).length)=g) (b:g=true->ap ba 22 [.dat (.slice (c::d)),.dat (.flat (.int .i64 (ofNat i)))]=some ⟨.ref [iN y],.keep⟩) (f:aB y x=h)
  (l:KD (.loop (roundOf Tryz.f197 0)) (fun e s=>e=.exit 0/\s=(Md (c::d) x (ofNat i)).al jh) ((Sp (c::d) x (ofNat 0)).al jh))
  (n:fF ba 22 none (some (.tmp 35)) none [.dat (.slice (c::d)),iv (ofNat i)]=some ⟨.dat (.slice p),.keep⟩)
  (o:fF ba 22 (some (.tmp 42)) none none [.dat (.slice (c::d)),iv (ofNat i)]=some ⟨.dat (.slice q),.keep⟩)
  (j:bB ba false 22 [.own [],.dat (.slice p)] none=some ⟨.own p,.keep⟩)
  (k:bB ba false 22 [.own p,.dat (.slice [iN x])] none=some ⟨.own (p++[iN x]),.keep⟩)
  (m:bB ba false 22 [.own (p++[iN x]),.dat (.slice q)] none=some ⟨.own (p++[iN x]++q),.keep⟩) :
  ae 197 [.dat (.slice (c::d)),iv x] (match g&&h with|true=>.dat (.slice (c::d))|false=>.own (p++[iN x]++q)):=by
 refine co [23,30] [27,36,43,37,40,44] (x:=.of Tryz.f197 Gd Az) ?_;refine lo l ?_;rintro r s ⟨rfl,rfl⟩;refine⟨_,rfl,?_⟩;refine ob a ?_
 cases g
 ·exact oo n (oo o (oo j (oo k (oo m fi))))
 refine oo (b rfl) (ob f ?_)
 cases h
 ·exact oo n (oo o (oo j (oo k (oo m fi))))
 exact fi
def kW:List Int->Int->Nat
 | [],_=>0
 | y::r,x=>match aF y x with|true=>kW r x+1|false=>0
theorem QP:∀{l:List Int} {x:Int},kW l x<=l.length
 | [],_=>Nat.le_refl _
 | y::r,x=>by
  unfold kW
  split
  ·simp only[List.length_cons];have:=QP (l:=r) (x:=x);omega
  omega
theorem QO:∀{l:List Int} {x:Int} {i:Nat} {y:Int},i < kW l x->l[i]?=some y->aF y x=true
 | [],x,i,y,h,b=>by grind
 | z::r,x,i,y,h,b=>by
  unfold kW at h
  cases a:aF z x with
  | false=>grind
  | true=>
   rw[a] at h
   cases i with
   | zero=>grind
   | succ i=>simp at b;exact QO (by grind) b
theorem QQ:∀{l:List Int} {x:Int} {y:Int},l[kW l x]?=some y->aF y x=false
 | [],x,y,h=>by grind
 | z::r,x,y,h=>by
  unfold kW at h
  cases a:aF z x with
  | false=>grind
  | true=>rw[a] at h;exact QQ h
theorem CX {l:List Int} (s:l.Pairwise (·<=·)):kW l x=l.countP (· < x):=by
 induction l with
 | nil=>rfl
 | cons y r a=>
  have a:=a (List.Pairwise.of_cons s);unfold kW
  by_cases b:y < x
  ·rw[dA,decide_eq_true b,List.countP_cons_of_pos (by grind),a]
  rw[dA,decide_eq_false b];symm;rw[List.countP_eq_zero];intro z c
  have:y<=z:=by
   rcases List.mem_cons.1 c with rfl|c
   all_goals simp_all
  grind
def Eu (l:List Int) (x:Int):List Int:=match l[kW l x]? with|some y=>(match aB y x with|true=>l|false=>fw l (kW l x) x)|none=>fw l (kW l x) x
theorem GJ {l:List Int} (s:l.Pairwise (·<=·)):Eu l x=jc l x:=by
 obtain⟨p,q⟩:=countP_split (x:=x) s;unfold Eu jc;rw[←CX s];rw[←CX s] at p q
 cases e:l.contains x with
 | true=>
  have b:x∈l:=by grind
  have D:x∈l.drop (kW l x):=by
   rcases List.mem_append.1 ((List.take_append_drop (kW l x) l).symm ▸ b) with h|h
   all_goals grind
  have a:kW l x < l.length:=by
   rcases Nat.lt_or_ge (kW l x) l.length with h|h
   ·grind
   rw[List.drop_eq_nil_of_le h] at D;grind
  have J:l[kW l x]?=some l[kW l x]:=List.getElem?_eq_getElem a;have c:x<=l[kW l x]:=q _ (by rw[List.drop_eq_getElem_cons a];grind);have d:l[kW l x]<=x:=by
   have w:(l.drop (kW l x)).Pairwise (·<=·):=s.sublist (List.drop_sublist _ _);rw[List.drop_eq_getElem_cons a] at w D
   rcases List.mem_cons.1 D with h|h
   ·omega
   exact List.rel_of_pairwise_cons w h
  grind[eu]
 | false=>
  have b:x∉l:=by grind
  cases J:l[kW l x]? with
  | none=>rfl
  | some y=>
   dsimp only
   have:aB y x=false:=by
    rw[cN]
    grind
   grind
theorem fE {a b:List Int} (h:a.length+b.length < 1000000000):bB ba false 22 [.own (a.map iN),.dat (.slice (b.map iN))] none=some ⟨.own (a.map iN++b.map iN),.keep⟩:=by
 refine uX (i:=DE) (ds:=b.map iN) (k:=0) HU rfl kV ?_ ?_ (by kernel_rfl) ?_ ?_ ?_ (by simp)
 ·exact kM (fun d D=>by obtain⟨x,_,rfl⟩:=List.mem_map.1 D;rfl)
 ·exact kM (fun d D=>by obtain⟨x,_,rfl⟩:=List.mem_map.1 D;rfl)
 ·have c:DE.bytes<=1000:=fD (by kernel_rfl);simp
  calc (a.length+b.length)*DE.bytes<=1000000000*1000:=Nat.mul_le_mul (by omega) c
   _<=140737488355328:=by decide
 ·simp[lim];omega
 have e:fy (a.map iN++b.map iN)=false:=by
  rw[←List.map_append]
  cases a++b with
  | nil=>rfl
  | cons x r=>rfl
 unfold jr;rw[e]
theorem zn (l:List Int):sizedB 1 (l.map iN)=true:=kM (fun d D=>by obtain⟨x,_,rfl⟩:=List.mem_map.1 D;rfl)
theorem FB {l:List Int} (h:i<=l.length) (x:Operand):fF ba 22 none (some x) none [.dat (.slice (l.map iN)),iv (ofNat i)]=some ⟨.dat (.slice ((l.take i).map iN)),.keep⟩:=by
 have a:bW.nA.sub DE.size (l.map iN) none (some (ofNat i))=some ((l.take i).map iN):=by
  show (match sizedB 1 (l.map iN),Nat.blt 0 1 with
   | true,true=>(match eJ (some (ofNat i)) (l.map iN).length,eJ none 0 with
    | some h,some lo=>(match Nat.ble lo h,Nat.ble h (l.map iN).length with|true,true=>some (((l.map iN).take h).drop lo)|_,_=>none)
    | _,_=>none)
   | _,_=>none)=_
  rw[zn];have E:eJ (some (ofNat i)) (l.map iN).length=some i:=rfl;have F:Nat.ble i (l.map iN).length=true:=by simp_all
  rw[E];dsimp only[eJ];rw[F];simp[Nat.ble];rfl
 have b:fF ba 22 none (some x) none [.dat (.slice (l.map iN)),iv (ofNat i)]=xj (match bW.nA.sub DE.size (l.map iN) none (some (ofNat i)) with|some r=>some (.dat (.slice r))|none=>none):=by kernel_rfl
 rw[b,a];rfl
theorem zl {l:List Int} (h:i<=l.length) (x:Operand):fF ba 22 (some x) none none [.dat (.slice (l.map iN)),iv (ofNat i)]=some ⟨.dat (.slice ((l.drop i).map iN)),.keep⟩:=by
 have a:bW.nA.sub DE.size (l.map iN) (some (ofNat i)) none=some ((l.drop i).map iN):=by
  show (match sizedB 1 (l.map iN),Nat.blt 0 1 with
   | true,true=>(match eJ none (l.map iN).length,eJ (some (ofNat i)) 0 with
    | some h,some lo=>(match Nat.ble lo h,Nat.ble h (l.map iN).length with|true,true=>some (((l.map iN).take h).drop lo)|_,_=>none)
    | _,_=>none)
   | _,_=>none)=_
  rw[zn];have E:eJ (some (ofNat i)) 0=some i:=rfl;have F:Nat.ble i (l.map iN).length=true:=by simp_all
  have c:Nat.ble (l.map iN).length (l.map iN).length=true:=by simp_all
  rw[E];dsimp only[eJ];rw[F,c,List.take_length];simp[List.map_drop];rfl
 have b:fF ba 22 (some x) none none [.dat (.slice (l.map iN)),iv (ofNat i)]=xj (match bW.nA.sub DE.size (l.map iN) (some (ofNat i)) none with|some r=>some (.dat (.slice r))|none=>none):=by kernel_rfl
 rw[b,a];rfl
theorem abP {l:List Int} (N:l.length < 100000000):ae 197 [.dat (sl (l.map iN)),iv x] (.dat (sl ((Eu l x).map iN))):=by
 cases l with
 | nil=>exact ko (Un (fE (a:=[]) (b:=[x]) (by simp)))
 | cons v r=>
  obtain⟨l,u⟩:∃l,l=v::r:=⟨_,rfl⟩;have f:(l.map iN)=iN v::r.map iN:=by rw[u];rfl
  have m:sl (l.map iN)=.slice (l.map iN):=by rw[f];rfl
  rw[←u] at N ⊢;have k:=QP (l:=l) (x:=x);have d:KD (.loop (roundOf Tryz.f197 0)) (fun e s=>e=.exit 0/\s=(Md (l.map iN) x (ofNat (kW l x))).al jh) ((Sp (l.map iN) x (ofNat 0)).al jh):=by
   refine bm (St:=fun i=>(Sp (l.map iN) x (ofNat i)).al jh) (kW l x) ?_ ?_ (i:=0) (Nat.zero_le _)
   ·intro i w;have g:i < l.length:=by omega
    have J:l[i]?=some l[i]:=List.getElem?_eq_getElem g;refine @vY _ _ (l[i]) _ true true (br (by simpa using g)) (fun _=>wb J) (QO w J) _ (fun _=>?_) (fun h=>by simp at h);rw[bb (by omega)];rfl
   cases J:l[kW l x]? with
   | none=>
    have:l.length<=kW l x:=by simpa using J
    exact @vY _ _ 0 _ false (aF 0 x) (cj (by simp;omega)) (fun h=>by simp at h) rfl _ (fun h=>by simp at h) (fun _=>⟨rfl,rfl⟩)
   | some y=>
    have g:=(List.getElem?_eq_some_iff.1 J).1;exact @vY _ _ y _ true false (br (by simpa using g)) (fun _=>wb J) (QQ J) _ (fun h=>by simp at h) (fun _=>⟨rfl,rfl⟩)
  have o:=FB (l:=l) k (.tmp 35);have p:=zl (l:=l) k (.tmp 42);have q:=fE (a:=[]) (b:=l.take (kW l x)) (by simp;omega);have t:=fE (a:=l.take (kW l x)) (b:=[x]) (by simp;omega);have n:=fE (a:=l.take (kW l x)++[x]) (b:=l.drop (kW l x)) (by simp;omega);rw[List.map_append] at n;have j:sl ((fw l (kW l x) x).map iN)=.slice ((l.take (kW l x)).map iN++[x].map iN++(l.drop (kW l x)).map iN):=by
   have:(fw l (kW l x) x).map iN=(l.take (kW l x)).map iN++[x].map iN++(l.drop (kW l x)).map iN:=by simp[fw]
   rw[←this]
   cases h:(fw l (kW l x) x).map iN with
   | nil=>simp[fw] at h
   | cons _ _=>rfl
  rw[f] at o p d m;rw[f,m];unfold Eu
  cases J:l[kW l x]? with
  | none=>
   have:l.length<=kW l x:=by simpa using J
   have h:=@LF _ _ _ _ _ 0 _ false (aB 0 x) (cj (by rw[←f];simp;omega)) (fun h=>by simp at h) rfl d o p q t n;dsimp only;rw[j];exact ko h
  | some y=>
   have g:=(List.getElem?_eq_some_iff.1 J).1;have h:=@LF _ _ _ _ _ y _ true (aB y x) (br (by rw[←f];simpa using g)) (fun _=>by rw[←f];exact wb J) rfl d o p q t n;dsimp only;generalize aB y x=c at h
   cases c
   ·dsimp only;rw[j];exact ko h
   dsimp only;rw[f];exact h
noncomputable def hRF:Hints:=⟨bV,vK,bi,rowsOf bi 182⟩
def Z2 (lo:Heap) (u:Nat) (s:ak) (i:Int):ab:=⟨[(7,iv i),(3,.ptr (.loc 3) 0),(1,iv (ofNat u)),(2,.dat s)],lo,[],0⟩
def WH (lo:Heap) (u:Nat) (s:ak) (i:Int):ab:=⟨[(27,bv false),(7,iv i),(3,.ptr (.loc 3) 0),(1,iv (ofNat u)),(2,.dat s)],lo,[],0⟩
def ZZ (a p:Bool):Int:=match a with|true=>(match p with|true=>1|false=>0)|false=>0
theorem R5 (k:Int) (i:Nat):ofNat (ey k i)=ZZ (aB k 6) (aB (ofNat i) (ofNat 1)):=by
 unfold ey;rw[A0]
 cases aB k 6
 all_goals grind[ZZ]
theorem rb (k:Int) (n:List UInt8) (e:Int) (a:List ak) (i:Nat):ae 198 [.dat (.agg [i64 k,sb n,i64 e,sl a]),iv (ofNat i)] (iv (ofNat (ey k i))):=by
 rw[R5];generalize d:aB k 6=b;generalize c:aB (ofNat i) (ofNat 1)=p
 rcases a with _|⟨x,a⟩ <;>
 ·refine co [7,10] [] (x:=.of Tryz.f198 P8 Lf) ?_;refine ob d ?_
  cases b
  ·exact fi
  refine ob c ?_
  cases p <;>
  ·exact fi
theorem OO {f:Int} {x:ak} {c:List ak} {l:List Ty} {b:Nat} {s h:List ak} (p:ax l=x::c) (o:i < (ax l).length) (q:l[i]?=some t)
  (d:ae 198 [.dat (.agg [i64 k,sb n,i64 f,.slice (x::c)]),iv (ofNat i)] (iv (ofNat b)))
  (m:ae 182 [.dat t.enc,iv (an .i64 (ofNat u+ofNat b)),.dat (sl s)] (.dat (sl h)))
  (e:T .normal ((Z2 (kr 3 k n f (.slice (x::c))) u (sl h) (an .i64 (ofNat i+1))).al nY)) :
  KD (roundOf Tryz.f182 0) T ((Z2 (kr 3 k n f (.slice (x::c))) u (sl s) (ofNat i)).al nY):=by
 have a:=br o;have g:=pF q;rw[p] at a g;obtain⟨K,v,r,j⟩:=t
 rcases j with _|⟨Q,w⟩ <;>
 ·rcases s with _|⟨y,s⟩ <;>
  ·exact aq [27] [33] (H:=hRF) (live:=ow) (ob a (oo g (on d (on m (oe e)))))
theorem Te {s:List ak} (e:T (.exit 0) ((WH (kr 3 k n b (sl l)) u (sl s) (ofNat l.length)).al nY)) :
  KD (roundOf Tryz.f182 0) T ((Z2 (kr 3 k n b (sl l)) u (sl s) (ofNat l.length)).al nY):=by
 have a:=cj (i:=l.length) (L:=l.length) (by omega)
 rcases l with _|⟨x,l⟩
 ·refine aq [] [] (H:=hRF) (live:=ow) ?_;exact oe e
 exact aq [27] [] (H:=hRF) (live:=ow) (ob a (oe e))
theorem OP {s g j:List ak} {C b:Bool} (d:aB k 5=C) (J:aF a (ofNat u)=b)
  (A:C=true->b=false->ae 197 [.dat (sl s),iv (an .i64 (a - ofNat u))] (.dat (sl g))) (i:C=false∨b=true->g=s)
  (f:KD (.loop (roundOf Tryz.f182 0)) (fun e m=>e=.exit 0/\m=(WH (kr 3 k n a (sl l)) u (sl j) (ofNat l.length)).al nY) ((Z2 (kr 3 k n a (sl l)) u (sl g) (ofNat 0)).al nY)) :
  ae 182 [.dat (.agg [i64 k,sb n,i64 a,sl l]),iv (ofNat u),.dat (sl s)] (.dat (sl j)):=by
 rcases l with _|⟨x,l⟩ <;>
 ·rcases s with _|⟨y,s⟩ <;>
  ·cases C
   ·obtain rfl:=i (.inl rfl);refine co [10] [] (x:=.of Tryz.f182 vK ow) ?_;refine ob d ?_;refine lo f ?_;rintro h s ⟨rfl,rfl⟩;refine⟨_,rfl,?_⟩;exact fi
   cases b
   ·have c:=A rfl rfl;refine co [10,15] [] (x:=.of Tryz.f182 vK ow) ?_;refine ob d (ox J (on c ?_));refine lo f ?_;rintro h s ⟨rfl,rfl⟩;refine⟨_,rfl,?_⟩;exact fi
   obtain rfl:=i (.inr rfl);refine co [10,15] [] (x:=.of Tryz.f182 vK ow) ?_;refine ob d (ox J ?_);refine lo f ?_;rintro h s ⟨rfl,rfl⟩;refine⟨_,rfl,?_⟩;exact fi
def OL (k x:Int) (u:Nat) (s:List Int):List Int:=match aB k 5 with|false=>s|true=>(match aF x (ofNat u) with|true=>s|false=>Eu s (x - ofNat u))
theorem OK {s:List Int} (h:s.Pairwise (·<=·)):OL k x u s=eP k x u s:=by
 grind[OL,eP,GJ]
def RF (t:Ty) (u:Nat) (s:List Int):Prop:=ae 182 [.dat t.enc,iv (ofNat u),.dat (sl (s.map iN))] (.dat (sl ((t.cf u s).map iN)))
theorem Xs {g:List UInt8} {l:List Ty} {b:Nat} {s:List Int} (y:gr b s) (G:b+1+aQ l < 100000000) (O:u < 1000000000) (d:aB k 5=true->aF a 9223372036854775808=true)
  (N:∀t∈l,∀v D,v<=u+1->gr (b+1+aQ l) D->(∃Q,gr Q D/\Q+t.size<=b+1+aQ l)->RF t v D):RF (.mk k g a l) u s:=by
 have F:=gw l;have z:=@zE _ k a u _ y;have A:aB k 5=true->aF a (ofNat u)=false->ae 197 [.dat (sl (s.map iN)),iv (an .i64 (a - ofNat u))] (.dat (sl ((eP k a u s).map iN))):=by
  intro E J;rw[←OK y.1];unfold OL;rw[E,J];have d:=d E;rw[dA] at J d;simp only[decide_eq_false_iff_not,decide_eq_true_eq] at J d;have e:an .i64 (a - ofNat u)=a - ofNat u:=by
   rw[cQ];simp only[Int.ofNat_eq_natCast] at J ⊢;exact wrap_i64 (by omega) (by omega)
  rw[e];exact abP (by have:=y.2;omega)
 have I:aB k 5=false∨aF a (ofNat u)=true->(eP k a u s).map iN=s.map iN:=by
  unfold eP;rintro (h|h)
  ·rw[h]
  rw[h];cases aB k 5 <;> rfl
 refine OP rfl rfl A I ?_;refine bm (St:=fun i=>(Z2 (kr 3 k g a (sl (ax l))) u (sl ((se k (l.take i) 0 u (eP k a u s)).map iN)) (ofNat i)).al nY) (ax l).length ?_ ?_ (i:=0) (Nat.zero_le _)
 ·intro i o;obtain⟨t,B,p⟩:=get_mem o;have w:=o;rw[aH] at w;have H:ey k i<=1:=by unfold ey;split <;> omega
  obtain⟨x,j,q⟩:∃x j,ax l=x::j:=by
   cases K:ax l with
   | nil=>rw[K] at o;simp at o
   | cons x j=>exact⟨x,j,rfl⟩
  have M:=ld B;have L:=tx (l:=l) (i+1);have c:gr (b+1+aQ (l.take i)) (se k (l.take i) 0 u (eP k a u s)):=EO _ u z;have f:=N t p (u+ey k i) (se k (l.take i) 0 u (eP k a u s)) (by omega) ⟨c.1,by have:=c.2;omega⟩ ⟨_,c,by omega⟩;unfold RF at f;rw[←wrap_add (n:=u) (m:=ey k i) (by omega)] at f;have r:=rb k g a (x::j) i;have e:=OO (T:=xU (fun C=>C=(Z2 (kr 3 k g a (sl (ax l))) u (sl ((se k (l.take (i+1)) 0 u (eP k a u s)).map iN)) (ofNat (i+1))).al nY)
   (fun e C=>e=.exit 0/\C=(WH (kr 3 k g a (sl (ax l))) u (sl (((Ty.mk k g a l).cf u s).map iN)) (ofNat (ax l).length)).al nY)) q o B r f (by
    rw[q,bb (by omega),Hr B];rfl)
  rw[q];rw[q] at e;exact e
 refine Te ⟨rfl,?_⟩;rw[aH,List.take_length,Ty.cf]
mutual
theorem O4:∀(t:Ty) (u:Nat) {b:Nat} {s:List Int},gr b s->b+t.size < 100000000->u+t.depth < 1000000000->t.fY->RF t u s
 | .mk k n x l,u,b,s,j,d,h,c=>by
  simp only[Ty.size] at d;simp only[Ty.depth] at h;exact Xs j (by omega) (by omega) c.1 (KE l u (by omega) (by omega) c.2)
theorem KE:∀(l:List Ty) (u:Nat) {B:Nat},u+db l+1 < 1000000000->B < 100000000->fg l->∀t∈l,∀v e,v<=u+1->gr B e->(∃Q,gr Q e/\Q+t.size<=B)->RF t v e
 | [],u,B,h,_,c,t,T,_,_,_,_,_=>by grind
 | y::r,u,B,h,hB,c,t,T,v,e,V,a,i=>by
  simp only[db] at h;rcases List.mem_cons.1 T with f|T
  ·obtain⟨Q,g,G⟩:=i;rw[f] at G ⊢;exact O4 y v g (by omega) (by omega) c.1
  exact KE r u (by omega) hB c.2 t T v e V a i
end
theorem Xk {s:List ak} (h:ae 182 [.dat (.agg [i64 k,sb n,i64 a,sl l]),iv (ofNat 0),.dat nl] (.dat (sl s))):ae 154 [.dat (.agg [i64 k,sb n,i64 a,sl l])] (.dat (sl s)):=by
 rcases l with _|⟨x,l⟩ <;>
 ·rcases s with _|⟨y,s⟩ <;>
  ·refine co [] [] (x:=.of Tryz.f154 P8 QG) ?_;exact on h fi
theorem IB (s:t.size < 100000000) (c:t.fY):ae 154 [.dat t.enc] (.dat (sl (t.fv.map iN))):=by
 have a:RF t 0 []:=O4 t 0 (b:=0) ⟨List.Pairwise.nil,Nat.le_refl 0⟩ (by omega) (by grind[oS]) c;obtain⟨k,n,x,l⟩:=t;exact Xk a
def LD {α:Type}:List α->Bool
 | []=>true
 | _=>false
theorem Xu {s:List ak} (h:ae 154 [.dat (.agg [i64 k,sb n,i64 a,sl l])] (.dat (sl s))):ae 108 [.dat (.agg [i64 k,sb n,i64 a,sl l])] (bv (LD s)):=by
 rcases l with _|⟨x,l⟩ <;>
 ·rcases s with _|⟨y,s⟩ <;>
  ·refine co [] [] (x:=.of Tryz.f108 P8 QG) ?_;exact on h fi
theorem FY (s:t.size < 100000000) (a:t.fY):ae 108 [.dat t.enc] (bv (LD t.fv)):=by
 have h:=IB s a;have e:LD t.fv=LD (t.fv.map iN):=by cases t.fv <;> rfl
 rw[e];obtain⟨k,n,x,l⟩:=t;exact Xu h
def fB (n s:Int) (u:Bool):Bool:=(aB n 0&&!u)||(u&&(!aF n 0&&aF n s))
def eo (n s:Int):Bool:=!aF n 0&&aF n s
def Ins.unary (x:Ins):Bool:=aB x.op 3&&aB x.im 5
def Jo (x:Ins):Int:=ofNat x.ar.length
def Ge (sl:Int) (x:Ins) (s:kG):Bool:=x.ar.all (fun n=>fB n sl s.ar)&&((s.ar||aB (Jo x) 0)&&(!aF 6 (Jo x)&&(fB x.dst sl s.dst&&(fB x.a sl s.a&&fB x.b sl (s.b&&!x.unary)))))
def GL (c b:Int) (a m:Int):Bool:=
 if (aB a 12||aB a 13)=true then !aF m 0&&aF m c
 else if aB a 3=true then !aF m 1&&!aF 7 m
 else if aB a 8=true then !aF m 0&&aF m 6
 else if aB a 17=true then !aF m 0&&aF m b
 else if (aB a 20||aB a 22)=true then !aF m 1
 else aB m 0
def eQ (n:Nat):Bool:=!Nat.blt n 32&&!Nat.blt 126 n
def mN (k i:Int) (s:List UInt8):Bool:=
 if (!aB k 3&&!jP s [])=true then false
 else if aB k 0=true then aB i 0
 else if aB k 1=true then true
 else if aB k 2=true then aB i 0||aB i 1
 else if aB k 3=true then s.all (fun c=>eQ c.toNat)&&(aB i 0&&!aF 2000 (ofNat s.length))
 else false
def sY (k i:Int) (s:List UInt8):Bool:=
 if (!aB k 3&&!jP s [])=true then false
 else if (!aB k 1&&(!aB k 2&&!aB i 0))=true then false
 else if s.all (fun c=>eQ c.toNat)=false then false
 else if (aB k 0||aB k 1)=true then true
 else if aB k 2=true then aB i 0||aB i 1
 else if aB k 3=true then !aF 2000 (ofNat s.length)
 else false
theorem UO (a b:List UInt8):jP a b=true↔a=b:=by rw[wu];simp
theorem RE (k i:Int) (s:List UInt8):mN k i s=sY k i s:=by
 by_cases a:s=[]
 ·subst a;simp only[mN,sY,cN,dA,jP,List.all_nil,List.length_nil]
  grind
 have d:jP s []=false:=by
  grind[UO]
 simp only[mN,sY,d,cN,dA]
 grind
def B5 (k i:Int) (s:List UInt8):Bool:=aB k 0&&(aB i 0&&jP s [])
theorem JX (k i:Int) (s:List UInt8):(mN k i s&&aB k 0)=B5 k i s:=by
 unfold B5 mN;simp only[cN]
 grind
def tyP (u:Bool) (t:Ty):Bool:=if u=true then (aB t.validate 0&&LD t.fv) else NC t (.mk 0 [] 0 [])
def iJ (b a sl:Int) (x:Ins):Bool:=
 match eO x.op with
 | none=>false
 | some s=>Ge sl x s&&(GL b a x.op x.im&&((if s.nm=true then isIdent x.nm else jP x.nm [])&&(tyP s.ty x.ty&&(mN x.ck x.ci x.cs&&(s.con||aB x.ck 0)))))
def Tz (sl:Int) (x:Ins) (s:kG):Bool:=(!(s.dst&&!eo x.dst sl)&&(!(s.a&&!eo x.a sl)&&(!(s.b&&!eo x.b sl)&&!aF 6 (Jo x))))&&x.ar.all (fun n=>eo n sl)
def noR (x:Ins) (s:kG):Bool:=(s.dst||aB x.dst 0)&&((s.a||aB x.a 0)&&((s.b||aB x.b 0)&&((s.im||aB x.im 0)&&((s.nm||jP x.nm [])&&((s.ar||!aF 0 (Jo x))&&((s.ty||NC x.ty (.mk 0 [] 0 []))&&(s.con||B5 x.ck x.ci x.cs)))))))
def SJ (x:Ins) (s:kG):Bool:=(!s.nm||isIdent x.nm)&&((!s.ty||(aB x.ty.validate 0&&LD x.ty.fv))&&(!s.con||sY x.ck x.ci x.cs))
def QW (b a:Int) (x:Ins):Bool:=
 if (aB x.op 12||aB x.op 13)=true then !aF x.im 0&&aF x.im b
 else if aB x.op 3=true then !aF x.im 1&&(!aF 7 x.im&&(!aB x.im 5||aB x.b 0))
 else if aB x.op 8=true then !aF x.im 0&&aF x.im 6
 else if aB x.op 17=true then !aF x.im 0&&aF x.im a
 else if (aB x.op 20||aB x.op 22)=true then !aF x.im 1
 else true
def Et (b a sl:Int) (x:Ins):Bool:=
 match eO x.op with
 | none=>false
 | some s=>noR x s&&(Tz sl x s&&(SJ x s&&QW b a x))
theorem pT (h:eO c=some s):∃n:Nat,c=ofNat n/\1<=n/\n<=22/\ki n=some s:=by
 cases d:aF c 1 with
 | true=>grind[DQ]
 | false=>
  cases e:aF c 23 with
  | false=>grind[DR]
  | true=>
   obtain⟨n,rfl,a,b⟩:=zo d e;exact⟨n,rfl,a,b,h⟩
theorem U2 (sl:Int) (u:Bool) (l:List Int):(l.all (fun n=>fB n sl u)&&(u||aB (ofNat l.length) 0))=((u||!aF 0 (ofNat l.length))&&l.all (fun n=>eo n sl)):=by
 cases u
 ·cases l with
  | nil=>simp[cN,dA]
  | cons a r=>
   have:¬((r.length:Int)+1=0):=by omega
   simp[cN,dA,this]
 simp[fB,eo]
theorem su (n sl:Int) (u:Bool):fB n sl u=((u||aB n 0)&&!(u&&!eo n sl)):=by
 grind[fB,eo]
theorem MT {l:Int} {x:Ins} (h:eO x.op=some s) (q:x.unary=false):GL l k x.op x.im=((s.im||aB x.im 0)&&QW l k x):=by
 obtain⟨v,o,a,b,m,t,r,u,w,C,I,c⟩:=x;obtain⟨n,j,p,f,g⟩:=pT h;simp only at j;subst j;have e:n=1∨n=2∨n=3∨n=4∨n=5∨n=6∨n=7∨n=8∨n=9∨n=10∨n=11∨n=12∨n=13∨n=14∨n=15∨n=16∨n=17∨n=18∨n=19∨n=20∨n=21∨n=22:=by omega
 clear p f h
 rcases e with rfl|rfl|rfl|rfl|rfl|rfl|rfl|rfl|rfl|rfl|rfl|rfl|rfl|rfl|rfl|rfl|rfl|rfl|rfl|rfl|rfl|rfl <;>
 ·simp only[ki,Option.some.injEq] at g;subst g;simp[GL,QW,cN]
  try
   have i:(m==5)=false:=by
    have d:(aB 3 3&&aB m 5)=false:=q;rw[show aB 3 3=true from rfl,Bool.true_and,cN] at d;exact d
   rw[i];simp
theorem Qf (u:Bool) (n:List UInt8):(if u=true then isIdent n else jP n [])=((u||jP n [])&&(!u||isIdent n)):=by
 grind
theorem NL (u:Bool) (t:Ty):tyP u t=((u||NC t (.mk 0 [] 0 []))&&(!u||(aB t.validate 0&&LD t.fv))):=by
 grind[tyP]
theorem Ng (u:Bool) (k i:Int) (s:List UInt8):(mN k i s&&(u||aB k 0))=((u||B5 k i s)&&(!u||sY k i s)):=by
 grind[JX,RE]
theorem X0 (k j sl:Int) (x:Ins):iJ k j sl x=Et k j sl x:=by
 unfold iJ Et
 cases h:eO x.op with
 | none=>rfl
 | some s=>
  show (Ge sl x s&&(GL k j x.op x.im&&((if s.nm=true then isIdent x.nm else jP x.nm [])&&(tyP s.ty x.ty&&(mN x.ck x.ci x.cs&&(s.con||aB x.ck 0))))))=(noR x s&&(Tz sl x s&&(SJ x s&&QW k j x)));have A:=U2 sl s.ar x.ar;rw[Ng,NL,Qf]
  cases e:x.unary with
  | false=>
   rw[MT h e];unfold Ge Tz noR SJ Jo;rw[e,su x.dst,su x.a,su x.b,Bool.not_false,Bool.and_true];rw[←Bool.and_assoc (x.ar.all _),A];simp only[Bool.and_assoc,Bool.and_comm,Bool.and_left_comm]
  | true=>
   have c:=e;obtain⟨n,a,b,f,g⟩:=pT h;simp only[Ins.unary,cN,Bool.and_eq_true,beq_iff_eq] at c;obtain⟨O,i⟩:=c;rw[O] at h;have p:s=⟨[112,114,105,109],true,true,true,true,false,false,false,false,false,false,false⟩:=by
    have:eO 3=some ⟨[112,114,105,109],true,true,true,true,false,false,false,false,false,false,false⟩:=rfl
    rw[this] at h;exact (Option.some.inj h).symm
   subst p;unfold Ge Tz noR SJ Jo GL QW;rw[e,O,i];have E:∀n,fB n sl true=eo n sl:=fun n=>by simp[fB,eo]
   have F:fB x.b sl false=aB x.b 0:=by simp[fB]
   have l:(x.ar.all (fun n=>fB n sl false)&&(false||aB (ofNat x.ar.length) 0))=((false||!aF 0 (ofNat x.ar.length))&&x.ar.all (fun n=>eo n sl)):=A;simp only[Bool.not_true,Bool.and_false,E,F];rw[←Bool.and_assoc (x.ar.all _),l];have o:(eo x.dst sl&&aB x.b 0)=(eo x.dst sl&&(eo x.b sl&&aB x.b 0)):=by
    simp only[eo,cN,dA]
    by_cases d:x.b=0
    ·rw[d]
     by_cases D:x.dst < 0 <;> by_cases m:x.dst < sl <;> simp[D,m]
     omega
    have:(x.b==0)=false:=by simpa using d
    rw[this];simp
   have r:aB 3 12=false:=rfl;have t:aB 3 13=false:=rfl;have u:aB 3 3=true:=rfl;have v:aF 5 1=false:=rfl;have w:aF 7 5=false:=rfl;have y:aB 5 5=true:=rfl;simp only[r,t,u,v,w,y,Bool.or_self,Bool.or_false,Bool.false_or,Bool.true_or,Bool.not_true,Bool.not_false,Bool.true_and,Bool.and_true,if_true,Bool.false_eq_true,if_false,Bool.not_not];generalize aB x.b 0=q at *;generalize eo x.b sl=B at *;generalize eo x.dst sl=z at *;generalize eo x.a sl=C at *
   cases z <;> cases q <;> cases B <;> cases C <;> simp at o ⊢
   simp only[Bool.and_assoc,Bool.and_comm,Bool.and_left_comm]
def dj (d:ak):Prop:=d=nl∨∃a,d=.slice a
theorem dr (l:List ak):dj (sl l):=by cases l with|nil=>exact .inl rfl|cons a b=>exact .inr ⟨_,rfl⟩
theorem dq (z:Bool) (l:List ak):dj (sx z l):=by
 cases l with
 | nil=>cases z with
  | true=>exact .inr ⟨_,rfl⟩
  | false=>exact .inl rfl
 | cons a b=>exact .inr ⟨_,rfl⟩
def aN (p s:Int) (a b:ak):ak:=.agg [i64 p,i64 s,a,b]
def eH (g e a b m:Int) (n:List UInt8) (d:ak) (k:Int) (t:List UInt8) (x:Int) (f:ak) (C I:Int) (c:List UInt8):ak:=.agg [i64 g,i64 e,i64 a,i64 b,i64 m,sb n,d,i64 k,sb t,i64 x,f,i64 C,i64 I,sb c,nl]
theorem aS {p s:Int} {c d:ak} (a:dj c) (b:dj d):Sj [.dat (aN p s c d)]=some ⟨.undef,.new (.cells [.dat (i64 p),.dat (i64 s),.dat c,.dat d])⟩:=by
 rcases a with rfl|⟨E,rfl⟩ <;> rcases b with rfl|⟨F,rfl⟩ <;> kernel_rfl
theorem bw {g e a b m:Int} {n:List UInt8} {d:ak} {k:Int} {t:List UInt8} {x:Int} {f:ak} {C I:Int} {c:List UInt8} (h:dj d) (i:dj f) :
  Sj [.dat (eH g e a b m n d k t x f C I c)]=some ⟨.undef,.new (.cells [.dat (i64 g),.dat (i64 e),.dat (i64 a),.dat (i64 b),.dat (i64 m),.dat (sb n),.dat d,.dat (i64 k),.dat (sb t),.dat (i64 x),.dat f,.dat (i64 C),.dat (i64 I),.dat (sb c),.dat nl])⟩:=by
 rcases h with rfl|⟨E,rfl⟩ <;> rcases i with rfl|⟨F,rfl⟩ <;> kernel_rfl
def cC (p s:Int) (a b:ak):List ac:=[.dat (i64 p),.dat (i64 s),.dat a,.dat b]
def hC (p s:Int) (a b:ak):Heap:=[(.out 0,.cells (cC p s a b))]
def cX (g e a b m:Int) (n:List UInt8) (d:ak) (k:Int) (t:List UInt8) (x:Int) (f:ak) (C I:Int) (c:List UInt8):List ac:=[.dat (i64 g),.dat (i64 e),.dat (i64 a),.dat (i64 b),.dat (i64 m),.dat (sb n),.dat d,.dat (i64 k),.dat (sb t),.dat (i64 x),.dat f,.dat (i64 C),.dat (i64 I),.dat (sb c),.dat nl]
def cS (s:kG):List ac:=[.dat (sb s.w),bv s.dst,bv s.a,bv s.b,bv s.im,bv s.nm,bv s.ar,bv s.ty,bv s.con,bv s.call,bv s.cond,bv s.fin]
theorem ES {e n sl:Int} {c d:ak} {u:Bool}:KC 141 [iv n,bv u,.ptr (.out 0) 0] (hC e sl c d) 1 (XQ ⟨bv (fB n sl u),hC e sl c d,1⟩):=by
 unfold fB;generalize a:aB n 0=p;generalize b:aF n 0=q;generalize f:aF n sl=g;refine iS [7,16,22] [] (x:=qS.of Tryz.f141 P8 Lq) (by kernel_rfl) (ob a ?_)
 cases p <;>
 ·cases u
  ·exact fi
  refine ox b ?_
  cases q
  ·refine ob f ?_
   cases g <;>
   ·exact fi
  exact fi
noncomputable def Up:Hints:=⟨bV,P8,bi,rowsOf bi 97⟩
def Fo (u:ak) (n:Nat) (a b c:List ac) (i:Int):ab:=⟨[(15,iv i),(14,iv (ofNat n)),(13,.dat u),(7,.fn (.func 141) [] [.ptr (.loc 3) 0]),(5,.ptr (.loc 5) 0),(4,.ptr (.loc 4) 0)],[(.loc 5,.cells c),(.loc 4,.cells b),(.loc 3,.cells a)],[],0⟩
def Od (u:ak) (n:Nat) (a b c:List ac) (i:Int):ab:=⟨[(16,bv false),(15,iv i),(14,iv (ofNat n)),(13,.dat u),(7,.fn (.func 141) [] [.ptr (.loc 3) 0]),(5,.ptr (.loc 5) 0),(4,.ptr (.loc 4) 0)],[(.loc 5,.cells c),(.loc 4,.cells b),(.loc 3,.cells a)],[],0⟩
def Oc (u:ak) (n:Nat) (H:Heap) (a b:List ac) (i:Int):ab:=⟨[(15,iv i),(14,iv (ofNat n)),(13,.dat u),(7,.fn (.func 141) [] [.ptr (.out 0) 0]),(5,.ptr (.loc 5) 0),(4,.ptr (.loc 4) 0)],[(.loc 5,.cells b),(.loc 4,.cells a)],H,1⟩
def Ob (u:ak) (n:Nat) (H:Heap) (a b:List ac) (i:Int):ab:=⟨[(16,bv false),(15,iv i),(14,iv (ofNat n)),(13,.dat u),(7,.fn (.func 141) [] [.ptr (.out 0) 0]),(5,.ptr (.loc 5) 0),(4,.ptr (.loc 4) 0)],[(.loc 5,.cells b),(.loc 4,.cells a)],H,1⟩
def Kp (H:Heap):ab:=⟨[(6,bv false)],[],H,1⟩
theorem I9 {l:List Int} {t h sl:Int} {d:ak} {p:Int} {o:ak} {q:List UInt8} {j:List UInt8} {c:Bool} (i:0 < (l.map iN).length) (v:l[0]?=some t)
  (e:KC 141 [iv t,bv s.ar,.ptr (.out 0) 0] (hC h sl d f) 1 (XQ ⟨bv c,hC h sl d f,1⟩))
  (E:c=true->T .normal ((Oc (.slice (l.map iN)) (l.map iN).length (hC h sl d f) (cX p g a b m n o k q x y C I j) (cS s) (ofNat 1)).al gL)) (F:c=false->T .ret ((Kp (hC h sl d f)).al gL)) :
  KD (roundOf Tryz.f97 0) T ((Fo (.slice (l.map iN)) (l.map iN).length (cC h sl d f) (cX p g a b m n o k q x y C I j) (cS s) (ofNat 0)).al gL):=by
 have r:=br i;have u:=wb v;generalize l.map iN=B at *;obtain⟨w,D,G,J,K,L,M,N,O,P,z,A⟩:=s;refine aq [16] [17] (H:=Up) (live:=sO) (ob r (oo u (oh e ?_)))
 cases c
 ·exact oe (F rfl)
 exact oe (E rfl)
theorem MD {l:List Int} {t h sl:Int} {d:ak} {p:Int} {o:ak} {q:List UInt8} {j:List UInt8} {c:Bool} (v:i < (l.map iN).length) (z:l[i]?=some t)
  (e:KC 141 [iv t,bv s.ar,.ptr (.out 0) 0] (hC h sl d f) 1 (XQ ⟨bv c,hC h sl d f,1⟩))
  (E:c=true->T .normal ((Oc (.slice (l.map iN)) (l.map iN).length (hC h sl d f) (cX p g a b m n o k q x y C I j) (cS s) (an .i64 (ofNat i+1))).al gL)) (F:c=false->T .ret ((Kp (hC h sl d f)).al gL)) :
  KD (roundOf Tryz.f97 0) T ((Oc (.slice (l.map iN)) (l.map iN).length (hC h sl d f) (cX p g a b m n o k q x y C I j) (cS s) (ofNat i)).al gL):=by
 have r:=br v;have u:=wb z;generalize l.map iN=D at *;obtain⟨w,G,J,K,L,M,N,O,P,Q,A,B⟩:=s;refine aq [16] [17] (H:=Up) (live:=sO) (ob r (oo u (oh e ?_)))
 cases c
 ·exact oe (F rfl)
 exact oe (E rfl)
theorem MG {u:ak} {j sl:Int} {g:ak} {i:Int} {h:ak} {t:List UInt8} {c:List UInt8} (e:T (.exit 0) ((Od u 0 (cC j sl f g) (cX i d a b m n h k t x y C I c) (cS s) (ofNat 0)).al gL)) :
  KD (roundOf Tryz.f97 0) T ((Fo u 0 (cC j sl f g) (cX i d a b m n h k t x y C I c) (cS s) (ofNat 0)).al gL):=by
 obtain⟨w,p,q,r,v,z,A,B,D,E,l,o⟩:=s;refine aq [] [] (H:=Up) (live:=sO) ?_;exact oe e
theorem MF {u:ak} {n:Nat} {o sl:Int} {g:ak} {l:Int} {j:List UInt8} {h:ak} {t:List UInt8} {c:List UInt8} (e:T (.exit 0) ((Ob u n (hC o sl f g) (cX l d a b m j h k t x y C I c) (cS s) (ofNat n)).al gL)) :
  KD (roundOf Tryz.f97 0) T ((Oc u n (hC o sl f g) (cX l d a b m j h k t x y C I c) (cS s) (ofNat n)).al gL):=by
 have p:=cj (i:=n) (L:=n) (by omega);obtain⟨w,v,z,A,B,D,E,F,G,J,q,r⟩:=s;exact aq [16] [] (H:=Up) (live:=sO) (ob p (oe e))
theorem ME {u:ak} {l sl:Int} {g:ak} {j:Int} {t:List UInt8} {h:ak} {c:List UInt8} :
  KD (.loop (roundOf Tryz.f97 0)) (fun e q=>e=.exit 0/\q=(Od u 0 (cC l sl f g) (cX j d a b m n h k t x y C I c) (cS s) (ofNat 0)).al gL)
   ((Fo u 0 (cC l sl f g) (cX j d a b m n h k t x y C I c) (cS s) (ofNat 0)).al gL):=by
 refine bm (St:=fun i=>(Fo u 0 (cC l sl f g) (cX j d a b m n h k t x y C I c) (cS s) (ofNat i)).al gL) 0 (fun i o=>absurd o (by omega)) ?_ (i:=0) (Nat.le_refl _);exact MG ⟨rfl,rfl⟩
def aey (u:ak) (n:Nat) (e sl:Int) (c d:ak) (a b:List ac):Nat->ab
 | 0=>Fo u n (cC e sl c d) a b (ofNat 0)
 | i+1=>Oc u n (hC e sl c d) a b (ofNat (i+1))
theorem P9 {r:List Int} {o sl:Int} {g:ak} {F:Int} {E:List UInt8} {G:List UInt8} {D:Int} {u:ak} {p:List UInt8} (N:(x::r).length < 1000000000) :
  KD (.loop (roundOf Tryz.f97 0)) (fun e q=>(e=.exit 0/\(x::r).all (fun n=>fB n sl s.ar)=true/\q=(Ob (.slice ((x::r).map iN)) ((x::r).map iN).length (hC o sl f g) (cX F d a b m E u k G D y C I p) (cS s) (ofNat ((x::r).map iN).length)).al gL)∨(e=.ret/\(x::r).all (fun n=>fB n sl s.ar)=false/\q=(Kp (hC o sl f g)).al gL))
   ((Fo (.slice ((x::r).map iN)) ((x::r).map iN).length (cC o sl f g) (cX F d a b m E u k G D y C I p) (cS s) (ofNat 0)).al gL):=by
 have l:∀{i:Nat} {t:Int},(x::r)[i]?=some t->((x::r).drop i).all (fun n=>fB n sl s.ar)=(fB t sl s.ar&&((x::r).drop (i+1)).all (fun n=>fB n sl s.ar)):=by
  intro i t h;rw[kT h];rfl
 refine cV (St:=fun i=>(aey (.slice ((x::r).map iN)) ((x::r).map iN).length o sl f g (cX F d a b m E u k G D y C I p) (cS s) i).al gL) (fun i=>(x::r).all (fun n=>fB n sl s.ar)=((x::r).drop i).all (fun n=>fB n sl s.ar)) ((x::r).map iN).length ?_ ?_ (i:=0) (Nat.zero_le _) rfl
 ·intro i z v;have B:i < (x::r).length:=by simpa using z
  have T:(x::r)[i]?=some ((x::r)[i]):=List.getElem?_eq_getElem B;generalize (x::r)[i]=t at T;have A:=l T;rw[←v] at A;have w:=@ES o t sl f g s.ar;generalize fB t sl s.ar=c at w A
  cases i with
  | zero=>
   refine I9 z T w ?_ ?_
   ·rintro rfl;exact⟨rfl,A⟩
   rintro rfl;exact .inr ⟨rfl,A,rfl⟩
  | succ j=>
   have J:an .i64 (ofNat (j+1)+1)=ofNat (j+1+1):=bb (by omega);refine MD z T w ?_ ?_
   ·rintro rfl;rw[J];exact⟨rfl,A⟩
   rintro rfl;exact .inr ⟨rfl,A,rfl⟩
 intro v;have H:(x::r).all (fun n=>fB n sl s.ar)=true:=by
  rw[v,List.length_map,List.drop_length];rfl
 exact MF (.inl ⟨rfl,H,rfl⟩)
theorem Tx {j:List ak} {o sl:Int} {g h:ak} (N:dj g) (O:dj h) {z i a b m:Int} {n:List UInt8} {k:Int} {t:List UInt8} {E:Int} {y:ak} {C I:Int} {c:List UInt8} {s:kG} {d r u K A v H J:Bool} (P:dj y)
  (l:KD (.loop (roundOf Tryz.f97 0)) (fun e q=>(e=.exit 0/\d=true/\q=(Ob (.slice j) j.length (hC o sl g h) (cX z i a b m n (.slice j) k t E y C I c) (cS s) (ofNat j.length)).al gL)∨(e=.ret/\d=false/\q=(Kp (hC o sl g h)).al gL))
   ((Fo (.slice j) j.length (cC o sl g h) (cX z i a b m n (.slice j) k t E y C I c) (cS s) (ofNat 0)).al gL))
  (B:KC 141 [iv i,bv s.dst,.ptr (.out 0) 0] (hC o sl g h) 1 (XQ ⟨bv r,hC o sl g h,1⟩))
  (D:KC 141 [iv a,bv s.a,.ptr (.out 0) 0] (hC o sl g h) 1 (XQ ⟨bv u,hC o sl g h,1⟩))
  (f:KC 141 [iv b,bv (s.b&&!(H&&J)),.ptr (.out 0) 0] (hC o sl g h) 1 (XQ ⟨bv K,hC o sl g h,1⟩))
  (M:aB (ofNat j.length) 0=A) (G:aF 6 (ofNat j.length)=v) (U:aB z 3=H) (V:aB m 5=J) :
  ae 97 [.dat (aN o sl g h),.dat (eH z i a b m n (.slice j) k t E y C I c),.dat s.enc] (bv (d&&((s.ar||A)&&(!v&&(r&&(u&&K)))))):=by
 have Q:=aS (p:=o) (s:=sl) N O;have R:=@bw z i a b m n (.slice j) k t E _ C I c (.inr ⟨_,rfl⟩) P;obtain⟨w,Y,Z,F,s4,s5,L,s7,s8,s9,S,T⟩:=s;refine co [28,32,46,40] [3,4] (x:=.of Tryz.f97 P8 sO) ?_;refine oo Q (oo R ?_);refine lo l ?_;rintro W s (⟨rfl,rfl,rfl⟩|⟨rfl,rfl,rfl⟩)
 ·refine⟨_,rfl,?_⟩;refine ob U ?_
  cases H
  ·cases L
   ·refine ob M ?_
    cases A
    ·exact fi
    refine ox G ?_
    cases v
    ·refine oh B ?_
     cases r
     ·exact fi
     refine oh D ?_
     cases u
     ·exact fi
     cases F <;>
     ·exact oh f fi
    exact fi
   refine ox G ?_
   cases v
   ·refine oh B ?_
    cases r
    ·exact fi
    refine oh D ?_
    cases u
    ·exact fi
    cases F <;>
    ·exact oh f fi
   exact fi
  refine ob V ?_
  cases J <;>
  ·cases L
   ·refine ob M ?_
    cases A
    ·exact fi
    refine ox G ?_
    cases v
    ·refine oh B ?_
     cases r
     ·exact fi
     refine oh D ?_
     cases u
     ·exact fi
     cases F <;>
     ·exact oh f fi
    exact fi
   refine ox G ?_
   cases v
   ·refine oh B ?_
    cases r
    ·exact fi
    refine oh D ?_
    cases u
    ·exact fi
    cases F <;>
    ·exact oh f fi
   exact fi
 refine⟨_,rfl,?_⟩;exact fi
theorem MB:HI (fun n=>Bm (eQ n) (X 148 [GC n] [] 0)) 256=true:=by kernel_rfl
theorem UU (c:UInt8):ae 148 [GC c.toNat] (bv (eQ c.toNat)):=dE _ _ _ _ _ (qD (rC MB _ c.toNat_lt))
def ab9 (p q h i j k l f g a b c d e:Bool):Bool:=
 if (p||q)=true then !f&&d
 else if h=true then !g&&!a
 else if i=true then !f&&b
 else if j=true then !f&&e
 else if (k||l)=true then !g
 else c
theorem QV {p s:Int} {T ed:List ak} {u H:Int} {S:ak} {t:List UInt8} {U:Int} {c:List UInt8} (V:dj S) (W:dj y) {z A B D E F M w i d l:Bool} (N:aB u 12=z) (O:aB u 13=q) (f:aB u 3=A) (g:aB u 8=B) (G:aB u 17=D) (P:aB u 20=E) (Q:aB u 22=F)
  (e:aF m 0=M) (r:aF m 1=w) (J:aF 7 m=i) (K:aF m 6=j) (v:aB m 0=h) (o:aF m (ofNat T.length)=d) (L:aF m (ofNat ed.length)=l) :
  ae 98 [.dat (aN p s (.slice T) (.slice ed)),.dat (eH u H a b m n S k t U y C I c)] (bv (ab9 z q A B D E F M w i j h d l)):=by
 have R:=@bw u H a b m n _ k t U _ C I c V W;cases M
 ·cases w
  ·refine co [8,12,19,9,22,25,29,32,35,39,42,45,52,55,59,56,62] [3] (x:=.of Tryz.f98 P8 sN) ?_;refine oo R (ob N ?_)
   cases z
   ·refine ob O ?_
    cases q
    ·refine ob f ?_
     cases A
     ·refine ob g ?_
      cases B
      ·refine ob G ?_
       cases D
       ·refine ob P ?_
        cases E
        ·refine ob Q ?_
         cases F
         ·refine ob v ?_
          cases h <;>
          ·exact fi
         exact ox r fi
        exact ox r fi
       refine ox e (ob L ?_)
       cases l <;>
       ·exact fi
      refine ox e (ob K ?_)
      cases j <;>
      ·exact fi
     refine ox r (ox J ?_)
     cases i <;>
     ·exact fi
    refine ox e (ob o ?_)
    cases d <;>
    ·exact fi
   refine ox e (ob o ?_)
   cases d <;>
   ·exact fi
  refine co [8,12,19,9,22,25,32,35,39,42,45,52,55,59,56,62] [3] (x:=.of Tryz.f98 P8 sN) ?_;refine oo R (ob N ?_)
  cases z
  ·refine ob O ?_
   cases q
   ·refine ob f ?_
    cases A
    ·refine ob g ?_
     cases B
     ·refine ob G ?_
      cases D
      ·refine ob P ?_
       cases E
       ·refine ob Q ?_
        cases F
        ·refine ob v ?_
         cases h <;>
         ·exact fi
        exact ox r fi
       exact ox r fi
      refine ox e (ob L ?_)
      cases l <;>
      ·exact fi
     refine ox e (ob K ?_)
     cases j <;>
     ·exact fi
    exact ox r fi
   refine ox e (ob o ?_)
   cases d <;>
   ·exact fi
  refine ox e (ob o ?_)
  cases d <;>
  ·exact fi
 refine co [8,12,9,22,25,29,32,35,42,45,55,59,56,62] [3] (x:=.of Tryz.f98 P8 sN) ?_;refine oo R (ob N ?_)
 cases z
 ·refine ob O ?_
  cases q
  ·refine ob f ?_
   cases A
   ·refine ob g ?_
    cases B
    ·refine ob G ?_
     cases D
     ·refine ob P ?_
      cases E
      ·refine ob Q ?_
       cases F
       ·refine ob v ?_
        cases h <;>
        ·exact fi
       refine ox r ?_
       cases w <;>
       ·exact fi
      refine ox r ?_
      cases w <;>
      ·exact fi
     exact ox e fi
    exact ox e fi
   refine ox r ?_
   cases w
   ·refine ox J ?_
    cases i <;>
    ·exact fi
   exact fi
  exact ox e fi
 exact ox e fi
theorem X1 {p s:Int} {R:List ak} {F:Int} {Q:ak} {t:List UInt8} {S:Int} {c:List UInt8} (T:dj Q) (U:dj y) {w z A B D E K v i e:Bool} (L:aB r 12=w) (M:aB r 13=q) (f:aB r 3=z) (g:aB r 8=A) (G:aB r 17=B) (N:aB r 20=D) (O:aB r 22=E)
  (d:aF m 0=K) (o:aF m 1=v) (H:aF 7 m=i) (J:aF m 6=j) (u:aB m 0=h) (l:aF m (ofNat R.length)=e) :
  ae 98 [.dat (aN p s (.slice R) nl),.dat (eH r F a b m n Q k t S y C I c)] (bv (ab9 w q z A B D E K v i j h e K)):=by
 have P:=@bw r F a b m n _ k t S _ C I c T U;cases K
 ·cases v
  ·refine co [8,12,19,9,22,25,29,32,35,39,42,45,52,55,59,56,62] [3] (x:=.of Tryz.f98 P8 sN) ?_;refine oo P (ob L ?_)
   cases w
   ·refine ob M ?_
    cases q
    ·refine ob f ?_
     cases z
     ·refine ob g ?_
      cases A
      ·refine ob G ?_
       cases B
       ·refine ob N ?_
        cases D
        ·refine ob O ?_
         cases E
         ·refine ob u ?_
          cases h <;>
          ·exact fi
         exact ox o fi
        exact ox o fi
       exact ox d (ob d fi)
      refine ox d (ob J ?_)
      cases j <;>
      ·exact fi
     refine ox o (ox H ?_)
     cases i <;>
     ·exact fi
    refine ox d (ob l ?_)
    cases e <;>
    ·exact fi
   refine ox d (ob l ?_)
   cases e <;>
   ·exact fi
  refine co [8,12,19,9,22,25,32,35,39,42,45,52,55,59,56,62] [3] (x:=.of Tryz.f98 P8 sN) ?_;refine oo P (ob L ?_)
  cases w
  ·refine ob M ?_
   cases q
   ·refine ob f ?_
    cases z
    ·refine ob g ?_
     cases A
     ·refine ob G ?_
      cases B
      ·refine ob N ?_
       cases D
       ·refine ob O ?_
        cases E
        ·refine ob u ?_
         cases h <;>
         ·exact fi
        exact ox o fi
       exact ox o fi
      exact ox d (ob d fi)
     refine ox d (ob J ?_)
     cases j <;>
     ·exact fi
    exact ox o fi
   refine ox d (ob l ?_)
   cases e <;>
   ·exact fi
  refine ox d (ob l ?_)
  cases e <;>
  ·exact fi
 refine co [8,12,9,22,25,29,32,35,42,45,55,59,56,62] [3] (x:=.of Tryz.f98 P8 sN) ?_;refine oo P (ob L ?_)
 cases w
 ·refine ob M ?_
  cases q
  ·refine ob f ?_
   cases z
   ·refine ob g ?_
    cases A
    ·refine ob G ?_
     cases B
     ·refine ob N ?_
      cases D
      ·refine ob O ?_
       cases E
       ·refine ob u ?_
        cases h <;>
        ·exact fi
       refine ox o ?_
       cases v <;>
       ·exact fi
      refine ox o ?_
      cases v <;>
      ·exact fi
     exact ox d fi
    exact ox d fi
   refine ox o ?_
   cases v
   ·refine ox H ?_
    cases i <;>
    ·exact fi
   exact fi
  exact ox d fi
 exact ox d fi
theorem adL {p s:Int} {f ed:List ak} (z:Bool) (x:Ins):ae 98 [.dat (aN p s (.slice f) (sx z ed)),.dat x.enc] (bv (GL (ofNat f.length) (ofNat ed.length) x.op x.im)):=by
 obtain⟨i,g,a,b,m,n,d,u,⟨k,t,h,e⟩,C,I,c⟩:=x
 cases ed with
 | nil=>
  cases z
  ·exact X1 (dq d (u.map iN)) (dr (ax e)) rfl rfl rfl rfl rfl rfl rfl rfl rfl rfl rfl rfl rfl
  exact QV (ed:=[]) (dq d (u.map iN)) (dr (ax e)) rfl rfl rfl rfl rfl rfl rfl rfl rfl rfl rfl rfl rfl rfl
 | cons y r=>exact QV (ed:=y::r) (dq d (u.map iN)) (dr (ax e)) rfl rfl rfl rfl rfl rfl rfl rfl rfl rfl rfl rfl rfl rfl
def lI (k i:Int) (s:List UInt8):ak:=.agg [i64 k,i64 i,sb s,nl]
noncomputable def ach:Hints:=⟨bV,P8,bi,rowsOf bi 102⟩
def K9 (k i:Int) (s:List UInt8):Heap:=[(.loc 1,.cells [iv k,iv i,.dat (sb s),.dat nl])]
def Ct (k i:Int) (s:List UInt8) (j:Int):ab:=⟨[(3,iv j),(1,.ptr (.loc 1) 0)],K9 k i s,[],0⟩
def Ip (k i:Int) (s:List UInt8):ab:=⟨[(43,bv false),(3,iv (ofNat s.length)),(1,.ptr (.loc 1) 0)],K9 k i s,[],0⟩
def Iq:ab:=⟨[(2,bv false)],[],[],0⟩
theorem Nh {i:Int} {s:List UInt8} {j:Nat} {c:UInt8} {b:Bool} (a:aF (ofNat j) (ofNat s.length)=true) (d:qP ba 9 [.dat (sb s),.dat (.flat (.int .i64 (ofNat j)))]=some ⟨GC c.toNat,.keep⟩)
  (f:ae 148 [GC c.toNat] (bv b)) (E:b=true->T .normal ((Ct k i s (an .i64 (ofNat j+1))).al jX)) (F:b=false->T .ret (Iq.al jX)) :
  KD (roundOf Tryz.f102 0) T ((Ct k i s (ofNat j)).al jX):=by
 refine aq [43] [49] (H:=ach) (live:=ur) (ob a (oo d (on f ?_)))
 cases b
 ·exact oe (F rfl)
 exact oe (E rfl)
theorem RH {i:Int} {s:List UInt8} (E:T (.exit 1) ((Ip k i s).al jX)) :
  KD (roundOf Tryz.f102 0) T ((Ct k i s (ofNat s.length)).al jX):=by
 have a:=cj (i:=s.length) (L:=s.length) (by omega);exact aq [43] [] (H:=ach) (live:=ur) (ob a (oe E))
theorem RG {i:Int} {s:List UInt8} (N:s.length < 1000000000) :
  KD (.loop (roundOf Tryz.f102 0)) (fun e q=>(e=.exit 1/\s.all (fun c=>eQ c.toNat)=true/\q=(Ip k i s).al jX)∨(e=.ret/\s.all (fun c=>eQ c.toNat)=false/\q=Iq.al jX)) ((Ct k i s (ofNat 0)).al jX):=by
 refine cV (St:=fun j=>(Ct k i s (ofNat j)).al jX) (fun j=>s.all (fun c=>eQ c.toNat)=(s.drop j).all (fun c=>eQ c.toNat)) s.length ?_ ?_ (i:=0) (Nat.zero_le _) rfl
 ·intro j d f;have J:s[j]?=some s[j]:=List.getElem?_eq_getElem d;have D:(s.drop j).all (fun c=>eQ c.toNat)=(eQ s[j].toNat&&(s.drop (j+1)).all (fun c=>eQ c.toNat)):=by rw[List.drop_eq_getElem_cons d];rfl
  have g:an .i64 (ofNat j+1)=ofNat (j+1):=bb (by omega);have b:=UU s[j];generalize s[j]=c at J D b;generalize eQ c.toNat=h at D b;rw[←f] at D;refine Nh (br d) (nK J) b ?_ ?_
  ·rintro rfl;rw[g];exact⟨rfl,D⟩
  rintro rfl;exact .inr ⟨rfl,D,rfl⟩
 intro f;have a:s.all (fun c=>eQ c.toNat)=true:=by grind
 exact RH (.inl ⟨rfl,a,rfl⟩)
theorem UQ {i:Int} {s:List UInt8} {m c n t r d:Bool} (o:aB k 0=h) (a:aB k 1=p) (b:aB k 2=j) (f:aB k 3=m) (g:aB i 0=c) (G:aB i 1=n) (u:jP s []=t) (v:aF 2000 (ofNat s.length)=r)
  (l:KD (.loop (roundOf Tryz.f102 0)) (fun e q=>(e=.exit 1/\d=true/\q=(Ip k i s).al jX)∨(e=.ret/\d=false/\q=Iq.al jX)) ((Ct k i s (ofNat 0)).al jX)) :
  ae 102 [.dat (lI k i s)] (bv (if (!m&&!t)=true then false else if h=true then c else if p=true then true else if j=true then c||n else if m=true then d&&(c&&!r) else false)):=by
 cases t
 ·refine co [11,21,24,26,28,31,35,38,54,59,15] [] (x:=.of Tryz.f102 P8 ur) ?_;refine ox f ?_
  cases m
  ·exact ox u fi
  refine ob o ?_
  cases h
  ·refine ob a ?_
   cases p
   ·refine ob b ?_
    cases j
    ·refine ob f ?_;refine lo l ?_;rintro w s (⟨rfl,rfl,rfl⟩|⟨rfl,rfl,rfl⟩)
     ·refine⟨_,rfl,?_⟩;refine ob g ?_
      cases c
      ·exact fi
      refine ox v ?_
      cases r <;>
      ·exact fi
     refine⟨_,rfl,?_⟩;exact fi
    refine ob g ?_
    cases c
    ·refine ob G ?_
     cases n <;>
     ·exact fi
    exact fi
   exact fi
  refine ob g ?_
  cases c <;>
  ·exact fi
 refine co [11,21,24,26,28,31,35,38,54,59,15] [] (x:=.of Tryz.f102 P8 ur) ?_;refine ox f ?_
 cases m
 ·refine ox u (ob o ?_)
  cases h
  ·refine ob a ?_
   cases p
   ·refine ob b ?_
    cases j
    ·exact ob f fi
    refine ob g ?_
    cases c
    ·refine ob G ?_
     cases n <;>
     ·exact fi
    exact fi
   exact fi
  refine ob g ?_
  cases c <;>
  ·exact fi
 refine ob o ?_
 cases h
 ·refine ob a ?_
  cases p
  ·refine ob b ?_
   cases j
   ·refine ob f ?_;refine lo l ?_;rintro w s (⟨rfl,rfl,rfl⟩|⟨rfl,rfl,rfl⟩)
    ·refine⟨_,rfl,?_⟩;refine ob g ?_
     cases c
     ·exact fi
     refine ox v ?_
     cases r <;>
     ·exact fi
    refine⟨_,rfl,?_⟩;exact fi
   refine ob g ?_
   cases c
   ·refine ob G ?_
    cases n <;>
    ·exact fi
   exact fi
  exact fi
 refine ob g ?_
 cases c <;>
 ·exact fi
theorem UZ {i:Int} {s:List UInt8} (N:s.length < 1000000000):ae 102 [.dat (lI k i s)] (bv (mN k i s)):=UQ rfl rfl rfl rfl rfl rfl rfl rfl (RG N)
theorem RR {v:Int} {d:List Int} (a:ae 146 [.dat t.enc] (iv v)) (b:ae 147 [.dat t.enc] (.dat (sl (d.map iN)))):ae 100 [.dat t.enc] (bv (aB v 0&&LD d)):=by
 obtain⟨k,n,g,e⟩:=t;generalize f:aB v 0=c
 rcases d with _|⟨x,d⟩
 ·rcases e with _|⟨y,e⟩ <;>
  ·refine co [5] [] (x:=.of Tryz.f100 P8 QG) ?_;refine on a (ob f ?_)
   cases c
   ·exact fi
   exact on b fi
 rcases e with _|⟨y,e⟩ <;>
 ·refine co [5] [] (x:=.of Tryz.f100 P8 QG) ?_;refine on a (ob f ?_)
  cases c
  ·exact fi
  exact on b fi
theorem ET {c:Bool} (a:ae 82 [.dat t.enc,.dat (Ty.mk 0 [] 0 []).enc] (bv c)):ae 101 [.dat t.enc] (bv c):=by
 obtain⟨k,n,d,b⟩:=t
 rcases b with _|⟨y,b⟩ <;>
 ·refine co [] [] (x:=.of Tryz.f101 P8 QG) ?_;exact on a fi
def alW:List UInt8->List UInt8
 | []=>[34]
 | c::r=>match Nat.beq c.toNat 34||Nat.beq c.toNat 92 with|true=>92::c::alW r|false=>c::alW r
def aja (s:List UInt8):List UInt8:=34::alW s
def ant (s:List UInt8):ak:=.agg [i64 2,sb s,nl,i64 0]
theorem aiv:∀s∈H5,ae 115 [.dat (ant s)] (.tup [.dat (sb (aja s)),iv 0]):=by
 intro s h;simp only[H5,List.mem_cons,List.not_mem_nil,or_false] at h
 rcases h with rfl|rfl|rfl|rfl|rfl|rfl <;>
 ·exact dE _ _ _ _ _ (by kernel_rfl)
theorem akn:∀s∈H5,ae 118 [.dat (sb s)] (.dat (sb (aja s))):=by
 intro s h;simp only[H5,List.mem_cons,List.not_mem_nil,or_false] at h
 rcases h with rfl|rfl|rfl|rfl|rfl|rfl <;>
 ·exact dE _ _ _ _ _ (by kernel_rfl)
def amG (b:Bool):List UInt8:=match b with|true=>[116,114,117,101]|false=>[102,97,108,115,101]
theorem ahh (b:Bool):ae 114 [bv b] (.dat (sb (amG b))):=by
 cases b <;>
 ·exact dE _ _ _ _ _ (by kernel_rfl)
def al2:List UInt8:=[110,105,108]
def agb (C I:Int) (c:List UInt8):List UInt8:=match aB C 1 with
 | true=>Go.Lib.itoa I
 | false=>match aB C 2 with
  | true=>amG (aB I 1)
  | false=>match aB C 3 with
   | true=>aja c
   | false=>al2
section
variable {C I:Int} {c d:List UInt8}
theorem amz (a:aB C 1=true) (h:ae 113 [iv I,iv 10] (.dat (sb d))):ae 76 [.dat (lI C I c)] (.dat (sb d)):=by
 exact iS [8] [] (x:=qS.of Tryz.f76 P8 agy) (by kernel_rfl) (ob a (on h fi))
theorem akW {e:List UInt8} {c:Bool} (a:aB C 1=false) (b:aB C 2=true) (f:aB I 1=c) (h:ae 114 [bv c] (.dat (sb d))):ae 76 [.dat (lI C I e)] (.dat (sb d)):=by
 cases c <;>
 ·exact iS [8,13,16] [] (x:=qS.of Tryz.f76 P8 agy) (by kernel_rfl) (ob a (ob b (ob f (on h fi))))
theorem amx (a:aB C 1=false) (b:aB C 2=false) (f:aB C 3=true) (h:ae 115 [.dat (ant c)] (.tup [.dat (sb d),iv 0])):ae 76 [.dat (lI C I c)] (.dat (sb d)):=by
 exact iS [8,13,19] [] (x:=qS.of Tryz.f76 P8 agy) (by kernel_rfl) (ob a (ob b (ob f (on h fi))))
theorem amy (a:aB C 1=false) (b:aB C 2=false) (f:aB C 3=false):ae 76 [.dat (lI C I c)] (.dat (sb al2)):=by
 exact iS [8,13,19] [] (x:=qS.of Tryz.f76 P8 agy) (by kernel_rfl) (ob a (ob b (ob f fi)))
theorem alR (a:aB C 1=true) (h:ae 78 [iv I] (.dat (sb d))):ae 81 [.dat (lI C I c)] (.dat (sb d)):=by
 exact iS [6] [] (x:=qS.of Tryz.f81 P8 agx) (by kernel_rfl) (ob a (on h fi))
theorem akk {c:Bool} (a:aB C 1=false) (b:aB C 2=true) (f:aB I 1=c):ae 81 [.dat (lI C I d)] (.dat (sb (amG c))):=by
 cases c <;>
 ·exact iS [6,11,14] [] (x:=qS.of Tryz.f81 P8 agx) (by kernel_rfl) (ob a (ob b (ob f fi)))
theorem alP (a:aB C 1=false) (b:aB C 2=false) (f:aB C 3=true) (h:ae 118 [.dat (sb c)] (.dat (sb d))):ae 81 [.dat (lI C I c)] (.dat (sb d)):=by
 exact iS [6,11,16] [] (x:=qS.of Tryz.f81 P8 agx) (by kernel_rfl) (ob a (ob b (ob f (on h fi))))
theorem alQ (a:aB C 1=false) (b:aB C 2=false) (f:aB C 3=false):ae 81 [.dat (lI C I c)] (.dat (sb al2)):=by
 exact iS [6,11,16] [] (x:=qS.of Tryz.f81 P8 agx) (by kernel_rfl) (ob a (ob b (ob f fi)))
theorem aoe {C I:Int} {c:List UInt8} (o:-9223372036854775808<=I) (a:I<=9223372036854775807) (s:c∈H5):ae 76 [.dat (lI C I c)] (.dat (sb (agb C I c))):=by
 unfold agb
 cases E:aB C 1 with
 | true=>exact amz E (ahE o a)
 | false=>cases F:aB C 2 with
  | true=>exact akW E F rfl (ahh _)
  | false=>cases b:aB C 3 with
   | true=>exact amx E F b (aiv _ s)
   | false=>exact amy E F b
theorem ano {C I:Int} {c:List UInt8} (o:-9223372036854775808<=I) (a:I<=9223372036854775807) (s:c∈H5):ae 81 [.dat (lI C I c)] (.dat (sb (agb C I c))):=by
 unfold agb
 cases E:aB C 1 with
 | true=>exact alR E (af8 o a)
 | false=>cases F:aB C 2 with
  | true=>exact akk E F rfl
  | false=>cases b:aB C 3 with
   | true=>exact alP E F b (akn _ s)
   | false=>exact alQ E F b
end
variable {k:Int} {l:List ak} {n:List UInt8}
theorem al4 {b:Int} (a:aB k 0=true):ae 75 [.dat (.agg [i64 k,sb n,i64 b,sl l])] (.dat (sb ak1)):=by
 refine iS [17] [] (x:=qS.of Tryz.f75 P8 aem) (by kernel_rfl) ?_
 rcases l with _|⟨c,d⟩ <;>
 ·exact ob a fi
theorem ajL {b:Int} (o:aB k 0=false) (a:aB k 1=true):ae 75 [.dat (.agg [i64 k,sb n,i64 b,sl l])] (.dat (sb ag0)):=by
 refine iS [17,19] [] (x:=qS.of Tryz.f75 P8 aem) (by kernel_rfl) ?_
 rcases l with _|⟨c,d⟩ <;>
 ·exact ob o (ob a fi)
theorem al3 {d:List UInt8} {b:Int} (o:aB k 0=false) (a:aB k 1=false) (G:aB k 5=true) (i:ae 42 [iv b] (.dat (sb d))) (c:Ny ba .add 9 [.dat (sb [36]),.dat (sb d)]=some ⟨.dat (sb ([36]++d)),.keep⟩):ae 75 [.dat (.agg [i64 k,sb n,i64 b,sl l])] (.dat (sb ([36]++d))):=by
 refine iS [17,19,21] [25] (x:=qS.of Tryz.f75 P8 aem) (by kernel_rfl) ?_
 rcases l with _|⟨e,f⟩ <;>
 ·exact ob o (ob a (ob G (on i (oo c fi))))
theorem akI {c:Int} (o:aB k 0=false) (a:aB k 1=false) (G:aB k 5=false) (f:aB k 3=false) (g:aB k 4=false) (b:aB k 6=false):ae 75 [.dat (.agg [i64 k,sb n,i64 c,nl])] (.dat (sb n)):=by
 exact iS [17,19,21,27,29,31] [] (x:=qS.of Tryz.f75 P8 aem) (by kernel_rfl) (ob o (ob a (ob G (ob f (ob g (ob b fi))))))
noncomputable def hTT:Hints:=⟨bV,P8,bi,rowsOf bi 75⟩
def ahn (l:List ak) (s:List UInt8) (i:Int):ab:=⟨[(35,iv i),(34,iv (ofNat l.length)),(33,.dat (sl l)),(3,.dat (sb s))],[],[],0⟩
def agL (l:List ak) (s:List UInt8) (i:Int):ab:=⟨[(36,bv false),(35,iv i),(34,iv (ofNat l.length)),(33,.dat (sl l)),(3,.dat (sb s))],[],[],0⟩
theorem aiB {x:ak} {c:List ak} {l:List Ty} {t:Ty} {i:Nat} {s d:List UInt8} (m:ax l=x::c) (j:i < (ax l).length) (n:l[i]?=some t)
  (h:ae 75 [.dat t.enc] (.dat (sb d))) (k:Ny ba .add 9 [.dat (sb [32]),.dat (sb d)]=some ⟨.dat (sb ([32]++d)),.keep⟩)
  (f:Ny ba .add 9 [.dat (sb s),.dat (sb ([32]++d))]=some ⟨.dat (sb (s++([32]++d))),.keep⟩) {T:ej}
  (e:T .normal ((ahn (x::c) (s++([32]++d)) (an .i64 (ofNat i+1))).al afq)) :
  KD (roundOf Tryz.f75 0) T ((ahn (x::c) s (ofNat i)).al afq):=by
 have a:=br j;have b:=pF n;rw[m] at a b;obtain⟨K,p,o,g⟩:=t
 rcases g with _|⟨Q,q⟩ <;>
 ·exact aq [36] [37,42,43] (H:=hTT) (live:=aem) (ob a (oo b (on h (oo k (oo f (oe e))))))
theorem akh {s:List UInt8} {l:List ak} {T:ej} (e:T (.exit 1) ((agL l s (ofNat l.length)).al afq)) :
  KD (roundOf Tryz.f75 0) T ((ahn l s (ofNat l.length)).al afq):=by
 have a:=cj (i:=l.length) (L:=l.length) (by omega)
 rcases l with _|⟨x,l⟩
 ·refine aq [] [] (H:=hTT) (live:=aem) ?_;exact oe e
 exact aq [36] [] (H:=hTT) (live:=aem) (ob a (oe e))
theorem akJ {r:List UInt8} {t:Int} {c d h:Bool} (o:aB k 0=false) (a:aB k 1=false) (G:aB k 5=false) (f:aB k 3=c) (g:aB k 4=d) (q:aB k 6=h) (i:(c||(d||h))=true)
  (m:KD (.loop (roundOf Tryz.f75 0)) (fun e u=>e=.exit 1/\u=(agL l r (ofNat (l).length)).al afq) ((ahn l (agD c d) (ofNat 0)).al afq)) (b:Ny ba .add 9 [.dat (sb [40]),.dat (sb r)]=some ⟨.dat (sb ([40]++r)),.keep⟩)
  (j:Ny ba .add 9 [.dat (sb ([40]++r)),.dat (sb [41])]=some ⟨.dat (sb ([40]++r++[41])),.keep⟩) :
  ae 75 [.dat (.agg [i64 k,sb n,i64 t,sl l])] (.dat (sb ([40]++r++[41]))):=by
 cases c
 ·cases d
  ·have i:h=true:=i;rw[i] at q;rcases l with _|⟨x,l⟩ <;>
   ·refine iS [17,19,21,27,29,31] [46,47] (x:=qS.of Tryz.f75 P8 aem) (by kernel_rfl) (ob o (ob a (ob G (ob f (ob g (ob q ?_))))));refine lo m ?_;rintro p s ⟨rfl,rfl⟩;refine⟨_,rfl,?_⟩;exact oo b (oo j fi)
  rcases l with _|⟨x,l⟩ <;>
  ·refine iS [17,19,21,27,29] [46,47] (x:=qS.of Tryz.f75 P8 aem) (by kernel_rfl) (ob o (ob a (ob G (ob f (ob g ?_)))));refine lo m ?_;rintro p s ⟨rfl,rfl⟩;refine⟨_,rfl,?_⟩;exact oo b (oo j fi)
 rcases l with _|⟨x,l⟩ <;>
 ·refine iS [17,19,21,27] [46,47] (x:=qS.of Tryz.f75 P8 aem) (by kernel_rfl) (ob o (ob a (ob G (ob f ?_))));refine lo m ?_;rintro p s ⟨rfl,rfl⟩;refine⟨_,rfl,?_⟩;exact oo b (oo j fi)
theorem ajM {r:List UInt8} {i:Int} {x:ak} (o:aB k 0=false) (a:aB k 1=false) (G:aB k 5=false) (f:aB k 3=false) (g:aB k 4=false) (c:aB k 6=false)
  (h:KD (.loop (roundOf Tryz.f75 0)) (fun e j=>e=.exit 1/\j=(agL (x::l) r (ofNat ((x::l)).length)).al afq) ((ahn (x::l) n (ofNat 0)).al afq)) (b:Ny ba .add 9 [.dat (sb [40]),.dat (sb r)]=some ⟨.dat (sb ([40]++r)),.keep⟩)
  (d:Ny ba .add 9 [.dat (sb ([40]++r)),.dat (sb [41])]=some ⟨.dat (sb ([40]++r++[41])),.keep⟩) :
  ae 75 [.dat (.agg [i64 k,sb n,i64 i,.slice (x::l)])] (.dat (sb ([40]++r++[41]))):=by
 refine iS [17,19,21,27,29,31] [46,47] (x:=qS.of Tryz.f75 P8 aem) (by kernel_rfl) (ob o (ob a (ob G (ob f (ob g (ob c ?_))))));refine lo h ?_;rintro m s ⟨rfl,rfl⟩;refine⟨_,rfl,?_⟩;exact oo b (oo d fi)
theorem aiC {c:Int->List UInt8} {s:List UInt8} {l:List Ty} (d:l.length < 1000000000)
  (v:∀t∈l,(t.txt c).length < 100000000->ae 75 [.dat t.enc] (.dat (sb (t.txt c)))) (N:(s++acg c l).length < 100000000) :
  KD (.loop (roundOf Tryz.f75 0)) (fun e f=>e=.exit 1/\f=(agL (ax l) (s++acg c l) (ofNat (ax l).length)).al afq) ((ahn (ax l) s (ofNat 0)).al afq):=by
 simp at N;refine bm (St:=fun i=>(ahn (ax l) (s++acg c (l.take i)) (ofNat i)).al afq) (ax l).length ?_ ?_ (i:=0) (Nat.zero_le _) |> (fun h=>by simpa [acg] using h)
 ·intro i o;obtain⟨t,m,q⟩:=get_mem o;obtain⟨x,n,p⟩:∃x n,ax l=x::n:=by cases l with|nil=>grind|cons a r=>exact⟨_,_,rfl⟩
  have g:=ahT c l (i+1);rw[afE m] at g;simp only[List.length_append,List.length_singleton] at g;have u:an .i64 (ofNat i+1)=ofNat (i+1):=bb (by grind);have j:=aaa (a:=[32]) (b:=t.txt c) (by grind);have k:=aaa (a:=s++acg c (l.take i)) (b:=[32]++t.txt c) (by grind);have e:=aiB (T:=xU (fun f=>f=(ahn (ax l) (s++acg c (l.take (i+1))) (ofNat (i+1))).al afq)
   (fun e f=>e=.exit 1/\f=(agL (ax l) (s++acg c l) (ofNat (ax l).length)).al afq)) p o m (v t q (by omega)) j k (by
    rw[p,u,afE m];simp only[List.append_assoc];rfl)
  simp_all
 have e:=@akh (s++acg c l) (ax l) (xU (fun _=>False) (fun e f=>e=.exit 1/\f=(agL (ax l) (s++acg c l) (ofNat (ax l).length)).al afq)) ⟨rfl,rfl⟩;simp_all[aH]
mutual
theorem an9 {b:Int->List UInt8} {p:Int->Prop} (d:∀c:Int,p c->ae 42 [iv c] (.dat (sb (b c)))):∀t:Ty,t.thin->t.vix p->(t.txt b).length < 100000000->ae 75 [.dat t.enc] (.dat (sb (t.txt b)))
 | .mk k n c l,s,f,N=>by
  have g:=alz d l s.2 f.2;rw[Ty.txt] at N ⊢
  cases o:aB k 0 with
  | true=>exact al4 o
  | false=>
   rw[o] at N
   cases a:aB k 1 with
   | true=>exact ajL o a
   | false=>
    rw[a] at N
    cases G:aB k 5 with
    | true=>
     rw[G] at N;exact al3 o a G (d c (f.1 G)) (aaa (by grind))
    | false=>
     rw[G] at N
     cases e:(aB k 3||(aB k 4||aB k 6)) with
     | true=>
      rw[e] at N;rw[List.append_assoc [40],List.length_append,List.length_append] at N;rw[List.append_assoc [40]];exact akJ o a G rfl rfl rfl e (aiC s.1 g (by omega)) (aaa (by omega)) (aaa (by grind))
     | false=>
      rw[e] at N;simp at e
      cases l with
      | nil=>exact akI o a G e.1 e.2.1 e.2.2
      | cons x r=>
       have N:(([40]++n)++acg b (x::r)++[41]).length < 100000000:=N;rw[List.append_assoc [40],List.length_append,List.length_append] at N;show ae _ _ (.dat (sb (([40]++n)++acg b (x::r)++[41])));rw[List.append_assoc [40]];exact ajM o a G e.1 e.2.1 e.2.2 (aiC (l:=x::r) s.1 g (by omega)) (aaa (by omega)) (aaa (by grind))
theorem alz {b:Int->List UInt8} {p:Int->Prop} (d:∀c:Int,p c->ae 42 [iv c] (.dat (sb (b c)))):∀l:List Ty,tt l->ahi p l->∀t∈l,(t.txt b).length < 100000000->ae 75 [.dat t.enc] (.dat (sb (t.txt b)))
 | [],_,_,t,T,_=>by grind
 | x::r,s,f,t,T,N=>by
  rcases List.mem_cons.1 T with a|T
  ·rw[a] at N ⊢;exact an9 d x s.1 f.1 N
  exact alz d r s.2 f.2 t T N
end
theorem Qa {z:Bool} {j:ak} (G:j=sx z []) {i sl:Int} {g h:ak} (K:dj g) (L:dj h) {o d a b m:Int} {n:List UInt8} {k:Int} {t:List UInt8} {v:Int} {y:ak} {C I:Int} {c:List UInt8} {s:kG} {r u D A B:Bool} (M:dj y)
  (l:KD (.loop (roundOf Tryz.f97 0)) (fun e q=>e=.exit 0/\q=(Od j 0 (cC i sl g h) (cX o d a b m n j k t v y C I c) (cS s) (ofNat 0)).al gL)
   ((Fo j 0 (cC i sl g h) (cX o d a b m n j k t v y C I c) (cS s) (ofNat 0)).al gL))
  (E:KC 141 [iv d,bv s.dst,.ptr (.out 0) 0] (hC i sl g h) 1 (XQ ⟨bv r,hC i sl g h,1⟩))
  (F:KC 141 [iv a,bv s.a,.ptr (.out 0) 0] (hC i sl g h) 1 (XQ ⟨bv u,hC i sl g h,1⟩))
  (f:KC 141 [iv b,bv (s.b&&!(A&&B)),.ptr (.out 0) 0] (hC i sl g h) 1 (XQ ⟨bv D,hC i sl g h,1⟩))
  (R:aB o 3=A) (S:aB m 5=B) :
  ae 97 [.dat (aN i sl g h),.dat (eH o d a b m n j k t v y C I c),.dat s.enc] (bv (r&&(u&&D))):=by
 have N:=aS (p:=i) (s:=sl) K L;have O:=@bw o d a b m n j k t v _ C I c (G ▸ dq z []) M;obtain⟨w,U,V,H,W,Y,J,Z,s8,s9,P,Q⟩:=s
 cases z <;>
 ·subst G;refine co [28,32] [3,4] (x:=.of Tryz.f97 P8 sO) ?_;refine oo N (oo O ?_);refine lo l ?_;rintro T s ⟨rfl,rfl⟩;refine⟨_,rfl,?_⟩;refine ob R ?_
  cases A
  ·cases J <;>
   ·refine oh E ?_
    cases r
    ·exact fi
    refine oh F ?_
    cases u
    ·exact fi
    cases H <;>
    ·exact oh f fi
  refine ob S ?_
  cases B <;>
  ·cases J <;>
   ·refine oh E ?_
    cases r
    ·exact fi
    refine oh F ?_
    cases u
    ·exact fi
    cases H <;>
    ·exact oh f fi
theorem adK {l sl:Int} {g i:ak} (v:dj g) (w:dj i) (x:Ins) (s:kG) (N:x.ar.length < 1000000000) :
  ae 97 [.dat (aN l sl g i),.dat x.enc,.dat s.enc] (bv (Ge sl x s)):=by
 obtain⟨j,d,a,b,m,n,o,u,⟨k,t,p,q⟩,C,I,c⟩:=x;have z:=@ES l d sl g i s.dst;have A:=@ES l a sl g i s.a;have f:=@ES l b sl g i (s.b&&!(aB j 3&&aB m 5))
 cases u with
 | nil=>
  have h:=@Qa o (sx o []) rfl _ _ _ _ v w j _ _ _ m n k t p _ C I c _ _ _ _ _ _ (dr (ax q)) ME z A f rfl rfl;have e:Ge sl ⟨j,d,a,b,m,n,o,[],⟨k,t,p,q⟩,C,I,c⟩ s=(fB d sl s.dst&&(fB a sl s.a&&fB b sl (s.b&&!(aB j 3&&aB m 5)))):=by
   have B:aB (ofNat ([]:List Int).length) 0=true:=rfl;have D:aF 6 (ofNat ([]:List Int).length)=false:=rfl;grind[Ge,Jo,Ins.unary]
  rw[e];exact h
 | cons y r=>
  have h:=@Tx ((y::r).map iN) _ _ _ _ v w j _ _ _ m n k t p _ C I c _ _ _ _ _ _ _ _ _ (dr (ax q)) (P9 N) z A f rfl rfl rfl rfl;rw[List.length_map] at h;exact h
theorem Ht {g:FuncId} {x:qS} (i:JE.find g=some x) {fn0:Func} (d:x.code=kc fn0 0) {a:List ac} {b:Heap} {c:Nat} {r:eX} (l:Nat.ble a.length x.ntmps=true)
  (h:KD (kc fn0 0) (fun e s=>e=.ret/\∃f:ab,s=f.al x.ntmps/\sU ba x.ntmps x.results f=some r) ((⟨rG 0 a,[],b,c⟩:ab).al x.ntmps)):KC g a b c (XQ r):=Nr JS uD i d l h
def dead (t:Nat) (f:ab):ab:=match f with|⟨sl,a,b,c⟩=>⟨(t,bv false)::sl,a,b,c⟩
theorem jT {c:Code} {s:aa} {n:Nat} {f:ab} (m:Nat) {a:ab} (h:KD c (fun e q=>e=.normal/\q=f.al n) s) (b:(iL f (fun l=>eE l m)).al n=a.al n):KD c (fun e q=>e=.normal/\q=a.al n) s:=
 iU h (by rintro e d ⟨rfl,rfl⟩;exact⟨_,me f m,rfl,b⟩)
end Go.Proofs.YtmpmgmmcaghacaaGreatDoor
