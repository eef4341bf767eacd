/- Part 5 of what the last text proves. -/
import Derived.RangeFuncFrom
import Derived.RangeFuncLeaves
import Derived.Maps.RangeRun
import Derived.ChangeSlices
import Derived.ReadAgain
import Derived.ChangeMaps5
import Derived.Test.YtmpmgmmcaghacaaGreatDoorQ04
set_option linter.unusedVariables false
set_option linter.unusedSimpArgs false
set_option maxRecDepth 100000
set_option maxHeartbeats 4000000
namespace Go.Tp
open Go.RowKit
def arO (r:Nat):Deferred:={target:=.collected r,args:=#[]}
section
variable {P:Program} {E:bz} {G:bA} {H:Hints}
variable {Q:Exit->aa->Prop} {c:Code} {s:aa} {w:World}
theorem wp_loop_ghost {Q:Exit->Act->World->Prop} (I:Nat->Act->World->Prop) {n0:Nat} {a:Act} (o:I n0 a w)
  (h:∀n a w,I n a w->c.wp P (Exit.then (fun i m=>∃q,q < n/\I q i m) Q) a w):(Code.loop c).wp P Q a w:=by
 intro b k r;have v:∀n a w,I n a w->∃e i m,Q e i m/\Arrives P (lone (b.at a (.code c::.inLoop c::k)) r w) b k r e i m:=by
  intro n
  induction n using Nat.strongRecOn with
  | _ n A=>
   intro a w z;obtain⟨e,j,p,f,d⟩:=h n a w z b (.inLoop c::k) r
   cases e with
   | normal=>
    obtain⟨q,t,s⟩:=f;obtain⟨F,y,B,u,g⟩:=A q t j p s;exact⟨F,y,B,u,.of_steps (Steps.trans d (.one step_inLoop)) g⟩
   | exit id=>exact⟨_,j,p,f,.pass (x:=.inLoop c) rfl (fun _ _=>.inl (by simp)) d⟩
   | goto l=>exact⟨_,j,p,f,.pass (x:=.inLoop c) rfl (fun _ _=>.inl (by simp)) d⟩
   | ret=>exact⟨_,j,p,f,.pass (x:=.inLoop c) rfl (fun _ _=>.inl (by simp)) d⟩
   | panic C=>exact⟨_,j,p,f,.pass (x:=.inLoop c) rfl (fun _ _=>.inl (by simp)) d⟩
   | outgrown=>exact⟨_,j,p,f,.pass (x:=.inLoop c) rfl (fun _ _=>.inl (by simp)) d⟩
 obtain⟨e,i,m,f,d⟩:=v n0 a w o;exact⟨e,i,m,f,.of_steps (.one step_loop) d⟩
def ape:Obj->Bool
 | .deferred _=>true
 | .loop _=>true
 | _=>false
theorem aoj {R:Own} {r:Nat} {o l:Obj} (h:w.heap[r]?=some o) (q:ape o=true) (b:ape l=true) (p:R r 0) (B:List Nat) (d:r∉B):bp w R (w.putObj r l) R B:=by
 have m:=bN h;have f:∀c,c≠r->(w.putObj r l).heap[c]?=w.heap[c]?:=fun c j=>World.putObj_heap_other j
 have i:(w.putObj r l).heap[r]?=some l:=World.putObj_heap_same m;refine⟨⟨rfl,rfl,rfl,by simp_all,fun c j g=>⟨f c (fun e=>g 0 (e ▸ p)),g⟩,fun c n j g=>⟨g,?_⟩,fun c j=>?_⟩,fun c j _=>⟨f c (fun e=>d (e ▸ j)),fun _ h=>h⟩⟩
 ·by_cases k:c=r
  ·subst k;simp only[World.cell?,h,i]
   grind[ape]
  exact World.cell?_of_block (a:=⟨c,n,none⟩) (f c k)
 grind[eD,ape]
def as9 (P:Program) (G:bA) (Q:Exit->aa->Prop) (w:World) (R:Own) (N:Name->Option Nat) (z:List Nat):Exit->Act->World->Prop:=fun e a f=>
 ∃d h c g Z U H,Q e h/\dw G f c g a.tmps.toList h undef .undef [] Z U H (d++z)/\a.defers=d.map arO/\(∀r∈d,f.heap[r]?=some (.deferred (some []))/\c r 0)/\bp w R f c z/\(∀o b,N (.out o)=some b->g (.out o)=some b)
def Marks (w:World) (R:Own) (a:List Nat):Prop:=∀r∈a,w.heap[r]?=some (.deferred (some []))/\R r 0
def sD (P:Program) (G:bA) (c:Code) (Q:Exit->aa->Prop) (s:aa):Prop:=
 ∀(w:World) (R:Own) (N:Name->Option Nat) (a:Act) (Z U H z b:List Nat),dw G w R N a.tmps.toList s undef .undef [] Z U H (b++z)->a.defers=b.map arO->Marks w R b->
  c.wp P (as9 P G Q w R N z) a w
theorem Marks.keep {e:World} {R c:Own} {a B:List Nat} (h:Marks w R a) (f:bp w R e c B) (g:∀b∈a,b∈B):Marks e c a:=fun r d=>by
 obtain⟨i,k⟩:=h r d;obtain⟨j,K⟩:=f.same r (g r d) (bN i);grind
theorem akc (h:cL P G c Q s):sD P G c Q s:=by
 intro w R N j Z U H z n u D r;refine wp_mono (apK (h w R N j Z U H (n++z) u D)) ?_;rintro e a x ⟨v,p,o,i,g,f,t,l,k,m,q⟩;exact⟨n,v,p,o,i,g,f,t,l,k,r.keep m (fun b d=>by grind),m.sub (by grind),q⟩
theorem as9.trans {i:World} {R g:Own} {N f:Name->Option Nat} {z:List Nat} (n:bp w R i g z) (m:∀o b,N (.out o)=some b->f (.out o)=some b) {e:Exit} {a:Act} {j:World}
  (h:as9 P G Q i g f z e a j):as9 P G Q w R N z e a j:=by
 obtain⟨s,s',l,k,Z,U,H,q,r,D,p,d,c⟩:=h;exact⟨s,s',l,k,Z,U,H,q,r,D,p,n.trans d,fun o b h=>c o b (m o b h)⟩
theorem asz {l:Exit->aa->Prop} (h:sD P G c Q s) (q:∀e i,Q e i->l e i):sD P G c l s:=by
 intro w R N j Z U H z t r D p;refine wp_mono (h w R N j Z U H z t r D p) ?_;rintro e a u ⟨k,i,n,m,g,f,d,o,b⟩;exact⟨k,i,n,m,g,f,d,q _ _ o,b⟩
theorem ara {x y:Code} (h:sD P G x (fun e k=>match e with|.normal=>sD P G y Q k|e=>Q e k) s):sD P G (.seq x y) Q s:=by
 intro w R N l Z U H z u t D r
 apply wp_seq
 refine wp_mono (h w R N l Z U H z u t D r) ?_;rintro e a v ⟨j,k,n,m,d,c,b,q,i,f,g,p,o⟩
 cases e with
 | normal=>exact wp_mono (q v n m a d c b z j i f g) (fun e a w h=>h.trans p o)
 | _=>exact⟨j,k,n,m,d,c,b,q,i,f,g,p,o⟩
theorem asy {x y:Code} (h:cL P G x (fun e a=>match e with|.normal=>sD P G y Q a|e=>Q e a) s):sD P G (.seq x y) Q s:=ara (akc h)
theorem asA {α:Type} (T M:List Nat) (S:α->aa) (O:α->Prop) (μ:α->Nat) (x0:α) (h0:O x0) (hs:s.keep T M=S x0)
  (k:∀x,O x->sD P G c (xU (fun s'=>∃l,O l/\μ l < μ x/\s'.keep T M=S l) Q) (S x)):sD P G (.loop c) Q s:=by
 intro w R N ae Z U H z rs hr D hm;refine wp_loop_ghost (I:=fun n a K=>∃x i m L f d g,O x/\μ x=n/\dw G K m L a.tmps.toList (S x) undef .undef [] f d g (i++z)/\a.defers=i.map arO/\Marks K m i/\bp w R K m z/\(∀o b,N (.out o)=some b->L (.out o)=some b)) (n0:=μ x0) ?_ ?_
 ·obtain⟨f,d,C⟩:=hr.forget T M;grind[aZ]
 rintro n a K ⟨x,i,m,L,f,d,g,Y,rfl,C,V,X,hk,hN⟩;refine wp_mono (k x Y K m L a f d g z i C V X) ?_;rintro e a2 w2 ⟨J,s2,R2,N2,r,p,j,hq,E,v,A,y,u⟩
 cases e with
 | normal=>
  obtain⟨l,B,W,ad⟩:=hq;obtain⟨t,q,F⟩:=E.forget T M;rw[ad] at F;exact⟨μ l,W,l,J,R2,N2,t,q,j,B,rfl,F,v,A,hk.trans y,fun o b h=>u o b (hN o b h)⟩
 | _=>exact⟨J,s2,R2,N2,r,p,j,hq,E,v,A,hk.trans y,fun o b h=>u o b (hN o b h)⟩
theorem ar9 {id:Nat} (h:sD P G c (fun e k=>match e with|.normal=>Q .normal k|.exit i=>if i=id then Q .normal k else Q (.exit i) k|e=>Q e k) s):sD P G (.block id c) Q s:=by
 intro w R N t Z U H z x y D v
 apply wp_block
 refine wp_mono (h w R N t Z U H z x y D v) ?_;rintro e a A ⟨r,k,n,m,f,d,b,l,j,g,q,p,o⟩
 cases e with
 | normal=>exact⟨r,k,n,m,f,d,b,l,j,g,q,p,o⟩
 | exit i=>
  simp only[Exit.inBlock]
  by_cases u:i=id
  ·subst u;rw[if_pos rfl];simp at l;exact⟨r,k,n,m,f,d,b,l,j,g,q,p,o⟩
  rw[if_neg u];simp only[if_neg u] at l;exact⟨r,k,n,m,f,d,b,l,j,g,q,p,o⟩
 | _=>exact⟨r,k,n,m,f,d,b,l,j,g,q,p,o⟩
theorem aoD {x:Func} {h:Array Value} {u:Ending->World->Prop} {B:aa} {t:Name->Option Nat} {Z U H bsF:List Nat} {w:World} {R:Own}
  (m:∀(f:World) (j:Own),dw G f j t h.toList B undef .undef [] Z U H bsF->bp w R f j bsF->∃v,(results x h).run P f=.ok v f/\u (.returned v) f) :
  ∀(k:List Nat) (f:World) (j:Own),dw G f j t h.toList B undef .undef [] Z U H (k++bsF)->(∀r∈k,f.heap[r]?=some (.deferred (some []))/\j r 0)->bp w R f j bsF->
   LeavesInM Fence.wide 1 P x h u (k.map arO) .returning f
 | [],f,j,l,_,o=>m f j (by simpa using l) o
 | r::k,f,j,l,y,o=>by
  obtain⟨A,C⟩:=y r (by simp);have n:=l.nodup;have a:∀{bs:List Nat},(∀b∈bs,b∈Z++(U++(H++(k++bsF))))->r∉bs:=by
   intro bs d X;have s:([]++(Z++(U++(H++((r::k)++bsF))))).Perm (r::(Z++(U++(H++(k++bsF))))):=by
    rw[List.perm_iff_count];intro q;simp only[List.count_append,List.count_cons,List.count_nil];omega
   exact (List.nodup_cons.1 (s.nodup_iff.1 n)).1 (d r X)
  have i:∀bs,r∉bs->bp f j (f.putObj r (.deferred none)) j bs:=fun bs d=>aoj A rfl rfl C bs d
  refine⟨by simp,.inl ⟨r,_,rfl,run_takeDeferred A,?_⟩⟩;refine aoD m k _ j ⟨aJ _,l.tmps.keep (i Z (a (by intro b d;simp[d]))),l.locs.keep (i U (a (by intro b d;simp[d]))),l.heap.keep (i H (a (by intro b d;simp[d]))),?_,l.next,
   fun g c J=>(l.glob g c J).step (i [] (by simp)).step,fun b d=>Nat.lt_of_lt_of_le (l.frame b (by simp at d ⊢;exact .inr d)) (i [] (by simp)).step.size⟩ (fun q z=>?_) (o.trans (i bsF (a (by intro b d;simp[d]))))
  ·have s:([]++(Z++(U++(H++((r::k)++bsF))))).Perm (r::([]++(Z++(U++(H++(k++bsF)))))):=by
    rw[List.perm_iff_count];intro q;simp only[List.count_append,List.count_cons,List.count_nil];omega
   exact (List.nodup_cons.1 (s.nodup_iff.1 n)).2
  ·obtain⟨D,E⟩:=y q (by simp[z]);refine⟨?_,E⟩;have p:q≠r:=fun e=>(a (bs:=k) (by intro b d;simp[d])) (e ▸ z)
   rw[World.putObj_heap_other p];exact D
theorem aqi (W:E.Ok P) {f:FuncId} {z:Func} (hf:P.funcs[f]?=some z) (d:z.body=some c) {p:List ac} {q:List (Name×aL)} {x:Nat} {Q:ac->List (Name×aL)->Nat->Prop}
  (h:rN p->yc q->sD P G c (adO E z.results.toList Q) (enter z.ntmps p q x)):ay P G f p q x Q:=by
 intro w R N u D H bsF A hh V X J hF;replace h:=h A.pH hh.pH;refine (callsIn_wide (n:=1)).1 (callsIn_of_wp_marks hf d trivial ?_ rfl);rw[wpIn_wide];have F:=A.length;have Y:dw G w R (outs N) ((u.toArray++Array.replicate (z.ntmps - u.toArray.size) undef).toList) (enter z.ntmps p q x) undef .undef [] D [] H bsF:=by
  refine⟨aJ _,?_,rfl,?_,by simpa using V,?_,J,hF⟩
  ·have:=ct A (wY (w:=w) (R:=R) (N:=outs N) (z.ntmps - p.length))
   simpa [enter,F] using this
  ·exact hh.ext (fun m b L=>by cases m with|loc i=>simp[outs] at L|out o=>exact L)
  intro o b O;exact X o b O
 refine wp_mono (h w R (outs N) _ D [] H bsF [] (by simpa using Y) rfl (by intro r Y;simp at Y)) ?_;rintro e a C ⟨rs,s',R',N',Z,U,af,B,ad,S,L,hk,hN⟩;have K:ye E z.results.toList Q s'->LeavesInM Fence.wide 1 P z a.tmps (fun e C=>∃M v j k t s y g,e=.returned v/\Q M j k/\ai C t (outs s) M v y/\aj C t (outs s) j g ∧
   (y++(g++bsF)).Nodup/\(∀o b,s (.out o)=some b->o < k)/\bp w R C t bsF/\(∀o b,N (.out o)=some b->s (.out o)=some b)) a.defers .returning C:=by
  intro I;rw[S];refine aoD (w:=w) (R:=R) (bsF:=bsF) ?_ rs C R' ad L hk;intro w1 R1 ae T;obtain⟨v,g1,M,j,k,t,s,y,g,q1,q2,q3,q4,q5,q6,q7⟩:=Ka W I ae;exact⟨v,g1,M,v,j,k,t,s,y,g,rfl,q1,q2,q3,q4,q5,T.trans q6,fun o b h=>q7 o b (hN o b h)⟩
 cases e with
 | ret=>exact K B
 | normal=>exact K B
 | exit i=>exact B.elim
 | goto l=>exact B.elim
 | panic ch=>exact B.elim
 | outgrown=>exact B.elim
end
section
variable (X:lH) (E:bz) (G:bA) (H:Hints) (n:Nat) (live:Nat->Nat) (fuel:Nat)
end
theorem aqP (n:Nat) (a:List ac) (b:Heap) (c:Nat) (d:a.length<=n):(⟨rG 0 a,[],b,c⟩:ab).al n=enter n a b c:=by
 simp only[ab.al,enter];congr 1
 apply List.ext_getElem?
 grind[kq,pS,bq]
end Go.Tp
namespace Go.Tp
open Go.RowKit
section
variable {P:Program} {E:bz} {G:bA} {H:Hints}
def seen (a:ac):ac:=if pB (de a)=true then de a else .undef
def arN (l:List ac):List ac:=l.map seen
theorem atM {w:World} {R:Own} {N:Name->Option Nat} {a:ac} {v:Value} {B:List Nat} (h:ai w R N a v B):ai w R (outs N) (seen a) v []:=by
 unfold seen
 split
 ·rename_i b;exact (qT h).yi b (fun _=>rfl)
 exact aJ _
theorem aq6 {w:World} {R:Own} {N:Name->Option Nat}:∀{d:List ac} {c:List Value} {B:List Nat},ah w R N d c B->ah w R (outs N) (arN d) c []
 | [],c,B,h=>by obtain⟨rfl,_⟩:=h;exact aP
 | a::d,c,B,h=>by
  obtain⟨v,f,b1,b2,rfl,rfl,e,b⟩:=au h;exact aD (b1:=[]) (b2:=[]) (atM e) (aq6 b)
def ap2 (a:List Nat) (c b:List ac):List ac:=(a.zip c).foldl (fun t x=>t.set x.1 x.2) b
theorem aqy {w:World} {R:Own} {N:Name->Option Nat} {a:ac} {v:Value} (V:ai w R N a v []):∀{c:List ac} {b:List Value} (d:Nat),ah w R N c b []->ah w R N (c.set d a) (b.set d v) []
 | [],b,d,h=>by grind[ah]
 | x::i,b,d,h=>by
  obtain⟨u,g,b1,b2,rfl,e,f,K⟩:=au h;obtain⟨rfl,rfl⟩:b1=[]/\b2=[]:=by simp_all
  cases d with
  | zero=>grind[aD]
  | succ d=>exact aD (b1:=[]) (b2:=[]) f (aqy V d K)
theorem aq3 {w:World} {R:Own} {N:Name->Option Nat}:∀(b:List Nat) (d:List ac) (c:List Value) {f:List ac} {a:List Value},ah w R N d c []->ah w R N f a []->
  ah w R N (ap2 b d f) ((b.zip c).foldl (fun t x=>t.set x.1 x.2) a) []
 | [],_,_,_,_,_,h=>by simp_all[ap2]
 | _::_,[],c,_,_,V,h=>by
  simp_all[ah,ap2]
 | p::b,v::d,c,f,a,V,h=>by
  obtain⟨u,g,r,Q,rfl,e,i,K⟩:=au V;obtain⟨rfl,rfl⟩:r=[]/\Q=[]:=by simp_all
  have:=aq3 b d g K (aqy i p h)
  simpa [ap2] using this
theorem aso (b:List Nat) (c:List Value) (a:Array Value):((b.toArray.zip c.toArray).foldl (fun t (x:Nat×Value)=>t.setIfInBounds x.1 x.2) a).toList=(b.zip c).foldl (fun t x=>t.set x.1 x.2) a.toList:=by
 rw[←Array.foldl_toList,Array.toList_zip];generalize d:b.zip c=z;clear d
 induction z generalizing a <;> grind
def Round (P:Program) (G:bA) (f:List Nat) (c d:Code) (g h:List ac) (a:Heap) (b:Nat) (K:Heap->Nat->Prop):Prop:=
 cL P G c (fun e s=>e=.normal/\cL P G d (fun e q=>e=.normal/\K q.heap q.next) s) ⟨ap2 f h g,[],a,b⟩
def Und (l:Nat) (a:Loop) (b:List ac) (w:World) (R:Own) (N:Name->Option Nat) (z:List Nat):Prop:=
 l∈z/\w.heap[l]?=some (.loop a)/\R l 0/\ah w R (outs N) b a.tmps.toList []
theorem Und.keep {l:Nat} {c:Loop} {k:List ac} {w n:World} {R e:Own} {N d:Name->Option Nat} {z:List Nat} (h:Und l c k w R N z) (j:bp w R n e z) (q:∀o b,N (.out o)=some b->d (.out o)=some b):Und l c k n e d z:=by
 obtain⟨a,i,f,g⟩:=h;obtain⟨p,K⟩:=j.same l a (bN i);refine⟨a,p.trans i,K _ f,(g.keep (j.sub (by simp))).ext ?_⟩;intro m b r
 cases m <;> grind[outs]
def uv (P:Program) (G:bA) (l:Nat) (b:Loop) (d:List ac) (c:Code) (Q:Exit->aa->Prop) (s:aa):Prop:=
 ∀(w:World) (R:Own) (N:Name->Option Nat) (a:Act) (Z U H z:List Nat),dw G w R N a.tmps.toList s undef .undef [] Z U H z->Und l b d w R N z->∀{D:List Deferred},a.defers=D->
  c.wpR P (Dx G D Q w R N z) a w
variable {l:Nat} {rec:Loop} {ts:List ac}
variable {Q:Exit->aa->Prop} {c:Code} {s:aa}
theorem afu (h:cL P G c Q s):uv P G l rec ts c Q s:=fun w R N a Z U H z b _ _ D=>h w R N a Z U H z b D
theorem atp {x y:Code} (h:uv P G l rec ts x (fun e p=>match e with|.normal=>uv P G l rec ts y Q p|e=>Q e p) s):uv P G l rec ts (.seq x y) Q s:=by
 intro w R N q Z U H z S J D O
 apply aqj
 refine lp (h w R N q Z U H z S J O) ?_;rintro e a V ⟨p,F,E,f,d,c,I,m,k,v,r⟩
 cases e with
 | normal=>
  refine lp (I V F E a f d c z m (J.keep v r) k) ?_;rintro e W X ⟨T,M,L,j,i,g,B,C,u,A,t⟩;exact⟨T,M,L,j,i,g,B,C,u,v.trans A,fun o b h=>t o b (r o b h)⟩
 | _=>exact⟨p,F,E,f,d,c,I,m,k,v,r⟩
theorem ash {id:Nat} (h:uv P G l rec ts c (fun e k=>match e with|.normal=>Q .normal k|.exit i=>if i=id then Q .normal k else Q (.exit i) k|e=>Q e k) s):uv P G l rec ts (.block id c) Q s:=by
 intro w R N r Z U H z x y D v
 apply amW
 refine lp (h w R N r Z U H z x y v) ?_;rintro e a B ⟨k,o,n,f,d,b,m,j,g,q,p⟩
 cases e with
 | normal=>exact⟨k,o,n,f,d,b,m,j,g,q,p⟩
 | exit i=>
  simp only[Exit.inBlock]
  by_cases t:i=id
  ·subst t;rw[if_pos rfl];simp at m;exact⟨k,o,n,f,d,b,m,j,g,q,p⟩
  rw[if_neg t];simp only[if_neg t] at m;exact⟨k,o,n,f,d,b,m,j,g,q,p⟩
 | _=>exact⟨k,o,n,f,d,b,m,j,g,q,p⟩
theorem asG {c:Operand} {x y:Code} {t:Bool} (f:fm G s c=.dat (.flat (.bool t))) (h:uv P G l rec ts (if t then x else y) Q s):uv P G l rec ts (.cond c x y) Q s:=by
 intro w R N b Z U H z d j D g;obtain⟨m,a⟩:=qw d.tmps d.glob c;rw[f] at a;obtain⟨_,i,_⟩:=aC a;exact aoo i (h w R N b Z U H z d j g)
theorem asE {α:Type} (M J:List Nat) (L:α->aa) (K:α->Prop) (μ:α->Nat) (x0:α) (h0:K x0) (hs:s.keep M J=L x0)
  (j:∀x,K x->uv P G l rec ts c (xU (fun s'=>∃k,K k/\μ k < μ x/\s'.keep M J=L k) Q) (L x)):uv P G l rec ts (.loop c) Q s:=by
 intro w R N ae Z U H z hr hu D hd;refine S6 (I:=fun n a O=>∃x F E f d g,K x/\μ x=n/\dw G O F E a.tmps.toList (L x) undef .undef [] f d g z/\a.defers=D/\bp w R O F z/\(∀o b,N (.out o)=some b->E (.out o)=some b)) (n0:=μ x0) ?_ ?_
 ·obtain⟨f,d,A⟩:=hr.forget M J;grind[aZ]
 rintro n a O ⟨x,F,E,f,d,g,X,rfl,A,T,V,S⟩;refine lp (j x X O F E a f d g z A (hu.keep V S) T) ?_;rintro e a2 w2 ⟨s2,R2,N2,q,m,i,hq,B,u,v,t⟩
 cases e with
 | normal=>
  obtain⟨k,y,W,Y⟩:=hq;obtain⟨r,p,C⟩:=B.forget M J;rw[Y] at C;exact⟨μ k,W,k,R2,N2,r,p,i,y,rfl,C,u,V.trans v,fun o b h=>t o b (S o b h)⟩
 | _=>exact⟨s2,R2,N2,q,m,i,hq,B,u,V.trans v,fun o b h=>t o b (S o b h)⟩
theorem arJ {f:Option Nat} {Q:Exit->Act->World->Prop} {a:Act} {w:World} (h:c.wpIn (rdF f) 1 P Q a w):c.wpIn (rdF f) 0 P Q a w:=fun b k g e i _=>h b k g e i (by intro d D;simp[Fence.wide] at D)
theorem arH {rd:Option Nat} {D:List Deferred} {a0:Array Oper} {i:Nat} {o:Oper} (hi:a0[i]?=some o) {t:Nat} {u:Array Operand} {ca:Array TypeId} (O:o.op=.call ⟨.value (.tmp t),u,ca⟩) (hw:dC a0.toList s o.guard=some true)
  (J:bq s.tmps t=.fn (.yield l) [] []) (b2:u.size=rec.params.size) (b5:rec.state=.ready) (cc:rec.pending=none) (bx:aW (aE G s none 0 u.toList)=true) {K:aa->Prop}
  (h:Round P G rec.params.toList rec.assign rec.body ts (aE G s none 0 u.toList) s.heap s.next (fun heap next=>K (({s with heap:=heap,next:=next }:aa).put o.dst (.dat (.flat (.bool true))))))
  {Qx:Exit->Act->World->Prop} {w:World} {R:Own} {N:Name->Option Nat} {f:Act} {Z U H z:List Nat} (r:dw G w R N f.tmps.toList s undef .undef [] Z U H z) (hu:Und l rec ts w R N z) (hd:f.defers=D) :
  wpOpIn (rdF rd) 1 P a0 Qx i (Sm G D K w R N z) f w:=by
 obtain⟨bo,hl,bk,b7⟩:=hu;unfold wpOpIn;simp only[hi];rw[ke r.tmps hw,if_pos rfl];refine⟨fun _ _=>trivial,?_⟩;obtain⟨bt,L⟩:=qw r.tmps r.glob (.tmp t);rw[show fm G s (.tmp t)=.fn (.yield l) [] [] from J] at L;simp only[ai] at L;obtain⟨_,cg,cf,L,be,bd⟩:=L;obtain⟨rfl,_⟩:=aM be;obtain⟨rfl,_⟩:=aM bd;have am:ah w R N (aE G s none 0 u.toList) (u.toList.map f.eval) []:=kU r.tmps r.glob none 0 _ (by simp);have V:ah w R (outs N) (aE G s none 0 u.toList) (u.toList.map f.eval) []:=am.yi bx (fun _=>rfl);have b6:(u.map f.eval).size=rec.params.size:=by simpa using b2
 have bc:(o.semAt rd f.eval).run P w=.ok (.round l rec.fn ((rec.params.zip (u.map f.eval)).foldl (fun T (x:Nat×Value)=>T.setIfInBounds x.1 x.2) rec.tmps) rec.assign rec.body) w:=by
  have hs:o.semAt rd f.eval=execOp f.eval o:=by
   unfold Oper.semAt
   cases rd with
   | none=>rfl
   | some l=>rw[O]
  have hy:=run_yield (P:=P) (args:=u.map f.eval) hl b6;rw[hs];simp[execOp,O,resolve,L,Deferred.ofValue,invoke,hy]
 rw[bc,Oper.uponIn_round];refine⟨by simp[Fence.wide],roundIn_of_wpIn (F:=rdF rd) trivial ?_⟩;have a8:(Z++(U++(H++z))).Nodup:=by simpa using r.nodup
 have b3:dw G w R (outs N) ((rec.params.zip (u.map f.eval)).foldl (fun T (x:Nat×Value)=>T.setIfInBounds x.1 x.2) rec.tmps).toList ⟨ap2 rec.params.toList (aE G s none 0 u.toList) ts,[],s.heap,s.next⟩ undef .undef [] [] [] H (Z++(U++z)):=by
  refine⟨aJ _,?_,rfl,r.heap.tO (fun _=>rfl),?_,fun o b j=>r.next o b j,r.glob,?_⟩
  ·have e:=aso rec.params.toList (u.toList.map f.eval) rec.tmps;rw[show rec.params.toList.toArray=rec.params by simp,show (u.toList.map f.eval).toArray=u.map f.eval from Array.ext' (by simp)] at e;rw[e];exact aq3 _ _ _ V b7
  ·have hp:([]++([]++([]++(H++(Z++(U++z)))))).Perm (Z++(U++(H++z))):=by
    rw[List.perm_iff_count];intro q;simp only[List.count_append,List.count_nil];omega
   exact hp.nodup_iff.2 a8
  intro b j;simp at j
  rcases j with h|h|h
  ·exact r.tmps.lt b h
  ·exact r.locs.lt b h
  exact r.frame b h
 have S:l∈Z++(U++z):=by simp[bo]
 refine arJ (wpIn_mono (h w R (outs N) ⟨_,[]⟩ [] [] H (Z++(U++z)) b3 (D:=[]) rfl (some l)) ?_);rintro e a1 w1 ⟨s1,R1,N1,ag,ae,ad,⟨rfl,bl⟩,k,bm,aq,bf⟩;obtain⟨k1,k2⟩:=aq.same l S (bN hl);have av:=k1.trans hl;have a4:=k2 _ bk;have E:∀{I A B C:List Nat},([]++(A++(B++(C++(Z++(U++z)))))).Nodup->(∀b∈I,b∈A++(B++C))->l∉I:=by
  intro I A B C bw j hx;have hp:([]++(A++(B++(C++(Z++(U++z)))))).Perm ((A++(B++C))++(Z++(U++z))):=by
   rw[List.perm_iff_count];intro q;simp only[List.count_append,List.count_nil];omega
  exact (List.nodup_append.1 (hp.nodup_iff.1 bw)).2.2 _ (j _ hx) _ S rfl
 refine⟨_,run_beginRound av b5,?_⟩;have p:∀I,l∉I->bp w1 R1 (w1.putObj l (.loop {rec with state:=.busy })) R1 I:=fun I j=>aoj av rfl rfl a4 I j
 have az:(w1.putObj l (.loop {rec with state:=.busy })).heap[l]?=some (.loop {rec with state:=.busy }):=World.putObj_heap_same (bN av);generalize w1.putObj l (.loop {rec with state:=.busy })=w2 at p az ⊢;have b4:dw G w2 R1 N1 a1.tmps.toList s1 undef .undef [] ag ae ad (Z++(U++z)):=
  ⟨aJ _,k.tmps.keep (p _ (E k.nodup (by intro b j;simp[j]))),k.locs.keep (p _ (E k.nodup (by intro b j;simp[j]))),k.heap.keep (p _ (E k.nodup (by intro b j;simp[j]))),k.nodup,k.next,
   fun g cs J=>(k.glob g cs J).step (p [] (by simp)).step,fun b j=>Nat.lt_of_lt_of_le (k.frame b j) (p [] (by simp)).step.size⟩
 refine arJ (wpIn_mono (bl w2 R1 N1 a1 ag ae ad (Z++(U++z)) b4 bm (some l)) ?_);rintro e a2 w3 ⟨q,R3,N3,al,af,n,⟨rfl,hK⟩,Y,cb,ar,bg⟩;obtain⟨M,k4⟩:=ar.same l S (bN az);have ax:=M.trans az;have bi:=k4 _ a4;have a6:=run_endRound (P:=P) none ax;have ba:({({rec with state:=.busy }:Loop) with state:=.ready,pending:=none }:Loop)=rec:=by cases rec;simp_all
 refine⟨_,_,a6,?_⟩;simp only[Option.isNone_none,if_true];rw[ba];have W:∀I,l∉I->bp w3 R3 (w3.putObj l (.loop rec)) R3 I:=fun I j=>aoj ax rfl rfl bi I j
 have a7:(w3.putObj l (.loop rec)).heap[l]?=some (.loop rec):=World.putObj_heap_same (bN ax);generalize w3.putObj l (.loop rec)=w4 at W a7 ⊢;have y:Step w R w4 R3:=((aq.step.trans (p [] (by simp)).step).trans ar.step).trans (W [] (by simp)).step;have v:bp w R w4 R3 (Z++(U++z)):=⟨y,fun c hc bu=>by
  by_cases a5:c=l
  ·subst a5;exact⟨a7.trans hl.symm,fun ce O=>k4 _ (k2 _ O)⟩
  have hx:l∉[c]:=by simp;exact fun e=>a5 e.symm
  exact ((((aq.sub (by simpa using hc)).trans (p [c] hx)).trans (ar.sub (by simpa using hc))).trans (W [c] hx)).same c (by simp) bu⟩
 let N4:Name->Option Nat:=fun m=>match m with|.loc i=>N (.loc i)|.out o=>N3 (.out o)
 have Q:∀m c,N m=some c->N4 m=some c:=fun m c hm=>by cases m with|loc i=>exact hm|out o=>exact bg o c (bf o c hm)
 have a9:(Z++(U++(n++z))).Nodup:=by
  have hp:([]++(al++(af++(n++(Z++(U++z)))))).Perm ((al++af)++(Z++(U++(n++z)))):=by
   rw[List.perm_iff_count];intro q;simp only[List.count_append,List.count_nil];omega
  exact (List.nodup_append.1 (hp.nodup_iff.1 Y.nodup)).2.1
 obtain⟨a3,b0,b1⟩:=fW (s:={s with heap:=q.heap,next:=q.next }) (N:=N4) o.dst ((r.tmps.keep (v.sub (by intro b j;simp[j]))).ext Q) (bQ (d:=.flat (.bool true)) (.flat rfl)) (b:=[]) (X:=U++(n++z)) (by simpa using a9);obtain⟨q1,q2,q3⟩:=dB {s with heap:=q.heap,next:=q.next } o.dst (.dat (.flat (.bool true)));obtain⟨b8,b9⟩:=ga f o.dst (.bool true);refine⟨_,R3,N4,a3,U,n,hK,⟨aJ _,by rw[b8];exact b0,?_,?_,by simpa using b1,?_,fun g cs J=>(r.glob g cs J).step y,fun b j=>Nat.lt_of_lt_of_le (r.frame b j) y.size⟩,by rw[b9];exact hd,v.sub (by intro b j;simp[j]),fun o b j=>Q _ _ j⟩
 ·rw[q1];exact (r.locs.keep (v.sub (by intro b j;simp[j]))).ext Q
 ·rw[q2];exact (Y.heap.keep (W _ (E Y.nodup (by intro b j;simp[j])))).tO (fun _=>rfl)
 rw[q3];exact fun o b j=>Y.next o b j
def ao1 (P:Program) (E:bz) (G:bA) (H:Hints) (l:Nat) (a:Loop) (e:List ac) (b:List Oper) (Q:aa->Prop):List Oper->aa->Prop
 | [],s=>Q s
 | o::c,s=>mT (ay P G) E G H b o (ao1 P E G H l a e b Q c) s ∨
  ∃t d f,o.op=.call ⟨.value (.tmp t),d,f⟩/\dC b s o.guard=some true/\bq s.tmps t=.fn (.yield l) [] []/\d.size=a.params.size/\aW (aE G s none 0 d.toList)=true ∧
   Round P G a.params.toList a.assign a.body e (aE G s none 0 d.toList) s.heap s.next (fun heap next=>ao1 P E G H l a e b Q c (({s with heap:=heap,next:=next }:aa).put o.dst (.dat (.flat (.bool true)))))
theorem aqs (W:E.Ok P) (K:rec.state=.ready) (F:rec.pending=none) {S:Option Nat} {D:List Deferred} (e:Array Oper) (Q:aa->Prop) (x:Exit->Act->World->Prop) :
  ∀(d:List Oper) (k:Nat) (s:aa),e.toList.drop k=d->ao1 P E G H l rec ts e.toList Q d s->∀(w:World) (R:Own) (N:Name->Option Nat) (f:Act) (Z U g z:List Nat),
   dw G w R N f.tmps.toList s undef .undef [] Z U g z->Und l rec ts w R N z->f.defers=D->(∀y A,Sm G D Q w R N z y A->x .normal y A)->wpOpsIn (rdF S) 1 P e x (List.range' k d.length) f w
 | [],k,s,_,h,w,R,N,f,Z,U,g,z,M,_,L,B=>by
  exact B _ _ ⟨s,R,N,Z,U,g,h,M,L,aZ _,fun _ _ h=>h⟩
 | o::d,k,s,p,h,w,R,N,f,Z,U,g,z,M,hu,L,B=>by
  have ae:e[k]?=some o:=by
   have:=List.getElem?_drop (xs:=e.toList) (i:=k) (j:=0)
   grind
  have m:e.toList.drop (k+1)=d:=by rw[←List.drop_drop,p];rfl
  simp only[List.length_cons,List.range'_succ];have a:wpOpIn (rdF S) 1 P e x k (Sm G D (ao1 P E G H l rec ts e.toList Q d) w R N z) f w:=by
   rcases h with h|⟨t,xs,ag,O,hw,J,af,ad,hR⟩
   ·grind[jv]
   grind[arH]
  refine wpOpIn_mono ?_ a;rintro y A ⟨s',X,V,u,r,q,hq,I,C,v,c⟩;exact aqs W K F e Q x d (k+1) s' m hq A X V y u r q z I (hu.keep v c) C (fun Y w2 b=>B Y w2 (b.trans v c))
theorem ary (W:E.Ok P) (f:rec.state=.ready) (e:rec.pending=none) {id:Nat} {a:Array Oper} (h:ao1 P E G H l rec ts a.toList (Q .normal) a.toList s):uv P G l rec ts (.region id a false) Q s:=by
 intro w R N c Z U d z i j D g;refine aov fun m=>?_
 rw[List.range_eq_range',←Array.length_toList];exact aqs W f e a (Q .normal) _ a.toList 0 s (by simp) h w R N c Z U d z i j g (fun _ _ h=>h)
theorem avM (W:E.Ok P) {f:FuncId} {C:Func} (hf:P.funcs[f]?=some C) (d:C.body=some c) {y:List ac} {s:Heap} {t:Nat} {K:Heap->Nat->Prop}
  (h:uv P G l rec ts c (adO E C.results.toList (fun _ s t=>K s t)) (enter C.ntmps y s t)) :
  ∀(w:World) (R:Own) (N:Name->Option Nat) (r:List Value) (z H bsF:List Nat),ah w R (outs N) y r z->aj w R (outs N) s H->(z++(H++bsF)).Nodup->(∀o b,N (.out o)=some b->o < t)->
   (∀g cs,G g=some cs->aed w R g cs)->(∀b∈bsF,b < w.heap.size)->Und l rec ts w R (outs N) bsF->Calls P f r.toArray w (fun e B=>∃M v k p u q x j,e=.returned v/\K k p/\ai B u (outs q) M v x/\aj B u (outs q) k j ∧
   (x++(j++bsF)).Nodup/\(∀o b,q (.out o)=some b->o < p)/\bp w R B u bsF/\(∀o b,N (.out o)=some b->q (.out o)=some b)):=by
 intro w R N r z H bsF A hh T V J hF hu;refine (callsIn_wide (n:=1)).1 (callsIn_of_wp_marks hf d trivial ?_ rfl);rw[wpIn_wide];have F:=A.length;have hr:dw G w R (outs N) ((r.toArray++Array.replicate (C.ntmps - r.toArray.size) undef).toList) (enter C.ntmps y s t) undef .undef [] z [] H bsF:=by
  refine⟨aJ _,?_,rfl,?_,by simpa using T,?_,J,hF⟩
  ·have:=ct A (wY (w:=w) (R:=R) (N:=outs N) (C.ntmps - y.length))
   simpa [enter,F] using this
  ·exact hh.ext (fun m b hm=>by cases m with|loc i=>simp[outs] at hm|out o=>exact hm)
  intro o b O;exact V o b O
 refine wp_mono (apK (h w R (outs N) _ z [] H bsF hr hu rfl)) ?_;rintro e a B ⟨s',R',N',Z,U,ae,D,X,Q,hk,hN⟩;have L:ye E C.results.toList (fun _ s t=>K s t) s'->LeavesInM Fence.wide 1 P C a.tmps (fun e B=>∃M v k p u q x j,e=.returned v/\K k p/\ai B u (outs q) M v x/\aj B u (outs q) k j ∧
   (x++(j++bsF)).Nodup/\(∀o b,q (.out o)=some b->o < p)/\bp w R B u bsF/\(∀o b,N (.out o)=some b->q (.out o)=some b)) a.defers .returning B:=by
  intro I;rw[Q];refine aoD (w:=w) (R:=R) (bsF:=bsF) ?_ [] B R' (by simpa using X) (by simp) hk;intro w1 R1 Y S;obtain⟨v,g1,M,k,p,u,q,x,j,q1,q2,q3,q4,q5,q6,q7⟩:=Ka W I Y;exact⟨v,g1,M,v,k,p,u,q,x,j,rfl,q1,q2,q3,q4,q5,S.trans q6,fun o b h=>q7 o b (hN o b h)⟩
 cases e with
 | ret=>exact L D
 | normal=>exact L D
 | exit i=>exact D.elim
 | goto l=>exact D.elim
 | panic ch=>exact D.elim
 | outgrown=>exact D.elim
theorem ar7 (W:E.Ok P) {t gf:Nat} {ps:Array Tmp} {ag bd:Code} {captured:List ac} {S:Func} {ci:Code} {K:Heap->Nat->Prop} (b3:P.funcs[gf]?=some S) (bm:S.body=some ci) (J:bq s.tmps t=.fn (.func gf) [] captured) (b4:E.fn gf=true) (b9:aW captured=true)
  (h:∀l f,f.state=.ready->f.pending=none->f.params=ps->f.assign=ag->f.body=bd->uv P G l f (arN s.tmps) ci (adO E S.results.toList (fun _ heap next=>K heap next)) (enter S.ntmps (.fn (.yield l) [] []::captured) s.heap s.next))
  (hQ:∀heap next,K heap next->Q .normal {s with heap:=heap,next:=next }):sD P G (.rangeFunc (.tmp t) ps ag bd) Q s:=by
 intro w R N a0 Z U H C rs k D b8;obtain⟨z,x⟩:∃z,rs++C=z:=⟨_,rfl⟩;rw[x] at k;have b7:∀b∈rs,b∈z:=fun b d=>by rw[←x];simp[d]
 obtain⟨bi,bw,bx,b0⟩:=W.fn gf b4;obtain⟨c',a7⟩:=Option.isSome_iff_exists.1 bx;have eg:∀args w,(callFunc gf args).run P w=.ok (.enter gf args) w:=fun args w=>by
  have a:bi.name≠ "runtime.NumGoroutine":=by simpa using b0
  simp[callFunc,bw,a,a7,mark]
 obtain⟨bt,A⟩:=qw k.tmps k.glob (.tmp t);rw[show fm G s (.tmp t)=.fn (.func gf) [] captured from J] at A;simp only[ai] at A;obtain⟨_,vs,us,A,cc,cb⟩:=A;obtain⟨rfl,_⟩:=aM cc;have A:a0.eval (.tmp t)=.func (.func gf) #[] us.toArray:=A;rw[←wpIn_wide (n:=1)];refine wpIn_rangeFunc ?_;intro fn _;obtain⟨f,j⟩:∃f:Loop,f={state:=.ready,pending:=none,fn,tmps:=a0.tmps,params:=ps,assign:=ag,body:=bd,defers:=w.heap.size }:=⟨_,rfl⟩;obtain⟨y,F⟩:∃y,(w.alloc (.deferred (some []))).alloc (.loop f)=y:=⟨_,rfl⟩;have a2:y.heap[w.heap.size+1]?=some (.loop f):=by
  rw[←F];have:=World.alloc_heap_new (w.alloc (.deferred (some []))) (.loop f);rwa [World.size_alloc] at this
 have bk:y.heap[w.heap.size]?=some (.deferred (some [])):=by
  rw[←F];exact (Below.heap_alloc _ _ _ (by simp)).trans (World.alloc_heap_new w _)
 let R0:Own:=R.more w.heap.size
 let R1:Own:=R0.more (w.heap.size+1)
 have I:∀B,bp w R y R1 B:=by
  intro B;have k1:=gx (w:=w) (R:=R) (.deferred (some [])) (R':=R0) (fun b cf d=>Own.qj d) B;have k2:=gx (w:=w.alloc (.deferred (some []))) (R:=R0) (.loop f) (R':=R1) (fun b cf d=>Own.qj (by rwa [World.size_alloc] at d)) B;rw[F] at k2;exact k1.trans k2
 refine⟨w.heap.size+1,[{target:=.collected w.heap.size,args:=#[]}],y,{target:=.fn (.func gf) us.toArray,args:=#[.func (.yield (w.heap.size+1)) #[] #[]]},y,gf,
  #[.func (.yield (w.heap.size+1)) #[] #[]]++us.toArray,y,?_,?_,?_,?_,fun _=>Nat.le_refl _,?_⟩
 ·rw[←F,j];exact run_enterLoop_outer _ _ _ _ _
 ·simp only[resolve,A];simp[go_sem]
 ·intro _ _;trivial
 ·simp[invoke,go_sem,eg]
 ·refine callsIn_wide.2 ?_;have al:ah y R1 (outs N) (.fn (.yield (w.heap.size+1)) [] []::captured) (.func (.yield (w.heap.size+1)) #[] #[]::us) []:=by
   have a:ah y R1 N captured us []:=cb.keep (I []);have h2:ah y R1 (outs N) captured us []:=a.yi b9 (fun _=>rfl);simpa using aD (b1:=[]) (b2:=[]) (show ai y R1 (outs N) (.fn (.yield (w.heap.size+1)) [] []) (.func (.yield (w.heap.size+1)) #[] #[]) [] by simp only[ai];exact⟨trivial,[],[],rfl,aP,aP⟩) h2
  have bc:(Z++(U++(H++z))).Nodup:=by simpa using k.nodup
  have ba:∀b∈Z++(U++(H++z)),b < w.heap.size:=by
   intro b d;simp at d
   rcases d with h|h|h|h
   ·exact k.tmps.lt b h
   ·exact k.locs.lt b h
   ·exact k.heap.lt b h
   exact k.frame b h
  have be:([]++(H++(Z++(U++((w.heap.size+1)::w.heap.size::z))))).Nodup:=by
   have hp:([]++(H++(Z++(U++((w.heap.size+1)::w.heap.size::z))))).Perm ((w.heap.size+1)::w.heap.size::(Z++(U++(H++z)))):=by
    rw[List.perm_iff_count];intro q;simp only[List.count_append,List.count_cons,List.count_nil];omega
   refine hp.nodup_iff.2 (List.nodup_cons.2 ⟨?_,List.nodup_cons.2 ⟨fun p=>?_,bc⟩⟩)
   ·intro p
    rcases List.mem_cons.1 p with p|p
    ·omega
    have:=ba _ p;omega
   have:=ba _ p;omega
  have Y:y.heap.size=w.heap.size+2:=by rw[←F];simp
  have bg:Und (w.heap.size+1) f (arN s.tmps) y R1 (outs N) (Z++(U++((w.heap.size+1)::w.heap.size::z))):=by
   refine⟨by simp,a2,.inl rfl,?_⟩;rw[j];exact ((aq6 k.tmps).keep (I [])).ext (fun m c p=>by cases m with|loc i=>simp[outs] at p|out o=>exact p)
  have am:=avM W b3 bm (h (w.heap.size+1) f (by rw[j]) (by rw[j]) (by rw[j]) (by rw[j]) (by rw[j])) y R1 N _ [] H (Z++(U++((w.heap.size+1)::w.heap.size::z))) al (k.heap.keep (I _)) be k.next (fun g cs J=>(k.glob g cs J).step (I []).step) (by
   intro b d;rw[Y];simp at d
   rcases d with h|h|h|h|h
   ·have:=k.tmps.lt b h;omega
   ·have:=k.locs.lt b h;omega
   ·omega
   ·omega
   have:=k.frame b h;omega) bg
  have bo:(#[.func (.yield (w.heap.size+1)) #[] #[]]++us.toArray:Array Value)=(.func (.yield (w.heap.size+1)) #[] #[]::us).toArray:=by simp
  rw[bo];refine am.mono ?_;rintro e W2 ⟨v,cv,bu,ce,O,N2,a1,u,rfl,bl,_,b5,af,bf,V,a4⟩;obtain⟨l1,l2⟩:=V.same (w.heap.size+1) (by simp) (by rw[Y];omega);obtain⟨m1,m2⟩:=V.same w.heap.size (by simp) (by rw[Y];omega);have a3:W2.heap[w.heap.size+1]?=some (.loop f):=l1.trans a2;have ad:=run_endLoop (P:=P) a3 (by rw[j];simp);have ca:f.pending=none:=by rw[j]
  rw[ca] at ad;refine⟨none,_,ad,?_⟩
  -- the states put together
  let N3:Name->Option Nat:=fun m=>match m with|.loc i=>N (.loc i)|.out o=>N2 (.out o)
  have ae:∀m c,N m=some c->N3 m=some c:=fun m c p=>by cases m with|loc i=>exact p|out o=>exact a4 o c p
  have a5:O (w.heap.size+1) 0:=l2 _ (.inl rfl);have a6:O w.heap.size 0:=m2 _ (.inr (.inl rfl));have L:∀B,(∀b∈B,b∈Z++(U++((w.heap.size+1)::w.heap.size::z)))->bp w R W2 O B:=fun B d=>(I B).trans (V.sub d)
  have M:∀B,(w.heap.size+1)∉B->bp W2 O (W2.putObj (w.heap.size+1) (.loop {f with state:=.exhausted,pending:=none })) O B:=fun B d=>aoj a3 rfl rfl a5 B d
  have az:(w.heap.size+1)∉Z:=fun p=>by have:=k.tmps.lt _ p;omega
  have ax:(w.heap.size+1)∉U:=fun p=>by have:=k.locs.lt _ p;omega
  have ar:(w.heap.size+1)∉z:=fun p=>by have:=k.frame _ p;omega
  have aq:=af;have av:(w.heap.size+1)∉u:=by
   intro p
   have:=(List.nodup_append.1 ((List.nodup_append.1 aq).2.1)).2.2
   exact this _ p (w.heap.size+1) (by simp) rfl
  have a9:bp w R _ O Z:=(L Z (by intro b d;simp[d])).trans (M Z az);have b6:bp w R _ O U:=(L U (by intro b d;simp[d])).trans (M U ax);have a8:bp w R _ O z:=(L z (by intro b d;simp[d])).trans (M z ar);refine⟨w.heap.size::rs,_,O,N3,Z,U,u,hQ _ _ bl,⟨aJ _,(k.tmps.keep a9).ext ae,(k.locs.keep b6).ext ae,?_,?_,bf,fun g cs J=>(k.glob g cs J).step a9.step,?_⟩,?_,?_,a8.sub (by intro b d;rw[←x];simp[d]),a4⟩
  ·exact (b5.keep (M u av)).tO (N:=N2) (N':=N3) (fun _=>rfl)
  ·rw[show (w.heap.size::rs)++C=[w.heap.size]++z by rw[←x];rfl];have hp:(a1++(u++(Z++(U++((w.heap.size+1)::w.heap.size::z))))).Perm (((w.heap.size+1)::a1)++([]++(Z++(U++(u++([w.heap.size]++z)))))):=by
    rw[List.perm_iff_count];intro q;simp only[List.count_append,List.count_cons,List.count_nil];omega
   exact (List.nodup_append.1 (hp.nodup_iff.1 af)).2.1
  ·rw[show (w.heap.size::rs)++C=[w.heap.size]++z by rw[←x];rfl];intro b d;refine Nat.lt_of_lt_of_le ?_ (M [] (by simp)).step.size;refine Nat.lt_of_lt_of_le ?_ V.step.size;rw[Y];simp at d
   rcases d with rfl|h
   ·omega
   have:=k.frame b h;omega
  ·simp[D,arO]
  intro r X;simp at X
  rcases X with rfl|X
  ·refine⟨?_,a6⟩;rw[World.putObj_heap_other (by omega)];exact m1.trans bk
  exact b8.keep a8 b7 r X
end
end Go.Tp
namespace Go.Tp
open Go.RowKit
theorem apx {w:World} {R:Own} {N:Name->Option Nat} {s f:List (Name×aL)} (v:s.Perm f):∀{B:List Nat},aj w R N s B->∃e,B.Perm e/\aj w R N f e:=by
 induction v with
 | nil=>grind
 | cons x _ z=>
  intro B h;obtain⟨n,o⟩:=x;obtain⟨b,r,Q,rfl,i,a,t⟩:=h;obtain⟨d,p,g⟩:=z t;exact⟨b::(r++d),(List.Perm.append_left r p).cons b,b,r,d,rfl,i,a,g⟩
 | swap x y l=>
  intro B h;obtain⟨n,o⟩:=x;obtain⟨m,q⟩:=y;obtain⟨b,r,Q,rfl,i,a,c,j,k,rfl,u,D,K⟩:=h;refine⟨c::(j++(b::(r++k))),?_,c,j,_,rfl,u,D,b,r,k,rfl,i,a,K⟩;grind
 | trans _ _ A C=>
  grind
section
variable {P:Program} {E:bz} {G:bA} {H:Hints}
abbrev Gst (γ:Type):=γ->World->Own->(Name->Option Nat)->List Nat->Prop
def Gst.arF {γ:Type} (J:Gst γ):Prop:=∀{g:γ} {w e:World} {R d:Own} {N c:Name->Option Nat} {a:List Nat},J g w R N a->bp w R e d a->(∀o b,N (.out o)=some b->c (.out o)=some b)->J g e d c a
def ata (P:Program) (G:bA) {γ:Type} (J:Gst γ) (D:List Deferred) (Q:Exit->aa->γ->Prop) (w:World) (R:Own) (N:Name->Option Nat) (c z:List Nat):Exit->Act->World->Prop:=fun e a g=>
 ∃i h f d Z U H,Q e i h/\dw G g f d a.tmps.toList i undef .undef [] Z U H (c++z)/\J h g f d c/\a.defers=D/\bp w R g f z/\(∀o b,N (.out o)=some b->d (.out o)=some b)
def vw (P:Program) (G:bA) {γ:Type} (J:Gst γ) (c:Code) (Q:Exit->aa->γ->Prop) (s:aa) (g:γ):Prop:=
 ∀(w:World) (R:Own) (N:Name->Option Nat) (a:Act) (Z U H b z:List Nat),dw G w R N a.tmps.toList s undef .undef [] Z U H (b++z)->J g w R N b->∀{D:List Deferred},a.defers=D->
  c.wpR P (ata P G J D Q w R N b z) a w
variable {γ:Type} {J:Gst γ}
variable {D:List Deferred} {N:Name->Option Nat} {Qx:Exit->Act->World->Prop} {R:Own} {U Z z:List Nat} {o:Oper} {s:aa} {w:World}
theorem afA (r:J.arF) {c:Code} {Q:Exit->aa->γ->Prop} {g:γ} (h:cL P G c (fun e m=>Q e m g) s):vw P G J c Q s g:=by
 intro w R N i Z U H j z x u D t;refine lp (h w R N i Z U H (j++z) x t) ?_;rintro e a y ⟨m,q,p,f,d,b,v,l,k,o,n⟩;exact⟨m,g,q,p,f,d,b,v,l,r u (o.sub (by grind)) n,k,o.sub (by grind),n⟩
theorem ata.trans {Q:Exit->aa->γ->Prop} {j:World} {i:Own} {g:Name->Option Nat} {d:List Nat} (s:bp w R j i z) (p:∀o b,N (.out o)=some b->g (.out o)=some b) {e:Exit} {a:Act} {k:World}
  (h:ata P G J D Q j i g d z e a k):ata P G J D Q w R N d z e a k:=by
 obtain⟨s',n,m,l,Z,U,H,t,u,r,q,f,c⟩:=h;exact⟨s',n,m,l,Z,U,H,t,u,r,q,s.trans f,fun o b h=>c o b (p o b h)⟩
theorem atr {x y:Code} {Q:Exit->aa->γ->Prop} {g:γ} (h:vw P G J x (fun e m l=>match e with|.normal=>vw P G J y Q m l|e=>Q e m l) s g):vw P G J (.seq x y) Q s g:=by
 intro w R N n Z U H f z A v D u
 apply aqj
 refine lp (h w R N n Z U H f z A v u) ?_;rintro e a B ⟨m,l,p,o,d,c,b,t,k,j,i,r,q⟩
 cases e with
 | normal=>exact lp (t B p o a d c b f z k j i) (fun e a w h=>h.trans r q)
 | _=>exact⟨m,l,p,o,d,c,b,t,k,j,i,r,q⟩
theorem asm {id:Nat} {c:Code} {Q:Exit->aa->γ->Prop} {g:γ} (h:vw P G J c (fun e n j=>match e with|.normal=>Q .normal n j|.exit i=>if i=id then Q .normal n j else Q (.exit i) n j|e=>Q e n j) s g):vw P G J (.block id c) Q s g:=by
 intro w R N u Z U H v z B A D y
 apply amW
 refine lp (h w R N u Z U H v z B A y) ?_;rintro e a C ⟨n,j,q,p,f,d,b,o,m,l,k,t,r⟩
 cases e with
 | normal=>exact⟨n,j,q,p,f,d,b,o,m,l,k,t,r⟩
 | exit i=>
  simp only[Exit.inBlock]
  by_cases x:i=id
  ·subst x;rw[if_pos rfl];simp at o;exact⟨n,j,q,p,f,d,b,o,m,l,k,t,r⟩
  rw[if_neg x];simp only[if_neg x] at o;exact⟨n,j,q,p,f,d,b,o,m,l,k,t,r⟩
 | _=>exact⟨n,j,q,p,f,d,b,o,m,l,k,t,r⟩
theorem asM {c:Operand} {x y:Code} {Q:Exit->aa->γ->Prop} {g:γ} {t:Bool} (f:fm G s c=.dat (.flat (.bool t))) (h:vw P G J (if t then x else y) Q s g):vw P G J (.cond c x y) Q s g:=by
 intro w R N b Z U H d z e k D i;obtain⟨l,a⟩:=qw e.tmps e.glob c;rw[f] at a;obtain⟨_,j,_⟩:=aC a;exact aoo j (h w R N b Z U H d z e k i)
theorem asK {α:Type} {c:Code} {Q:Exit->aa->γ->Prop} {g:γ} (W S:List Nat) (V:α->aa) (O:α->γ) (T:α->Prop) (μ:α->Nat) (X:α) (h0:T X) (hs:s.keep W S=V X) (hg:g=O X)
  (l:∀x,T x->vw P G J c (fun e s' g'=>match e with|.normal=>∃m,T m/\μ m < μ x/\s'.keep W S=V m/\g'=O m|e=>Q e s' g') (V x) (O x)):vw P G J (.loop c) Q s g:=by
 intro w R N al Z U H k z hr hj D hd;subst hg;refine S6 (I:=fun n a M=>∃x q p f d i,T x/\μ x=n/\dw G M q p a.tmps.toList (V x) undef .undef [] f d i (k++z)/\J (O x) M q p k/\a.defers=D/\bp w R M q z/\(∀o b,N (.out o)=some b->p (.out o)=some b)) (n0:=μ X) ?_ ?_
 ·obtain⟨f,d,F⟩:=hr.forget W S;grind[aZ]
 rintro n a M ⟨x,q,p,f,d,i,af,rfl,F,ad,Y,hk,hN⟩;refine lp (l x af M q p a f d i k z F ad Y) ?_;rintro e a2 w2 ⟨s2,g2,R2,N2,u,r,j,hq,K,B,A,C,y⟩
 cases e with
 | normal=>
  obtain⟨m,E,ae,ag,rfl⟩:=hq;obtain⟨v,t,L⟩:=K.forget W S;rw[ag] at L;exact⟨μ m,ae,m,R2,N2,v,t,j,E,rfl,L,B,A,hk.trans C,fun o b h=>y o b (hN o b h)⟩
 | _=>exact⟨s2,g2,R2,N2,u,r,j,hq,K,B,A,hk.trans C,fun o b h=>y o b (hN o b h)⟩
theorem aqz {w:World} {R:Own}:∀{g:List (Value×ak)} {c:List MapEntry} {m:Nat} {k:Value} {d:ak} {e:MapEntry},dQ w R g c->g[m]?=some (k,d)->c[m]?=some e->e.key=k
 | [],_,_,_,_,_,_,h,_=>by grind
 |(p,l)::g,c,m,k,d,e,h,j,o=>by
  obtain⟨n,i,rfl,a,b,f⟩:=h
  cases m with
  | zero=>
   grind
  | succ m=>exact aqz f (by simpa using j) (by grind)
def MIt (j o:Nat) (l:List (Value×ak)):Gst (List Nat):=fun S w R N g=>
 ∃b r c a d seen h,g=[r,b]/\N (.out j)=some b/\N (.out o)=some r/\R b 0/\R r 0/\w.heap[b]?=some (.map c a)/\dQ w R l c.toList/\xO c a/\w.heap[r]?=some (.mapIter (some b) d seen h) ∧
  (∀x∈c.toList,x.born < d)/\d<=h/\d<=a/\(∀i e,c.toList[i]?=some e->(i∈S↔seen.contains e.born=true))/\∀m k,S=m::k->h=a/\∃(e:MapEntry) (f:Array Nat),c.toList[m]?=some e/\seen=f.push e.born
theorem aiy {j o:Nat} {n:List (Value×ak)}:(MIt j o n).arF:=by
 rintro S w z R y N x l ⟨b,r,c,d,e,seen,m,rfl,a,p,f,g,G,q,s,i,t⟩ h k;obtain⟨u,K⟩:=h.same r (by simp) (bN i);obtain⟨M,v⟩:=h.same b (by simp) (bN G);exact⟨b,r,c,d,e,seen,m,rfl,k _ _ a,k _ _ p,v _ f,K _ g,M.trans G,q.step h.step,s,u.trans i,t⟩
theorem ato {w':World} {r:Nat} {m n:Option Nat} {s p c l:Nat} {seen f:Array Nat} (h:w.heap[r]?=some (.mapIter m s seen c)) (O:w'.os=w.os) (T:w'.tape=w.tape) (u:w'.output=w.output) (v:w'.heap=w.heap.setIfInBounds r (.mapIter n p f l))
  (q:R r 0) (B:List Nat) (d:r∉B):bp w R w' R B/\w'.heap[r]?=some (.mapIter n p f l):=by
 have t:=bN h;have b:∀c,c≠r->w'.heap[c]?=w.heap[c]?:=fun c j=>by grind
 have g:w'.heap[r]?=some (.mapIter n p f l):=by grind
 refine⟨⟨⟨O,T,u,by grind,fun c j i=>⟨b c (fun e=>i 0 (e ▸ q)),i⟩,fun c o j i=>⟨i,?_⟩,fun c j=>?_⟩,fun c j _=>⟨b c (fun e=>d (e ▸ j)),fun _ h=>h⟩⟩,g⟩
 ·by_cases k:c=r
  ·subst k;simp only[World.cell?,h,g]
  exact World.cell?_of_block (a:=⟨c,o,none⟩) (b c k)
 grind[eD]
def asu (G:bA) (J:Gst γ) (D:List Deferred) (K:aa->γ->Prop) (w:World) (R:Own) (N:Name->Option Nat) (c z:List Nat) (a:Act) (f:World):Prop:=
 ∃h g e d Z U H,K h g/\dw G f e d a.tmps.toList h undef .undef [] Z U H (c++z)/\J g f e d c/\a.defers=D/\bp w R f e z/\(∀o b,N (.out o)=some b->d (.out o)=some b)
theorem aqO {K:aa->γ->Prop} {g:γ} {n:World} {i:Act} {H e:List Nat} (j:dw G w R N i.tmps.toList s undef .undef [] Z U H (e++z)) (u:i.defers=D)
  {a:ac} {v:Value} (V:ai n R N a v []) (k:bp w R n R (Z++(U++(H++z)))) (y:J g n R N e) (f:Option Tmp) (t:K (s.put f a) g):asu G J D K w R N e z (i.put f v) n:=by
 have m:(Z++(U++(H++(e++z)))).Nodup:=by simpa using j.nodup
 obtain⟨l,o,p⟩:=fW (s:=s) (N:=N) f (j.tmps.keep (k.sub (by intro b d;simp[d]))) V (b:=[]) (X:=U++(H++(e++z))) (by simpa using m);obtain⟨A,B,C⟩:=dB s f a;obtain⟨q,r⟩:=ga i f v;exact⟨_,g,R,N,l,U,H,t,⟨aJ _,by rw[q];exact o,by rw[A];exact j.locs.keep (k.sub (by intro b d;simp[d])),by rw[B];exact j.heap.keep (k.sub (by intro b d;simp[d])),by simpa using p,by rw[C];exact j.next,
  fun g c x=>(j.glob g c x).step k.step,fun b d=>Nat.lt_of_lt_of_le (j.frame b d) k.step.size⟩,y,by rw[r];exact u,k.sub (by intro b d;simp[d]),fun _ _ h=>h⟩
theorem arQ (b:Bool):ai w R N (.dat (.flat (.bool b))) (.bool b) []:=bQ (d:=.flat (.bool b)) (.flat rfl)
theorem apr (b:Option Nat) (a:Act) (h:aqo o.op=false):o.semAt b a.eval=execOp a.eval o:=by
 unfold Oper.semAt
 grind[aqo]
theorem asx {w:World} {rd:Option Nat} {M:Array Oper} {i:Nat} (hi:M[i]?=some o) {t:Nat} (O:o.op=.next (.tmp t) false) (hw:dC M.toList s o.guard=some true) {j n:Nat} {Q:List (Value×ak)} {S:List Nat}
  (J:bq s.tmps t=.ptr (.out n) 0) {K:aa->List Nat->Prop} (af:(∀i,i < Q.length->i∈S)->K (s.put o.dst (.tup [.dat (.flat (.bool false))])) S)
  (I:∀i,i < Q.length->i∉S->K (s.put o.dst (.tup [.dat (.flat (.bool true)),.undef,.undef])) (i::S)) {k:Act} {H A:List Nat} (T:dw G w R N k.tmps.toList s undef .undef [] Z U H (A++z)) (hj:MIt j n Q S w R N A) (hd:k.defers=D) :
  wpOpIn (rdF rd) 1 P M Qx i (asu G (MIt j n Q) D K w R N A z) k w:=by
 obtain⟨b,r,c,d,h,seen,c0,rfl,h1,h2,f,g,h5,h6,h7,h8,h9,Y,B,x,ar⟩:=hj;unfold wpOpIn;simp only[hi];rw[ke T.tmps hw,if_pos rfl];refine⟨fun _ _=>trivial,?_⟩;obtain⟨bt,u⟩:=qw T.tmps T.glob (.tmp t);rw[show fm G s (.tmp t)=.ptr (.out n) 0 from J] at u;have u:k.eval (.tmp t)=.pointer (some ⟨r,0,none⟩):=by
  simp only[ai,h2] at u;simpa using u.2
 have y:(o.semAt rd k.eval).run P w=((Instr.next (.pointer (some ⟨r,0,none⟩)) false o.type).run P w).andThen fun a w'=>.ok (.value a) w':=by
  rw[apr rd k (by rw[O];rfl)];simp[execOp,O,u]
 have al:=rU h6;have a4:r≠b:=by
  intro e;rw[e,h5] at h8;simp at h8
 have a3:r∉Z++(U++(H++z)):=by
  have hp:([]++(Z++(U++(H++([r,b]++z))))).Perm (r::(b::(Z++(U++(H++z))))):=by
   rw[List.perm_iff_count];intro q;simp only[List.count_append,List.count_cons,List.count_nil];omega
  intro X;exact (List.nodup_cons.1 (hp.nodup_iff.1 T.nodup)).1 (List.mem_cons.2 (.inr X))
 rcases run_next_at (P:=P) w o.type r b h c0 seen c d h8 h5 h9 Y with⟨h0,C⟩|⟨e,he,V,p,C⟩
 ·rw[y,C];show asu G (MIt j n Q) D K w R N [r,b] z (k.put o.dst (.tuple #[.bool false])) w;refine aqO T hd (a:=.tup [.dat (.flat (.bool false))]) ?_ (aZ _) ⟨b,r,c,d,h,seen,c0,rfl,h1,h2,f,g,h5,h6,h7,h8,h9,Y,B,x,ar⟩ o.dst (af fun i hi=>?_)
  ·simp only[ai];exact⟨[.bool false],rfl,aD (b1:=[]) (b2:=[]) (arQ false) aP⟩
  rw[←al] at hi;exact (x i _ (List.getElem?_eq_getElem hi)).2 (all_seen c seen h0 _ (List.getElem_mem hi))
 rw[y,C];show asu G (MIt j n Q) D K w R N [r,b] z (k.put o.dst (.tuple #[.bool true,e.key,e.val])) (Go.ChangeMaps.setBlock V r (.mapIter (some b) h (seen.push e.born) d));have ae:e∈c.toList/\seen.contains e.born=false:=by
  unfold leftOf at he;simpa using he
 obtain⟨i,a1,a0⟩:=List.getElem_of_mem ae.1;have l:c.toList[i]?=some e:=by rw[List.getElem?_eq_getElem a1,a0]
 obtain⟨hk,hn⟩:=ato (w':=Go.ChangeMaps.setBlock V r (.mapIter (some b) h (seen.push e.born) d)) h8 (by rcases p with rfl|rfl <;> rfl) (by rcases p with rfl|rfl <;> rfl) (by rcases p with rfl|rfl <;> rfl) (by rcases p with rfl|rfl <;> rfl) g _ a3;have av:(Go.ChangeMaps.setBlock V r (.mapIter (some b) h (seen.push e.born) d)).heap[b]?=some (.map c d):=by
  have:(Go.ChangeMaps.setBlock V r (.mapIter (some b) h (seen.push e.born) d)).heap[b]?=V.heap[b]?:=World.putObj_heap_other (w:=V) (fun e=>a4 e.symm)
  rw[this]
  rcases p with rfl|rfl <;> exact h5
 have am:∀L W,c.toList[L]?=some W->(L∈i::S↔(seen.push e.born).contains W.born=true):=by
  intro L W v;have a2:=h7.2;have az:L=i↔W.born=e.born:=by
   constructor
   ·rintro rfl;rw[l] at v;simp at v;rw[v]
   intro ax;have E:(c.toList.map (·.born))[L]?=some e.born:=by rw[List.getElem?_map,v];simp[ax]
   have F:(c.toList.map (·.born))[i]?=some e.born:=by rw[List.getElem?_map,l];rfl
   have l1:L < (c.toList.map (·.born)).length:=(List.getElem?_eq_some_iff.1 E).1;exact (List.getElem?_inj l1 a2).1 (E.trans F.symm)
  have ad:=x L W v;rw[List.mem_cons,az,ad];simp[Array.contains_eq_mem,or_comm]
 have aq:i∉S:=by
  intro hS
  have:=(x i e l).1 hS
  rw[ae.2] at this;simp at this
 refine aqO T hd (a:=.tup [.dat (.flat (.bool true)),.undef,.undef]) ?_ hk ⟨b,r,c,d,h,_,_,rfl,h1,h2,f,g,av,h6.step hk.step,h7,hn,h9,B,B,am,?_⟩ o.dst (I i (by omega) aq)
 ·simp only[ai];exact⟨[.bool true,e.key,e.val],rfl,aD (b1:=[]) (b2:=[]) (arQ true) (aD (b1:=[]) (b2:=[]) (aJ _) (aD (b1:=[]) (b2:=[]) (aJ _) aP))⟩
 rintro m S' ag;simp at ag;obtain⟨rfl,rfl⟩:=ag;exact⟨rfl,e,seen,l,rfl⟩
theorem asq {T:Option Nat} {u:Array Oper} {i:Nat} (hi:u[i]?=some o) {t:Nat} (O:o.op=.entry (.tmp t)) (hw:dC u.toList s o.guard=some true) {j n:Nat} {C:List (Value×ak)} {S:List Nat} {m:Nat}
  (J:bq s.tmps t=.ptr (.out n) 0) {K:aa->List Nat->Prop} {k:Value} {d:ak} (hm:C[m]?=some (k,d)) (hk:bJ k=true) (hK:K (s.put o.dst (.tup [.dat (.flat k),.undef])) (m::S)) {h:Act} {H q:List Nat} (E:dw G w R N h.tmps.toList s undef .undef [] Z U H (q++z)) (hj:MIt j n C (m::S) w R N q) (hd:h.defers=D) :
  wpOpIn (rdF T) 1 P u Qx i (asu G (MIt j n C) D K w R N q z) h w:=by
 obtain⟨b,r,c,I,p,seen,F,rfl,h1,V,f,g,W,X,Y,h8,h9,L,M,Q,x⟩:=hj;obtain⟨rfl,e,v,he,rfl⟩:=x m S rfl;unfold wpOpIn;simp only[hi];rw[ke E.tmps hw,if_pos rfl];refine⟨fun _ _=>trivial,?_⟩;obtain⟨bt,l⟩:=qw E.tmps E.glob (.tmp t);rw[show fm G s (.tmp t)=.ptr (.out n) 0 from J] at l;have l:h.eval (.tmp t)=.pointer (some ⟨r,0,none⟩):=by
  simp only[ai,V] at l;simpa using l.2
 have B:(o.semAt T h.eval).run P w=((Instr.entry (.pointer (some ⟨r,0,none⟩))).run P w).andThen fun a w'=>.ok (.value a) w':=by
  rw[apr T h (by rw[O];rfl)];simp[execOp,O,l]
 have A:e∈c.toList:=List.mem_of_getElem? he;rw[B,run_entry_at w r b p v c F e h8 W A Y.2];show asu G (MIt j n C) D K w R N [r,b] z (h.put o.dst (.tuple #[e.key,e.val])) w;have y:e.key=k:=aqz X hm he;refine aqO E hd (a:=.tup [.dat (.flat k),.undef]) ?_ (aZ _) ⟨b,r,c,F,p,_,F,rfl,h1,V,f,g,W,X,Y,h8,h9,L,M,Q,x⟩ o.dst hK;simp only[ai];exact⟨[e.key,e.val],rfl,aD (b1:=[]) (b2:=[]) (by rw[y];exact bQ (d:=.flat k) (.flat hk)) (aD (b1:=[]) (b2:=[]) (aJ _) aP)⟩
def ao0 (P:Program) (E:bz) (G:bA) (H:Hints) (n:Nat) (c:List (Value×ak)) (a:List Oper) (Q:aa->List Nat->Prop):List Oper->aa->List Nat->Prop
 | [],s,S=>Q s S
 | o::b,s,S=>mT (ay P G) E G H a o (fun f=>ao0 P E G H n c a Q b f S) s ∨
  (∃t,o.op=.next (.tmp t) false/\dC a s o.guard=some true/\bq s.tmps t=.ptr (.out n) 0/\((∀i,i < c.length->i∈S)->ao0 P E G H n c a Q b (s.put o.dst (.tup [.dat (.flat (.bool false))])) S) ∧
   (∀i,i < c.length->i∉S->ao0 P E G H n c a Q b (s.put o.dst (.tup [.dat (.flat (.bool true)),.undef,.undef])) (i::S))) ∨
  (∃t m e k d,S=m::e/\o.op=.entry (.tmp t)/\dC a s o.guard=some true/\bq s.tmps t=.ptr (.out n) 0/\c[m]?=some (k,d)/\bJ k=true/\ao0 P E G H n c a Q b (s.put o.dst (.tup [.dat (.flat k),.undef])) S)
theorem aqK (W:E.Ok P) {rd:Option Nat} {D:List Deferred} {j n:Nat} {M:List (Value×ak)} (f:Array Oper) (Q:aa->List Nat->Prop) (Kx:Exit->Act->World->Prop) :
  ∀(e:List Oper) (k:Nat) (s:aa) (S:List Nat),f.toList.drop k=e->ao0 P E G H n M f.toList Q e s S->∀(w:World) (R:Own) (N:Name->Option Nat) (l:Act) (Z U v g z:List Nat),
   dw G w R N l.tmps.toList s undef .undef [] Z U v (g++z)->MIt j n M S w R N g->l.defers=D->(∀F w',asu G (MIt j n M) D Q w R N g z F w'->Kx .normal F w')->wpOpsIn (rdF rd) 1 P f Kx (List.range' k e.length) l w
 | [],k,s,S,_,h,w,R,N,l,Z,U,v,g,z,Y,X,V,T=>by
  simp only[List.length_nil,List.range'_zero,wpOpsIn];exact T _ _ ⟨s,S,R,N,Z,U,v,h,Y,X,V,aZ _,fun _ _ h=>h⟩
 | o::e,k,s,S,u,h,w,R,N,l,Z,U,v,g,z,Y,X,V,T=>by
  have B:f[k]?=some o:=by
   have:=List.getElem?_drop (xs:=f.toList) (i:=k) (j:=0)
   rw[u] at this;simpa using this.symm
  have x:f.toList.drop (k+1)=e:=by rw[←List.drop_drop,u];rfl
  simp only[ao0] at h;simp only[List.length_cons,List.range'_succ];rw[wpOpsIn_cons];have a:wpOpIn (rdF rd) 1 P f Kx k (asu G (MIt j n M) D (ao0 P E G H n M f.toList Q e) w R N g z) l w:=by
   rcases h with h|⟨t,O,hw,J,he,hs⟩|⟨t,m,S',ar,d,rfl,O,hw,J,hm,hk,T⟩
   ·refine wpOpIn_mono ?_ (jv W f B h Y V);rintro F w' ⟨s',R',N',r,q,p,hq,C,A,y,c⟩;exact⟨s',S,R',N',r,q,p,hq,C,aiy X (y.sub (by intro b hb;simp[hb])) c,A,y.sub (by intro b hb;simp[hb]),c⟩
   ·exact asx B O hw J he hs Y X V
   exact asq B O hw J hm hk T Y X V
  refine wpOpIn_mono ?_ a;rintro F w' ⟨s',S2,R',N',r,q,p,hq,C,af,A,y,c⟩;refine aqK W f Q Kx e (k+1) s' S2 x hq w' R' N' F r q p g z C af A (fun a2 w2 h2=>T a2 w2 ?_);obtain⟨s3,S3,R3,N3,L,K,I,am,aq,ag,ae,al,ad⟩:=h2;exact⟨s3,S3,R3,N3,L,K,I,am,aq,ag,ae,y.trans al,fun o b h=>ad o b (c o b h)⟩
theorem arA (W:E.Ok P) {j n:Nat} {e:List (Value×ak)} {id:Nat} {a:Array Oper} {Q:Exit->aa->List Nat->Prop} {S:List Nat} (h:ao0 P E G H n e a.toList (Q .normal) a.toList s S):vw P G (MIt j n e) (.region id a false) Q s S:=by
 intro w R N b Z U c d z i g D f;refine aov fun k=>?_
 rw[List.range_eq_range',←Array.length_toList];exact aqK W a (Q .normal) _ a.toList 0 s S (by simp) h w R N b Z U c d z i g f (fun _ _ h=>h)
def aqZ (P:Program) (E:bz) (G:bA) (H:Hints) (a:List Oper) (K:Oper->aa->Prop):List Oper->aa->Prop
 | [],_=>False
 | [o],s=>K o s
 | o::b,s=>mT (ay P G) E G H a o (fun c=>aqZ P E G H a K b c) s
def apZ (P:Program) (G:bA) (b:List Oper) (a:Code) (Q:Exit->aa->Prop) (o:Oper) (s:aa):Prop:=
 ∃t g i h j c d,o.op=.range g (.tmp t)/\P.underlying g=some (.map i h)/\dC b s o.guard=some true/\bq s.tmps t=.map (.out j)/\s.heap.Perm ((.out j,.map c)::d) ∧
  vw P G (MIt j s.next c) a (fun e f _=>∃w,((.out j,.map c)::f.heap).Perm w/\Q e {f with heap:=w }) (({s with heap:=d,next:=s.next+1 }:aa).put o.dst (.ptr (.out s.next) 0)) []
theorem aro {rd:Option Nat} {al:Array Oper} {i:Nat} (hi:al[i]?=some o) {x:Code} {Q:Exit->aa->Prop} (h:apZ P G al.toList x Q o s) {k:Act} {H:List Nat} (p:dw G w R N k.tmps.toList s undef .undef [] Z U H z) (hd:k.defers=D) :
  wpOpIn (rdF rd) 1 P al Qx i (fun a' w'=>x.wpR P (Dx G D Q w R N z) a' w') k w:=by
 obtain⟨t,ty,kt,et,j,es,H2,O,bm,hw,J,hp,ad⟩:=h;obtain⟨bx,ag,b,r,b2,rfl,be,⟨rfl,a7,C,f,d,T,aq⟩,bd⟩:=apx hp p.heap;have ar:N (.out j)=some b:=be;unfold wpOpIn;simp only[hi];rw[ke p.tmps hw,if_pos rfl];refine⟨fun _ _=>trivial,?_⟩;obtain⟨bt,F⟩:=qw p.tmps p.glob (.tmp t);rw[show fm G s (.tmp t)=.map (.out j) from J] at F;have F:k.eval (.tmp t)=.map (some b):=by
  simp only[ai,ar] at F;simpa using F.2
 have a3:(o.semAt rd k.eval).run P w=((Instr.range ty (.map (some b))).run P w).andThen fun a w'=>.ok (.value a) w':=by
  rw[apr rd k (by rw[O];rfl)];simp[execOp,O,F]
 rw[a3,run_range_map w ty kt et b C f bm d];show x.wpR P (Dx G D Q w R N z) (k.put o.dst (.pointer (some ⟨w.heap.size,0,none⟩))) (w.alloc (.mapIter (some b) f #[] f));have K:∀B,bp w R (w.alloc (.mapIter (some b) f #[] f)) (R.more w.heap.size) B:=fun B=>gx (.mapIter (some b) f #[] f) (R':=R.more w.heap.size) (fun b b3 d=>Own.qj d) B
 have V:(w.alloc (.mapIter (some b) f #[] f)).heap[w.heap.size]?=some (.mapIter (some b) f #[] f):=World.alloc_heap_new w _;have a4:(w.alloc (.mapIter (some b) f #[] f)).heap.size=w.heap.size+1:=by simp
 have a8:(R.more w.heap.size) w.heap.size 0:=.inl rfl;generalize w.alloc (.mapIter (some b) f #[] f)=w2 at K V a4 ⊢
 let L:Name->Option Nat:=fun m=>if m=.out s.next then some w.heap.size else N m
 have l:∀m c,N m=some c->L m=some c:=by
  intro m c T
  by_cases e:m=.out s.next
  ·subst e
   have:=p.next _ _ T
   omega
  simp only[L,if_neg e];exact T
 have az:(Z++(U++(H++z))).Nodup:=by simpa using p.nodup
 have av:∀c∈Z++(U++(H++z)),c < w.heap.size:=by
  intro c hc;simp at hc
  rcases hc with h|h|h|h
  ·exact p.tmps.lt c h
  ·exact p.locs.lt c h
  ·exact p.heap.lt c h
  exact p.frame c h
 have a9:b∈H:=ag.mem_iff.2 (by simp);have a0:(Z++(U++(b2++([w.heap.size,b]++z)))).Nodup:=by
  have h1:(w.heap.size::(Z++(U++(H++z)))).Nodup:=List.nodup_cons.2 ⟨fun hx=>by have:=av _ hx;omega,az⟩;have af:(w.heap.size::(Z++(U++(H++z)))).Perm (Z++(U++(b2++([w.heap.size,b]++z)))):=by
   rw[List.perm_iff_count] at ag ⊢;intro q
   have:=ag q
   simp only[List.count_append,List.count_cons,List.count_nil] at this ⊢;omega
  exact af.nodup_iff.1 h1
 obtain⟨S,bi,af⟩:=fW (s:={s with heap:=H2,next:=s.next+1 }) (N:=L) o.dst ((p.tmps.keep (K Z)).ext l) (a:=.ptr (.out s.next) 0) (v:=.pointer (some ⟨w.heap.size,0,none⟩)) (b:=[]) (X:=U++(b2++([w.heap.size,b]++z)))
  (by simp only[ai];exact⟨trivial,w.heap.size,by simp[L],rfl⟩) (by simpa using a0)
 obtain⟨q1,q2,q3⟩:=dB {s with heap:=H2,next:=s.next+1 } o.dst (.ptr (.out s.next) 0);obtain⟨bo,bu⟩:=ga k o.dst (.pointer (some ⟨w.heap.size,0,none⟩));have a2:dw G w2 (R.more w.heap.size) L (k.put o.dst (.pointer (some ⟨w.heap.size,0,none⟩))).tmps.toList (({s with heap:=H2,next:=s.next+1 }:aa).put o.dst (.ptr (.out s.next) 0)) undef .undef [] S U b2 ([w.heap.size,b]++z):=by
  refine⟨aJ _,by rw[bo];exact bi,by rw[q1];exact (p.locs.keep (K _)).ext l,?_,by simpa using af,?_,fun g cs J=>(p.glob g cs J).step (K []).step,?_⟩
  ·rw[q2];exact (bd.keep (K _)).ext (fun m c T=>by
    cases m with
    | loc i=>simp[outs] at T
    | out q=>simp only[outs] at T ⊢;exact l _ _ T)
  ·rw[q3];intro q c hq
   by_cases e:q=s.next
   ·subst e;exact Nat.lt_succ_self _
   simp only[L,if_neg (show ¬(Name.out q=.out s.next) by simpa using e)] at hq;exact Nat.lt_succ_of_lt (p.next _ _ hq)
  intro c hc;rw[a4];simp at hc
  rcases hc with rfl|rfl|h
  ·omega
  ·have:=av c (by simp[a9]);omega
  have:=p.frame c h;omega
 have ba:w2.heap[b]?=some (.map C f):=(((K [b]).same b (by simp) (bN d)).1).trans d;have am:(R.more w.heap.size) b 0:=((K [b]).same b (by simp) (bN d)).2 _ a7;have ax:MIt j s.next es [] w2 (R.more w.heap.size) L [w.heap.size,b]:=
  ⟨b,w.heap.size,C,f,f,#[],f,rfl,l _ _ ar,if_pos rfl,am,a8,ba,T.step (K []).step,aq,V,aq.1,Nat.le_refl _,Nat.le_refl _,by simp,fun m S' h=>nomatch h⟩
 refine lp (ad w2 (R.more w.heap.size) L _ S U b2 [w.heap.size,b] z a2 ax (D:=D) (by rw[bu];exact hd)) ?_;rintro e a w' ⟨s',S',R',N',A,y,n,⟨bg,bl,hQ⟩,u,⟨b',r',Y,I,a5,bw,b0,hX,m1,m2,m3,E,m5,m6,m7,_⟩,bc,bf,a6⟩;simp at hX;obtain⟨rfl,rfl⟩:=hX;have a1:aj w' R' (outs N') ((.out j,.map es)::s'.heap) (b::([]++n)):=⟨b,[],n,rfl,m1,⟨rfl,m3,Y,I,m5,m6,m7⟩,u.heap⟩;obtain⟨M,W,ae⟩:=apx bl a1;refine⟨{s' with heap:=bg },R',N',A,y,M,hQ,⟨aJ _,u.tmps,u.locs,ae,?_,u.next,u.glob,fun c hc=>u.frame c (by simp[hc])⟩,bc,(K z).trans bf,fun o b h=>a6 o b (l _ _ h)⟩;have bk:([]++(A++(y++(n++([w.heap.size,b]++z))))).Perm (w.heap.size::([]++(A++(y++(M++z))))):=by
  rw[List.perm_iff_count] at W ⊢;intro q
  have:=W q
  simp only[List.count_append,List.count_cons,List.count_nil] at this ⊢;omega
 exact (List.nodup_cons.1 (bk.nodup_iff.1 u.nodup)).2
theorem aqw (W:E.Ok P) {rd:Option Nat} {D:List Deferred} (a:Array Oper) (l:Code) (Q:Exit->aa->Prop) (B:Exit->Act->World->Prop) :
  ∀(d:List Oper) (k:Nat) (s:aa),a.toList.drop k=d->aqZ P E G H a.toList (apZ P G a.toList l Q) d s->∀(w:World) (R:Own) (N:Name->Option Nat) (g:Act) (Z U n z:List Nat),
   dw G w R N g.tmps.toList s undef .undef [] Z U n z->g.defers=D->(∀q A,l.wpR P (Dx G D Q w R N z) q A->B .normal q A)->wpOpsIn (rdF rd) 1 P a B (List.range' k d.length) g w
 | [],_,_,_,h,_,_,_,_,_,_,_,_,_,_,_=>by simp only[aqZ] at h
 | [o],k,s,f,h,w,R,N,g,Z,U,n,z,S,I,C=>by
  have p:a[k]?=some o:=by
   have:=List.getElem?_drop (xs:=a.toList) (i:=k) (j:=0)
   rw[f] at this;simpa using this.symm
  simp only[aqZ] at h;simp only[List.length_cons,List.length_nil,List.range'_succ,List.range'_zero];rw[wpOpsIn_cons];refine wpOpIn_mono ?_ (aro p h S I);intro q A h';simp only[wpOpsIn];exact C _ _ h'
 | o::X::d,k,s,f,h,w,R,N,g,Z,U,n,z,S,I,C=>by
  have p:a[k]?=some o:=by
   have:=List.getElem?_drop (xs:=a.toList) (i:=k) (j:=0)
   rw[f] at this;simpa using this.symm
  have m:a.toList.drop (k+1)=X::d:=by rw[←List.drop_drop,f];rfl
  simp only[aqZ] at h;rw[List.length_cons,List.range'_succ,wpOpsIn_cons];refine wpOpIn_mono ?_ (jv W a p h S I);rintro q A ⟨s',R',Y,x,u,r,hq,T,J,L,c⟩;refine aqw W a l Q B (X::d) (k+1) s' m hq A R' Y q x u r z T J (fun a2 w2 h2=>C a2 w2 (lp h2 ?_));rintro e a3 w3 ⟨s3,R3,N3,y,v,t,O,V,K,M,F⟩;exact⟨s3,R3,N3,y,v,t,O,V,K,L.trans M,fun o b h=>F o b (c o b h)⟩
theorem aqW (W:E.Ok P) {id:Nat} {a:Array Oper} {b:Code} {Q:Exit->aa->Prop} (h:aqZ P E G H a.toList (apZ P G a.toList b Q) a.toList s):cL P G (.seq (.region id a false) b) Q s:=by
 intro w R N c Z U d z f D e
 apply aqj
 refine aov fun g=>?_
 rw[List.range_eq_range',←Array.length_toList];exact aqw W a b Q _ a.toList 0 s (by simp) h w R N c Z U d z f e (fun _ _ h=>h)
end
end Go.Tp
namespace Go.Tp
section
variable {w:World} {R:Own} {M:Name->Option Nat}
theorem aj.acd {o:Nat}:∀{c:Heap} {B:List Nat},hasName o c=true->aj w R M c B->∃b,M (.out o)=some b
 | [],_,h,_=>by grind[hasName]
 |(.out m,x)::r,_,h,⟨b,d,Q,e,a,g,f⟩=>by
  simp only[hasName,Bool.or_eq_true] at h
  rcases h with h|h
  ·simp_all
  exact aj.acd h f
 |(.loc i,x)::r,_,h,⟨b,d,Q,e,a,g,f⟩=>by
  simp only[hasName] at h;exact aj.acd h f
end
mutual
theorem auf {k K:Nat} (d:k<=K):∀{a:ac},Sw k a=false->Sw K a=false
 | .ptr (.out o) _,h=>by simp only[Sw] at h ⊢;have:=K0 h;cases e:Nat.ble K o with|true=>have:=fD e;omega|false=>rfl
 | .map (.out o),h=>by simp only[Sw] at h ⊢;have:=K0 h;cases e:Nat.ble K o with|true=>have:=fD e;omega|false=>rfl
 | .win (.out o) _ _ _,h=>by simp only[Sw] at h ⊢;have:=K0 h;cases e:Nat.ble K o with|true=>have:=fD e;omega|false=>rfl
 | .fn _ a b,h=>by simp only[Sw,Bool.or_eq_false_iff] at h ⊢;exact⟨agm d h.1,agm d h.2⟩
 | .agg c,h=>by exact agm d h
 | .tup c,h=>by exact agm d h
 | .dat _,_=>rfl
 | .own _,_=>rfl
 | .ref _,_=>rfl
 | .undef,_=>rfl
 | .ptr (.loc _) _,_=>rfl
 | .map (.loc _),_=>rfl
 | .win (.loc _) _ _ _,_=>rfl
theorem agm {k K:Nat} (d:k<=K):∀{l:List ac},BI k l=false->BI K l=false
 | [],_=>rfl
 | a::r,h=>by simp only[BI,Bool.or_eq_false_iff] at h ⊢;exact⟨auf d h.1,agm d h.2⟩
end
section
variable {P:Program} {G:bA}
theorem cL.view {c:Code} {Q:Exit->aa->Prop} {k:aa} (hc:cL P G c Q k) (ρ:Nat->Nat) (g:Nat) (p A:Heap) (hp:p.Perm (jJ ρ k.heap++A)) (f1:BI k.next k.tmps=false) (f2:GM k.next k.locs=false) (f3:GM k.next k.heap=false) (f4:∀o,o < k.next->hasName (ρ o) p=true) :
  cL P G c (fun e s=>∃B,Q e B/\s=⟨il (ig ρ k.next g) B.tmps,jJ (ig ρ k.next g) B.locs,jJ (ig ρ k.next g) B.heap++A,g+(B.next - k.next)⟩) ⟨il ρ k.tmps,jJ ρ k.locs,p,g⟩:=by
 intro w R N I Z U H z y D hd;generalize ag:k.next=n at *
 let C:Name->Option Nat:=fun m=>match m with|.loc i=>N (.loc i)|.out o=>if o < n then N (.out (ρ o)) else none
 have V:∀i b,N (.loc i)=some b->C (.loc i)=some b:=fun i b h=>h
 have j:∀o b,o < n->N (.out (ρ o))=some b->C (.out o)=some b:=by
  grind
 have u:∀o b,o < n->outs N (.out (ρ o))=some b->outs C (.out o)=some b:=fun o b O d=>j o b O d
 obtain⟨aq,k1,K⟩:=y.heap.perm hp;obtain⟨r,Y,rfl,h1,h2⟩:=aj.append k1;have al:(Z++(U++(r++(Y++z)))).Nodup:=by
  have:=y.nodup
  have f:=(List.Perm.append_left Z (List.Perm.append_left U (List.Perm.append_right z K))).nodup_iff.1 this;grind
 have am:dw G w R C I.tmps.toList k undef .undef [] Z U r (Y++z):=by
  refine⟨aJ _,y.tmps.rnY V j f1,y.locs.rnY V j f2,h1.rnY (by grind[outs]) u f3,by grind,?_,y.glob,?_⟩
  ·grind
  intro b d
  rcases List.mem_append.1 d with h|h
  ·exact h2.lt b h
  exact y.frame b h
 refine lp (hc w R C I Z U r (Y++z) am hd) ?_;rintro e a w' ⟨B,R',F,S,L,J,hq,l,ad,hk,hN⟩
 let q:Name->Option Nat:=fun m=>match m with|.loc i=>F (.loc i)|.out x=>if x < g then N (.out x) else F (.out (x - g+n))
 have E:∀o b,N (.out o)=some b->o < g:=fun o b h=>y.next o b h
 have v:∀o b,F (.out o)=some b->q (.out (ig ρ n g o))=some b:=by
  intro o b d;unfold ig
  cases W:Nat.blt o n with
  | true=>
   have O:=oY W;dsimp only;obtain⟨b',t⟩:=aj.acd (M:=outs N) (f4 o O) y.heap;simp only[outs] at t;have h5:=hN o b' (j o b' O t);rw[d] at h5;simp only[q];rw[if_pos (E _ _ t),t,h5]
  | false=>
   dsimp only;have O:¬o < n:=fun h=>by rw[←Nat.blt_eq,W] at h;simp at h
   simp only[q];rw[if_neg (by omega),show g+(o - n) - g+n=o by omega];exact d
 have T:∀m b,F m=some b->q (wX (ig ρ n g) m)=some b:=by
  intro m b h
  cases m with
  | loc i=>exact h
  | out o=>exact v o b h
 have af:∀m b,outs F m=some b->outs q (wX (ig ρ n g) m)=some b:=by
  intro m b h
  cases m with
  | loc i=>simp[outs] at h
  | out o=>exact v o b h
 have ae:∀m b,outs N m=some b->outs q m=some b:=by
  intro m b h
  cases m with
  | loc i=>simp[outs] at h
  | out o=>
   simp only[outs] at h ⊢;simp only[q];rw[if_pos (E _ _ h)];exact h
 refine⟨_,R',q,S,L,J++Y,⟨B,hq,rfl⟩,⟨aJ _,l.tmps.It T,l.locs.It T,?_,?_,?_,l.glob,fun b d=>l.frame b (by simp[d])⟩,ad,hk.sub (by intro b d;simp[d]),?_⟩
 ·exact aj.join (l.heap.It af) ((h2.keep (hk.sub (by intro b d;simp[d]))).ext ae)
 ·have:=l.nodup
  simpa using this
 ·intro x b X;simp only[q] at X;show x < g+(B.next - n)
  split at X
  ·omega
  have:=l.next _ _ X
  omega
 intro x b X;simp only[q];rw[if_pos (E x b X)];exact X
end
end Go.Tp
namespace Go.Tp
def WS:Code->Code
 | .seq a _=>a
 | c=>c
def WR:Code->Code
 | .seq _ b=>b
 | _=>.skip
def VQ:Code->Bool
 | .seq _ _=>true
 | _=>false
def V3:Nat->Code->Code
 | 0,c=>c
 | k+1,c=>WR (V3 k c)
def ZW (a:Func):Code:=match a.body with|some c=>c|none=>.skip
def kc (a:Func) (k:Nat):Code:=V3 k (ZW a)
def du (a:Func) (k:Nat):Code:=WS (kc a k)
section
variable {P:Program} {E:bz} {G:bA}
end
end Go.Tp
namespace Go.Tp
def Qy.auc:Qy ab->Bool
 | .fin _=>true
 | _=>false
def Qy.aw1:Qy ab->ab
 | .fin r=>r
 | _=>⟨[],[],[],0⟩
section
variable {P:Program} {E:bz} {G:bA} {H:Hints} {n:Nat} {A B:Nat->Bool}
theorem aqA {g:List Oper} {T:ab->Prop} {Y:List Oper->aa->Prop} {a:List Oper} (j:a≠[]) (d:∀o r s,r≠[]->mT (ay P G) E G H g o (Y r) s->Y (o::r) s) :
  ∀(c:List Oper) (f:ab),(O9 A B E G H n g c f (fun e=>Qy.fin e)).tg P G T->(∀e,T e->Y a (e.al n))->Y (c++a) (f.al n)
 | [],f,h,i=>i f h
 | o::c,f,h,i=>by
  have k:(Pc A B E G H n g o f (fun e=>O9 A B E G H n g c e (fun e=>Qy.fin e))).tg P G T:=h;refine d o (c++a) _ (by simp_all) ?_;refine wH ?_ (KI k);rintro s ⟨e,rfl,b⟩;exact aqA j d c e b i
theorem apc {q:Qy ab} {T:aa->Prop} (f:ab) (e:q.auc=true) (b:q.aw1.al n=f.al n) (h:T (f.al n)):q.Ok P G (fun a=>T (a.al n)):=by
 cases q with
 | fin r=>
  simp only[Qy.aw1] at b;refine⟨?_⟩;show T (r.al n);grind
 | _=>grind[Qy.auc]
variable {l:Nat} {rec:Loop} {ts:List ac}
variable {T:aa->Prop}
theorem atx {all pre rest:List Oper} (b:rest≠[]) {Q:aa->Prop} {f:ab} (h:(O9 A B E G H n all pre f (fun a=>Qy.fin a)).Ok P G (fun a=>T (a.al n))) (c:∀s,T s->ao1 P E G H l rec ts all Q rest s):ao1 P E G H l rec ts all Q (pre++rest) (f.al n):=
 aqA (Y:=fun r s=>ao1 P E G H l rec ts all Q r s) b (fun o r s _ h=>.inl h) pre f h.ok (fun a h=>c _ h)
theorem apJ {Q m:aa->Prop} (i:∀s,Q s->m s) {d:List Oper}:∀{c:List Oper} {s:aa},ao1 P E G H l rec ts d Q c s->ao1 P E G H l rec ts d m c s
 | [],_,h=>i _ h
 | o::c,s,h=>by
  rcases h with h|⟨t,x,k,a,b,f,g,n,p⟩
  ·exact .inl (wH (fun s r=>apJ i r) h)
  refine .inr ⟨t,x,k,a,b,f,g,n,?_⟩;refine cL.mono p ?_;rintro e s ⟨u,K⟩;exact⟨u,K.mono (fun e q ⟨M,v⟩=>⟨M,apJ i v⟩)⟩
theorem atO {all pre rest:List Oper} (b:rest≠[]) {K:Oper->aa->Prop} {f:ab} (h:(O9 A B E G H n all pre f (fun a=>Qy.fin a)).Ok P G (fun a=>T (a.al n))) (c:∀s,T s->aqZ P E G H all K rest s):aqZ P E G H all K (pre++rest) (f.al n):=
 aqA (Y:=fun r s=>aqZ P E G H all K r s) b (fun o r s d h=>by
  cases r with
  | nil=>grind
  | cons e r=>exact h) pre f h.ok (fun a h=>c _ h)
theorem aty {d a:List Oper} {Q:aa->Prop} {f:ab} (h:(O9 A B E G H n d a f (fun c=>Qy.fin c)).Ok P G (fun c=>T (c.al n))) (j:∀s,T s->Q s):ao1 P E G H l rec ts d Q a (f.al n):=by
 have e:∀(a:List Oper) (f:ab),(O9 A B E G H n d a f (fun c=>Qy.fin c)).tg P G (fun c=>T (c.al n))->ao1 P E G H l rec ts d Q a (f.al n):=by
  intro a
  induction a with
  | nil=>intro f h;exact j _ h
  | cons o a m=>
   intro f h;have i:(Pc A B E G H n d o f (fun c=>O9 A B E G H n d a c (fun c=>Qy.fin c))).tg P G (fun c=>T (c.al n)):=h;refine .inl (wH ?_ (KI i));rintro s ⟨c,rfl,b⟩;grind
 exact e a f h.ok
theorem aqL {i:Nat} {g:List (Value×ak)} {S:List Nat} {d a:List Oper} {Q:aa->List Nat->Prop} {f:ab} (h:(O9 A B E G H n d a f (fun c=>Qy.fin c)).Ok P G (fun c=>T (c.al n))) (k:∀s,T s->Q s S):ao0 P E G H i g d Q a (f.al n) S:=by
 have e:∀(a:List Oper) (f:ab),(O9 A B E G H n d a f (fun c=>Qy.fin c)).tg P G (fun c=>T (c.al n))->ao0 P E G H i g d Q a (f.al n) S:=by
  intro a
  induction a with
  | nil=>intro f h;exact k _ h
  | cons o a l=>
   intro f h;have j:(Pc A B E G H n d o f (fun c=>O9 A B E G H n d a c (fun c=>Qy.fin c))).tg P G (fun c=>T (c.al n)):=h;refine .inl (wH ?_ (KI j));rintro s ⟨c,rfl,b⟩;grind
 exact e a f h.ok
end
noncomputable def arS (c:Code):List (Code×Code):=
 Code.rec (motive:=fun _=>List (Code×Code))
  (skip:=[]) (region:=fun _ _ _=>[]) (seq:=fun _ _ e f=>e++f) (cond:=fun _ _ _ e f=>e++f) (block:=fun _ _ d=>d) (loop:=fun _ d=>d)
  (rangeFunc:=fun _ _ a b _ _=>[(a,b)]) (exit:=fun _=>[]) (scope:=fun _ d=>d) (label:=fun _=>[]) (goto:=fun _=>[]) (ret:=[]) (refuse:=fun _=>[]) c
noncomputable def asX (a:Func):Code:=match (arS (ZW a))[0]? with|some c=>c.1|none=>.skip
noncomputable def apP (a:Func):Code:=match (arS (ZW a))[0]? with|some c=>c.2|none=>.skip
noncomputable def anr (a:Func) (k:Nat):Code:=match (TG (apP a))[k]? with|some c=>c|none=>.skip
def ark (id:Nat):Code->Bool
 | .block i _=>Nat.beq i id
 | _=>false
def tC:Code->Code
 | .block _ c=>c
 | c=>c
def apU:Code->Bool
 | .loop _=>true
 | _=>false
def inLoop:Code->Code
 | .loop c=>c
 | c=>c
def an5 (t:Nat):Code->Bool
 | .cond (.tmp u) _ _=>Nat.beq u t
 | _=>false
def apn:Code->Code
 | .cond _ x _=>x
 | c=>c
def apo:Code->Code
 | .cond _ _ y=>y
 | c=>c
def arh:Code->Bool
 | .region _ _ d=>!d
 | _=>false
def akR:Code->List Oper
 | .region _ a _=>a.toList
 | _=>[]
def aqc (l:List Oper) (k:Nat):Oper:=match l.drop k with|o::_=>o|[]=>default
variable {c:Code}
theorem apj {l:List Oper} {k:Nat} (h:Nat.blt k l.length=true):l.drop k=aqc l k::l.drop (k+1):=by
 have b:=oY h;unfold aqc;rw[List.drop_eq_getElem_cons b]
theorem aot (h:VQ c=true):c=.seq (WS c) (WR c):=by cases c <;> simp_all [VQ,WS,WR]
theorem apG {id:Nat} (h:ark id c=true):c=.block id (tC c):=by cases c <;> simp_all [ark,tC]
theorem apk (h:apU c=true):c=.loop (inLoop c):=by cases c <;> simp_all [apU,inLoop]
theorem apX {t:Nat} (h:an5 t c=true):c=.cond (.tmp t) (apn c) (apo c):=by
 cases c with
 | cond o x y=>cases o <;> simp_all [an5,apn,apo]
 | _=>grind[an5]
theorem aqQ (h:arh c=true):∃id a,c=.region id a false/\akR c=a.toList:=by
 cases c <;> grind[arh,akR]
section
variable {P:Program} {E:bz} {G:bA} {H:Hints} {l:Nat} {rec:Loop} {ts:List ac} {Q:Exit->aa->Prop} {s:aa} {c:Code}
theorem ans (f:VQ c=true) (h:uv P G l rec ts (WS c) (fun e b=>match e with|.normal=>uv P G l rec ts (WR c) Q b|e=>Q e b) s):uv P G l rec ts c Q s:=by
 grind[aot,atp]
theorem apC (id:Nat) (d:ark id c=true) (h:uv P G l rec ts (tC c) (fun e a=>match e with|.normal=>Q .normal a|.exit i=>if i=id then Q .normal a else Q (.exit i) a|e=>Q e a) s):uv P G l rec ts c Q s:=by
 rw[apG d];exact ash h
theorem ao6 {t:Nat} (e:an5 t c=true) {b:Bool} (d:bq s.tmps t=.dat (.flat (.bool b))) (h:uv P G l rec ts (if b then apn c else apo c) Q s):uv P G l rec ts c Q s:=by
 rw[apX e];exact asG (c:=.tmp t) d h
theorem asg {α:Type} (k:apU c=true) (g e:List Nat) (d:α->aa) (b:α->Prop) (μ:α->Nat) (i:α) (o:b i) (j:s.keep g e=d i)
  (a:∀x,b x->uv P G l rec ts (inLoop c) (xU (fun m=>∃h,b h/\μ h < μ x/\m.keep g e=d h) Q) (d x)):uv P G l rec ts c Q s:=by
 rw[apk k];exact asE g e d b μ i o j a
theorem asD (W:E.Ok P) (d:rec.state=.ready) (b:rec.pending=none) (f:arh c=true) (h:ao1 P E G H l rec ts (akR c) (Q .normal) (akR c) s):uv P G l rec ts c Q s:=by
 grind[aqQ,ary]
theorem apB (i e:List Nat) (h:uv P G l rec ts c Q (s.keep i e)):uv P G l rec ts c Q s:=by
 intro w R N d Z U H z k m D j;obtain⟨b,a,f⟩:=k.forget i e;exact h w R N d b a H z f m j
theorem Round.mono {l:List Nat} {i k:Code} {m o:List ac} {c:Heap} {d:Nat} {K j:Heap->Nat->Prop} (h:Round P G l i k m o c d K) (p:∀h n,K h n->j h n):Round P G l i k m o c d j:=by
 refine cL.mono h ?_;rintro e s ⟨a,b⟩;exact⟨a,b.mono (fun e q ⟨f,g⟩=>⟨f,p _ _ g⟩)⟩
theorem atb {c b:List Oper} {o:Oper} {Q:aa->Prop} (t:Nat) (e:Array Operand) (d:Array TypeId) (O:o.op=.call ⟨.value (.tmp t),e,d⟩) (k:dC c s o.guard=some true) (J:bq s.tmps t=.fn (.yield l) [] []) (g:e.size=rec.params.size)
  {h:List ac} (V:aE G s none 0 e.toList=h) (f:aW h=true) (j:Round P G rec.params.toList rec.assign rec.body ts h s.heap s.next (fun heap next=>ao1 P E G H l rec ts c Q b (({s with heap:=heap,next:=next }:aa).put o.dst (.dat (.flat (.bool true)))))) :
  ao1 P E G H l rec ts c Q (o::b) s:=by
 subst V;exact .inr ⟨t,e,d,O,k,J,g,f,j⟩
theorem asF {id:Nat} (h:Q (.exit id) s):uv P G l rec ts (.exit id) Q s:=afu (gD aon h)
theorem aqJ (h:Q .normal s):uv P G l rec ts .skip Q s:=afu (gD amX h)
theorem lD (b:VQ c=true) (h:cL P G (WS c) (fun e a=>match e with|.normal=>cL P G (WR c) Q a|e=>Q e a) s):cL P G c Q s:=by
 grind[aot,wK]
theorem afC (id:Nat) (r:ark id c=true) (h:cL P G (tC c) (fun e j=>match e with|.normal=>Q .normal j|.exit i=>if i=id then Q .normal j else Q (.exit i) j|e=>Q e j) s):cL P G c Q s:=by
 rw[apG r];intro w R N n Z U H z q D p
 apply amW
 refine lp (h w R N n Z U H z q p) ?_;rintro e a t ⟨j,m,l,f,d,b,k,g⟩
 cases e with
 | exit i=>
  simp only[Exit.inBlock]
  by_cases o:i=id
  ·subst o;rw[if_pos rfl];simp at k;exact⟨j,m,l,f,d,b,k,g⟩
  rw[if_neg o];simp only[if_neg o] at k;exact⟨j,m,l,f,d,b,k,g⟩
 | _=>exact⟨j,m,l,f,d,b,k,g⟩
theorem ao7 {t:Nat} (j:an5 t c=true) {b:Bool} (f:bq s.tmps t=.dat (.flat (.bool b))) (h:cL P G (if b then apn c else apo c) Q s):cL P G c Q s:=by
 rw[apX j];intro w R N d Z U H z e D g;obtain⟨k,a⟩:=qw e.tmps e.glob (.tmp t);rw[show fm G s (.tmp t)=.dat (.flat (.bool b)) from f] at a;obtain⟨_,i,_⟩:=aC a;refine aoo i ?_
 cases b <;> exact h w R N d Z U H z e g
theorem aok {α:Type} (h:apU c=true) (d:α->aa) (b:α->Prop) (μ:α->Nat) (e:α) (o:b e) (g:s=d e)
  (a:∀x,b x->cL P G (inLoop c) (xU (fun i=>∃f,b f/\μ f < μ x/\i=d f) Q) (d x)):cL P G c Q s:=by
 rw[apk h];refine CS (I:=fun m s=>∃x,b x/\m=μ x/\s=d x) ?_ (m:=μ e) ⟨e,o,rfl,g⟩;grind
theorem cL.awK {Q':Exit->aa->Prop} (m l:List Nat) (u:cL P G c Q s) (y:∀e i,Q e i->Q' e (i.keep m l)):cL P G c Q' s:=by
 intro w R N f Z U H z A D v;refine lp (u w R N f Z U H z A v) ?_;rintro e a B ⟨i,o,n,k,j,d,t,h,g,x,q⟩;obtain⟨r,p,b⟩:=h.forget m l;exact⟨_,o,n,r,p,d,y _ _ t,b,g,x,q⟩
theorem aqh (W:E.Ok P) (b:VQ c=true) (a:arh (WS c)=true) (h:aqZ P E G H (akR (WS c)) (apZ P G (akR (WS c)) (WR c) Q) (akR (WS c)) s):cL P G c Q s:=by
 grind[aqQ,aot,aqW]
theorem asB {q:Exit->aa->Prop} (y:sD P G c Q s) (E:∀e f,Q e f->∃b d,f.heap.Perm (b++d)/\q e ⟨f.tmps,f.locs,b,f.next⟩):sD P G c q s:=by
 intro w R N j Z U H z I F D B;refine wp_mono (y w R N j Z U H z I F D B) ?_;rintro e a J ⟨p,f,u,t,i,h,r,x,n,k,l,A,v⟩;obtain⟨b,d,C,m⟩:=E e f x;obtain⟨g,o⟩:=n.less C;exact⟨p,_,u,t,i,h,g,m,o,k,l,A,v⟩
theorem atj {A:Exit->aa->Prop} (L:sD P G c Q s)
  (V:∀e g,Q e g->BI s.next g.tmps=false/\GM s.next g.locs=false/\GM s.next g.heap=false/\A e ⟨g.tmps,g.locs,g.heap,s.next⟩):sD P G c A s:=by
 intro w R N r Z U H z Y C D T;refine wp_mono (L w R N r Z U H z Y C D T) ?_;rintro e a w' ⟨y,g,I,j,q,p,n,J,f,v,x,S,hN⟩;obtain⟨W,K,M,X⟩:=V e g J
 let k:Name->Option Nat:=fun m=>match m with|.loc i=>j (.loc i)|.out o=>if o < s.next then j (.out o) else none
 have l:∀i b,j (.loc i)=some b->k (.loc i)=some b:=fun _ _ h=>h
 have t:∀o b,o < s.next->j (.out ((fun o=>o) o))=some b->k (.out o)=some b:=by
  grind
 have u:∀o b,o < s.next->outs j (.out ((fun o=>o) o))=some b->outs k (.out o)=some b:=fun o b O d=>t o b O d
 have E:=f.tmps;have F:=f.locs;have B:=f.heap;rw[←aps g.tmps] at E;rw[←apO g.locs] at F;rw[←apO g.heap] at B;refine⟨y,_,I,k,q,p,n,X,⟨aJ _,E.rnY l t W,F.rnY l t K,B.rnY (by grind[outs]) u M,f.nodup,?_,f.glob,f.frame⟩,v,x,S,?_⟩
 ·grind
 intro o b O;simp only[k];rw[if_pos (C.next o b O)];grind
theorem apt (b:VQ c=true) (h:sD P G (WS c) (fun e a=>match e with|.normal=>sD P G (WR c) Q a|e=>Q e a) s):sD P G c Q s:=by
 grind[aot,ara]
theorem aiz (b:VQ c=true) (h:cL P G (WS c) (fun e a=>match e with|.normal=>sD P G (WR c) Q a|e=>Q e a) s):sD P G c Q s:=by
 grind[aot,asy]
theorem aoz (id:Nat) (b:ark id c=true) (h:sD P G (tC c) (fun e a=>match e with|.normal=>Q .normal a|.exit i=>if i=id then Q .normal a else Q (.exit i) a|e=>Q e a) s):sD P G c Q s:=by
 rw[apG b];exact ar9 h
theorem ar8 {α:Type} (j:apU c=true) (f e:List Nat) (d:α->aa) (b:α->Prop) (μ:α->Nat) (h:α) (o:b h) (i:s.keep f e=d h)
  (a:∀x,b x->sD P G (inLoop c) (xU (fun k=>∃g,b g/\μ g < μ x/\k.keep f e=d g) Q) (d x)):sD P G c Q s:=by
 rw[apk j];exact asA f e d b μ h o i a
end
section
variable {P:Program} {E:bz} {G:bA} {H:Hints} {γ:Type} {J:Gst γ} {Q:Exit->aa->γ->Prop} {s:aa} {g:γ} {c:Code}
theorem anH (d:VQ c=true) (h:vw P G J (WS c) (fun e b a=>match e with|.normal=>vw P G J (WR c) Q b a|e=>Q e b a) s g):vw P G J c Q s g:=by
 grind[aot,atr]
theorem apE (id:Nat) (d:ark id c=true) (h:vw P G J (tC c) (fun e b a=>match e with|.normal=>Q .normal b a|.exit i=>if i=id then Q .normal b a else Q (.exit i) b a|e=>Q e b a) s g):vw P G J c Q s g:=by
 rw[apG d];exact asm h
theorem amI {t:Nat} (d:an5 t c=true) {b:Bool} (a:bq s.tmps t=.dat (.flat (.bool b))) (h:vw P G J (if b then apn c else apo c) Q s g):vw P G J c Q s g:=by
 rw[apX d];exact asM (c:=.tmp t) a h
theorem asl {α:Type} (q:apU c=true) (k j:List Nat) (f:α->aa) (b:α->γ) (d:α->Prop) (μ:α->Nat) (i:α) (o:d i) (n:s.keep k j=f i) (p:g=b i)
  (a:∀x,d x->vw P G J (inLoop c) (fun e m l=>match e with|.normal=>∃h,d h/\μ h < μ x/\m.keep k j=f h/\l=b h|e=>Q e m l) (f x) (b x)):vw P G J c Q s g:=by
 rw[apk q];exact asK k j f b d μ i o n p a
theorem apD (j e:List Nat) (h:vw P G J c Q (s.keep j e) g):vw P G J c Q s g:=by
 intro w R N d Z U H f z m l D k;obtain⟨b,a,i⟩:=m.forget j e;exact h w R N d b a H f z i l k
theorem aqM (a:J.arF) (h:Q .normal s g):vw P G J .skip Q s g:=afA (J:=J) @a (gD amX h)
theorem asL (a:J.arF) {id:Nat} (h:Q (.exit id) s g):vw P G J (.exit id) Q s g:=afA (J:=J) @a (gD aon h)
theorem atq {n:Nat} {e:List (Value×ak)} {S:List Nat} {d c:List Oper} {o:Oper} {Q:aa->List Nat->Prop} (t:Nat) (O:o.op=.next (.tmp t) false) (f:dC d s o.guard=some true) (J:bq s.tmps t=.ptr (.out n) 0)
  (a:(∀i,i < e.length->i∈S)->ao0 P E G H n e d Q c (s.put o.dst (.tup [.dat (.flat (.bool false))])) S)
  (b:∀i,i < e.length->i∉S->ao0 P E G H n e d Q c (s.put o.dst (.tup [.dat (.flat (.bool true)),.undef,.undef])) (i::S)):ao0 P E G H n e d Q (o::c) s S:=.inr (.inl ⟨t,O,f,J,a,b⟩)
theorem asJ {n:Nat} {c:List (Value×ak)} {S:List Nat} {b a:List Oper} {o:Oper} {Q:aa->List Nat->Prop} (t m:Nat) {k:Value} {d:ak} (O:o.op=.entry (.tmp t)) (g:dC b s o.guard=some true) (J:bq s.tmps t=.ptr (.out n) 0) (e:c[m]?=some (k,d)) (f:bJ k=true)
  (h:ao0 P E G H n c b Q a (s.put o.dst (.tup [.dat (.flat k),.undef])) (m::S)):ao0 P E G H n c b Q (o::a) s (m::S):=.inr (.inr ⟨t,m,S,k,d,rfl,O,g,J,e,f,h⟩)
theorem aqN (W:E.Ok P) {j n:Nat} {a:List (Value×ak)} {S:List Nat} {Q:Exit->aa->List Nat->Prop} (b:arh c=true) (h:ao0 P E G H n a (akR c) (Q .normal) (akR c) s S):vw P G (MIt j n a) c Q s S:=by
 grind[aqQ,arA]
end
end Go.Tp
namespace Go.Proofs.YtmpmgmmcaghacaaGreatDoor
open Go.Tp
def aqV (m:List Int) (s:Int):List Int:=if s∈m then m else m++[s]
def Grow (m a:List Int) (X:Int->Prop):Prop:=m <+: a/\(m.Nodup->a.Nodup)/\∀s,s∈a↔s∈m∨X s
variable {a m:List Int}
theorem asr {s t:Int}:t∈aqV m s↔t∈m∨t=s:=by
 grind[aqV]
theorem apg (m:List Int):Grow m m (fun _=>False):=⟨List.prefix_refl _,id,fun s=>by simp⟩
theorem Grow.trans {b:List Int} {X Y:Int->Prop} (h:Grow m a X) (k:Grow a b Y):Grow m b (fun s=>X s∨Y s):=
 ⟨h.1.trans k.1,fun N=>k.2.1 (h.2.1 N),fun s=>by rw[k.2.2,h.2.2,or_assoc]⟩
theorem Grow.congr {X Y:Int->Prop} (h:Grow m a X) (e:∀s,X s↔Y s):Grow m a Y:=⟨h.1,h.2.1,fun s=>by rw[h.2.2,e]⟩
theorem apW (m:List Int) (s:Int):Grow m (aqV m s) (fun t=>t=s):=by
 refine⟨?_,?_,fun t=>asr⟩
 all_goals grind[aqV]
def visit (d:Option Int) (m:List Int) (s:Int):List Int:=if d=some s then m else aqV m s
theorem asH (d:Option Int) (m:List Int) (s:Int):Grow m (visit d m s) (fun t=>t=s/\d≠some t):=by
 unfold visit
 split
 ·rename_i h;exact (apg m).congr fun t=>⟨False.elim,fun ⟨e,N⟩=>N (e ▸ h)⟩
 grind[apW]
def vk (d:Option Int) (m e:List Int):List Nat->List Int
 | []=>m
 | i::S=>visit d (vk d m e S) (e.getD i 0)
theorem arj (d:Option Int) (m e:List Int):∀S:List Nat,Grow m (vk d m e S) (fun t=>∃i∈S,t=e.getD i 0/\d≠some t)
 | []=>(apg m).congr fun t=>by simp
 | i::S=>((arj d m e S).trans (asH d _ _)).congr fun t=>by
  grind
theorem arz {d:Option Int} {e:List Int} {S:List Nat} (h:∀i,i < e.length->i∈S) (a:∀i∈S,i < e.length):Grow m (vk d m e S) (fun t=>t∈e/\d≠some t):=by
 refine (arj d m e S).congr fun t=>⟨?_,?_⟩
 ·grind
 rintro⟨T,D⟩;obtain⟨i,b,rfl⟩:=List.getElem_of_mem T;grind
theorem Grow.same {X:Int->Prop} (h:Grow m a X) (l:a.length=m.length):a=m:=(h.1.eq_of_length l.symm).symm
theorem Grow.len {X:Int->Prop} (h:Grow m a X):m.length<=a.length:=h.1.length_le
section
variable (n:Nat) (su:Nat->List Nat) (us:Nat->List Int) (df:Nat->Option Int)
def ap0 (a:List (List Int)) (i:Nat) (s:Int):Prop:=s∈us i∨∃j∈su i,s∈a.getD j []/\df i≠some s
def aow:List Int:=(List.range n).flatMap us
structure LOk (es:List (List Int)):Prop where
 len:es.length=n
 nd:∀i,(es.getD i []).Nodup
 sub:∀i s,s∈es.getD i []->s∈aow n us
 just:∀i,i < n->∀s,s∈es.getD i []->ap0 su us df es i s
 least:∀X:Nat->Int->Prop,(∀i,i < n->∀s,(s∈us i∨∃j∈su i,X j s/\df i≠some s)->X i s)->∀i,i < n->∀s,s∈es.getD i []->X i s
def apM (a:List (List Int)):Nat:=(a.map List.length).sum
structure aol (es0 es:List (List Int)) (k:Nat) (ch:Bool):Prop where
 ok:LOk n su us df es
 same:ch=false->es=es0/\∀i,k<=i->i < n->∀s,ap0 su us df es0 i s->s∈es0.getD i []
 more:ch=true->apM es0 < apM es
variable {n su us df}
theorem anG {a:List (List Int)} {i j:Nat} {m:List Int} (b:i < a.length):(a.set i m).getD j []=if i=j then m else a.getD j []:=by
 grind
theorem arL {m:List Int}:∀{es:List (List Int)} {i:Nat},i < es.length->apM (es.set i m)+(es.getD i []).length=apM es+m.length
 | [],_,h=>by grind
 | a::es,0,_=>by grind[apM]
 | a::es,i+1,h=>by
  have:=arL (m:=m) (es:=es) (i:=i) (by grind)
  grind[apM]
theorem LOk.set {d:List (List Int)} (h:LOk n su us df d) (w:∀i,i < n->∀j∈su i,j < n) {i:Nat} (k:i < n) {m:List Int} (J:Grow (d.getD i []) m (ap0 su us df d i)):LOk n su us df (d.set i m):=by
 have l:i < d.length:=by rw[h.len];grind
 have g:∀j s,s∈d.getD j []->s∈(d.set i m).getD j []:=by
  intro j s c;rw[anG l]
  split
  ·rename_i e;subst e;exact (J.2.2 s).2 (.inl c)
  grind
 have u:∀j s,ap0 su us df d j s->ap0 su us df (d.set i m) j s:=by
  rintro j s (a|⟨q,a,b,f⟩)
  ·exact .inl a
  exact .inr ⟨q,a,g q s b,f⟩
 refine⟨by rw[List.length_set];exact h.len,fun j=>?_,fun j s c=>?_,fun j v s c=>?_,fun X o j v s c=>?_⟩
 ·rw[anG l];split
  ·exact J.2.1 (h.nd i)
  exact h.nd j
 ·rw[anG l] at c
  split at c
  ·rcases (J.2.2 s).1 c with a|a|⟨q,a,b,f⟩
   ·exact h.sub i s a
   ·exact List.mem_flatMap.2 ⟨i,List.mem_range.2 k,a⟩
   exact h.sub q s b
  exact h.sub j s c
 ·rw[anG l] at c
  split at c
  ·rename_i e;subst e
   rcases (J.2.2 s).1 c with a|a
   ·exact u _ _ (h.just _ k s a)
   grind
  exact u _ _ (h.just j v s c)
 rw[anG l] at c
 split at c
 ·rename_i e;subst e
  rcases (J.2.2 s).1 c with a|a|⟨q,a,b,f⟩
  ·exact h.least X o _ k s a
  ·exact o _ k s (.inl a)
  exact o _ k s (.inr ⟨q,a,h.least X o q (w _ k q a) s b,f⟩)
 exact h.least X o j v s c
theorem asd {c:List (List Int)} (h:LOk n su us df c):aol n su us df c c n false:=⟨h,fun _=>⟨rfl,fun i a b=>absurd b (by omega)⟩,fun h=>by grind⟩
theorem aol.round {d c:List (List Int)} {k:Nat} {g:Bool} (h:aol n su us df d c (k+1) g) (r:∀i,i < n->∀j∈su i,j < n) (y:k < n) {m:List Int} (J:Grow (c.getD k []) m (ap0 su us df c k)) :
  aol n su us df d (c.set k m) k (g||decide (m.length≠(c.getD k []).length)):=by
 have l:k < c.length:=by rw[h.ok.len];grind
 have B:=arL (m:=m) l;have w:=J.len;refine⟨h.ok.set r y J,fun o=>?_,fun T=>?_⟩
 ·simp only[Bool.or_eq_false_iff,decide_eq_false_iff_not,Decidable.not_not] at o;obtain⟨e,A⟩:=h.same o.1;have z:=J.same o.2;subst z;have q:c.set k (c.getD k [])=c:=by
   simp_all
  rw[q];refine⟨e,fun i a b s v=>?_⟩
  by_cases p:i=k
  ·subst p;rw[←e];rw[←e] at v;exact (J.2.2 s).2 (.inr v)
  grind
 cases f:g with
 | true=>have:=h.more f;omega
 | false=>
  obtain⟨e,_⟩:=h.same f
  grind
theorem auB {es:List (List Int)} {b:Nat} (h:∀e∈es,e.length<=b):apM es<=es.length*b:=by
 induction es with
 | nil=>simp[apM]
 | cons a es d=>
  have c:=d (fun e g=>h e (by grind));simp[apM] at c ⊢;grind
theorem aq8:∀{l u:List Int},l.Nodup->(∀s∈l,s∈u)->l.length<=u.length
 | [],_,_,_=>Nat.zero_le _
 | a::l,u,h,c=>by
  have b:=List.nodup_cons.1 h;have:=aq8 (u:=u.erase a) b.2 (fun s d=>(List.mem_erase_of_ne (fun e:s=a=>b.1 (e ▸ d))).2 (c s (by grind)))
  grind
theorem LOk.aqH {a:List (List Int)} (h:LOk n su us df a) (i:Nat):(a.getD i []).length<=(aow n us).length:=aq8 (h.nd i) (fun s b=>h.sub i s b)
theorem LOk.aw4 {es:List (List Int)} (h:LOk n su us df es):apM es<=n*(aow n us).length:=by
 have:=auB (es:=es) (b:=(aow n us).length) (fun e c=>by
  obtain⟨i,f,rfl⟩:=List.getElem_of_mem c
  have:=h.aqH i
  grind)
 rw[h.len] at this;grind
theorem aol.fix {b a:List (List Int)} (h:aol n su us df b a 0 false):LOk n su us df a/\∀i,i < n->∀s,s∈a.getD i []↔ap0 su us df a i s:=by
 obtain⟨rfl,g⟩:=h.same rfl;exact⟨h.ok,fun i d s=>⟨h.ok.just i d s,g i (Nat.zero_le _) d s⟩⟩
theorem atn:LOk n su us df (List.replicate n []):=by
 refine⟨by simp,fun i=>?_,fun i s a=>?_,fun i _ s a=>?_,fun X _ i _ s a=>?_⟩
 all_goals grind
end
end Go.Proofs.YtmpmgmmcaghacaaGreatDoor
namespace Go.Tp
theorem SC {w:World} {R:Own} {N:Name->Option Nat} {k C z:Nat} {v:Value} {P:List Nat} {o:Heap} {cs:List ac} {u:List ak} {H:List Nat} (V:ai w R (outs N) (.win (.out k) C 0 z) v P) (hh:aj w R (outs N) o H) (O:eA (.out k) o=some (.cells cs))
  (ax:H.Nodup) (ar:u.length=z) (av:z<=lim)
  (f:∀i d,u[i]?=some d->d.cells.length=C/\∀j c,d.cells[j]?=some c->∃a,cs[i*C+j]?=some a/\dK a=some c) :
  ∃(b:Nat) (R2:Own) (n:List Nat),b∈H/\b∉n/\P=[]/\ai w R2 (outs N) (.dat (.slice u)) v []/\aj w R2 (outs N) (iY (.out k) o) n/\n.Sublist H/\(∀B,b∉B->bp w R w R2 B):=by
 obtain⟨rfl,b,S,hb,rfl,Y,⟨a0,_⟩,a2,a3⟩:=V;obtain⟨L,m,r,t,E,U,af,_,I,Z,F⟩:=aj.kK hh O
 have:m=b:=by grind
 subst this;obtain⟨vs,T,sp,W,az,a4,_⟩:=af;obtain⟨G,y⟩:∃G:Own,G=fun c s=>c≠m/\R c s:=⟨_,rfl⟩
 have p:Step w R w G:=⟨rfl,rfl,rfl,Nat.le_refl _,fun c _ g=>⟨rfl,fun s h=>by grind⟩,fun c s _ g=>⟨fun h=>by grind,rfl⟩,fun _ _=>rfl⟩;have hk:∀B,m∉B->bp w R w G B:=fun B al=>⟨p,fun c M _=>⟨rfl,fun s h=>by grind⟩⟩
 subst E;have hp:((L++(m::r))++t).Perm (m::(r++(L++t))):=by
  rw[List.perm_iff_count];grind
 have ae:=List.nodup_cons.1 (hp.nodup_iff.1 ax);have g:=ae.1;simp only[List.mem_append,not_or] at g;have n5:m∉I:=fun hm=>by
  rcases List.mem_append.1 (F.subset hm) with h|h
  ·exact g.2.1 h
  exact g.2.2 h
 have ag:eU w G (.slice (some ⟨m,0,none⟩) z S) (.slice u):=by
  subst ar;have M:∀i j e c,u[i]?=some e->e.cells[j]?=some c->∃a x Q,cs[i*C+j]?=some a/\dK a=some c/\vs[i*C+j]?=some x/\ai w R (outs N) a x Q:=by
   intro i j e c he M;obtain⟨a,A,D⟩:=(f i e he).2 j c M;obtain⟨x,Q,q1,q2,_⟩:=dY az (rj A);exact⟨a,x,Q,A,D,by rw[←Array.getElem?_toList];exact q1,q2⟩
  refine .slice m 0 S C _ (fun i j=>vs[i*C+j]?.getD default) a0 ?_ Y av ?_ ?_
  ·intro e he;obtain⟨i,hi,rfl⟩:=List.getElem_of_mem he;exact (f i _ (List.getElem?_eq_getElem hi)).1
  ·intro i j hi hj;have ad:u[i]?=some u[i]:=List.getElem?_eq_getElem hi;have l:=(f i _ ad).1;have aq:u[i].cells[j]?=some (u[i].cells[j]'(by omega)):=List.getElem?_eq_getElem (by omega);obtain⟨a,x,Q,_,D,J,X⟩:=M i j _ _ ad aq;refine⟨?_,fun h=>by subst y;exact h.1 rfl⟩;rw[cell_of_row w m _ vs T (0,0) W];rw[Nat.zero_add,J];rfl
  intro i j e c he am;obtain⟨a,x,Q,_,D,J,X⟩:=M i j e c he am;obtain⟨k1,K⟩:=mn D X;have a1:vs[i*C+j]?.getD default=x:=by rw[J];rfl
  show eU w G (vs[i*C+j]?.getD default) c;rw[a1];exact k1.step p
 refine⟨m,G,I,by simp,n5,rfl,bQ (d:=.slice u) ag,Z.keep (hk I n5),?_,hk⟩;refine F.trans ?_;exact List.Sublist.append (List.sublist_append_left L (m::r)) (List.Sublist.refl t)
section
variable {P:Program} {G:bA}
end
end Go.Tp
namespace Go.Tp
structure Gr where
 n:Nat
 succ:Nat->List Nat
 call:Nat->Bool
 lt:∀i,i < n->∀j∈succ i,j < n
variable {G:Gr}
def Gr.yN (G:Gr):Prop:=∃C:Nat->Prop,(∃i,C i)/\∀c,C c->c < G.n/\G.call c=false/\∃j∈G.succ c,C j
inductive Gr.Fin (G:Gr):List Nat->Prop
 |nil:Gr.Fin G []
 |cons {o:List Nat} {i:Nat}:Gr.Fin G o->(G.call i=true∨∀j∈G.succ i,j∈o)->Gr.Fin G (i::o)
def Gr.cover (G:Gr):Prop:=∃o,G.Fin o/\∀i,i < G.n->i∈o
def gg (a:List Nat) (i:Nat):Nat:=a.getD i 0
variable {a:List Nat} {e i j:Nat} {f:List Bool} {r:List (Nat×Nat)}
theorem ee {v:Nat} (h:i < a.length):gg (a.set i v) j=if j=i then v else gg a j:=by
 grind[gg]
def Gr.Below (G:Gr) (b:List Nat):Nat->List (Nat×Nat)->Prop
 | _,[]=>True
 | a,(p,e)::r=>p < G.n/\0 < e/\gg b p=1/\G.call p=false/\(G.succ p)[e - 1]?=some a/\(∀k j,k < e - 1->(G.succ p)[k]?=some j->gg b j=2)/\G.Below b p r
def Gr.Top (G:Gr) (a:List Nat):List (Nat×Nat)->Prop
 | []=>True
 |(i,e)::r=>i < G.n/\e<=(G.succ i).length/\(0 < e->gg a i=1/\G.call i=false)/\(e=0->gg a i≠1)/\(∀k j,k < e->(G.succ i)[k]?=some j->gg a j=2)/\G.Below a i r
structure Gr.Inv (G:Gr) (st:List Nat) (stk:List (Nat×Nat)):Prop where
 len:st.length=G.n
 val:∀i,gg st i<=2
 fin:∃o,G.Fin o/\(∀i,i∈o↔i < G.n/\gg st i=2)
 act:∀i,gg st i=1->i∈stk.map Prod.fst
 nodup:(stk.map Prod.fst).Nodup
 top:G.Top st stk
theorem Gr.Below.done {c:List Nat} {i:Nat} (l:i < c.length):∀{r:List (Nat×Nat)} {a:Nat},i∉r.map Prod.fst->G.Below c a r->G.Below (c.set i 2) a r
 | [],_,_,_=>trivial
 |(p,e)::r,a,N,h=>by
  obtain⟨d,b,f,g,j,m,k⟩:=h;simp only[List.map_cons,List.mem_cons,not_or] at N;refine⟨d,b,?_,g,j,?_,Gr.Below.done l N.2 k⟩
  all_goals grind[ee]
theorem Gr.Below.act {c:List Nat} {i:Nat} (l:i < c.length) (b:gg c i≠2):∀{r:List (Nat×Nat)} {a:Nat},G.Below c a r->G.Below (c.set i 1) a r
 | [],_,_=>trivial
 |(p,e)::r,a,h=>by
  obtain⟨d,f,m,g,j,n,k⟩:=h;refine⟨d,f,?_,g,j,?_,Gr.Below.act l b k⟩
  all_goals grind[ee]
theorem Gr.Inv.pop {g:List Nat} (h:G.Inv g ((i,e)::r)) (D:gg g i=2∨G.call i=true∨e=(G.succ i).length):G.Inv (g.set i 2) r:=by
 obtain⟨l,V,⟨o,O,f⟩,A,N,T⟩:=h;obtain⟨u,K,L,M,H,I⟩:=T;have d:i < g.length:=by grind
 simp only[List.map_cons,List.nodup_cons] at N;refine⟨by grind,?_,?_,?_,N.2,?_⟩
 ·grind[ee]
 ·by_cases b:gg g i=2
  ·grind[ee]
  refine⟨i::o,.cons O ?_,?_⟩
  ·rcases D with D|D|D
   ·grind
   ·grind
   refine .inr ?_;intro j a;obtain⟨k,w,E⟩:=List.mem_iff_getElem.1 a;rw[f];refine⟨G.lt i u j a,H k j (by omega) ?_⟩;rw[List.getElem?_eq_getElem w,E]
  intro j;rw[List.mem_cons,ee d,f]
  by_cases a:j=i
  ·subst a;simp[u]
  rw[if_neg a];simp[a]
 ·intro j a;rw[ee d] at a
  by_cases c:j=i
  ·rw[if_pos c] at a;omega
  rw[if_neg c] at a
  have:=A j a
  simp only[List.map_cons,List.mem_cons] at this;exact this.resolve_left c
 cases r with
 | nil=>trivial
 | cons q r=>
  obtain⟨p,m⟩:=q;obtain⟨x,J,y,z,v,B,C⟩:=I;have t:p≠i:=by
   rintro rfl;exact N.1 (by simp)
  have s:m<=(G.succ p).length:=by
   have:=(List.getElem?_eq_some_iff.1 v).1
   omega
  refine⟨x,s,?_,by omega,?_,Gr.Below.done d (fun F=>N.1 (by simp only[List.map_cons,List.mem_cons];exact .inr F)) C⟩
  ·intro _;refine⟨?_,z⟩;rw[ee d,if_neg t];exact y
  intro k j w a;rw[ee d]
  by_cases c:j=i
  ·rw[if_pos c]
  rw[if_neg c]
  by_cases n:k < m - 1
  ·exact B k j n a
  have:k=m - 1:=by omega
  subst this;rw[v] at a;exact absurd (Option.some.inj a).symm c
theorem Gr.Inv.mark (h:G.Inv a ((i,e)::r)) (b:e=0->gg a i≠2):(∀j,gg (a.set i 1) j=if j=i then 1 else gg a j)/\(a.set i 1).length=G.n/\(∃o,G.Fin o/\(∀j,j∈o↔j < G.n/\gg (a.set i 1) j=2))/\(∀j,gg (a.set i 1) j=1->j∈((i,e)::r).map Prod.fst)/\G.Below (a.set i 1) i r/\(∀k j,k < e->(G.succ i)[k]?=some j->gg (a.set i 1) j=2):=by
 obtain⟨l,V,⟨o,O,d⟩,A,N,T⟩:=h;obtain⟨g,m,n,p,q,s⟩:=T;grind[ee,Gr.Below.act]
theorem Gr.Inv.skip (h:G.Inv a ((i,e)::r)) (b:e=0->gg a i≠2) (o:e=0->G.call i=false) (p:(G.succ i)[e]?=some j) (D:gg (a.set i 1) j=2):G.Inv (a.set i 1) ((i,e+1)::r):=by
 obtain⟨f,g,l,q,m,s⟩:=h.mark b;obtain⟨n,t,u,v,w,x⟩:=h.top;refine⟨g,?_,l,?_,h.nodup,⟨n,?_,?_,by omega,?_,m⟩⟩
 ·intro k;rw[f]
  by_cases d:k=i
  ·grind
  rw[if_neg d];exact h.val k
 all_goals grind
theorem Gr.Inv.push (h:G.Inv a ((i,e)::r)) (b:e=0->gg a i≠2) (C:e=0->G.call i=false) (m:(G.succ i)[e]?=some j) (f:gg (a.set i 1) j≠1) (s:gg (a.set i 1) j≠2):G.Inv (a.set i 1) ((j,0)::(i,e+1)::r):=by
 obtain⟨u,v,y,E,z,F⟩:=h.mark b;obtain⟨o,H,I,J,K,L⟩:=h.top;have c:G.call i=false:=by
  grind
 have g:j < G.n:=G.lt i o j (List.mem_of_getElem? m);have l:∀q,G.Below (a.set i 1) q r->∀p∈r.map Prod.fst,gg (a.set i 1) p=1:=by
  intro q d p w;revert q;have t:∀(r:List (Nat×Nat)) (q:Nat),G.Below (a.set i 1) q r->∀p∈r.map Prod.fst,gg (a.set i 1) p=1:=by
   intro r
   induction r with
   | nil=>grind
   | cons x r D=>
    intro q d p w;obtain⟨M,O⟩:=x;obtain⟨_,_,A,_,_,_,B⟩:=d;grind
  grind
 refine⟨v,?_,y,?_,?_,⟨g,Nat.zero_le _,by omega,fun _=>f,fun k q n=>by omega,?_⟩⟩
 ·intro k;rw[u]
  by_cases n:k=i
  ·grind
  rw[if_neg n];exact h.val k
 ·grind
 ·simp only[List.map_cons,List.nodup_cons];have N:=h.nodup;grind
 refine⟨o,by omega,by grind,c,m,?_,z⟩;grind
theorem Gr.Inv.yN {f:List Nat} (h:G.Inv f ((i,e)::r)) (b:e=0->gg f i≠2) (a:e=0->G.call i=false) (w:(G.succ i)[e]?=some j) (D:gg (f.set i 1) j=1):G.yN:=by
 obtain⟨A,B,C,E,F,H⟩:=h.mark b;obtain⟨I,J,L,N,O,P⟩:=h.top;refine⟨fun c=>c∈((i,e)::r).map Prod.fst,⟨i,by simp⟩,?_⟩;have o:∀(r:List (Nat×Nat)) (q:Nat),G.Below f q r->∀c∈r.map Prod.fst,c < G.n/\G.call c=false/\∃j∈G.succ c,j=q∨j∈r.map Prod.fst:=by
  intro r
  induction r with
  | nil=>grind
  | cons x r n=>
   intro q d c a;obtain⟨p,Q⟩:=x;obtain⟨s,_,t,u,v,_,m⟩:=d;simp only[List.map_cons,List.mem_cons] at a
   rcases a with rfl|a
   ·grind
   obtain⟨y,K,k,M,z⟩:=n p m c a;grind
 intro c g;grind
theorem Gr.Inv.start {c:List Nat} (h:G.Inv c []) (d:i < G.n):G.Inv c [(i,0)]:=by
 have a:∀j,gg c j≠1:=fun j b=>by have:=h.act j b;grind
 refine⟨h.len,h.val,h.fin,fun j b=>absurd b (a j),by simp,⟨d,Nat.zero_le _,by omega,fun _=>a i,fun k j e=>by omega,trivial⟩⟩
theorem Gr.Inv.init:G.Inv (List.replicate G.n 0) []:=by
 have o:∀i,gg (List.replicate G.n 0) i=0:=by
  grind[gg]
 refine⟨by simp,fun i=>by grind,⟨[],.nil,fun i=>by grind⟩,fun i a=>by grind,by simp,trivial⟩
theorem Gr.Inv.cover {c:List Nat} (h:G.Inv c []) (D:∀i,i < G.n->gg c i=2):G.cover:=by
 obtain⟨o,O,a⟩:=h.fin;exact⟨o,O,fun i b=>(a i).2 ⟨b,D i b⟩⟩
def LZ (e d:Nat):Nat:=if e=0 then 1 else 2*(d - e)+1
def fresh (G:Gr) (a:List Nat):Nat->Nat
 | 0=>0
 | k+1=>fresh G a k+(if gg a k=0 then 2*(G.succ k).length+4 else 0)
def rI (G:Gr) (b:List Nat) (a:List (Nat×Nat)):Nat:=fresh G b G.n+(a.map (fun x=>LZ x.2 (G.succ x.1).length)).sum
theorem uG {a:List Nat} {i v:Nat} (b:i < a.length) (V:v≠0):∀k,fresh G (a.set i v) k<=fresh G a k
 | 0=>Nat.le_refl _
 | k+1=>by
  have c:=uG b V k;grind[fresh,ee]
theorem GX {a:List Nat} {i v:Nat} (b:i < a.length) (V:v≠0) (o:gg a i=0):∀k,i < k->fresh G (a.set i v) k+(2*(G.succ i).length+4)<=fresh G a k
 | 0,h=>by omega
 | k+1,h=>by
  simp only[fresh];rw[ee b]
  by_cases c:k=i
  ·grind[uG]
  rw[if_neg c]
  have:=GX b V o k (by omega)
  omega
theorem Gq {v:Nat} (b:i < a.length) (V:v≠0):rI G (a.set i v) r < rI G a ((i,e)::r):=by
 grind[uG,LZ,rI]
theorem CR {c:List Nat} {s:List (Nat×Nat)} (h:G.Inv c ((i,e)::r)) (b:e=0->gg c i≠2) (m:e < (G.succ i).length) (n:s=[]∨∃j,s=[(j,0)]) :
  rI G (c.set i 1) (s++(i,e+1)::r) < rI G c ((i,e)::r):=by
 obtain⟨l,q,t,u,w,y⟩:=h.top;have d:i < c.length:=by rw[h.len];grind
 have g:(s.map (fun x=>LZ x.2 (G.succ x.1).length)).sum<=1:=by
  grind[LZ]
 have a:=uG (G:=G) d (v:=1) (by omega) G.n;have p:LZ (e+1) (G.succ i).length=2*((G.succ i).length - (e+1))+1:=by grind[LZ]
 simp only[rI,List.map_append,List.sum_append,List.map_cons,List.sum_cons];by_cases o:e=0
 ·have V:=h.val i;have k:gg c i=0:=by grind
  have f:=GX (G:=G) d (v:=1) (by omega) k G.n l;omega
 grind[LZ]
def Gr.Sound (G:Gr) (f:List Bool):Prop:=∀C:Nat->Prop,(∀c,C c->c < G.n/\G.call c=false/\∃j∈G.succ c,C j)->∀c,C c->f.getD c false=false
def Gr.fp (G:Gr) (f:List Bool):Prop:=∀i,i < G.n->(G.call i=true∨∀j∈G.succ i,f.getD j false=true)->f.getD i false=true
theorem Gr.Sound.set (h:G.Sound f) (n:i < f.length) (D:G.call i=true∨∀j∈G.succ i,f.getD j false=true):G.Sound (f.set i true):=by
 intro C d c e;have a:=h C d c e;by_cases k:i=c
 ·subst k
  obtain⟨_,b,j,l,g⟩:=d _ e
  rcases D with D|D
  ·grind
  have m:=D j l;rw[h C d j g] at m;grind
 grind
theorem Gr.Sound.init {n:Nat}:G.Sound (List.replicate n false):=by
 intro C _ c _;grind
theorem Gr.NQ (l:f.length=G.n) (h:G.Sound f) (T:G.yN):f.any (fun b=>!b)=true:=by
 obtain⟨C,⟨i,d⟩,c⟩:=T;have a:=h C c i d;have e:=(c i d).1;rw[List.any_eq_true];refine⟨f[i]'(by omega),List.getElem_mem _,?_⟩;grind
theorem Gr.Fin.free {o:List Nat} (h:G.Fin o) {C:Nat->Prop} (a:∀c,C c->c < G.n/\G.call c=false/\∃j∈G.succ c,C j):∀c,C c->c∉o:=by
 induction h <;> grind
theorem Gr.JW (h:G.cover):¬G.yN:=by
 obtain⟨o,O,a⟩:=h;rintro⟨C,⟨i,c⟩,b⟩;exact O.free b i c (a i (b i c).1)
theorem Gr.Sh (l:f.length=G.n) (h:G.fp f) (A:f.any (fun b=>!b)=true):G.yN:=by
 refine⟨fun i=>i < G.n/\f.getD i false=false,?_,?_⟩
 ·rw[List.any_eq_true] at A;obtain⟨b,d,o⟩:=A;obtain⟨i,r,q⟩:=List.mem_iff_getElem.1 d;refine⟨i,by omega,?_⟩;grind
 rintro c ⟨a,m⟩;have n:=h c a;have g:¬(G.call c=true∨∀j∈G.succ c,f.getD j false=true):=fun D=>by grind
 refine⟨a,?_,?_⟩
 ·grind
 have e:¬ ∀j∈G.succ c,f.getD j false=true:=fun D=>g (.inr D)
 simp only[Classical.not_forall] at e;obtain⟨j,k,p⟩:=e;exact⟨j,k,G.lt c a j k,by grind⟩
theorem anG (h:i < f.length):(f.set i true).getD j false=(decide (j=i)||f.getD j false):=by
 grind
end Go.Tp
namespace Go.Tp
open Go.ChangeShapes Go.WideShapes
def intD (x:Int):ak:=.flat (.int .i64 x)
theorem X2 {x:Int} (h:(Lit.int .i64 x).wf=true):-9223372036854775808<=x/\x < 9223372036854775808:=by
 have a:decide (-9223372036854775808<=x)=true/\decide (x<=9223372036854775807)=true:=(Bool.and_eq_true _ _).mp h;grind
theorem Dq {H:Type} {F:TypeId×Value->H} {P:Program} {W:World} {w:Nat} {sp:Nat->Bool} {z:Bool} {t e:TypeId} {v:Value} {d:DataW H} {ps:List MemPlace} (N:Name->Option Nat)
  (T:P.underlying t=some (.slice e)) (R:P.underlying e=some (.int .i64)) (Q:P.cellsOf e=1) (V:v.cells=#[v]) (h:DataW.Trod F P W w sp z t v d ps) :
  ∃l:List Int,((d=.nil/\l=[])∨(∃y E,d=.slice y E/\y.length=l.length))/\(∀x∈l,-9223372036854775808<=x/\x < 9223372036854775808)/\(l.length<=lim->ai W xl N (.dat (.slice (l.map intD))) v []):=by
 obtain⟨J,S⟩:=h
 rcases open_ints T R Q S with⟨m,X⟩|⟨a,f,r,q,m,_,U,hm,Z,X,K,L⟩
 ·rw[V] at m;have u:v=.slice none 0 0:=by grind
  subst u;refine⟨[],.inl ⟨?_,rfl⟩,by simp,fun _=>bQ (d:=.slice []) (.nil none 0)⟩;grind
 rw[V] at m;have u:v=.slice (some a) f r:=by grind
 subst u;simp at X;have Y:f<=q.length:=by grind
 refine⟨q.take f,.inr ⟨_,_,X.1,by simp[lits]⟩,fun x X=>X2 (L x (List.mem_of_mem_take X)),fun O=>?_⟩;have A:(q.take f).length=f:=by grind
 refine bQ (d:=.slice _) ?_
 cases k:f with
 | zero=>
  exact .nil (some a) r
 | succ k0=>
  have p:a.spot=none:=by
   have:=K 0 (by omega)
   have:=World.cell?_spot this
   simpa [Addr.add] using this
  obtain⟨b,C,M⟩:=a;simp only at p;subst p;rw[←k];have I:((q.take f).map intD).length=f:=by rw[List.length_map,A]
  have n:eU W xl (.slice (some ⟨b,C,none⟩) ((q.take f).map intD).length r) (.slice ((q.take f).map intD)):=by
   refine .slice b C r 1 _ (fun i _=>.int .i64 (q.getD i 0)) (by omega) ?_ (by omega) (by omega) ?_ ?_
   ·intro d D;obtain⟨x,_,rfl⟩:=List.mem_map.1 D;rfl
   ·intro i j G hj;obtain rfl:j=0:=by omega
    rw[I] at G;refine⟨?_,fun h=>h⟩
    have:=K i (by omega)
    simp only[Addr.add] at this;simp only[Nat.mul_one,Nat.add_zero]
    split at this
    ·rename_i o;subst o;exact this
    exact this
   intro i j d c D s;rw[List.getElem?_map] at D
   cases g:(q.take f)[i]? with
   | none=>rw[g] at D;simp at D
   | some x=>
    rw[g] at D;simp at D;subst D
    have:c=.flat (.int .i64 x):=by
     cases j with
     | zero=>simp[intD,ak.cells] at s;exact s.symm
     | succ j=>simp[intD,ak.cells] at s
    subst this;have B:q[i]?=some x:=by
     rw[List.getElem?_take] at g
     split at g
     ·exact g
     simp at g
    have:q.getD i 0=x:=by simp[List.getD,B]
    rw[this];exact .flat (L x (List.mem_of_getElem? B))
  rw[I] at n;exact n
theorem wz {P:Program} {G:bA} {f:FuncId} {k:List ac} {args:List Value} {b:Bool} {r:eX} (W:World) (A:ah W xl (outs fun _=>none) k args []) (h:ay P G f k [] 0 (XQ r)) (q:r.val=bv b) (o:∀g c,G g=some c->aed W xl g c) :
  Calls P f args.toArray W fun e a=>e=.returned (.bool b)/\W.keptBut a (fun _=>False)/\∀i,i < W.heap.size->a.heap[i]?=W.heap[i]?:=by
 refine (h W xl (fun _=>none) args [] [] [] A rfl (by simp) (by grind) o (by simp)).mono ?_;rintro e a ⟨v,u,d,j,t,s,n,l,rfl,⟨rfl,_,_⟩,V,_,_,_,m,_⟩;rw[q] at V;obtain⟨_,rfl,_⟩:=aC V;exact⟨rfl,xY m.step,fun i p=>(m.step.block i p (fun _ h=>h)).1⟩
theorem yL {H:Type} {e:TypeId×Value->H} {P:Program} {W g:World} {c:Nat} {k:Nat->Bool} {D:Bool} (f:∀i,i < W.heap.size->g.heap[i]?=W.heap[i]?):∀{m:List TypeId} {q:List Value} {S:List (DataW H)} {j:List MemPlace},
  DataW.TrodAll e P W c k D m q S j->DataW.TrodAll e P g c k D m q S j
 | [],_,_,_,h=>by
  obtain⟨rfl,rfl,rfl⟩:=trodAll_nil h;exact trodAll_mk0
 | _::_,_,_,_,h=>by
  obtain⟨v,u,d,r,a,b,rfl,rfl,rfl,⟨n,N⟩,s⟩:=trodAll_cons h;refine⟨a,b,⟨n,DataW.trod_carry n _ _ _ N (fun p t=>?_)⟩,yL f s,rfl⟩;have l:=DataW.trod_lt n _ _ _ N p t
  cases p with
  | cell b o=>exact World.cell?_of_block (w:=W) (f b l)
  | map b=>exact f b l
end Go.Tp
