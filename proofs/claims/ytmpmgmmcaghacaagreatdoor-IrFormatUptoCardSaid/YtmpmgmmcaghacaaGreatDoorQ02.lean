/- Part 2 of what the last text proves. -/
import Derived.Test.YtmpmgmmcaghacaaGreatDoorQ01
set_option linter.unusedVariables false
set_option linter.unusedSimpArgs false
open Int (ofNat)
set_option maxRecDepth 100000
set_option maxHeartbeats 4000000
namespace Go.Tp
section
variable {P:Program} {E:bz} {G:bA} {H:Hints}
variable (P E G H) in
def Z3 (ops:Array Oper) (h:aw) (i:Nat) (K:aa->Prop) (s:aa):Prop:=
 ∃(lone:Bool) (o:Oper),(i,lone)∈h.pre/\ops[i]?=some o/\(if lone=true then KV (ay P G) E G H (aK H ops.toList h.pre) h.tk ops.toList o K s else ∃a,eK E G (aK H ops.toList h.pre||quietAt H ops.toList h.pre i) ops.toList o s=some a/\K (s.put o.dst a))
variable {s:aa}
theorem qc {z:Bool} {B:List Nat} {l:List Oper} {o:Oper} {K x:aa->Prop} (k:∀s,K s->x s) (h:KV (ay P G) E G H z B l o K s):KV (ay P G) E G H z B l o x s:=by
 unfold KV at h ⊢
 split
 ·rename_i w;simp[w] at h
 rename_i b w;simp only[w] at h
 split
 ·rename_i d;simp only[d,if_true] at h
  split
  ·rename_i c e;simp only[e] at h
   split
   ·rename_i f y F A;simp only[A] at h
    cases r:hO H o with
    | true=>rw[r] at h;exact h.mono fun v q n u m p=>⟨(u m p).1,k _ (u m p).2⟩
    | false=>rw[r] at h;exact h.mono fun v q n u m p=>⟨(u m p).1,k _ (u m p).2⟩
   rename_i A;simp[A] at h
  rename_i e;simp only[e] at h
  split
  ·rename_i t T;simp only[T] at h
   split
   ·rename_i D i;simp only[i] at h
    split
    ·rename_i C g;simp only[g] at h;exact k _ h
    rename_i g;simp[g] at h
   rename_i i;simp[i] at h
  rename_i T;simp only[T] at h
  split
  ·rename_i j;simp only[j] at h
   split
   ·rename_i C g;simp only[g] at h;exact k _ h
   rename_i g;simp[g] at h
  rename_i j;simp only[j] at h
  split
  ·rename_i a A;simp only[A] at h;exact k _ h
  rename_i A;simp[A] at h
 rename_i d;simp only[d] at h;exact k _ h
theorem Qc {c:Array Oper} {h:aw} {i:Nat} {K d:aa->Prop} (k:∀s,K s->d s) (e:Z3 P E G H c h i K s):Z3 P E G H c h i d s:=by
 obtain⟨lone,o,a,b,f⟩:=e;refine⟨lone,o,a,b,?_⟩
 grind[qc]
theorem pq {all:List Oper} {a:List (Nat×Bool)}:∀{j:Nat} {o:Oper} {c:Call},(j,true)∈a->all[j]?=some o->dv o.op=some c->hO H o=false->aK H all a=false:=by
 induction a <;> grind[aK]
theorem H8 {u q i:Bool} {j:List Oper} {f c:Oper} {a:ac} (A:ju f c=true) {r:aa} (O:eK E G u j f s=some a) (z:aa4 E G q i c (s.put f.dst a)=some r) :
  ∃t,aa4 E G q i c s=some t/\t.put f.dst a=r/\eK E G u j f t=some a:=by
 unfold ju at A;simp at A;obtain⟨⟨⟨⟨M,_⟩,B⟩,_⟩,g⟩:=A;have o:∃x d,opsL f.op=[.tmp x]/\f.dst=some d/\dv f.op=none/\oE f.op=false/\(∀m,looks f.op m=none)/\(opsL c.op).any (dI x)=false/\(opsL c.op).any (dI d)=false/\c.dst≠some x/\c.dst≠some d:=by
  split at g
  ·rename_i y k n h F;simp only[Bool.and_eq_true,Bool.not_eq_true',bne_iff_ne] at g;exact⟨y,n,by rw[h];rfl,F,by rw[h];rfl,by rw[h];rfl,fun _=>by rw[h];rfl,g.1.1.1,g.1.1.2,g.1.2,g.2⟩
  ·rename_i y n h F;simp only[Bool.and_eq_true,Bool.not_eq_true',bne_iff_ne] at g;exact⟨y,n,by rw[h];rfl,F,by rw[h];rfl,by rw[h];rfl,fun _=>by rw[h];rfl,g.1.1.1,g.1.1.2,g.1.2,g.2⟩
  grind
 obtain⟨x,d,X,D,e,C,l,N,b,J,I⟩:=o;rw[D] at z ⊢;obtain⟨v,p,K⟩:=oZ B z;have p:=p s.tmps (by
  grind[aa.put,bG])
 have L:({(s.put (some d) a) with tmps:=s.tmps }:aa)=s:=rfl;refine⟨_,p,?_,?_⟩
 ·grind[aa.put,nD,oQ]
 have w:bq (hZ (fV s.tmps (kp q c.op) (opsL c.op)) c.dst v) x=bq s.tmps x:=by
  grind[sX,iP]
 have H:aE G ({r with tmps:=hZ (fV s.tmps (kp q c.op) (opsL c.op)) c.dst v }:aa) none 0 (opsL f.op)=aE G s none 0 (opsL f.op):=by
  grind[aE,fm]
 grind[aX,eK,dC]
theorem Fl {C q h:Bool} {j:List Oper} {c m:Oper} {a:ac} (A:Bs c m=true) {z:aa} (w:eK E G C j c s=some a) (H:aa4 E G q h m (s.put c.dst a)=some z) :
  ∃B,aa4 E G q h m s=some B/\B.put c.dst a=z/\eK E G C j c B=some a:=by
 unfold Bs at A;simp only[Bool.and_eq_true,Bool.or_eq_true,Option.isNone_iff_eq_none] at A;obtain⟨⟨⟨⟨M,_⟩,N⟩,_⟩,k⟩:=A;have r:∃g T d,c.op=.load T (.global g)/\c.dst=some d/\(opsL m.op).any (dI d)=false/\m.dst≠some d:=by
  split at k
  ·rename_i T g J L F;simp only[Bool.and_eq_true,Bool.not_eq_true',bne_iff_ne] at k;exact⟨g,T,J,L,F,k.1,k.2⟩
  simp at k
 obtain⟨g,T,d,l,D,b,u⟩:=r;rw[D] at H ⊢;obtain⟨v,n,K⟩:=oZ N H;have n:=n s.tmps (by
  intro t I;have y:d≠t:=fun e=>by rw[←e,b] at I;simp at I
  simp only[aa.put];rw[bG y])
 have x:({(s.put (some d) a) with tmps:=s.tmps }:aa)=s:=rfl;rw[x] at n;refine⟨_,n,?_,?_⟩
 ·obtain⟨Q,O,f,P⟩:=z;simp only[aa.put] at K ⊢;rw[K,nD b,oQ u]
 have o:∀i:aa,aE G i none 0 (opsL c.op)=aE G s none 0 (opsL c.op):=fun i=>by rw[l];rfl
 have p:∀i:aa,aX i c.op (aE G s none 0 (opsL c.op))=none:=fun i=>by
  rw[l];show aX i (.load T (.global g)) (aE G s none 0 [.global g])=none;simp only[aE,fm]
  cases G g <;> rfl
 unfold eK at w ⊢;simp only[M,dC,o,p] at w ⊢;exact w
theorem MJ {A q j:Bool} {c:Array Oper} {i g:Oper} {a:ac} (p:uw g=true) (B:∀d,i.dst=some d->d∉g.looksAt c) (b:∀d,i.dst=some d->g.dst≠some d) (f:∀d,g.dst=some d->d∉i.looksAt c) {C:aa} (J:eK E G A c.toList i s=some a) (K:aa4 E G q j g (s.put i.dst a)=some C) :
  ∃z,aa4 E G q j g s=some z/\z.put i.dst a=C/\eK E G A c.toList i z=some a:=by
 unfold uw at p
 split at p
 rotate_left
 ·grind
 rename_i x u l n;have X:opsL g.op=[.tmp x]:=by rw[l];rfl
 have r:x∈g.looksAt c:=by
  have:=iH (o:=g) (all:=c.toList) (t:=x) (by grind)
  simp_all
 obtain⟨N,F,k⟩:=Bp X (fun _=>by rw[l];rfl) (fun H R M h=>by
  rw[l] at h;simp only[jE,Dv] at h
  grind) n K
 have w:bq (s.put i.dst a).tmps x=bq s.tmps x:=dm (fun e=>B x e r);have L:=k s w.symm;refine⟨_,L,?_,?_⟩
 ·rw[F]
  cases D:i.dst with
  | none=>rfl
  | some d=>
   have I:x≠d:=fun e=>B d D (e ▸ r)
   have v:u≠d:=fun e=>b d D (by grind)
   have m:List.any [Operand.tmp x] (dI d)=false:=by
    simp only[List.any_cons,List.any_nil,Bool.or_false,dI]
    cases P:Nat.beq x d <;> simp_all
   simp only[aa.put];rw[nD m,List.set_comm _ _ v]
 rw[←J];refine gG ?_ (.of_eq rfl (fun _=>rfl));intro t T;have y:u≠t:=fun e=>f u n (by simp_all)
 rw[bG y];unfold fV
 cases Q:kp q g.op with
 | none=>rfl
 | some k=>
  cases k with
  | zero=>
   have O:=kC (s:=s) (x:=.tmp x) t;grind[bF]
  | succ k=>rfl
theorem TA {g:Array Oper} {h:aw} (ba:ew g h=true) {i j:Nat} {w q:Oper} {a:ac} (hi:g[i]?=some w) (bk:(i,false)∈h.pre) (hj:g[j]?=some q) (V:w.apart g q=true)
  (a2:∀t k B,fk q.op=some t->k∈gk g.toList t h.tk->g.toList[k]?=some B->∀e∈B.after,Region.binds .any e=true->e.on≠i) {K:aa->Prop}
  (hF:∀c,dv q.op=some c->hO H q=false->mK H q=false->(j,true)∈h.pre->(aK H g.toList h.pre||quietAt H g.toList h.pre i)=false)
  (hG:iI q.op=true->(j,true)∈h.pre->uw q=true∨(ju w q=true∨Bs w q=true))
  (hy:eK E G (aK H g.toList h.pre||quietAt H g.toList h.pre i) g.toList w s=some a) (p:Z3 P E G H g h j K (s.put w.dst a)) :
  Z3 P E G H g h j (fun s'=>eK E G (aK H g.toList h.pre||quietAt H g.toList h.pre i) g.toList w s'=some a/\K (s'.put w.dst a)) s:=by
 obtain⟨h1,h2,h3⟩:=Oper.apart_spec V;obtain⟨lone,o,hm,O,p⟩:=p;rw[hj] at O;simp at O;subst O;refine⟨lone,q,hm,hj,?_⟩;have Y:te q g.toList s (s.put w.dst a):=FC (by simpa using h1);have W:∀(s:aa) (v:ac),te w g.toList s (s.put q.dst v):=fun s v=>FC (by simpa using h3)
 have ad:∀{fh:Bool} (s:aa) (d:Option Tmp) (v:ac),yf fh s (s.put d v):=fun s d v=>.of_eq (dB s d v).1 (fun _=>(dB s d v).2.1)
 split
 ·rename_i l;rw[if_pos l] at p;subst l;unfold KV at p ⊢;rw[pI Y] at p
  split
  ·rename_i hw;simp[hw] at p
  rename_i b hw;simp only[hw] at p
  split
  ·rename_i hb;simp only[hb,if_true] at p
   split
   ·rename_i c hc;simp only[hc] at p;have N:=vW hc;rw[EZ (fun d D ae=>h1 d D (List.mem_append_left _ (List.mem_filterMap.2 ⟨.tmp d,by rw[N];simpa [Op.operands] using ae,rfl⟩)))] at p
    cases L:dX E G H c s with
    | none=>rw[L] at p;simp at p
    | some x=>
     obtain⟨f,bu,C⟩:=x;rw[L] at p;simp only[Option.map_some] at p;obtain⟨ag,X⟩:=EY L w g.toList;have e1:(C.put w.dst a).heap=C.heap:=(dB C w.dst a).2.1;have F:(C.put w.dst a).next=C.next:=(dB C w.dst a).2.2;rw[e1,F] at p;dsimp only at p ⊢
     cases az:hO H q with
     | true=>
      rw[az] at p;refine p.mono fun v heap n hq b1 Q=>⟨(hq b1 Q).1,?_,?_⟩
      ·rw[←hy];refine gG ?_ ?_
       ·have k1:te w g.toList s {C with next:=n }:=ag;exact k1.trans (W _ v)
       exact .of_eq (by rw[(dB _ q.dst v).1];exact X) (fun _=>by rw[(dB _ q.dst v).2.1];exact (mW L:C.heap=s.heap))
      have:=(hq b1 Q).2
      have e:(⟨(C.put w.dst a).tmps,(C.put w.dst a).locs,C.heap,n⟩:aa)=({C with next:=n }:aa).put w.dst a:=by cases w.dst <;> rfl
      rw[e,put_comm h2] at this;exact this
     | false=>
      rw[az] at p;refine p.mono fun v heap n hq b1 Q=>⟨(hq b1 Q).1,?_,?_⟩
      ·cases a6:mK H q with
       | true=>
        refine H9 ?_ ?_ hy
        ·have k1:te w g.toList s {C with heap:=heap,next:=n }:=ag;exact k1.trans (W _ v)
        intro m ob an;have z:=(hq b1 Q).1 a6;rw[afo]
        cases m with
        | loc k=>simp only[aa.obj] at an ⊢;rw[X];exact an
        | out k=>simp only[aa.obj] at an ⊢;exact z _ _ (by rw[(mW L:C.heap=s.heap)];exact an)
       | false=>
        have bg:=hF c hc az a6 hm;rw[←hy];refine gG ?_ ?_
        ·have k1:te w g.toList s {C with heap:=heap,next:=n }:=ag;exact k1.trans (W _ v)
        exact .of_eq (by rw[(dB _ q.dst v).1];exact X) (fun hf=>by rw[bg] at hf;simp at hf)
      have:=(hq b1 Q).2
      rw[Pj,put_comm h2] at this;exact this
   rename_i hc;simp only[hc] at p
   split
   ·rename_i t ht;simp only[ht] at p;obtain⟨_,rr,a4⟩:=tY ht;have a7:t∈q.looksAt g:=by
     have:=iH (o:=q) (all:=g.toList) (t:=t) (by rw[a4];simp)
     simpa using this
    have I:∀d,w.dst=some d->Operand.tmp d∉opsL q.op:=fun d D ae=>h1 d D (by have:=iH (o:=q) (all:=g.toList) ae;simpa using this)
    have a9:ae5 h.tk t (s.put w.dst a)=ae5 h.tk t s:=by unfold ae5;rw[dm (fun e=>h1 t e a7)]
    rw[a9] at p
    -- the loads that the append owns by are others than oi
    have ao:∀k∈gk g.toList t (ae5 h.tk t s),k≠i:=fun k S e=>by
     obtain⟨_,B,y,bb⟩:=kI (mZ S);rw[e] at y
     have:g[i]?=some B:=by simpa using y
     rw[hi] at this;simp at this;subst this;exact h1 t bb a7
    have A:∀k∈gk g.toList t (ae5 h.tk t s),∀B,g.toList[k]?=some B->(B.dst=some t/\w.dst≠some t/\t∉w.looksAt g)/\∀T u,B.op=.load T (.tmp u)->w.dst≠some u:=fun k S B y=>by
     obtain⟨bl,o2,ax,a1⟩:=kI (mZ S);rw[ax] at y;simp at y;subst y;obtain⟨⟨d,e1,F,e3⟩,e4⟩:=mO ba (i:=k) (by simp[bl]) (by simpa using ax) bk (Ne.symm (ao k S)) hi;rw[a1] at e1;simp at e1;subst e1;exact⟨⟨a1,F,e3 rfl⟩,fun T u N=>by
      rcases e4 T u N with h|⟨e,he,hb,bs⟩
      ·exact h
      exact absurd bs (a2 t k o2 ht (mZ S) ax e he hb)⟩
    cases a0:dM (aK H g.toList h.pre) g.toList (gk g.toList t (ae5 h.tk t s)) s with
    | none=>
     exfalso
     -- what is shown with the value in its slot is shown without
     have:∀(tk:List Nat) (s U:aa),(∀k∈tk,∀B,g.toList[k]?=some B->(B.dst=some t/\w.dst≠some t/\t∉w.looksAt g)/\∀T u,B.op=.load T (.tmp u)->w.dst≠some u)->dM (aK H g.toList h.pre) g.toList tk (s.put w.dst a)=some U->∃C,dM (aK H g.toList h.pre) g.toList tk s=some C:=by
      intro tk
      induction tk with
      | nil=>intro s U _ _;exact⟨s,rfl⟩
      | cons k r ih=>
       intro s U hh bi;obtain⟨B,T,u,t',n,a8,cs,es,bv,y,N,D,J,hu,br,a3,bf,aq,af⟩:=aef bi;obtain⟨⟨q1,q2,_⟩,q3⟩:=hh k (by simp) B y;have be:=q3 T u N;rw[D] at q1;simp at q1;subst q1;rw[dm be] at hu;rw[dm q2] at aq;rw[afo] at a3;have e0:(({s.put w.dst a with tmps:=(s.put w.dst a).tmps.set t' (.own es)}:aa).kn n (.cells (bI a8 [.dat (.slice es)] cs)))=(({s with tmps:=s.tmps.set t' (.own es)}:aa).kn n (.cells (bI a8 [.dat (.slice es)] cs))).put w.dst a:=by
        rw[←F5];congr 1
        cases bc:w.dst with
        | none=>rfl
        | some d=>
         have bo:d≠t':=fun e=>q2 (by rw[bc,e])
         simp only[aa.put];rw[List.set_comm _ _ bo]
       rw[e0] at af;obtain⟨s3,bt⟩:=ih _ _ (fun k S=>hh k (by simp[S])) af;refine⟨s3,?_⟩;simp only[dM,y,N,D,J,hu,if_pos br,a3,bf,aq];exact bt
     cases ar:dM (aK H g.toList h.pre) g.toList (gk g.toList t (ae5 h.tk t s)) (s.put w.dst a) with
     | none=>simp[ar] at p
     | some U=>
      obtain⟨C,R⟩:=this _ _ _ A ar;rw[a0] at R;simp at R
    | some U=>
     have a5:=zq (v:=a) (dst:=w.dst) _ _ _ (fun k S B y _=>by rw[((A k S B y).1).1];exact ((A k S B y).1).2.1) (fun k S B T u y N=>(A k S B y).2 T u N) a0;simp only[a5] at p;obtain⟨q1,q3,q4⟩:=zp _ _ _ a0
     cases z:aa4 E G false false q U with
     | none=>
      exfalso
      cases Z:aa4 E G false false q (U.put w.dst a) with
      | none=>simp[Z] at p
      | some C=>
       -- the same operands
       unfold aa4 at z Z;rw[mM _ _ _ _ I] at Z;have bm:∀s':aa,looks q.op (aE G U (kp false q.op) 0 (opsL q.op))=none->aX s' q.op (aE G U (kp false q.op) 0 (opsL q.op))=none:=fun s' l=>by unfold aX;rw[l]
       cases al:jE E false q.op (aE G U (kp false q.op) 0 (opsL q.op)) (aX (U.put w.dst a) q.op (aE G U (kp false q.op) 0 (opsL q.op))) with
       | none=>simp[al] at Z
       | some out=>
        obtain⟨S,l⟩:=qH ht al;rw[bm _ l] at al z;rw[al] at z;simp[dW,S] at z
     | some C=>
      obtain⟨v,he,av⟩:=uW ht z;have am:=av w.dst a I h2;simp only[am] at p;dsimp only;rw[z];refine⟨?_,p⟩;rw[←hy];subst he;refine gG ?_ ?_
      ·refine te.trans (s':={U with tmps:=U.tmps.set t (de (bq U.tmps t))}) ?_ (W _ v);intro t' aq;have e1:=kC (s:=U) (x:=.tmp t) t';simp only[bF,List.getElem?_cons_zero] at e1;rw[e1,q4 t' (fun k S B y e=>by
        obtain⟨⟨g1,_,g3⟩,_⟩:=A k S B y;rw[g1] at e;simp at e;subst e;exact g3 (by simpa using aq))]
      exact q1.trans (.of_eq (by rw[(dB _ q.dst v).1]) (fun _=>by rw[(dB _ q.dst v).2.1]))
   rename_i ht;simp only[ht] at p
   split
   ·rename_i z;simp only[z] at p
    cases R:aa4 E G (readOnly H.moves g.toList q) (lQ H g.toList q) q (s.put w.dst a) with
    | none=>rw[R] at p;simp at p
    | some C=>
     rw[R] at p;obtain⟨s3,k1,k2,M⟩:∃s3,aa4 E G (readOnly H.moves g.toList q) (lQ H g.toList q) q s=some s3/\s3.put w.dst a=C/\eK E G (aK H g.toList h.pre||quietAt H g.toList h.pre i) g.toList w s3=some a:=by
      rcases hG z hm with bn|V
      ·exact MJ bn (by simpa using h1) h2 (by simpa using h3) hy R
      rcases V with V|V
      ·exact H8 V hy R
      exact Fl V hy R
     rw[k1];exact⟨M,by rw[k2];exact p⟩
   rename_i z;simp only[z] at p;rw[gG Y (ad _ _ _)] at p
   cases ab:eK E G (aK H g.toList h.pre) g.toList q s with
   | none=>rw[ab] at p;exact p.elim
   | some b=>
    rw[ab] at p;dsimp only at p ⊢;refine⟨?_,?_⟩
    ·rw[←hy];exact gG (W _ _) (ad _ _ _)
    rw[put_comm h2] at p;exact p
  rename_i hb;simp only[hb] at p;refine⟨?_,?_⟩
  ·rw[←hy];exact gG (W _ _) (ad _ _ _)
  have:=p
  simp only[Bool.false_eq_true,if_false] at this;rw[put_comm h2] at this;exact this
 rename_i l;rw[if_neg l] at p;obtain⟨b,ab,am⟩:=p;rw[gG Y (ad _ _ _)] at ab;refine⟨b,ab,?_,?_⟩
 ·rw[←hy];exact gG (W _ _) (ad _ _ _)
 rw[put_comm h2] at am;exact am
variable (P E G H) in
def qO (ops:Array Oper) (h:aw) (p:Array Bool) (T:aa->Prop):Nat->Array Bool->aa->Prop
 | 0,listed,s=>listed=p/\T s
 | fuel+1,listed,s=>
  (listed=p/\T s)∨(listed≠p/\Region.ready .any ops listed≠[]/\∀i∈Region.ready .any ops listed,Z3 P E G H ops h i (qO ops h p T fuel (bK listed i)) s) ∨
  (∃i oi a,bK listed i=p/\oB ops h p i=true/\ops[i]?=some oi/\(i,false)∈h.pre/\i∈Region.ready .any ops listed/\eK E G (aK H ops.toList h.pre||quietAt H ops.toList h.pre i) ops.toList oi s=some a/\T (s.put oi.dst a))
variable {a:Array Bool} {i:Nat}
theorem cJ {b:Array Oper} (h:i∈Region.ready .any b a) (d:a.size=b.size):a[i]?=some false:=by
 obtain⟨e,o,O,_⟩:=mem_ready.1 h;have c:i < b.size:=(Array.getElem?_eq_some_iff.1 O).1;simp_all
theorem tB {p:Array Bool} (h:a[i]?=some false) (e:bK a i=p):p.setIfInBounds i false=a:=by
 grind[bK]
def fp (b:Array Oper) (a:Array Bool):Prop:=∀(d:Nat) (o:Oper),a[d]?=some true->b[d]?=some o->∀e∈o.after,Region.binds .any e=true->a.getD e.on false=true
theorem fp.step {f:Array Oper} (h:fp f a) {j:Nat} (l:j∈Region.ready .any f a):fp f (bK a j):=by
 intro d o D O e k i
 by_cases g:d=j
 ·subst g;obtain⟨_,m,c,b⟩:=mem_ready.1 l;rw[O] at c;simp at c;subst c;exact getD_set_true (b e k i)
 unfold bK at D;rw[Array.getElem?_setIfInBounds_ne (Ne.symm g)] at D;exact getD_set_true (h d o D O e k i)
theorem L0 {h:Array Oper} {c:Array Bool} (j:fp h c) (q:c[i]?=some false) (l:waited h (bK c i) i=true):False:=by
 obtain⟨d,D,e⟩:=List.any_eq_true.1 l;simp only[Bool.and_eq_true] at e;obtain⟨⟨a,b⟩,f⟩:=e;have k:d≠i:=by grind
 split at f
 ·rename_i o O;obtain⟨p,m,g⟩:=Array.any_eq_true'.1 f;simp at g;have n:c[d]?=some true:=by
   unfold bK at b;rw[getD_set_ne false (Ne.symm k),Array.getD_eq_getD_getElem?] at b
   grind
  have:=j d o n O p m g.1
  simp_all
 grind
theorem AD {g:Array Oper} {c p:Array Bool} (m:fp g c) (s:c[i]?=some false) (e:bK c i=p) (l:(waited g p i||Region.ready .any g (p.setIfInBounds i false)==[i])=true):Region.ready .any g c=[i]:=by
 have k:=tB s e;rw[Bool.or_eq_true] at l
 rcases l with l|l
 ·obtain⟨d,D,h⟩:=List.any_eq_true.1 l;simp only[Bool.and_eq_true] at h;obtain⟨⟨a,b⟩,f⟩:=h;have n:d≠i:=by grind
  split at f
  ·rename_i o O;obtain⟨t,q,j⟩:=Array.any_eq_true'.1 f;simp at j;have r:c[d]?=some true:=by
    rw[←e] at b;unfold bK at b;rw[getD_set_ne false (Ne.symm n),Array.getD_eq_getD_getElem?] at b
    grind
   have:=m d o r O t q j.1
   simp_all
  grind
 grind
theorem tI {d:Array Oper} {a:Array Bool} (c:fp d a):∀(f i j:Nat),a.getD i false=true->reach d.toList f i j=true->a.getD j false=true
 | 0,_,_,_,h=>by grind[reach]
 | f+1,i,j,m,h=>by
  simp only[reach] at h
  split at h
  ·rename_i o O;obtain⟨e,n,b⟩:=List.any_eq_true.1 h;simp at b;have k:a[i]?=some true:=by
    rw[Array.getD_eq_getD_getElem?] at m
    grind
   have l:=c i o k (by grind) e (by grind) b.1
   rcases b.2 with g|g
   ·grind
   exact tI c f e.on j l g
  grind
theorem lX {c:Array Oper} (k:fp c a) {f j:Nat} (R:i∈Region.ready .any c a) (h:reach c.toList f i j=true) (n:a.getD j true=false):False:=by
 obtain⟨_,o,O,d⟩:=mem_ready.1 R;have l:a.getD j false=true:=by
  cases f with
  | zero=>grind[reach]
  | succ f=>
   have g:c.toList[i]?=some o:=by grind
   simp only[reach,g] at h;obtain⟨e,m,b⟩:=List.any_eq_true.1 h;simp at b;grind[tI]
 grind
theorem xN {n:Array Oper} {h:aw} (a7:ew n h=true) (a6:oV n h=true) (Y:gJ n h=true) {p:Array Bool} {T:aa->Prop} {K:Oper} {a:ac} (hi:n[i]?=some K) (hm:(i,false)∈h.pre)
  (u:(waited n p i||Region.ready .any n (p.setIfInBounds i false)==[i])=true∨oB n h p i=true) (w:p[i]?=some true) :
  ∀(q:Nat) (m:Array Bool) (s:aa),m.size=n.size->fp n m->
   (∀j C,n[j]?=some C->j≠i->m.getD j true=false->(∀e∈C.after,Region.binds .any e=true->e.on≠i)->K.apart n C=true)->
   i∈Region.ready .any n m->eK E G (aK H n.toList h.pre||quietAt H n.toList h.pre i) n.toList K s=some a->
   qO P E G H n h p T q (bK m i) (s.put K.dst a)->qO P E G H n h p T (q+1) m s:=by
 intro q
 induction q with
 | zero=>
  intro m s N x y R hy W;have r:=cJ R N;have al:m≠p:=fun e=>by rw[e,w] at r;simp at r
  rcases u with u|u
  rotate_left
  ·exact .inr (.inr ⟨i,K,a,W.1,u,hi,hm,R,hy,W.2⟩)
  have ad:=AD x r W.1 u;refine .inr (.inl ⟨al,fun h=>(by rw[h] at R;cases R),fun j Q=>?_⟩);have z:=Q;rw[ad] at z;simp at z;subst z;exact⟨false,K,hm,hi,by simp only[Bool.false_eq_true,if_false];exact⟨a,hy,W⟩⟩
 | succ q ih=>
  intro m s N x y R hy W;have r:=cJ R N;have al:m≠p:=fun e=>by rw[e,w] at r;simp at r
  by_cases v:bK m i=p/\oB n h p i=true/\¬(waited n p i||Region.ready .any n (p.setIfInBounds i false)==[i])=true
  ·have hT:T (s.put K.dst a):=by
    rcases W with⟨_,hT⟩|⟨Z,_⟩|⟨i',ao,a',e',_,ab,_,an,_,_⟩
    ·exact hT
    ·exact absurd v.1 Z
    exfalso
    have o:=cJ an (by simpa [bK] using N);rw[v.1] at o e'
    have:(bK p i')[i']?=some true:=by
     have l:i' < p.size:=(Array.getElem?_eq_some_iff.1 o).1;simp[bK,l]
    rw[e',o] at this;simp at this
   exact .inr (.inr ⟨i,K,a,v.1,v.2.1,hi,hm,R,hy,hT⟩)
  refine .inr (.inl ⟨al,fun h=>(by rw[h] at R;cases R),fun j Q=>?_⟩)
  by_cases A:j=i
  ·subst A;exact⟨false,K,hm,hi,by simp only[Bool.false_eq_true,if_false];exact⟨a,hy,W⟩⟩
  have O:Z3 P E G H n h j (qO P E G H n h p T q (bK (bK m i) j)) (s.put K.dst a):=by
   rcases W with⟨e,hT⟩|⟨Z,_,ar⟩|⟨i',ao,a',e',B,ab,be,an,bk,aq⟩
   ·exfalso
    have U:(waited n p i||Region.ready .any n (p.setIfInBounds i false)==[i])=true:=by
     rcases u with h'|h'
     ·exact h'
     exact Classical.byContradiction fun am=>v ⟨e,h',am⟩
    have ad:=AD x r e U;have z:=Q;rw[ad] at z;simp at z;exact absurd z A
   ·exact ar j (ready_mono Q A)
   have o:=cJ an (by simpa [bK] using N);have a9:i≠i':=by
    rintro rfl;have l:i < m.size:=(Array.getElem?_eq_some_iff.1 r).1;simp[bK,l] at o
   have av:=tB o e';have a5:=tB r (rfl:bK m i=bK m i);have ag:j∈Region.ready .any n (bK m i):=ready_mono Q A;have az:j=i':=by
    refine Classical.byContradiction fun bb=>?_
    unfold oB at B
    split at B
    ·simp at B
    rename_i j0 r0 bl;simp only[Bool.and_eq_true,Bool.or_eq_true,beq_iff_eq] at B;obtain⟨⟨⟨⟨⟨⟨⟨O,_⟩,_⟩,_⟩,h5⟩,_⟩,_⟩,_⟩:=B;rw[av] at O;have ba:j=j0:=by
     rcases O with O|O <;> rw[O] at ag <;> simp at ag <;> rcases ag with h'|h' <;> first|exact h'|exact absurd h' bb
    subst ba;have V:=List.all_eq_true.1 h5 (i,false) hm;rw[av,a5] at V;simp only[Bool.or_eq_true,beq_iff_eq,a9,false_or] at V
    rcases V with V|V
    ·exact L0 x r V
    simp at V;exact V Q
   subst az;have hP:qO P E G H n h p T q (bK (bK m i) j) ((s.put K.dst a).put ao.dst a'):=by
    rw[e']
    cases q with
    | zero=>exact⟨rfl,aq⟩
    | succ q=>exact .inl ⟨rfl,aq⟩
   exact⟨false,ao,be,ab,by simp only[Bool.false_eq_true,if_false];exact⟨a',bk,hP⟩⟩
  ·obtain⟨I,C,M,D⟩:=mem_ready.1 Q;have a1:∀e∈C.after,Region.binds .any e=true->e.on≠i:=fun e he d af=>by
    have O:=D e he d;rw[af] at O;rw[Array.getD_eq_getD_getElem?,r] at O;simp at O
   have a2:∀t k o',fk C.op=some t->k∈gk n.toList t h.tk->n.toList[k]?=some o'->∀e∈o'.after,Region.binds .any e=true->e.on≠i:=by
    intro t k o' ht hk bf e he d af;obtain⟨lone,_,L,_,_⟩:=O;have X:=a6;unfold oV at X;have g1:=List.all_eq_true.1 X (j,lone) L;simp only[M,ht] at g1;have g2:=List.all_eq_true.1 g1 k hk;obtain⟨F,a8,ae⟩:=Array.any_eq_true'.1 g2;simp only[Bool.and_eq_true,beq_iff_eq] at ae;have g3:=D F a8 ae.1;rw[ae.2,Array.getD_eq_getD_getElem?] at g3;have B:m[k]?=some true:=by
     cases J:m[k]? with
     | none=>rw[J] at g3;simp at g3
     | some b=>rw[J] at g3;simp at g3;rw[g3]
    have:=x k o' B (by simpa using bf) e he d
    rw[af,Array.getD_eq_getD_getElem?,r] at this;simp at this
   have hF:∀c,dv C.op=some c->hO H C=false->mK H C=false->(j,true)∈h.pre->(aK H n.toList h.pre||quietAt H n.toList h.pre i)=false:=by
    intro c ax a4 bg L;rw[Bool.eq_false_iff];intro ht;rw[pq (all:=n.toList) L (by simpa using M) ax a4,Bool.false_or] at ht;unfold quietAt at ht;have g:=List.all_eq_true.1 ht (j,true) L;have a3:n.toList[j]?=some C:=by simpa using M
    simp only[a3,ax,a4,bg,Bool.not_true,Bool.false_or,Option.isNone_some,Bool.or_eq_true] at g
    rcases g with g|g
    ·exact lX x R g I
    refine lX x Q g ?_;rw[Array.getD_eq_getD_getElem?,r];rfl
   have hG:iI C.op=true->(j,true)∈h.pre->uw C=true∨(ju K C=true∨Bs K C=true):=by
    intro bi L;unfold gJ at Y;have g1:=List.all_eq_true.1 Y (j,true) L;simp only[M,bi,Bool.not_true,Bool.false_or,Bool.and_eq_true] at g1;have g2:=List.all_eq_true.1 g1.2 (i,false) hm;simp only[hi,Bool.false_or,Bool.or_eq_true] at g2
    rcases g2 with ((g|g)|g)|g
    ·exact .inl g
    ·exact .inr g
    ·exact (lX x R g I).elim
    refine (lX x Q g ?_).elim;rw[Array.getD_eq_getD_getElem?,r];rfl
   have h2:=TA a7 hi hm M (y j C M A I a1) a2 hF hG hy O;have S:∀k ok,n[k]?=some ok->k≠i->(bK m j).getD k true=false->(∀e∈ok.after,Region.binds .any e=true->e.on≠i)->K.apart n ok=true:=fun k ok hk bc o am=>by
    refine y k ok hk bc ?_ am
    by_cases a0:j=k
    ·subst a0;exact I
    unfold bK at o;rw[getD_set_ne true a0] at o;exact o
   refine Qc (fun s' f=>ih (bK m j) s' (by simpa [bK] using N) (x.step Q) S (ready_mono R (Ne.symm A)) f.1 ?_) h2;have e:bK (bK m j) i=bK (bK m i) j:=by unfold bK;rw[Array.setIfInBounds_comm _ _ A]
   rw[e];exact f.2
theorem lZ:∀(r:List (Nat×Bool)) (l:Array Bool) (i:Nat),l[i]?=some true->(eR r l)[i]?=some true
 | [],_,_,h=>h
 |(j,_)::r,l,i,h=>by
  apply lZ r
  grind[bK]
theorem qN {c:Array Oper} {h:aw} (D:ew c h=true) (C:oV c h=true) (v:gJ c h=true) {T:aa->Prop} {p:Array Bool} (m:kE c h p h.pre=true) :
  ∀(r:List (Nat×Bool)) (b:Array Bool) (s:aa) (d:Nat),(∀x∈r,x∈h.pre)->b.size=c.size->fp c b->p=eR r b->oU c r b=true->r.length<=d->
   mu (ay P G) E G H h.tk (aK H c.toList h.pre) (quietAt H c.toList h.pre) c.toList T r s->qO P E G H c h p T d b s
 | [],b,s,d,_,_,_,w,_,_,h=>by
  cases d with
  | zero=>exact⟨w.symm,h⟩
  | succ d=>exact .inl ⟨w.symm,h⟩
 |(i,lone)::r,b,s,0,_,_,_,_,_,S,_=>by simp at S
 |(i,lone)::r,b,s,d+1,z,u,g,w,Y,S,n=>by
  have W:=z (i,lone) (by simp);simp only[oU,Bool.and_eq_true] at Y;obtain⟨f,R⟩:=Y;have L:i∈Region.ready .any c b:=by
   cases lone
   ·simp at f;exact f.1
   simp at f;rw[f];simp
  simp only[mu,iT] at n;have M:(bK b i).size=c.size:=by simpa [bK] using u
  have I:p=eR r (bK b i):=w;have y:∀Q,mu (ay P G) E G H h.tk (aK H c.toList h.pre) (quietAt H c.toList h.pre) c.toList T r Q->qO P E G H c h p T d (bK b i) Q:=fun Q Z=>
   qN D C v m r (bK b i) Q d (fun x X=>z x (by simp[X])) M (g.step L) I R (by simp at S;omega) Z
  split at n
  ·exact n.elim
  rename_i o O;have t:c[i]?=some o:=by simpa using O
  have V:i < b.size:=by rw[u];exact (Array.getElem?_eq_some_iff.1 t).1
  have J:p[i]?=some true:=by
   rw[I]
   apply lZ
   simp[bK,V]
  cases lone
  ·simp only[Bool.false_eq_true,if_false,Bool.and_eq_true] at n f
   split at n
   ·rename_i a A;refine xN D C v t W ?_ J d b s u g (Region.free_spec t f.2) (by simpa using f.1) A (y _ n)
    have:∀(q:List (Nat×Bool)),(i,false)∈q->kE c h p q=true->(waited c p i||Region.ready .any c (p.setIfInBounds i false)==[i])=true∨oB c h p i=true:=by
     intro q
     induction q with
     | nil=>intro K;simp at K
     | cons x q ih=>
      intro K g;obtain⟨k,l⟩:=x;simp only[kE,Bool.and_eq_true,Bool.or_eq_true] at g
      rcases List.mem_cons.1 K with e|K
      ·simp at e;obtain⟨rfl,rfl⟩:=e
       rcases g.1 with (F|F)|F
       ·simp at F
       ·exact .inl (by rw[Bool.or_eq_true];exact F)
       exact .inr F
      exact ih K g.2
    exact this h.pre W m
   exact n.elim
  simp only[if_true] at n f;have B:Region.ready .any c b=[i]:=by simpa using f
  have N:=cJ (i:=i) (by rw[B];simp) u;refine .inr (.inl ⟨fun e=>by rw[e,J] at N;simp at N,by rw[B];simp,fun j U=>?_⟩);rw[B] at U;simp at U;subst U;exact⟨true,o,W,t,by simp only[if_true];exact qc y n⟩
theorem tJ:∀{r:List (Nat×Bool)} {x:Nat×Bool},x∈bR r->x∈r/\x.2=false
 | [],_,h=>by grind[bR]
 |(i,true)::r,_,h=>by grind[bR]
 |(i,false)::r,x,h=>by
  rcases List.mem_cons.1 h with rfl|h
  ·simp
  obtain⟨a,b⟩:=tJ h;grind
theorem qM {c:Array Oper} {h:aw} (u:ew c h=true) (n:oV c h=true) (j:gJ c h=true) {T K:aa->Prop} {p:Array Bool} (l:kE c h p h.pre=true) (g:∀x∈h.pre,p[x.1]?=some true) (d:Nat) :
  ∀(r:List (Nat×Bool)) (b:Array Bool) (s:aa),(∀x∈r,x∈h.pre/\x.2=false)->b.size=c.size->fp c b->oU c r b=true->
   (∀J,K J->qO P E G H c h p T d (eR r b) J)->
   mu (ay P G) E G H h.tk (aK H c.toList h.pre) (quietAt H c.toList h.pre) c.toList K r s->qO P E G H c h p T (r.length+d) b s
 | [],b,s,_,_,_,_,B,h=>by
  rw[List.length_nil,Nat.zero_add];exact B s h
 |(i,true)::r,b,s,f,_,_,_,_,_=>by
  simp_all
 |(i,false)::r,b,s,f,D,t,F,B,v=>by
  obtain⟨I,_⟩:=f (i,false) (by simp);simp only[oU,Bool.and_eq_true] at F;obtain⟨m,C⟩:=F;simp only[Bool.false_eq_true,if_false,Bool.and_eq_true] at m;have k:i∈Region.ready .any c b:=by grind
  simp only[mu,iT] at v;have z:(bK b i).size=c.size:=by grind[bK]
  split at v
  ·grind
  rename_i o O;have w:c[i]?=some o:=by grind
  simp at v
  split at v
  ·rename_i a A;have y:=qM u n j l g d r (bK b i) _ (fun x X=>f x (by grind)) z (t.step k) C B v;have e:((i,false)::r).length+d=(r.length+d)+1:=by grind
   rw[e];refine xN u n j w I ?_ (g _ I) (r.length+d) b s D t (Region.free_spec w m.2) k A y
   have:∀(q:List (Nat×Bool)),(i,false)∈q->kE c h p q=true->(waited c p i||Region.ready .any c (p.setIfInBounds i false)==[i])=true∨oB c h p i=true:=by
    intro q
    induction q <;> grind[kE]
   grind
  grind
theorem so {d:Array Oper} {h:aw} {T:aa->Prop} {p:Array Bool}:∀(m:Nat) (c:Array Bool) (s:aa),
  wI (ay P G) E G H h d.toList p T m c s->qO P E G H d h p T m c s
 | 0,c,s,e=>e
 | m+1,c,s,e=>by
  obtain⟨a,b,f⟩:=e;refine .inr (.inl ⟨a,b,fun i k=>?_⟩);obtain⟨l,o,O,g⟩:=f i k;refine⟨true,o,l,by grind,?_⟩;exact qc (fun n j=>so m _ n j) g
end
end Go.Tp
namespace Go.Tp
section
variable {P:Program} {E:bz} {G:bA} {H:Hints} {D:List Deferred}
variable {N:Name->Option Nat} {R:Own} {o:Oper} {s:aa} {w:World}
theorem Se (W:E.Ok P) {out:Out} (m:jE E false o.op (aE G s none 0 (opsL o.op)) (aX s o.op (aE G s none 0 (opsL o.op)))=some out) (X:out.eff=.keep) {C:Act} {Z U H z:List Nat} (I:dw G w R N C.tmps.toList s undef .undef [] Z U H z) :
  ∃v y B g,V9 P w C.eval o v y/\ai y B N out.val v g/\wQ w [] g/\bp w R y B (Z++(U++(H++z))):=by
 have A:=kU I.tmps I.glob none 0 (opsL o.op) (by simp);generalize S:aE G s none 0 (opsL o.op)=t at m A;have u:(Z++(U++(H++z))).Nodup:=by simpa using I.nodup
 cases a:aX s o.op t with
 | none=>
  rw[a] at m;have l:eY w R N o.op t none none:=by
   unfold eY
   split
   ·exact⟨rfl,rfl⟩
   exact .inl ⟨rfl,rfl⟩
  obtain⟨v,y,B,p,j,f⟩:=nJ (rest:=Z++(U++(H++z))) W m A (fun _=>rfl) l (by simpa [tV] using u) (fun _=>rfl);rw[X] at f;obtain⟨g,V,M,_,_⟩:=f;exact⟨v,y,B,g,p,V,M,j⟩
 | some q=>
  rw[a] at m;have l:∃b r,eY w R N o.op t (some q) (some (b,r))/\(b::r).Nodup:=by
   unfold aX at a
   split at a
   ·rename_i n Y
    cases n with
    | loc i=>
     simp only[aa.obj] at a;obtain⟨T,b,r,J,L,F,K,_⟩:=aj.split I.locs a;refine⟨b,r,?_,?_⟩
     ·unfold eY;rw[Y];exact .inr ⟨b,r,q,rfl,rfl,F,K⟩
     subst L;refine List.Nodup.sublist ?_ u;refine List.Sublist.trans ?_ (List.sublist_append_right _ _);refine List.Sublist.trans ?_ (List.sublist_append_left _ _);exact (List.sublist_append_right _ _).trans (List.sublist_append_left _ _)
    | out k=>
     simp only[aa.obj] at a;obtain⟨T,b,r,J,L,F,K,_⟩:=aj.split I.heap a;have O:bh q=true:=by
      cases q with
      | cells c=>obtain⟨vs,e,sp,d,Q,hR⟩:=K;have:=Q.bY;rw[ji] at this;exact this
      | map es=>rfl
     refine⟨b,r,?_,?_⟩
     ·unfold eY;rw[Y];exact .inr ⟨b,r,q,rfl,rfl,by simpa [outs] using F,K.yi O (fun _=>rfl)⟩
     subst L;refine List.Nodup.sublist ?_ u;refine List.Sublist.trans ?_ (List.sublist_append_right _ _);refine List.Sublist.trans ?_ (List.sublist_append_right _ _);refine List.Sublist.trans ?_ (List.sublist_append_left _ _);exact (List.sublist_append_right _ _).trans (List.sublist_append_left _ _)
   simp at a
  obtain⟨b,r,l,D⟩:=l;obtain⟨v,y,B,p,j,f⟩:=nJ (rest:=[]) W m A (fun _=>rfl) l (by simpa [tV] using D) (fun _=>rfl);rw[X] at f;obtain⟨g,V,M,_,x⟩:=f
  rcases x with h|⟨rfl,rfl⟩
  ·simp at h
  exact⟨v,y,B,g,p,V,M,aZ _⟩
theorem Kv {m:World} {n:Own} {l:Act} {Z U H z bsV:List Nat} (e:List Nat) {a:ac} {cv:Value} (j:Option Tmp) (i:dw G w R N l.tmps.toList s undef .undef [] Z U H z)
  (V:ai m n N a cv bsV) (t:wQ w [] (bsV++e)) (C:∀b∈e,b < m.heap.size) (k:bp w R m n (Z++(U++(H++z)))) :
  ∃f,dw G m n N (l.put j cv).tmps.toList (s.put j a) undef .undef [] f U H (e++z):=by
 have o:∀b∈Z++(U++(H++z)),b < w.heap.size:=fun b d=>by
  simp at d
  rcases d with h|h|h|h
  ·exact i.tmps.lt b h
  ·exact i.locs.lt b h
  ·exact i.heap.lt b h
  exact i.frame b h
 have r:((bsV++e)++(Z++(U++(H++z)))).Nodup:=fO (bsM:=[]) (by simpa using i.nodup) o t;have p:(bsV++(Z++(U++(H++(e++z))))).Nodup:=by
  have B:(bsV++(Z++(U++(H++(e++z))))).Perm ((bsV++e)++(Z++(U++(H++z)))):=by
   rw[List.perm_iff_count];intro q;simp only[List.count_append];omega
  grind
 obtain⟨f,u,v⟩:=fW j (i.tmps.keep (k.sub (by grind))) V p;obtain⟨x,y,A⟩:=dB s j a;exact⟨f,aJ _,by grind[ga],by rw[x];exact i.locs.keep (k.sub (by grind)),by rw[y];exact i.heap.keep (k.sub (by simp_all)),by grind,by rw[A];exact i.next,
  fun g c J=>(i.glob g c J).step k.step,fun b d=>by
   rcases List.mem_append.1 d with h|h
   ·grind
   exact Nat.lt_of_lt_of_le (i.frame b h) k.step.size⟩
structure B3 (E:bz) (G:bA) (H:Hints) (ops:Array Oper) (h:aw) (listed:Array Bool) (w:World) (R:Own) (N:Name->Option Nat) (act:Act) (s:aa) (bsT bsL bsH bsX bsF:List Nat):Prop where
 rel:dw G w R N act.tmps.toList s undef .undef [] bsT bsL bsH (bsX++bsF)
 nwf:∀i o t d ti,h.nw=some i->listed[i]?=some true->ops[i]?=some o->o.op=.alloc t->o.dst=some d->o.guard=none->E.ty t=some ti->d < act.tmps.size->
  ∃b,b∈bsX/\act.tmps[d]?=some (.pointer (some ⟨b,0,none⟩))/\aI w R N (.cells (aY (bE ti.zero))) b []
 tkf:∀i o T u t n off ob,i∈h.tk->listed[i]?=some true->ops[i]?=some o->o.op=.load T (.tmp u)->o.dst=some t->o.guard=none->bq s.tmps u=.ptr n off->Eh (aK H ops.toList h.pre) n=true->s.obj n=some ob->t < act.tmps.size->
  ∃b v,N n=some b/\act.tmps[t]?=some v/\(w.cell? ⟨b,off,none⟩=some v∨∃vs,v=.agg vs)
theorem EN {b:Array Oper} {h:aw} (e:ew b h=true) {i:Nat} (c:i∈h.nw.toList++h.tk) (O:b[i]?=some o) {T:TypeId} {u:Tmp} (d:o.op=.load T (.tmp u)):o.dst≠some u:=by
 have a:=List.all_eq_true.1 e i c;grind
theorem xK {b:Act} {a:Option Tmp} {v:Value} {t:Nat} (h:a≠some t):(b.put a v).tmps[t]?=b.tmps[t]?:=by
 cases a with
 | none=>rfl
 | some d=>
  have c:d≠t:=fun e=>h (by rw[e])
  simp[Act.put,Array.getElem?_setIfInBounds_ne c]
theorem kF {a:Act} {b:Option Tmp} {v:Value}:(a.put b v).tmps.size=a.tmps.size:=by
 cases b <;> simp[Act.put]
theorem zy {a:Array Bool} {i j:Nat} (h:(bK a i)[j]?=some true) (b:j≠i):a[j]?=some true:=by
 grind[bK]
theorem Di {c:World} {b a:Nat} (h:c.heap[b]?=w.heap[b]?):c.cell? ⟨b,a,none⟩=w.cell? ⟨b,a,none⟩:=by
 simp[World.cell?,h]
theorem B3.carry {r:Array Oper} {h:aw} {p:Array Bool} {Y:World} {R':Own} {N':Name->Option Nat} {C:Act} {W:aa} {Z U ab K z:List Nat} (ad:List Nat) {cv:Value}
  (hp:B3 E G H r h p w R N C s Z U ab K z)
  (hc:ew r h=true) (ae:fp r p) {i:Nat} {l:Bool} (hi:r[i]?=some o) (ar:p[i]?=some false) (hm:(i,l)∈h.pre) (k:bp w R Y R' K) (ao:∀n Q b,Eh (aK H r.toList h.pre) n=true->s.obj n=some Q->N n=some b->Y.heap[b]?=w.heap[b]?) (hN:∀m c,N m=some c->N' m=some c) (L:∀n Q,Eh (aK H r.toList h.pre) n=true->W.obj n=some Q->∃y,s.obj n=some y)
  (hT:∀t n x,Eh (aK H r.toList h.pre) n=true->o.dst≠some t->bq W.tmps t=.ptr n x->bq s.tmps t=.ptr n x) :
  (∀j q t d X,j≠i->h.nw=some j->(bK p i)[j]?=some true->r[j]?=some q->q.op=.alloc t->q.dst=some d->q.guard=none->E.ty t=some X->d < (C.put o.dst cv).tmps.size->
   ∃b,b∈ad++K/\(C.put o.dst cv).tmps[d]?=some (.pointer (some ⟨b,0,none⟩))/\aI Y R' N' (.cells (aY (bE X.zero))) b []) ∧
  (∀j q T u t n x Q,j≠i->j∈h.tk->(bK p i)[j]?=some true->r[j]?=some q->q.op=.load T (.tmp u)->q.dst=some t->q.guard=none->bq W.tmps u=.ptr n x->Eh (aK H r.toList h.pre) n=true->W.obj n=some Q->
   t < (C.put o.dst cv).tmps.size->∃b v,N' n=some b/\(C.put o.dst cv).tmps[t]?=some v/\(Y.cell? ⟨b,x,none⟩=some v∨∃vs,v=.agg vs)):=by
 constructor
 ·intro j q t d X B ag V P I D J am F;obtain⟨⟨d',A,af,_⟩,_⟩:=mO hc (i:=j) (by grind) P hm (Ne.symm B) hi;rw[D] at A;simp at A;subst A;rw[kF] at F;obtain⟨b,a,h2,f⟩:=hp.nwf j q t d X ag (zy V B) P I D J am F;refine⟨b,by grind,by grind[xK],?_⟩;exact (f.keep (k.sub (by grind))).ext hN
 intro j q T u t n x Q B al V P I D J hu O M F;obtain⟨⟨d',A,af,_⟩,g⟩:=mO hc (i:=j) (by grind) P hm (Ne.symm B) hi;rw[D] at A;simp at A;subst A;have S:o.dst≠some u:=by
  rcases g T u I with S|⟨e,he,hb,aq⟩
  ·grind
  have:=ae j q (zy V B) P e he hb
  simp_all
 have an:=hT u n x O S hu;rw[kF] at F;obtain⟨y,M⟩:=L _ _ O M;obtain⟨b,v,a,h2,f⟩:=hp.tkf j q T u t n x y al (zy V B) P I D J an O M F;grind[xK,Di]
theorem vR {g:World} {h:Own} {e:List (Name×aL)} {U B:List Nat} (l:aj w R N e U) (k:bp w R g h B) (s:∀b∈U,b∈B):∀n c b,eA n e=some c->N n=some b->g.heap[b]?=w.heap[b]?:=by
 intro n c b a d;obtain⟨i,j,r,f,E,F,_,_⟩:=aj.split l a;rw[d] at F;simp at F;subst F;exact (k.same b (s b (by grind)) (l.lt b (by grind))).1
theorem qe {g:World} {h:Own} {U H B:List Nat} (l:aj w R N s.locs U) (j:aj w R (outs N) s.heap H) (e:bp w R g h B) (m:∀b∈U,b∈B) (c:∀b∈H,b∈B):∀n f b,s.obj n=some f->N n=some b->g.heap[b]?=w.heap[b]?:=by
 intro n f b a d
 cases n with
 | loc i=>exact vR l e m _ _ _ a d
 | out k=>exact vR j e c _ _ _ a d
theorem MH {U H:List Nat} (l:aj w R N s.locs U) (p:aj w R (outs N) s.heap H) {n:Name} {f:aL} (h:s.obj n=some f) :
  ∃b r,N n=some b/\aI w R N f b r/\(b∈U∨b∈H):=by
 cases n with
 | loc i=>
  obtain⟨o,b,r,a,E,F,g,_⟩:=aj.split l h;grind
 | out k=>
  obtain⟨o,b,r,a,E,F,g,_⟩:=aj.split p h;have j:bh f=true:=by
   cases f with
   | cells c=>obtain⟨v,e,u,d,m,t⟩:=g;have:=m.bY;rw[ji] at this;exact this
   | map q=>rfl
  exact⟨b,r,by grind[outs],g.yi j (fun _=>rfl),.inr (by grind)⟩
theorem af7 {a b:ac} {n:Name} {c:Nat} (h:de a=de b) (A:a=.ptr n c):b=.ptr n c:=by
 subst A
 cases b <;> grind[jK,de]
theorem MM (W:E.Ok P) {T:TypeId} {l:TI} (j:E.ty T=some l) {b a:Nat} {r:List Nat} {c:List ac} (p:aI w R N (.cells c) b r) {v:ac} (V:loadCells l a c=some v)
  {ρ:Operand->Value} {x:Operand} (O:o.op=.load T x) (X:ρ x=.pointer (some ⟨b,a,none⟩)) {k:Value} {K:World} (y:V9 P w ρ o k K):w.cell? ⟨b,a,none⟩=some k∨∃s,k=.agg s:=by
 obtain⟨s,i,B,d,q,_⟩:=p;replace V:=mI (ps:=List.replicate B .undef) V;generalize c++List.replicate B .undef=c at q V;obtain⟨f,L,F,G⟩:=mH V q;obtain⟨g,t,u⟩:=nT (N:=N) (P:=P) W j d q V;have z:(execOp ρ o).run P w=.ok (.value g) w:=by
  obtain⟨D,M,C,I,m,guard⟩:=o;subst O;rw[←X] at t;exact bU t
 have n:k=g:=by
  grind
 subst n
 cases A:l.isAgg with
 | true=>
  right;unfold loadCells at V;rw[A] at V;simp only[if_true] at V
  split at V
  ·simp at V;subst V
   rcases jK (bj (fb l.size (jQ a c))) with⟨S,h⟩|h
   ·rw[h] at u;obtain⟨Q,e,_⟩:=(cB u).2;grind
   grind[ai]
  grind
 | false=>
  left;have J:=G A;have H:w.cell? ⟨b,a,none⟩=some f:=by rw[cell_of_row w b a s i (0,0) d];grind
  have:(Instr.loadAt T (.pointer (some ⟨b,a,none⟩))).run P w=.ok f w:=by
   simp[Instr.loadAt,Instr.sureAddr,loadVar,W.kN j,A,H]
  grind
theorem ID (W:E.Ok P) {ad:Array Oper} {h:aw} (e:ew ad h=true) {fh:Bool} {M:Array Bool} {ae:Act} {Z U aq af z:List Nat}
  (hp:B3 E G H ad h M w R N ae s Z U aq af z) (a4:fp ad M) (hd:ae.defers=D) {i:Nat} (hi:ad[i]?=some o) (a7:M[i]?=some false) {lone:Bool} (hm:(i,lone)∈h.pre) {a:ac} (S:eK E G fh ad.toList o s=some a)
  {Qx:Exit->Act->World->Prop} {K:Act->World->Prop}
  (hK:∀cv w' R' L a9,B3 E G H ad h (bK M i) w' R' N (ae.put o.dst cv) (s.put o.dst a) L U aq a9 z->bp w R w' R' z->K (ae.put o.dst cv) w'):wpOp P ad Qx i K ae w:=by
 have bo:(s.put o.dst a).locs=s.locs:=(dB s o.dst a).1;have ax:∀n,(s.put o.dst a).obj n=s.obj n:=fun n=>afo
 have ag:∀n ob,Eh (aK H ad.toList h.pre) n=true->(s.put o.dst a).obj n=some ob->∃y,s.obj n=some y:=fun n ob _ h=>⟨ob,by rw[←ax];exact h⟩
 have hT:∀t n C,Eh (aK H ad.toList h.pre) n=true->o.dst≠some t->bq (s.put o.dst a).tmps t=.ptr n C->bq s.tmps t=.ptr n C:=fun t n C _ ht h=>by rw[dm ht] at h;exact h
 unfold wpOp;simp only[hi];unfold eK at S
 split at S
 ·simp at S
 rename_i b hw;rw[ke hp.rel.tmps hw]
 split at S
 ·rename_i hb;subst hb;simp only[if_true];left
  split at S
  ·
   rename_i am
   split at S
   ·rename_i bn A;simp at S;subst S;have bl:∃t,o.op=.alloc t:=by
     unfold oE at am
     split at am
     ·exact⟨_,by assumption⟩
     simp at am
    obtain⟨t,a0⟩:=bl;have bm:opsL o.op=[]:=by rw[a0];rfl
    have bu:([]++(tV none++(Z++(U++(aq++(af++z)))))).Nodup:=by simpa [tV] using hp.rel.nodup
    obtain⟨cv,w',R',al,m,a2⟩:=nJ (ρ:=ae.eval) (w:=w) (R:=R) (N:=N) (vals:=[]) (ob:=none) (nm:=none) (bsM:=[]) (rest:=Z++(U++(aq++(af++z)))) W A (by rw[bm];exact aP) (fun _=>rfl)
     (by unfold eY;rw[a0];exact⟨rfl,rfl⟩) bu (fun _=>rfl)
    have bg:∃ti,E.ty t=some ti/\bn.eff=.new (.cells (aY (bE ti.zero))):=by
     rw[a0] at A;simp only[jE,Kf] at A
     split at A
     ·rename_i ti a6
      split at A
      ·simp at A;exact⟨ti,a6,by rw[←A]⟩
      simp at A
     simp at A
    obtain⟨ti,a6,ar⟩:=bg;rw[ar] at a2;obtain⟨_,br,bk,bs,bw,bc⟩:=a2;have ba:br=[]:=List.eq_nil_iff_forall_not_mem.2 fun x X=>by have:=bs.2 x X;simp at this
    subst ba;simp only at bc;refine vE al ?_;obtain⟨L,bv⟩:=Kv (a:=.undef) (cv:=cv) (bsV:=[]) [w.heap.size] o.dst hp.rel (aJ _) ⟨by simp,fun b hb=>.inr (by simp at hb;omega)⟩ (by intro b hb;simp at hb;subst hb;exact bw) m;have an:dw G w' R' N (ae.put o.dst cv).tmps.toList (s.put o.dst .undef) undef .undef [] L U aq (([w.heap.size]++af)++z):=by
     simpa using bv
    obtain⟨p,c2⟩:=hp.carry (cv:=cv) [w.heap.size] e a4 hi a7 hm (m.sub (by intro x X;simp[X])) (fun n ob b _=>qe hp.rel.locs hp.rel.heap m (by intro x X;simp[X]) (by intro x X;simp[X]) n ob b) (fun _ _ h=>h) ag hT;refine hK cv w' R' L ([w.heap.size]++af) ⟨an,?_,?_⟩ (m.sub (by intro x X;simp[X]))
    ·intro j q t' d a1 av l g f I J Y k
     by_cases B:j=i
     ·subst B;rw[hi] at g;simp at g;subst g;rw[a0] at f;simp at f;subst f;rw[a6] at Y;simp at Y;subst Y;refine⟨w.heap.size,by simp,?_,bk⟩;rw[kF] at k;rw[I,bc];simp[Act.put,k]
     exact p j q t' d a1 B av l g f I J Y k
    intro j q T u t' n C ob ao l g f I J hu az ab k
    by_cases B:j=i
    ·subst B;rw[hi] at g;simp at g;subst g;rw[a0] at f;simp at f
    exact c2 j q T u t' n C ob B ao l g f I J hu az ab k
   simp at S
  -- a value
  rename_i am
  split at S
  ·simp at S
  split at S
  ·split at S
   ·rename_i bn A
    split at S
    ·rename_i ar;simp at S;subst S;obtain⟨cv,w',R',bsV,al,V,hf,m⟩:=Se W A ar hp.rel;refine vE al ?_;obtain⟨L,an⟩:=Kv [] o.dst hp.rel V (by simpa using hf) (by simp) m;rw[List.nil_append] at an;obtain⟨p,c2⟩:=hp.carry (cv:=cv) [] e a4 hi a7 hm (m.sub (by intro x X;simp[X])) (fun n ob b _=>qe hp.rel.locs hp.rel.heap m (by intro x X;simp[X]) (by intro x X;simp[X]) n ob b) (fun _ _ h=>h) ag hT;refine hK cv w' R' L af ⟨an,?_,?_⟩ (m.sub (by intro x X;simp[X]))
     ·intro j q t' d a1 av l g f I J Y k
      by_cases B:j=i
      ·subst B;rw[hi] at g;simp at g;subst g;rw[f] at am;simp[oE] at am
      simpa using p j q t' d a1 B av l g f I J Y k
     intro j q T u t' n C ob ao l g f I J hu az ab k
     by_cases B:j=i
     ·subst B;rw[hi] at g;simp at g;subst g;have bx:o.dst≠some u:=EN e (by simp[ao]) hi f;rw[dm bx] at hu;rw[ax] at ab;have a8:aE G s none 0 (opsL o.op)=[.ptr n C]:=by
       rw[f];simp[opsL,aE,fm,hu,de]
      rw[a8] at A;have bt:aX s o.op [.ptr n C]=some ob:=by
       unfold aX;rw[f];simp[looks,ab]
      rw[bt,f] at A;simp only[jE,eB] at A
      split at A
      ·rename_i ti c Y bb;simp at bb;subst bb;simp only[Bool.false_and,Bool.false_eq_true,if_false] at A
       cases bf:loadCells ti C c with
       | none=>rw[bf] at A;simp[xj] at A
       | some v=>
        obtain⟨b',r,F,e3,e1⟩:=MH hp.rel.locs hp.rel.heap ab;have be:s.tmps[u]?=some (.ptr n C):=by
         unfold bq at hu
         cases hs:s.tmps[u]? with
         | none=>rw[hs] at hu;simp at hu
         | some v=>rw[hs] at hu;simp at hu;rw[hu]
        obtain⟨u1,b0,g1,g2,_⟩:=dY hp.rel.tmps be;simp only[ai] at g2;obtain⟨_,Q,a3,rfl⟩:=g2;rw[F] at a3;simp at a3;subst a3;have hρ:ae.eval (.tmp u)=.pointer (some ⟨b',C,none⟩):=by
         simp at g1;simp[Act.eval,g1]
        have O:=MM W Y e3 bf f hρ al;refine⟨b',cv,F,?_,?_⟩
        ·rw[kF] at k;rw[I];simp[Act.put,k]
        rcases O with O|O
        ·left;have a5:=qe hp.rel.locs hp.rel.heap m (by intro x X;simp[X]) (by intro x X;simp[X]) _ _ _ ab F;rw[Di a5];exact O
        exact .inr O
      simp at A
     exact c2 j q T u t' n C ob B ao l g f I J hu az ab k
    simp at S
   simp at S
  simp at S
 -- not wanted
 rename_i hb;simp at S;subst S;rw[if_neg hb];obtain⟨L,an⟩:=nO hp.rel o.dst;obtain⟨p,c2⟩:=hp.carry (cv:=undef) [] e a4 hi a7 hm (aZ _) (fun _ _ _ _ _ _=>rfl) (fun _ _ h=>h) ag hT;have bi:o.guard≠none:=by
  intro J;unfold dC at hw;rw[J] at hw;simp at hw;exact hb hw
 refine hK undef w R L af ⟨an,?_,?_⟩ (aZ _)
 ·intro j q t' d a1 av l g f I J Y k
  by_cases B:j=i
  ·subst B;rw[hi] at g;simp at g;subst g;exact absurd J bi
  simpa using p j q t' d a1 B av l g f I J Y k
 intro j q T u t' n C ob ao l g f I J hu az ab k
 by_cases B:j=i
 ·subst B;rw[hi] at g;simp at g;subst g;exact absurd J bi
 exact c2 j q T u t' n C ob B ao l g f I J hu az ab k
end
end Go.Tp
namespace Go.Tp
section
variable {P:Program} {E:bz} {G:bA} {H:Hints} {D:List Deferred}
variable {N:Name->Option Nat} {R:Own} {n:Name} {s:aa} {w:World}
theorem BC (W:E.Ok P) {c:Call} {s2:aa} {f:FuncId} {l:List ac} (h:dX E G H c s=some (f,l,s2)) {e:Act} {Z U n z:List Nat}
  (k:dw G w R N e.tmps.toList s undef .undef [] Z U n z) (o:Oper) (O:o.op=.call c) :
  ∃m:List Value,(execOp e.eval o).run P w=.ok (.enter f m.toArray) w/\aW l=true/\∃L b,dw G w R N e.tmps.toList s2 (.tuple m.toArray) (.tup l) L b U n z:=by
 obtain⟨p,a,y⟩:=c
 cases p with
 | builtin _=>simp[dX] at h
 | invoke _ _=>simp[dX] at h
 | value fo=>
  simp only[dX] at h;obtain⟨bf,v⟩:=qw k.tmps k.glob fo;generalize ae:fm G s fo=af at h v
  split at h
  ·rename_i g t j;simp only[ai] at v;obtain⟨_,vf,uf,ef,q,C⟩:=v
   split at h
   ·rename_i V;obtain⟨I,S,ag,T⟩:=W.fn g V;have r:(Z++(U++(n++z))).Nodup:=by simpa using k.nodup
    have F:∃(J:List ac) (A:aa) (i b:List Nat),(if H.moves g=true then cR G s a.toList else (aE G s none 0 a.toList,s))=(J,A) ∧
      ah w R N J (a.toList.map e.eval) i/\ah w R N A.tmps e.tmps.toList b/\(i++(b++(U++(n++z)))).Nodup/\A.locs=s.locs/\A.heap=s.heap/\A.next=s.next:=by
     split
     ·obtain⟨i,b,k1,K,M⟩:=kX k.glob a.toList k.tmps r;obtain⟨q1,q2,q3⟩:=gl G a.toList s;exact⟨_,_,i,b,rfl,k1,K,M,q1,q2,q3⟩
     exact⟨_,_,[],Z,rfl,kU k.tmps k.glob none 0 _ (by simp),k.tmps,by simpa using r,rfl,rfl,rfl⟩
    obtain⟨J,A,i,b,x,ad,ab,D,q1,q2,q3⟩:=F;rw[x] at h;simp only at h
    split at h
    ·rename_i Y;simp only[Option.some.injEq,Prod.mk.injEq] at h;obtain⟨rfl,rfl,rfl⟩:=h;have B:ah w R N (t++J++j) (vf++a.toList.map e.eval++uf) i:=by
      have:=ct (ct q ad) C
      simpa using this
     refine⟨vf++a.toList.map e.eval++uf,?_,Y,i,b,⟨by simp only[ai];exact⟨_,rfl,B⟩,ab,by rw[q1];exact k.locs,by rw[q2];exact k.heap,D,by rw[q3];exact k.next,k.glob,k.frame⟩⟩;have u:I.body.isNone=false:=by cases d:I.body <;> simp_all
     have Q:¬I.body=none:=by intro d;simp[d] at u
     have X:¬I.name= "runtime.NumGoroutine":=by simpa using T
     simp[execOp,O,resolve,ef,Deferred.ofValue,invoke,callFunc,S,X,Q]
    simp at h
   simp at h
  simp at h
theorem wJ:∀{a:List (Name×aL)} {n m:Name} {o x:aL},eA m (iX n o a)=some x->∃y,eA m a=some y
 | [],_,_,_,_,h=>by grind[iX]
 |(k,y)::a,n,m,o,x,h=>by
  simp only[iX] at h
  split at h
  ·grind[eA]
  simp only[eA] at h ⊢
  split
  ·grind
  rename_i b;rw[if_neg b] at h;exact wJ h
theorem wc {l:List ac} {t:Nat} {v:ac} (h:bq l t=v) (V:v≠.undef):l[t]?=some v:=by
 grind[bq]
theorem F6 {m:Name} {o x:aL} (h:(s.kn n o).obj m=some x):∃y,s.obj m=some y:=by
 cases n <;> cases m <;> simp only[aa.kn,aa.obj] at h ⊢
 all_goals grind[wJ]
theorem tz {fh:Bool} {ao:Array Oper} {w:World} {R:Own} {N:Name->Option Nat} {g:Act} {z:List Nat} :
  ∀(tk:List Nat) {s s':aa} {Z U H:List Nat},dM fh ao.toList tk s=some s'->dw G w R N g.tmps.toList s undef .undef [] Z U H z->
   (∀i o T u t n e ob,i∈tk->ao[i]?=some o->o.op=.load T (.tmp u)->o.dst=some t->o.guard=none->bq s.tmps u=.ptr n e->Eh fh n=true->s.obj n=some ob->t < g.tmps.size->
    ∃b v,N n=some b/\g.tmps[t]?=some v/\(w.cell? ⟨b,e,none⟩=some v∨∃vs,v=.agg vs))->
   ∃az ax av,dw G w R N g.tmps.toList s' undef .undef [] az ax av z
 | [],s,s',Z,U,H,h,C,_=>by simp[dM] at h;subst h;exact⟨Z,U,H,C⟩
 | i::r,s,s',Z,U,H,h,C,hf=>by
  obtain⟨o,T,u,t,n,e,c,x,bx,O,bl,D,J,hu,bk,al,ag,ht,P⟩:=aef h;have bg:ao[i]?=some o:=by simpa using O
  have a6:g.tmps.size=s.tmps.length:=by have:=C.tmps.length;simpa using this
  have a7:=wc ht (by simp);have a8:t < g.tmps.size:=by rw[a6];exact (List.getElem?_eq_some_iff.1 a7).1
  obtain⟨b0,v,af,V,f⟩:=hf i o T u t n e (.cells c) (by simp) bg bl D J hu bk al a8;obtain⟨v',bw,g1,g2,_⟩:=dY C.tmps a7;have bs:v'=v:=by
   have:g.tmps.toList[t]?=some v:=by simpa using V
   rw[this] at g1;simp at g1;exact g1.symm
  subst bs;have an:g.tmps.toList.set t v'=g.tmps.toList:=by
   apply List.ext_getElem?
   intro j;rw[List.getElem?_set]
   split
   ·rename_i hj;subst hj;split
    ·exact g1.symm
    rename_i l;rw[List.getElem?_eq_none (by omega)]
   rfl
  have K:bI e [ac.dat (.slice x)] c=c.set e (.dat (.slice x)):=by
   apply List.ext_getElem?
   intro j;rw[gq,List.getElem?_set]
   by_cases hj:e=j
   ·subst hj
    by_cases l:e < c.length
    ·rw[if_pos ⟨Nat.le_refl _,by simp,l⟩,if_pos rfl,if_pos l];simp
    rw[if_neg (by omega),if_pos rfl,if_neg l];exact List.getElem?_eq_none (by omega)
   rw[if_neg (by simp;omega),if_neg hj]
  -- the object's cells, ownership gone
  have B:∀(M:Name->Option Nat) (b:Nat) (S:List Nat),N n=some b->aI w R M (.cells c) b S->∃A m,iV w R v' x A/\aI w R M (.cells (bI e [.dat (.slice x)] c)) b m/\S.Perm (A++m):=by
   intro M b S hN a3;rw[hN] at af;simp at af;subst af;obtain⟨vs,Y,sp,ab,bm,hR⟩:=a3;obtain⟨ba,A,aq,cv,f1,f2,f3,f4⟩:=ah.split bm (rj ag);have bb:w.cell? ⟨b,e,none⟩=some cv:=by rw[cell_of_row w b e vs Y (0,0) ab];simpa using f2
   have br:v'=cv:=by
    rcases f with f|⟨us,bo⟩
    ·rw[bb] at f;simp at f;exact f.symm
    subst bo
    have:=(dG g2).2
    cases this
   subst br;have ad:=f4 w R (.dat (.slice x)) v' [] (aZ _) (bQ (d:=.slice x) (cy f3).rep);have k1:vs.toList.set e v'=vs.toList:=by
    apply List.ext_getElem?
    intro j;rw[List.getElem?_set]
    split
    ·rename_i hj;subst hj;split
     ·exact f2.symm
     rename_i l;rw[List.getElem?_eq_none (by omega)]
    rfl
   rw[k1,List.set_append_left (h:=(List.getElem?_eq_some_iff.1 ag).1)] at ad;refine⟨A,ba++[]++aq,cy f3,⟨vs,Y,sp,ab,by rw[K];exact ad,hR.1,fun hb=>hR.2 (xH ag hb)⟩,?_⟩;subst f1;rw[List.perm_iff_count];intro q;simp only[List.count_append,List.count_nil];omega
  have W:∃A L I,iV w R v' x A/\aj w R N (s.kn n (.cells (bI e [.dat (.slice x)] c))).locs L/\aj w R (outs N) (s.kn n (.cells (bI e [.dat (.slice x)] c))).heap I/\(A++(Z++(L++(I++z)))).Nodup:=by
   have h0:(Z++(U++(H++z))).Nodup:=by simpa using C.nodup
   cases n with
   | loc k=>
    obtain⟨Q,b,S,p,E,F,e3,e4⟩:=aj.split C.locs al;obtain⟨A,m,q1,q2,q3⟩:=B N b S F e3;refine⟨A,_,H,q1,e4 w R _ m (aZ _) q2,C.heap,?_⟩;subst E;have hp:(A++(Z++((Q++(b::m)++p)++(H++z)))).Perm (Z++((Q++(b::S)++p)++(H++z))):=by
     have ar:=List.perm_iff_count.1 q3;rw[List.perm_iff_count];intro q;have:=ar q;simp only[List.count_append,List.count_cons] at this ⊢;omega
    exact hp.nodup_iff.2 h0
   | out k=>
    obtain⟨Q,b,S,p,E,F,e3,e4⟩:=aj.split C.heap al;obtain⟨A,m,q1,q2,q3⟩:=B (outs N) b S (by simpa [outs] using F) e3;refine⟨A,U,_,q1,C.locs,e4 w R _ m (aZ _) q2,?_⟩;subst E;have hp:(A++(Z++(U++((Q++(b::m)++p)++z)))).Perm (Z++(U++((Q++(b::S)++p)++z))):=by
     have ar:=List.perm_iff_count.1 q3;rw[List.perm_iff_count];intro q;have:=ar q;simp only[List.count_append,List.count_cons] at this ⊢;omega
    exact hp.nodup_iff.2 h0
  obtain⟨A,L,I,q1,q2,q3,q4⟩:=W;obtain⟨bv,p1,p2⟩:=ng (a:=.own x) t C.tmps (by simpa only[ai] using q1) q4;rw[an] at p1;have e5:(({s with tmps:=s.tmps.set t (.own x)}:aa).kn n (.cells (bI e [.dat (.slice x)] c)))={s.kn n (.cells (bI e [.dat (.slice x)] c)) with tmps:=s.tmps.set t (.own x)}:=by cases n <;> rfl
  rw[e5] at P;refine tz r P ⟨aJ _,p1,q2,q3,by simpa using p2,by simpa only[CG] using C.next,C.glob,C.frame⟩ ?_;intro i' o' T' u' t' n' ae bu bf bi a5 bc be X a4 a1 a0;have bn:bq s.tmps u'=.ptr n' ae:=by
   by_cases a9:t=u'
   ·subst a9
    exfalso
    unfold bq at X;rw[List.getElem?_set_self (by rw[←a6];exact a8)] at X;simp at X
   rwa [bG a9] at X
  have a2:∃y,s.obj n'=some y:=by
   have am:(s.kn n (.cells (bI e [.dat (.slice x)] c))).obj n'=some bu:=by cases n' <;> exact a1
   exact F6 am
  obtain⟨y,hy⟩:=a2;exact hf i' o' T' u' t' n' ae y (by simp[bf]) bi a5 bc be bn a4 hy a0
theorem zw {g:Bool} {e:List Oper}:∀(x:List Nat) (s d:aa),dM g e x s=some d->∀n b,d.obj n=some b->∃y,s.obj n=some y
 | [],s,d,h,n,b,N=>by grind[dM]
 | i::r,s,d,h,n,b,N=>by
  obtain⟨o,T,u,t,m,w,c,A,f,O,p,D,J,C,l,k,j,B,a⟩:=aef h;obtain⟨y,q⟩:=zw r _ _ a n b N;obtain⟨z,v⟩:=F6 q;exact⟨z,by cases n <;> exact v⟩
theorem Br:∀{a:List (Name×aL)} {n m:Name} {o x:aL},eA m a=some x->∃y,eA m (iX n o a)=some y
 | [],_,_,_,_,h=>by grind[eA]
 |(k,y)::a,n,m,o,x,h=>by
  simp only[eA] at h;simp only[iX]
  split
  ·grind[eA]
  simp only[eA]
  split
  ·grind
  rename_i b;rw[if_neg b] at h;exact Br h
theorem Pm {m:Name} {o x:aL} (h:s.obj m=some x):∃y,(s.kn n o).obj m=some y:=by
 cases n <;> cases m <;> simp only[aa.kn,aa.obj] at h ⊢
 all_goals simp_all[Br]
theorem zt {k:Bool} {e:List Oper}:∀(z:List Nat) (s d:aa),dM k e z s=some d->∀n b,s.obj n=some b->∃y,d.obj n=some y
 | [],s,d,h,n,b,N=>by grind[dM]
 | i::r,s,d,h,n,b,N=>by
  obtain⟨o,T,u,t,m,f,c,g,j,O,v,D,J,B,q,p,l,A,a⟩:=aef h;obtain⟨y,w⟩:=Pm (s:={s with tmps:=s.tmps.set t (.own g)}) (n:=m) (o:=.cells (bI f [.dat (.slice g)] c)) (m:=n) (x:=b) (by cases n <;> exact N);exact zt r _ _ a n y w
theorem zr {k:Bool} {g:List Oper}:∀(y:List Nat) (s f:aa),dM k g y s=some f->∀t n b,bq f.tmps t=.ptr n b->bq s.tmps t=.ptr n b
 | [],s,f,h,t,n,b,N=>by grind[dM]
 | i::r,s,f,h,x,w,e,N=>by
  obtain⟨o,T,u,t,m,b,c,z,j,O,v,D,J,B,q,p,l,A,d⟩:=aef h;have a:=zr r _ _ d x w e N;grind[CE,bq]
theorem Nu (W:E.Ok P) {o:Oper} {t:Tmp} (T:fk o.op=some t) {Y:aa} (h:aa4 E G false false o s=some Y) {i:Act} {Z U H z:List Nat}
  (f:dw G w R N i.tmps.toList s undef .undef [] Z U H z) :
  ∃v y B e,V9 P w i.eval o v y/\dw G y B N (i.put o.dst v).tmps.toList Y undef .undef [] e U H z/\bp w R y B (U++(H++z)):=by
 unfold aa4 at h;have q:(Z++(U++(H++z))).Nodup:=by simpa using f.nodup
 obtain⟨ab,e,A,x,p,O⟩:=rB f.tmps f.glob (kp false o.op) (opsL o.op) (U++(H++z)) q
 split at h
 ·simp at h
 rename_i X m;obtain⟨k,l⟩:=qH T m;have L:aX s o.op (aE G s (kp false o.op) 0 (opsL o.op))=none:=by unfold aX;rw[l]
 rw[L] at m;have K:eY w R N o.op (aE G s (kp false o.op) 0 (opsL o.op)) none none:=by unfold eY;rw[l];exact⟨rfl,rfl⟩
 obtain⟨v,y,B,u,a,j⟩:=nJ (rest:=e++(U++(H++z))) W m A (fun h=>O (by unfold kp;simp[h])) K (by simpa [tV] using p) (fun _=>rfl);rw[k] at j;obtain⟨C,V,hf,_,_⟩:=j;simp only[dW,k,Option.some.injEq] at h;subst h;obtain⟨D,F,I⟩:=ry s (kp false o.op) (opsL o.op);have M:∀b∈e++(U++(H++z)),b < w.heap.size:=fun b d=>by
  simp at d
  rcases d with h|h|h|h
  ·exact x.lt b h
  ·exact f.locs.lt b h
  ·exact f.heap.lt b h
  exact f.frame b h
 have r:(C++(e++(U++(H++z)))).Nodup:=fO p M hf;obtain⟨n,Q,S⟩:=fW o.dst (x.keep (a.sub (by intro b d;simp[d]))) V r;obtain⟨q1,q2,q3⟩:=dB (bF s (kp false o.op) (opsL o.op)) o.dst X.val;refine⟨v,y,B,n,u,⟨aJ _,?_,?_,?_,by simpa using S,?_,fun g c J=>(f.glob g c J).step a.step,fun b d=>Nat.lt_of_lt_of_le (f.frame b d) a.step.size⟩,a.sub (by intro b d;simp at d;simp;exact .inr d)⟩
 ·rw[(ga i o.dst v).1];exact Q
 ·rw[q1,D];exact f.locs.keep (a.sub (by intro b d;simp[d]))
 ·rw[q2,F];exact f.heap.keep (a.sub (by intro b d;simp[d]))
 rw[q3,I];exact f.next
theorem XZ (W:E.Ok P) {B:Array Oper} {h:aw} (hc:ew B h=true) (bt:oV B h=true) (a6:gJ B h=true) {A:Array Bool} {al:Act} {Z U ba aq z:List Nat}
  (hp:B3 E G H B h A w R N al s Z U ba aq z) (b7:fp B A) (hd:al.defers=D) {i:Nat} {o:Oper} (hi:B[i]?=some o) (cm:A[i]?=some false) (hm:(i,true)∈h.pre) (ci:i∈Region.ready .any B A) {K:aa->Prop} (cg:¬(dv o.op=none/\fk o.op=none/\iI o.op=false/\dC B.toList s o.guard=some true)) (S:KV (ay P G) E G H (aK H B.toList h.pre) h.tk B.toList o K s)
  {Qx:Exit->Act->World->Prop} {Kx:Act->World->Prop}
  (hK:∀s' cv w' R' N' g L I,K s'->B3 E G H B h (bK A i) w' R' N' (al.put o.dst cv) s' g L I aq z->bp w R w' R' z->(∀o b,N (.out o)=some b->N' (.out o)=some b)->Kx (al.put o.dst cv) w'):wpOp P B Qx i Kx al w:=by
 have ab:∀{s':aa} {cv:Value} {w':World} {R':Own} {N':Name->Option Nat} {g L I:List Nat},dw G w' R' N' (al.put o.dst cv).tmps.toList s' undef .undef [] g L I (aq++z)->bp w R w' R' aq->(∀n M b,Eh (aK H B.toList h.pre) n=true->s.obj n=some M->N n=some b->w'.heap[b]?=w.heap[b]?)->
   (∀m c,N m=some c->N' m=some c)->(∀n M,Eh (aK H B.toList h.pre) n=true->s'.obj n=some M->∃y,s.obj n=some y)->(∀t n O,Eh (aK H B.toList h.pre) n=true->o.dst≠some t->bq s'.tmps t=.ptr n O->bq s.tmps t=.ptr n O)->
   (o.guard≠none∨∃c,o.op=.call c)->B3 E G H B h (bK A i) w' R' N' (al.put o.dst cv) s' g L I aq z:=by
  intro s' cv w' R' N' g L I ag hk ce hN bf hT V;obtain⟨p,c2⟩:=hp.carry (cv:=cv) [] hc b7 hi cm hm hk ce hN bf hT;refine⟨ag,?_,?_⟩
  ·intro j q t' d b4 bg l Y af bc J ck az
   by_cases av:j=i
   ·subst av;rw[hi] at Y;simp at Y;subst Y
    rcases V with V|⟨c,ad⟩
    ·exact absurd J V
    rw[af] at ad;simp at ad
   simpa using p j q t' d b4 av bg l Y af bc J ck az
  intro j q T u t' n O M bo l Y af bc J hu bi an az
  by_cases av:j=i
  ·subst av;rw[hi] at Y;simp at Y;subst Y
   rcases V with V|⟨c,ad⟩
   ·exact absurd J V
   rw[af] at ad;simp at ad
  exact c2 j q T u t' n O M av bo l Y af bc J hu bi an az
 unfold wpOp;simp only[hi];unfold KV at S
 split at S
 ·exact S.elim
 rename_i b hw;rw[ke hp.rel.tmps hw]
 split at S
 ·rename_i hb;subst hb;simp only[if_true];left
  split at S
  ·rename_i c ad;have a1:=vW ad
   split at S
   ·rename_i f cn s2 ar;obtain⟨b5,a8,bw,cr,cq,ag⟩:=BC W ar hp.rel o a1;obtain⟨a9,ao⟩:=mV ar
    cases bk:hO H o with
    | true=>
     rw[bk] at S;refine xX a8 ag bw hd S ?_;intro v cv n w' R' N' g bb bm hk ae _;refine hK _ cv w' R' N' g U ba bb (ab bm (hk.sub (by intro x X;simp[X])) ?_ ae ?_ ?_ (.inr ⟨c,a1⟩)) (hk.sub (by intro x X;simp[X])) (fun o b h=>ae _ _ h)
     ·intro n M b _ an hb;exact qe hp.rel.locs hp.rel.heap hk (by intro x X;simp[X]) (by intro x X;simp[X]) n M b an hb
     ·intro n M _ C;rw[afo] at C;have F:=mW ar
      cases n with
      | loc k=>simp only[aa.obj] at C ⊢;exact⟨M,by rw[←ao];exact C⟩
      | out k=>simp only[aa.obj] at C ⊢;exact⟨M,by rw[←F];exact C⟩
     intro t n O _ ht C;rw[dm ht] at C;exact af7 (a9 t) C
    | false=>
    rw[bk] at S;refine Bg a8 ag bw hd (S.mono fun v bu n X r Q=>(X r Q).2) ?_;intro v cv bu n w' R' N' g I bb bm hk ae _;have ca:=pq (all:=B.toList) hm (by simpa using hi) ad bk;have a7:∀n,Eh (aK H B.toList h.pre) n=true->∃k,n=.loc k:=by
     intro n C
     cases n with
     | loc k=>exact⟨k,rfl⟩
     | out k=>rw[ca] at C;simp[Eh] at C
    refine hK _ cv w' R' N' g U I bb (ab bm (hk.sub (by intro x X;simp[X])) ?_ ae ?_ ?_ (.inr ⟨c,a1⟩)) (hk.sub (by intro x X;simp[X])) (fun o b h=>ae _ _ h)
    ·intro n M b C an hb;obtain⟨k,rfl⟩:=a7 n C;exact vR hp.rel.locs hk (by intro x X;simp[X]) _ M b an hb
    ·intro n M bi C;obtain⟨k,rfl⟩:=a7 n bi;rw[afo] at C;simp only[aa.obj] at C ⊢;exact⟨M,by rw[←ao];exact C⟩
    intro t n O _ ht C;rw[dm ht] at C;exact af7 (a9 t) C
   exact S.elim
  split at S
  ·rename_i t ht
   split at S
   ·rename_i s1 a5
    split at S
    ·rename_i s' a4;obtain⟨c,_,a1,_,_⟩:=pc ht
     -- the loads by which it owns have come up
     have ax:∀k∈gk B.toList t (ae5 h.tk t s),A[k]?=some true:=by
      intro k hk;unfold oV at bt;have a:=List.all_eq_true.1 bt (i,true) hm;simp only[hi,ht] at a;have h2:=List.all_eq_true.1 a k (mZ hk);obtain⟨e,b9,be⟩:=Array.any_eq_true'.1 h2;simp only[Bool.and_eq_true,beq_iff_eq] at be;obtain⟨_,o',a0,a3⟩:=mem_ready.1 ci;rw[hi] at a0;simp at a0;subst a0;have h3:=a3 e b9 be.1;rw[be.2] at h3;rw[Array.getD_eq_getD_getElem?] at h3
      cases J:A[k]? with
      | none=>rw[J] at h3;simp at h3
      | some b=>rw[J] at h3;simp at h3;rw[h3]
     obtain⟨cp,bs,br,bl⟩:=tz _ a5 hp.rel (fun k o' T u t' n O M hk a0 b3 b8 cb cl b0 bx bv=>hp.tkf k o' T u t' n O M (kI (mZ hk)).1 (ax k hk) a0 b3 b8 cb cl b0 bx bv);obtain⟨cv,w',R',g,a2,ag,am⟩:=Nu W ht a4 bl;refine vE a2 ?_;obtain⟨v,he,_⟩:=uW ht a4;refine hK s' cv w' R' N g bs br S (ab ag (am.sub (by intro x X;simp[X])) ?_ (fun _ _ h=>h) ?_ ?_ (.inr ⟨c,a1⟩)) (am.sub (by intro x X;simp[X])) (fun _ _ h=>h)
     ·intro n M b _ an hb;obtain⟨y,hy⟩:=zt _ _ _ a5 n M an;exact qe bl.locs bl.heap am (by intro x X;simp[X]) (by intro x X;simp[X]) n y b hy hb
     ·intro n M _ C;rw[he,afo] at C;exact zw _ _ _ a5 n M (by cases n <;> exact C)
     intro t' n O _ cj C;rw[he,dm cj] at C;have e1:=kC (s:=s1) (x:=.tmp t) t';simp only[bF,List.getElem?_cons_zero] at e1;exact zr _ _ _ a5 t' _ _ (af7 e1 C)
    exact S.elim
   exact S.elim
  split at S
  ·rename_i bn
   split at S
   ·rename_i s' a4;unfold gJ at a6;have g1:=List.all_eq_true.1 a6 (i,true) hm;simp only[hi,bn,Bool.not_true,Bool.false_or,Bool.and_eq_true,Option.isNone_iff_eq_none,List.isEmpty_iff] at g1;obtain⟨⟨⟨bg,bo⟩,_⟩,_⟩:=g1;obtain⟨cv,w',a2,⟨R',N',g,L,I,ch,cc,b6,_⟩,_⟩:=qF W a4 hp.rel;refine vE a2 (hK s' cv w' R' N' g L I S ⟨ch,?_,?_⟩ (cc.sub (by intro x X;simp[X])) b6)
    ·intro j q t' d b4 hj;rw[bg] at hj;simp at hj
    intro j q T u t' n O M hj;rw[bo] at hj;simp at hj
   exact S.elim
  rename_i bn;exact (cg ⟨by assumption,by assumption,bn,hw⟩).elim
 rename_i hb;rw[if_neg hb];have cf:o.guard≠none:=by
  intro J;unfold dC at hw;rw[J] at hw;simp at hw;exact hb hw
 obtain⟨g,ag⟩:=nO hp.rel o.dst;exact hK _ undef w R N g U ba S (ab ag (aZ _) (fun _ _ _ _ _ _=>rfl) (fun _ _ h=>h) (fun n M _ C=>⟨M,by rw[afo] at C;exact C⟩) (fun t n O _ ht C=>by rw[dm ht] at C;exact C) (.inl cf)) (aZ _) (fun _ _ h=>h)
def nS (E:bz) (a:List Oper) (c:Option Nat) (s:aa):Option aa:=
 match c with
 | none=>some s
 | some i=>(match a[i]? with
  | some o=>(match o.op,o.dst,o.guard with
   | .alloc t,some d,none=>(match E.ty t with
    | some b=>if dU (aY (bE b.zero))=true/\aU (.loc d) (aY (bE b.zero))=false/\d < s.tmps.length then some (newObj s d (.cells (aY (bE b.zero)))) else none
    | none=>none)
   | _,_,_=>none)
  | none=>none)
theorem FE {a:List Oper} {b:Option Nat} {c:aa} (h:iA E a b s=some c):nS E a b s=some c:=by
 unfold iA at h;grind[nS]
theorem mG {n:Name}:∀{l:List ac} {t:Nat} {v:ac},aU n l=false->l[t]?=some v->mentions n v=false
 | [],_,_,_,h=>by grind
 | a::l,0,v,h,V=>by grind[aU]
 | a::l,t+1,v,h,V=>by simp only[aU,Bool.or_eq_false_iff] at h;exact mG h.2 (by simpa using V)
theorem vH {n:Name}:∀{l:List ac} {t:Nat},(∀v,l[t]?=some v->mentions n v=false)->(dD n l)[t]?=l[t]?
 | [],_,_=>rfl
 | a::l,0,h=>by grind[dD]
 | a::l,t+1,h=>by simp only[dD,List.getElem?_cons_succ];exact vH (fun v V=>h v (by grind))
theorem CI {l:List ac} {d:Nat} {a:ac} (h:aU n (l.set d a)=false) {t:Nat} (T:t≠d):(dD n l)[t]?=l[t]?:=
 vH fun v V=>mG h (by rw[List.getElem?_set_ne (Ne.symm T)];grind)
theorem MA {l:List ac} {d:Nat} {a:ac} (h:aU n (l.set d a)=false):(dD n l).set d a=l.set d a:=by
 apply List.ext_getElem?
 grind[CJ,CI]
theorem IE {l:List ac} (h:aU n l=false):dD n l=l:=by
 apply List.ext_getElem?
 grind[vH,mG]
theorem FF {b:Array Oper} {g:Option Nat} {r:aa} {d:Tmp} {a:ac} (h:iA E b.toList g (s.put (some d) a)=some r) (f:qf b g≠some d) :
  ∃c,nS E b.toList g s=some c/\r=c.put (some d) a/\∀x,x≠d->qf b g≠some x->bq c.tmps x=bq s.tmps x:=by
 unfold iA at h;unfold nS
 cases g with
 | none=>grind
 | some i=>
  dsimp only at h ⊢
  cases u:b.toList[i]? with
  | none=>grind
  | some o=>
   rw[u] at h;dsimp only at h ⊢
   split at h
   ·rename_i t j n D J;rw[n,D,J];have m:qf b (some i)=some j:=by
     grind[qf]
    rw[m] at f;have l:j≠d:=fun e=>f (by rw[e])
    dsimp only
    cases p:E.ty t with
    | none=>grind
    | some v=>
     rw[p] at h;dsimp only at h ⊢
     split at h
     ·rename_i k;have q:aU (.loc j) (s.tmps.set d a)=false:=k.2.2.2;rw[if_pos ⟨k.1,k.2.1,by grind[aa.put]⟩];simp at h;refine⟨_,rfl,?_,?_⟩
      ·rw[←h];simp only[newObj,aa.put];rw[IE q,List.set_comm _ _ l,MA q]
      grind[newObj,bq,CI]
     grind
   grind
theorem MO {Y:Bool} {i:List Oper} {n c:Oper} {x d:Tmp} {a:ac} (A:ju n c=true) (X:opsL n.op=[.tmp x]) (D:n.dst=some d) {g:aa} {K:aa->Prop} (o:eK E G Y i n s=some a) (R:bq g.tmps x=bq s.tmps x)
  (h:mT (ay P G) E G H i c K (g.put (some d) a)) :
  ∃p,aa4 E G (readOnly H.moves i c) (lQ H i c) c g=some p/\aa4 E G true false n p=some (p.put (some d) a)/\K (p.put (some d) a):=by
 unfold ju at A;simp only[Bool.and_eq_true,Bool.or_eq_true,Option.isNone_iff_eq_none] at A;obtain⟨⟨⟨⟨Z,g2⟩,g3⟩,g4⟩,m⟩:=A;have J:dv n.op=none/\oE n.op=false/\(∀j,looks n.op j=none)/\(opsL c.op).any (dI x)=false/\(opsL c.op).any (dI d)=false/\c.dst≠some x/\c.dst≠some d:=by
  split at m
  ·rename_i y k W B F;rw[B] at X ⊢;simp[opsL] at X;subst X;rw[D] at F;simp at F;subst F;simp only[Bool.and_eq_true,Bool.not_eq_true',bne_iff_ne] at m;exact⟨rfl,rfl,fun _=>rfl,m.1.1.1,m.1.1.2,m.1.2,m.2⟩
  ·rename_i y W B F;rw[B] at X ⊢;simp[opsL] at X;subst X;rw[D] at F;simp at F;subst F;simp only[Bool.and_eq_true,Bool.not_eq_true',bne_iff_ne] at m;exact⟨rfl,rfl,fun _=>rfl,m.1.1.1,m.1.1.2,m.1.2,m.2⟩
  simp at m
 obtain⟨hc,C,l,h1,b,M,L⟩:=J;unfold mT at h;simp only[g2,dC,g4,if_true] at h
 split at h
 ·rename_i z N;obtain⟨v,w,S⟩:=oZ g3 N;have w:=w g.tmps (by
   intro t T;have Q:d≠t:=fun e=>by rw[←e,b] at T;simp at T
   simp only[aa.put];rw[bG Q])
  have O:({(g.put (some d) a) with tmps:=g.tmps }:aa)=g:=rfl;rw[O] at w;have u:z=({z with tmps:=hZ (fV g.tmps (kp (readOnly H.moves i c) c.op) (opsL c.op)) c.dst v }:aa).put (some d) a:=by
   obtain⟨t3,l3,f,n3⟩:=z;simp only[aa.put] at S ⊢;rw[S,nD b,oQ L]
  refine⟨_,w,?_,by rw[←u];exact h⟩;unfold eK at o;simp only[Z,dC,if_true,C,Bool.false_eq_true,if_false,hc] at o
  split at o
  ·split at o
   ·rename_i ab q
    split at o
    ·rename_i hk;simp only[Option.some.injEq] at o;have r:∀U:aa,∀j,aX U n.op j=none:=fun U j=>by unfold aX;rw[l]
     rw[r] at q;have I:bq (hZ (fV g.tmps (kp (readOnly H.moves i c) c.op) (opsL c.op)) c.dst v) x=bq s.tmps x:=by rw[sX M,iP h1,R]
     have V:aE G ({z with tmps:=hZ (fV g.tmps (kp (readOnly H.moves i c) c.op) (opsL c.op)) c.dst v }:aa) none 0 (opsL n.op)=aE G s none 0 (opsL n.op):=by
      rw[X];simp only[aE,fm,I]
     have hm:kp true n.op=none:=rfl;unfold aa4;rw[hm,V,r,q];simp only[dW,hk,bF,D,o]
    simp at o
   simp at o
  simp at o
 exact h.elim
theorem Kn (W:E.Ok P) (ops:Array Oper) {i:Nat} {o:Oper} (y:ops[i]?=some o) (J:o.guard=none) {q g:Bool} {p:aa} (m:aa4 E G q g o s=some p) {u:Exit->Act->World->Prop} {a:Act} {Z U H z:List Nat} (r:dw G w R N a.tmps.toList s undef .undef [] Z U H z) (B:a.defers=D) :
  wpOp P ops u i (Sm G D (fun A=>A=p) w R N z) a w:=by
 unfold wpOp;simp only[y];have n:=ke (ops:=ops) (o:=o) (b:=true) r.tmps (by rw[J];rfl);rw[n,if_pos rfl];left;obtain⟨v,C,f,⟨x,t,e,d,c,l,k,j,_⟩,_⟩:=qF W m r;exact vE f ⟨p,x,t,e,d,c,rfl,l,by grind[ga],k,fun o b h=>j _ _ h⟩
theorem tA {P:Array Oper} {f:Act} {Z U H B z:List Nat} {nw:Option Nat} {s':aa} (h:nS E P.toList nw s=some s')
  (n:dw G w R N f.tmps.toList s undef .undef [] Z U H (B++z))
  (hf:∀i o t d Q,nw=some i->P[i]?=some o->o.op=.alloc t->o.dst=some d->o.guard=none->E.ty t=some Q->d < f.tmps.size->
   ∃b,b∈B/\f.tmps[d]?=some (.pointer (some ⟨b,0,none⟩))/\aI w R N (.cells (aY (bE Q.zero))) b []) :
  ∃N' A y,dw G w R N' f.tmps.toList s' undef .undef [] A y H z/\∀k,N' (.out k)=N (.out k):=by
 cases nw with
 | none=>
  simp[nS] at h;subst h;refine⟨N,Z,U,⟨n.val,n.tmps,n.locs,n.heap,?_,n.next,n.glob,fun b hb=>n.frame b (by simp[hb])⟩,fun _=>rfl⟩;refine List.Nodup.sublist ?_ n.nodup;exact List.Sublist.append (.refl _) (List.Sublist.append (.refl _) (List.Sublist.append (.refl _) (List.Sublist.append (.refl _) (List.sublist_append_right _ _))))
 | some i=>
  simp only[nS] at h
  split at h
  ·rename_i o O
   split at h
   ·rename_i t d W D J
    split at h
    ·rename_i Q af
     split at h
     ·rename_i r;simp at h;subst h;have ae:f.tmps.size=s.tmps.length:=by have:=n.tmps.length;simpa using this
      obtain⟨b,T,V,L⟩:=hf i o t d Q rfl (by simpa using O) W D J af (by rw[ae];exact r.2.2);have hN:∀m,m≠Name.loc d->bX N (.loc d) b m=N m:=fun m hm=>by simp[bX,hm]
      obtain⟨p,t1,t2⟩:=ah.pZ hN n.tmps;obtain⟨g,l1,l2⟩:=aj.pZ hN n.locs;have K:aI w R (bX N (.loc d) b) (.cells (aY (bE Q.zero))) b []:=nU L (fun cs C=>by simp at C;subst C;exact r.2.1);have S:aj w R (outs (bX N (.loc d) b)) s.heap H:=n.heap.tO (fun k=>by simp[bX]);have ad:ai w R (bX N (.loc d) b) (.ptr (.loc d) 0) (.pointer (some ⟨b,0,none⟩)) []:=by simp[ai,bX]
      have I:([]++(p++((b::([]++g))++(H++z)))).Nodup:=by
       have h0:=n.nodup;obtain⟨x1,x2,e⟩:=List.append_of_mem T;subst e;have a:(b::(Z++(U++(H++z)))).Nodup:=by
        have Y:([]++(Z++(U++(H++((x1++b::x2)++z))))).Perm ((x1++x2)++(b::(Z++(U++(H++z))))):=by
         rw[List.perm_iff_count];intro q;simp only[List.count_append,List.count_cons,List.count_nil];omega
        exact (List.nodup_append.1 (Y.nodup_iff.1 h0)).2.1
       have Y:([]++(p++((b::([]++g))++(H++z)))).Perm (b::(p++(g++(H++z)))):=by rw[List.perm_iff_count];intro q;simp only[List.count_append,List.count_cons,List.count_nil];omega
       refine Y.nodup_iff.2 (List.Nodup.sublist ?_ a);exact (List.Sublist.append t2 (List.Sublist.append l2 (.refl _))).cons_cons _
      obtain⟨u,M,ab⟩:=ng d t1 ad I;have F:f.tmps.toList[d]?=some (.pointer (some ⟨b,0,none⟩)):=by simpa using V
      have v:f.tmps.toList.set d (.pointer (some ⟨b,0,none⟩))=f.tmps.toList:=by
       apply List.ext_getElem?
       intro j;rw[List.getElem?_set]
       split
       ·rename_i hj;subst hj;split
        ·exact F.symm
        rename_i l;rw[List.getElem?_eq_none (by omega)]
       rfl
      rw[v] at M;refine⟨bX N (.loc d) b,u,b::([]++g),⟨aJ _,?_,?_,?_,by simpa using ab,?_,n.glob,fun x X=>n.frame x (by simp[X])⟩,fun k=>by simp[bX]⟩
      ·simp only[newObj,As];exact M
      ·simp only[newObj];exact⟨b,[],g,rfl,by simp[bX],K,l1⟩
      ·simp only[newObj];exact S
      intro k c hk;simp[bX] at hk;simp only[newObj];exact n.next k c hk
     simp at h
    simp at h
   simp at h
  simp at h
theorem sd {a:Array Oper}:∀(r:List (Nat×Bool)) (l:Array Bool),oU a r l=true->l.size=a.size->∀x∈r,(eR r l)[x.1]?=some true
 | [],_,_,_,x,X=>by grind
 |(i,lone)::r,l,e,c,x,X=>by
  simp only[oU,Bool.and_eq_true] at e
  rcases List.mem_cons.1 X with rfl|X
  ·simp only[eR]
   apply lZ
   have b:i∈Region.ready .any a l:=by
    grind
   obtain⟨_,o,O,_⟩:=mem_ready.1 b;grind[bK]
  exact sd r (bK l i) e.2 (by grind[bK]) x X
theorem xM (W:E.Ok P) {g:Array Oper} {h:aw} (hc:ew g h=true) (bw:oV g h=true) (bi:gJ g h=true) {p:Array Bool} {Q:aa->Prop} {Kx:Exit->Act->World->Prop} (a5:∀x∈h.pre,p[x.1]?=some true) (bb:iR g h.tail p=true) :
  ∀(y F:Nat) (c:Array Bool) (s:aa),y+h.tail.length<=F->c.size=g.size->fp g c->
   qO P E G H g h p (fun s1=>match iA E g.toList h.nw s1 with
    | some s2=>mS (ay P G) E G H g.toList Q (dZ g.toList h.tail) s2
    | none=>False) y c s->
   ∀(w:World) (R:Own) (N:Name->Option Nat) (l:Act) (Z U m n z:List Nat),B3 E G H g h c w R N l s Z U m n z->l.defers=D->
   (∀C T,Sm G D Q w R N z C T->Kx .normal C T)->wpAny P .any g Kx F c l w:=by
 have am:∀(F:Nat) (s:aa),h.tail.length<=F->(match iA E g.toList h.nw s with
    | some s2=>mS (ay P G) E G H g.toList Q (dZ g.toList h.tail) s2
    | none=>False)->
   ∀(w:World) (R:Own) (N:Name->Option Nat) (l:Act) (Z U m n z:List Nat),B3 E G H g h p w R N l s Z U m n z->l.defers=D->
   (∀C T,Sm G D Q w R N z C T->Kx .normal C T)->wpAny P .any g Kx F p l w:=by
  intro F s hF hT w R N l Z U m n z hp V hK;have a7:∀i,i∈h.nw.toList++h.tk->p[i]?=some true:=by
   intro i hi;unfold ew at hc;have h1:=List.all_eq_true.1 hc i hi;simp only[Bool.and_eq_true] at h1;exact a5 (i,false) (by simpa using h1.1)
  split at hT
  ·rename_i s3 ci;obtain⟨N3,a4,a1,a9,a6⟩:=tA (FE ci) hp.rel (fun i o t d ti hi O a8 V J bc q=>hp.nwf i o t d ti hi (a7 i (by simp[hi])) O a8 V J bc q);exact mr W g Q Kx h.tail p F s3 bb hF hT w R N3 l a4 a1 m z a9 V (fun C T h'=>hK C T (h'.trans (aZ _) (fun o b hb=>by rw[a6];exact hb)))
  exact hT.elim
 have af:∀{y:Nat} (F:Nat) (c:Array Bool) (s:aa),y+1+h.tail.length<=F->c.size=g.size->fp g c->∀(i:Nat) (oi:Oper) (a:ac),bK c i=p->oB g h p i=true->g[i]?=some oi->(i,false)∈h.pre->
   i∈Region.ready .any g c->eK E G (aK H g.toList h.pre||quietAt H g.toList h.pre i) g.toList oi s=some a->
   (match iA E g.toList h.nw (s.put oi.dst a) with
    | some s2=>mS (ay P G) E G H g.toList Q (dZ g.toList h.tail) s2
    | none=>False)->
   ∀(w:World) (R:Own) (N:Name->Option Nat) (l:Act) (Z U m n z:List Nat),B3 E G H g h c w R N l s Z U m n z->l.defers=D->
   (∀C T,Sm G D Q w R N z C T->Kx .normal C T)->wpAny P .any g Kx F c l w:=by
  intro y F c s hF S I i oi a ad q an hm ba hq hT w R N l Z U m n z hp V hK;have br:=cJ ba S;have hb:=tB br ad;have cl:=q;unfold oB at q
  split at q
  ·simp at q
  ·rename_i j r bo;rw[hb] at q;simp only[Bool.and_eq_true,Bool.or_eq_true,beq_iff_eq] at q;obtain⟨⟨⟨⟨⟨⟨⟨aq,cg⟩,cn⟩,b0⟩,_⟩,cc⟩,cp⟩,L⟩:=q
   split at L
   rotate_left
   ·simp at L
   rename_i cq oj ao bn;rw[an] at ao;simp at ao;subst ao;simp only[Bool.and_eq_true] at L;obtain⟨⟨ae,ax⟩,ca⟩:=L;obtain⟨F',rfl⟩:∃F',F=F'+1:=⟨F - 1,by omega⟩
   -- i first
   have hi:wpOp P g Kx i (wpAny P .any g Kx F' (c.setIfInBounds i true)) l w:=by
    refine ID W hc hp I V an br hm hq ?_;intro v T R' u Y ab B;rw[show c.setIfInBounds i true=p from ad];rw[ad] at ab;exact am F' _ (by omega) hT T R' N _ u U m Y z ab (by rw[(ga l oi.dst v).2];exact V) (fun C w2 h'=>hK C w2 (h'.trans B (fun _ _ hb=>hb)))
   -- j first
   have hj:wpOp P g Kx j (wpAny P .any g Kx F' (c.setIfInBounds j true)) l w:=by
    obtain⟨x,d,X,ar⟩:∃x d,opsL oi.op=[.tmp x]/\oi.dst=some d:=by
     have al:=ae;unfold ju at al;simp only[Bool.and_eq_true] at al;have g5:=al.2
     split at g5
     ·rename_i x k d e1 e2;exact⟨x,d,by rw[e1];rfl,e2⟩
     ·rename_i x d e1 e2;exact⟨x,d,by rw[e1];rfl,e2⟩
     simp at g5
    rw[ar] at hT
    split at hT
    ·rename_i s2 ch;have bl:qf g h.nw≠some d:=by rw[←ar];simpa using ca
     obtain⟨cs,b9,rfl,b4⟩:=FF ch bl;rw[X,ar] at ax;simp at ax;have cj:x≠d:=fun e=>by have:=ax.1;rw[e] at this;simp[dI] at this
     have ck:qf g h.nw≠some x:=fun e=>by
      have:=ax.2
      rw[e] at this;simp[dI] at this
     have b5:g.toList[j]?=some oj:=by simpa using bn
     rw[bo] at hT;simp only[dZ,b5,mS,iT] at hT;obtain⟨cu,k1,K,M⟩:=MO ae X ar hq (b4 x cj ck) hT;have a7:∀k,k∈h.nw.toList->c[k]?=some true:=by
      intro k B;have h1:=List.all_eq_true.1 (by unfold ew at hc;exact hc) k (List.mem_append_left _ B);simp only[Bool.and_eq_true] at h1;have h2:=a5 (k,false) (by simpa using h1.1);have b8:i≠k:=fun e=>by subst e;simp[B] at cc
      rw[←ad] at h2;unfold bK at h2;rwa [Array.getElem?_setIfInBounds_ne b8] at h2
     obtain⟨N3,a4,a1,a9,a6⟩:=tA b9 hp.rel (fun k o t dk ti B O a8 b3 J bc q=>hp.nwf k o t dk ti B (a7 k (by simp[B])) O a8 b3 J bc q);have gj:oj.guard=none/\oi.guard=none:=by
      unfold ju at ae;simp only[Bool.and_eq_true,Bool.or_eq_true,Option.isNone_iff_eq_none] at ae;exact⟨ae.1.1.1.2,ae.1.1.1.1⟩
     refine wpOp_mono ?_ (Kn W g bn gj.1 k1 a9 V);rintro C T ⟨s',R',N',u,a0,az,rfl,ce,b1,b6,bt⟩;have cm:h.tail.length=r.length+1:=by rw[bo];rfl
     obtain⟨F2,rfl⟩:∃F2,F'=F2+1:=⟨F' - 1,by omega⟩;refine wpAny_all cg (by simp) ?_;intro k B;simp at B;subst B;refine wpOp_mono ?_ (Kn W g an gj.2 K ce b1);rintro a2 w2 ⟨cr,R2,N2,bg,bf,be,rfl,cf,b2,b7,bu⟩;have bx:(c.setIfInBounds j true).setIfInBounds k true=bK p j:=by
      rw[←ad];unfold bK
      by_cases bk:j=k
      ·subst bk;rfl
      exact Array.setIfInBounds_comm _ _ bk
     rw[bx];refine mr W g Q Kx r (bK p j) F2 _ b0 (by omega) M w2 R2 N2 a2 bg bf be z cf b2 (fun a3 w3 f=>hK a3 w3 ?_);exact ((f.trans b7 bu).trans b6 bt).trans (aZ _) (fun o b hb=>by rw[a6];exact hb)
    exact hT.elim
   rcases aq with aq|aq
   ·refine wpAny_all aq (by simp) ?_;intro k B;simp at B
    rcases B with rfl|rfl
    ·exact hi
    exact hj
   refine wpAny_all aq (by simp) ?_;intro k B;simp at B
   rcases B with rfl|rfl
   ·exact hj
   exact hi
 intro y
 induction y with
 | zero=>
  intro F c s hF _ _ A w R N l Z U m n z hp V hK;obtain⟨rfl,hT⟩:=A;exact am F s (by omega) hT w R N l Z U m n z hp V hK
 | succ y ih=>
  intro F c s hF S I A w R N l Z U m n z hp V hK
  rcases A with⟨rfl,hT⟩|⟨_,cb,av⟩|⟨i,oi,a,ad,q,an,hm,ba,hq,hT⟩
  rotate_right
  ·exact af F c s hF S I i oi a ad q an hm ba hq hT w R N l Z U m n z hp V hK
  ·exact am F s (by omega) hT w R N l Z U m n z hp V hK
  obtain⟨F',rfl⟩:∃F',F=F'+1:=⟨F - 1,by omega⟩;refine⟨fun h0=>absurd h0 cb,fun i hi=>?_⟩;obtain⟨lone,o,hm,O,hs⟩:=av i hi
  cases lone
  ·simp only[Bool.false_eq_true,if_false] at hs;obtain⟨a,ag,bv⟩:=hs;refine ID W hc hp I V O (cJ hi S) hm ag ?_;intro v T R' u Y ab B;exact ih F' (bK c i) _ (by omega) (by simpa [bK] using S) (I.step hi) bv T R' N _ u U m Y z ab (by rw[(ga l o.dst v).2];exact V) (fun C w2 h'=>hK C w2 (h'.trans B (fun _ _ hb=>hb)))
  simp only[if_true] at hs
  by_cases bm:dv o.op=none/\fk o.op=none/\iI o.op=false/\dC g.toList s o.guard=some true
  ·obtain⟨n1,n2,n3,n4⟩:=bm;unfold KV at hs;simp only[n1,n2,n3,n4,if_true] at hs
   cases ag:eK E G (aK H g.toList h.pre) g.toList o s with
   | none=>rw[ag] at hs;exact hs.elim
   | some a=>
    rw[ag] at hs;dsimp only at hs;refine ID W hc hp I V O (cJ hi S) hm ag ?_;intro v T R' u Y ab B;exact ih F' (bK c i) _ (by omega) (by simpa [bK] using S) (I.step hi) hs T R' N _ u U m Y z ab (by rw[(ga l o.dst v).2];exact V) (fun C w2 h'=>hK C w2 (h'.trans B (fun _ _ hb=>hb)))
  refine XZ W hc bw bi hp I V O (cJ hi S) hm hi bm hs ?_;intro s' v T R' N' u a0 az bs ab B hN;exact ih F' (bK c i) s' (by omega) (by simpa [bK] using S) (I.step hi) bs T R' N' _ u a0 az n z ab (by rw[(ga l o.dst v).2];exact V) (fun C w2 h'=>hK C w2 (h'.trans B (fun o b hb=>hN _ _ hb)))
theorem HJ (W:E.Ok P) {e:Array Oper} {Q:aa->Prop} {B:Exit->Act->World->Prop} :
  ∀(m F:Nat) (a:Array Bool) (s:aa),afz (ay P G) E G H e.toList Q m a s->m<=F->∀(w:World) (R:Own) (N:Name->Option Nat) (c:Act) (Z U d z:List Nat),
   dw G w R N c.tmps.toList s undef .undef [] Z U d z->c.defers=D->(∀l r,Sm G D Q w R N z l r->B .normal l r)->wpAny P .any e B F a c w:=by
 intro m
 induction m with
 | zero=>
  intro F a s h _ w R N c Z U d z q p n;exact wpAny_done h.1 (n _ _ ⟨s,R,N,Z,U,d,h.2,q,p,aZ _,fun _ _ h=>h⟩) F
 | succ m M=>
  intro F a s h V w R N c Z U d z q p n;rcases h with h|⟨y,k⟩
  ·exact wpAny_done h.1 (n _ _ ⟨s,R,N,Z,U,d,h.2,q,p,aZ _,fun _ _ h=>h⟩) F
  obtain⟨t,rfl⟩:∃t,F=t+1:=⟨F - 1,by omega⟩;refine wpAny_all (rs:=Region.ready .any e a) rfl y ?_;intro j K;obtain⟨o,O,b⟩:=k j K;refine wpOp_mono ?_ (jv W e (by grind) b q p);rintro l r ⟨S,I,C,i,g,f,L,A,v,x,u⟩;exact M t _ S L (by omega) r I C l i g f z A v (fun J T b=>n J T (b.trans x u))
theorem tK:∀(r:List (Nat×Bool)),(bR r).length<=r.length
 | []=>by simp[bR]
 |(i,true)::r=>by simp[bR]
 |(i,false)::r=>by simp only[bR,List.length_cons];have:=tK r;omega
theorem zW:∀(r:List (Nat×Bool)) (l:Array Bool) {n:Nat},l.size=n->(∀y∈r,y.1 < n)->∀x∈r,(eR r l)[x.1]?=some true
 | [],_,_,_,_,x,X=>by grind
 |(i,b)::r,l,n,N,a,x,X=>by
  have s:(bK l i).size=n:=by grind[bK]
  rcases List.mem_cons.1 X with rfl|X
  ·have:i < l.size:=by grind
   exact lZ r (bK l i) i (by grind[bK])
  exact zW r (bK l i) s (fun y c=>a y (by grind)) x X
theorem BB (W:E.Ok P) (hm:P.follows .mixedOrders=true) {id:Nat} {j:Array Oper} {h:aw} {Q:Exit->aa->Prop} (e:(gz h||(if gP h=true then RN j (gh h) else (ZI j h||Je j h)))=true) (K:Bz (ay P G) E G H j.toList h (Q .normal) s):cL P G (.region id j true) Q s:=by
 by_cases X:gz h=true
 ·intro w R N v Z U A z q D F;unfold Bz at K;rw[if_pos X,Array.length_toList] at K
  apply wp_region_any hm
  have I:Step w R {w with drawn:=w.drawn+1 } R:=⟨rfl,rfl,rfl,Nat.le_refl _,fun _ _ h=>⟨rfl,h⟩,fun _ _ _ h=>⟨h,rfl⟩,fun _ _=>rfl⟩;have f:∀B,bp w R {w with drawn:=w.drawn+1 } R B:=fun B=>⟨I,fun _ _ _=>⟨rfl,fun _ h=>h⟩⟩
  have Y:dw G {w with drawn:=w.drawn+1 } R N v.tmps.toList s undef .undef [] Z U A z:=
   ⟨aJ _,q.tmps.keep (f _),q.locs.keep (f _),q.heap.keep (f _),q.nodup,q.next,fun g c J=>(q.glob g c J).step I,q.frame⟩
  refine HJ W j.size j.size _ s K (Nat.le_refl _) _ R N v Z U A z Y F ?_;rintro a' w' ⟨s',R',N',a6,a5,a4,⟨s0,hq,aq⟩,a1,az,a0,av⟩;obtain⟨N2,am,al,ag,a2,ax⟩:=aq _ _ _ _ _ _ _ _ a1;exact⟨s0,R',N2,am,al,ag,hq,a2,az,(f _).trans a0,fun o b hb=>ax o b (q.next o b hb) (av o b hb)⟩
 have ar:gz h=false:=by simpa using X
 rw[ar,Bool.false_or] at e;unfold Bz at K;rw[if_neg X] at K
 by_cases af:gP h=true
 ·rw[if_pos af] at e K;obtain⟨L,an⟩:∃L,L=gh h:=⟨_,rfl⟩;rw[←an] at e K;clear af X ar an;intro w R N v Z U A z q D F;unfold RN at e;simp only[Bool.and_eq_true,decide_eq_true_eq] at e;obtain⟨⟨⟨⟨⟨⟨⟨S,M⟩,O⟩,p⟩,C⟩,m⟩,ae⟩,ao⟩:=e
  apply wp_region_any hm
  unfold By at K;rw[Array.length_toList] at K;have a7:(bR L.pre).length<=L.pre.length:=tK L.pre;have ad:fp j (Array.replicate j.size false):=fun d o F=>by
   rw[Array.getElem?_replicate] at F
   split at F <;> simp at F
  have ab:∀x∈L.pre,(eR L.pre (Array.replicate j.size false))[x.1]?=some true:=fun x X=>zW L.pre _ (n:=j.size) (by simp) (fun y hy=>by have:=List.all_eq_true.1 ao y hy;simpa using this) x X
  have V:=qM (P:=P) (E:=E) (G:=G) (H:=H) p C m M ab (L.pre.length - (bR L.pre).length) (bR L.pre) (Array.replicate j.size false) s (fun _ h=>tJ h) (by simp) ad S (fun s' h=>so _ _ _ h) K;have I:Step w R {w with drawn:=w.drawn+1 } R:=⟨rfl,rfl,rfl,Nat.le_refl _,fun _ _ h=>⟨rfl,h⟩,fun _ _ _ h=>⟨h,rfl⟩,fun _ _=>rfl⟩;have f:∀B,bp w R {w with drawn:=w.drawn+1 } R B:=fun B=>⟨I,fun _ _ _=>⟨rfl,fun _ h=>h⟩⟩
  have Y:dw G {w with drawn:=w.drawn+1 } R N v.tmps.toList s undef .undef [] Z U A ([]++z):=
   ⟨aJ _,q.tmps.keep (f _),q.locs.keep (f _),q.heap.keep (f _),q.nodup,q.next,fun g c J=>(q.glob g c J).step I,q.frame⟩
  have r:∀(i:Nat),(Array.replicate j.size false)[i]?≠some true:=by
   intro i hi;rw[Array.getElem?_replicate] at hi
   split at hi <;> simp at hi
  refine xM W p C m ab O _ j.size _ s (by omega) (by simp) ad V _ R N v Z U A [] z ⟨Y,?_,?_⟩ F ?_
  ·intro i o t d ti _ l;exact absurd l (r i)
  ·intro i o T u t n a3 ob _ l;exact absurd l (r i)
  intro a' w' L;exact L.trans (f _) (fun _ _ h=>h)
 rw[if_neg af] at e K;rw[Bool.or_eq_true] at e
 rcases e with e|e
 rotate_left
 ·exfalso
  unfold Je at e;simp only[Bool.and_eq_true,List.isEmpty_iff] at e;obtain⟨a,h2⟩:=e;rw[a] at K;simp only[mu] at K
  split at h2
  ·rename_i k hk;rw[hk] at K
   have:j.toList[k]?=none:=by simpa using h2
   simp only[iA,this] at K
  simp at h2
 intro w R N v Z U A z q D F;unfold ZI at e;simp only[Bool.and_eq_true,decide_eq_true_eq] at e;obtain⟨⟨⟨⟨⟨⟨⟨_,S⟩,M⟩,O⟩,p⟩,C⟩,m⟩,ae⟩:=e
 apply wp_region_any hm
 have V:=qN (P:=P) (E:=E) (G:=G) (H:=H) p C m M h.pre (Array.replicate j.size false) s h.pre.length (fun _ h=>h) (by simp) (fun d o F=>by rw[Array.getElem?_replicate] at F;split at F <;> simp at F) rfl S (Nat.le_refl _) K;have I:Step w R {w with drawn:=w.drawn+1 } R:=⟨rfl,rfl,rfl,Nat.le_refl _,fun _ _ h=>⟨rfl,h⟩,fun _ _ _ h=>⟨h,rfl⟩,fun _ _=>rfl⟩;have f:∀B,bp w R {w with drawn:=w.drawn+1 } R B:=fun B=>⟨I,fun _ _ _=>⟨rfl,fun _ h=>h⟩⟩
 have Y:dw G {w with drawn:=w.drawn+1 } R N v.tmps.toList s undef .undef [] Z U A ([]++z):=
  ⟨aJ _,q.tmps.keep (f _),q.locs.keep (f _),q.heap.keep (f _),q.nodup,q.next,fun g c J=>(q.glob g c J).step I,q.frame⟩
 have r:∀(i:Nat),(Array.replicate j.size false)[i]?≠some true:=by
  intro i hi;rw[Array.getElem?_replicate] at hi
  split at hi <;> simp at hi
 refine xM W p C m (sd h.pre _ S (by simp)) O h.pre.length j.size _ s ae (by simp) (fun d o F=>by rw[Array.getElem?_replicate] at F;split at F <;> simp at F) V _ R N v Z U A [] z ⟨Y,?_,?_⟩ F ?_
 ·intro i o t d ti _ l;exact absurd l (r i)
 ·intro i o T u t n a3 ob _ l;exact absurd l (r i)
 intro a' w' L;exact L.trans (f _) (fun _ _ h=>h)
end
end Go.Tp
namespace Go.Tp
section
variable {P:Program} {E:bz} {G:bA} {H:Hints} {D:List Deferred}
variable {N:Name->Option Nat} {Q:Exit->aa->Prop} {w:World}
theorem Dx.trans {i:World} {R g:Own} {f:Name->Option Nat} {z:List Nat} (k:bp w R i g z) (n:∀o b,N (.out o)=some b->f (.out o)=some b) {e:Exit} {a:Act} {j:World}
  (h:Dx G D Q i g f z e a j):Dx G D Q w R N z e a j:=by
 obtain⟨s',m,l,Z,U,H,q,r,p,d,c⟩:=h;exact⟨s',m,l,Z,U,H,q,r,p,k.trans d,fun o b h=>c o b (n o b h)⟩
theorem wK {x y:Code} {s:aa} (h:cL P G x (fun e i=>match e with|.normal=>cL P G y Q i|e=>Q e i) s):cL P G (.seq x y) Q s:=by
 intro w R N j Z U H z q D p
 apply wp_seq
 refine wp_mono (h w R N j Z U H z q p) ?_;rintro e a r ⟨i,m,l,d,c,b,o,g,f,k,n⟩
 cases e with
 | normal=>exact wp_mono (o r m l a d c b z g f) (fun e a w h=>h.trans k n)
 | _=>exact⟨i,m,l,d,c,b,o,g,f,k,n⟩
theorem cL.mono {c:Code} {Q':Exit->aa->Prop} {s:aa} (h:cL P G c Q s) (n:∀e s,Q e s->Q' e s):cL P G c Q' s:=by
 intro w R N i Z U H z o D m;refine wp_mono (h w R N i Z U H z o m) ?_;rintro e a q ⟨p,k,j,f,d,b,l,g⟩;exact⟨p,k,j,f,d,b,n _ _ l,g⟩
theorem gD {c:Code} {e:Exit} {s:aa} (d:∀{Q:Exit->Act->World->Prop} {a:Act} {w:World},Q e a w->c.wp P Q a w) (h:Q e s):cL P G c Q s:=by
 intro w R N b Z U H z g D f;exact d ⟨s,R,N,Z,U,H,h,g,f,aZ _,fun _ _ h=>h⟩
theorem NS {R:Own} {a:ac} {v:Value} {B:List Nat} (h:ai w R N a v B):∃b,ai w R N (tidy a) v b/\b.Sublist B:=by
 unfold tidy
 split
 ·exact⟨[],qT h,List.nil_sublist _⟩
 grind
theorem B8 {w:World} {R:Own} {N:Name->Option Nat}:∀{d:List ac} {e:List Value} {B:List Nat},ah w R N d e B->∃c,ah w R N (jF d) e c/\c.Sublist B
 | [],_,_,h=>by obtain⟨rfl,rfl⟩:=aM h;exact⟨[],aP,.refl _⟩
 | a::d,_,_,h=>by
  obtain⟨v,i,r,Q,rfl,rfl,f,b⟩:=au h;obtain⟨p,j,K⟩:=NS f;obtain⟨q,M,g⟩:=B8 b;exact⟨p++q,by grind[jF,aD],List.Sublist.append K g⟩
def vB (b:Array Value):ResultVar->Sem Value
 | .tmp t=>pure (b.getD t undef)
 | .cell a t=>do loadVar t (←asAddr (b.getD a undef))
theorem mC (W:E.Ok P) {w:World} {R:Own} {N:Name->Option Nat} {A:Act} (J:∀g cs,G g=some cs->aed w R g cs):∀(O:List ResultVar) {s:aa} {S:List ac} {Z U H k:List Nat},gU E s O=some S->
  ah w R N s.tmps A.tmps.toList Z->aj w R N s.locs U->aj w R (outs N) s.heap H->(Z++k).Nodup->
  ∃m X Y,(O.mapM (vB A.tmps)).run P w=.ok m w/\ah w R N S m X/\m.length=O.length/\(X++(Y++k)).Nodup
 | [],s,S,Z,U,H,k,h,T,_,_,y=>by
  simp[gU] at h;subst h;exact⟨[],[],Z,by simp,aP,rfl,by simpa using y⟩
 | .tmp t::O,s,S,Z,U,H,k,h,T,l,hh,y=>by
  simp only[gU] at h
  split at h
  ·rename_i ar I;simp at h;subst h;obtain⟨Q,bT,h1,h2,f,_⟩:=rB T J (some 0) [.tmp t] k y;obtain⟨b0,e0,am⟩:=dO h1;simp only[aE,if_true,List.cons.injEq,and_true] at e0;subst e0;obtain⟨q1,q2,_⟩:=ry s (some 0) [.tmp t];have ae:(bT++(Q++k)).Nodup:=by
    have z:(bT++(Q++k)).Perm (Q++(bT++k)):=List.perm_append_comm_assoc _ _ _;exact z.nodup_iff.2 f
   obtain⟨m,o,x,k1,K,M,k4⟩:=mC W J O I h2 (by rw[q1];exact l) (by rw[q2];exact hh) ae;refine⟨A.eval (.tmp t)::m,Q++o,x,?_,aD am K,by simp[M],?_⟩
   ·simp only[List.mapM_cons,Sem.run_bind,vB,Sem.run_pure,Result.andThen_ok,k1];rfl
   have z:((Q++o)++(x++k)).Perm (o++(x++(Q++k))):=by
    rw[List.perm_iff_count];intro q;simp only[List.count_append];omega
   exact z.nodup_iff.2 k4
  simp at h
 | .cell a t::O,s,S,Z,U,H,k,h,T,l,hh,y=>by
  simp only[gU] at h
  split at h
  ·rename_i v ar V I;simp at h;subst h;obtain⟨m,o,x,k1,K,M,k4⟩:=mC W J O I T l hh y;unfold yC at V
   split at V
   ·rename_i n L z
    split at V
    ·rename_i cs i C ao;have ad:s.tmps[a]?=some (.ptr n L):=by
      unfold bq at z
      cases hs:s.tmps[a]? with
      | none=>rw[hs] at z;simp at z
      | some v=>rw[hs] at z;simp at z;rw[z]
     obtain⟨u,b',e1,F,_⟩:=dY T ad;simp only[ai] at F;obtain⟨_,b,d,rfl⟩:=F;have af:∃r,aI w R N (.cells cs) b r:=by
      unfold aa.obj at C
      cases n with
      | loc j=>
       obtain⟨aq,c,p,ag,_,B,f3,_⟩:=aj.split l C;rw[d] at B;simp at B;subst B;exact⟨p,f3⟩
      | out j=>
       obtain⟨aq,c,p,ag,_,B,f3,_⟩:=aj.split hh C;simp only[outs] at B;rw[d] at B;simp at B;subst B;refine⟨p,f3.yi ?_ (fun _=>rfl)⟩;obtain⟨S,e,sp,_,D,_⟩:=f3
       have:=D.bY
       rw[ji] at this;exact this
     obtain⟨r,av,el,sp,ab,D,_⟩:=af;obtain⟨cv,g1,g2⟩:=nT (N:=N) W ao ab D (mI V);refine⟨cv::m,[]++o,x,?_,aD g2 K,by simp[M],by simpa using k4⟩;have an:A.tmps.getD a undef=.pointer (some ⟨b,L,none⟩):=by simp at e1;simp[e1]
     have al:(loadVar t ⟨b,L,none⟩).run P w=.ok cv w:=by simpa [Instr.loadAt,Instr.sureAddr] using g1
     simp only[List.mapM_cons,Sem.run_bind,vB,an,asAddr,Sem.run_pure,Result.andThen_ok,al,k1]
    simp at V
   simp at V
  simp at h
def KL:List Value->Value
 | [v]=>v
 | a=>.tuple a.toArray
theorem FO {c:Func} {b:Act} {a:List Value} (h:(c.results.toList.mapM (vB b.tmps)).run P w=.ok a w) :
  (results c b.tmps).run P w=.ok (KL a) w:=by
 have d:results c b.tmps=(do
   let f ←c.results.mapM (vB b.tmps)
   pure (if h:f.size=1 then f[0] else .tuple f)):=rfl
 have e:(c.results.mapM (vB b.tmps)).run P w=.ok a.toArray w:=by
  rw[Array.mapM_eq_mapM_toList];simp[h]
 rw[d];simp only[Sem.run_bind,e,Result.andThen_ok]
 cases a with
 | nil=>rfl
 | cons v a=>cases a <;> rfl
theorem kA {w:World}:∀(m:List Name) {s q:aa} {e c:List ac} {R:Own} {N:Name->Option Nat},aei m s e=(q,c)->∀{f:List Value} {d:List Value} {g Z U H z:List Nat},
  dw G w R N f s (.tuple d.toArray) (.tup e) g Z U H z->
  ∃C B l k j i,dw G w C B f q (.tuple d.toArray) (.tup c) l k j i z/\bp w R w C z/\(∀o b,N (.out o)=some b->B (.out o)=some b)
 | [],s,q,e,c,R,N,h,f,d,g,Z,U,H,z,p=>by
  grind[aei,aZ]
 | n::m,s,q,e,c,R,N,h,f,d,g,Z,U,H,z,p=>by
  simp only[aei] at h
  split at h
  ·split at h
   ·rename_i Q r a;obtain⟨M,L,T,S,P,O,y,v,t,_⟩:=xf a p;obtain⟨E,D,K,J,I,F,A,x,u⟩:=kA m h y;exact⟨E,D,K,J,I,F,A,v.trans x,fun o b h=>u o b (t o b h)⟩
   exact kA m h p
  exact kA m h p
theorem F9 {R:Own} {c:List ac} {b:List Value} {B:List Nat} (h:ah w R N c b B):ai w R N (pack c) (KL b) B:=by
 cases c with
 | nil=>
  grind[aM,pack,KL,ai]
 | cons a c=>
  have l:=h.length
  cases c with
  | nil=>
   cases b with
   | nil=>grind
   | cons v b=>
    simp at l;subst l;obtain⟨d,e,A⟩:=dO h;simp at e;subst e;exact A
  | cons f c=>
   cases b with
   | nil=>grind
   | cons v b=>
    cases b <;> grind[pack,KL,ai]
theorem zX {a:List ac} (h:aW a=true):er (pack a)=true:=by
 unfold pack
 grind[aW,er]
theorem Ka (W:E.Ok P) {I:Func} {Q:ac->List (Name×aL)->Nat->Prop} {s:aa} (h:ye E I.results.toList Q s) {R:Own} {t:Act} {Z U H z:List Nat}
  (a:dw G w R N t.tmps.toList s undef .undef [] Z U H z) :
  ∃cv,(results I t.tmps).run P w=.ok cv w/\∃v c d F D u i,Q v c d/\ai w F (outs D) v cv u/\aj w F (outs D) c i/\(u++(i++z)).Nodup ∧
   (∀o b,D (.out o)=some b->o < d)/\bp w R w F z/\(∀o b,N (.out o)=some b->D (.out o)=some b):=by
 unfold ye at h
 split at h
 ·exact h.elim
 rename_i vs T;have B:(Z++(U++(H++z))).Nodup:=by simpa using a.nodup
 obtain⟨y,ab,Y,k1,K,M,k4⟩:=mC W a.glob I.results.toList T a.tmps a.locs a.heap B;obtain⟨j,k5,k6⟩:=B8 K;refine⟨_,FO k1,?_⟩
 split at h
 ·rename_i q;refine⟨_,_,_,R,N,j,H,h,(F9 k5).Kk (zX q),a.heap,?_,a.next,aZ _,fun _ _ h=>h⟩;refine List.Nodup.sublist ?_ k4;exact List.Sublist.append k6 ((List.sublist_append_right _ _).trans (List.sublist_append_right _ _))
 split at h
 rename_i s' ae A
 split at h
 ·rename_i q
  -- the slots are no longer needed: a state without them
  have S:dw G w R N [] {s with tmps:=[]} (.tuple y.toArray) (.tup (jF vs)) j [] U H z:=
   ⟨by simp only[ai];exact⟨y,rfl,k5⟩,aP,a.locs,a.heap,by
    refine List.Nodup.sublist ?_ k4;exact List.Sublist.append k6 (by simp),a.next,a.glob,a.frame⟩
  have p:∀(C:List Name) (k r:aa) (g l:List ac),aei C k g=(r,l)->aei C {k with tmps:=[]} g=({r with tmps:=[]},l):=by
   intro C
   induction C with
   | nil=>intro k r g l h;simp only[aei,Prod.mk.injEq] at h ⊢;obtain⟨rfl,rfl⟩:=h;exact⟨rfl,rfl⟩
   | cons n C X=>
    intro k r g l h;simp only[aei] at h ⊢
    split at h
    ·rename_i O;rw[if_pos O];have hp:tN true n {k with tmps:=[]} g=(tN true n k g).map (fun x=>({x.1 with tmps:=[]},x.2)):=by
      unfold tN;dsimp only
      split
      ·split
       ·simp[hU]
       split <;> simp[ff]
      ·simp[ff]
      simp
     rw[hp]
     split at h
     ·rename_i s3 a3 f;rw[f];exact X s3 r a3 l h
     rename_i f;rw[f];exact X k r g l h
    rename_i O;rw[if_neg O];exact X k r g l h
  obtain⟨R2,N2,v2,t2,l2,g2,e,L,J⟩:=kA _ (p _ _ _ _ _ A) S;have V:=e.val;simp only[ai] at V;obtain⟨ad,ec,m⟩:=V;simp at ec;subst ec;refine⟨_,_,_,R2,N2,v2,g2,h,(F9 m).Kk (zX q),e.heap,?_,e.next,L,J⟩;refine List.Nodup.sublist ?_ e.nodup;exact List.Sublist.append (.refl _) ((List.sublist_append_right _ _).trans (List.sublist_append_right _ _))
 exact h.elim
theorem wY {w:World} {R:Own} {N:Name->Option Nat}:∀(k:Nat),ah w R N (List.replicate k .undef) (List.replicate k undef) []
 | 0=>aP
 | k+1=>by simpa [List.replicate_succ] using aD (b1:=[]) (b2:=[]) (aJ (w:=w) (R:=R) (N:=N) undef) (wY k)
theorem gX (W:E.Ok P) {f:FuncId} {y:Func} {c:Code} (hf:P.funcs[f]?=some y) (d:y.body=some c) {p:List ac} {q:List (Name×aL)} {u:Nat} {Q:ac->List (Name×aL)->Nat->Prop}
  (h:rN p->yc q->cL P G c (adO E y.results.toList Q) (enter y.ntmps p q u)):ay P G f p q u Q:=by
 intro w R N t C H z A X ab S J hF;replace h:=h A.pH X.pH;refine calls_of_wp hf d ?_;have Y:=A.length;have hr:dw G w R (outs N) ((t.toArray++Array.replicate (y.ntmps - t.toArray.size) undef).toList) (enter y.ntmps p q u) undef .undef [] C [] H z:=by
  refine⟨aJ _,?_,rfl,?_,by grind,?_,J,hF⟩
  ·have:=ct A (wY (w:=w) (R:=R) (N:=outs N) (y.ntmps - p.length))
   simp_all[enter]
  ·exact X.ext (fun m b hm=>by simp_all[outs])
  intro o b O;exact S o b O
 refine wp_mono (h w R (outs N) _ C [] H z hr rfl) ?_;rintro e a K ⟨s',R',N',Z,U,V,B,T,M,k,hN⟩;have I:ye E y.results.toList Q s'->a.defers=[]/\∃v,(results y a.tmps).run P K=.ok v K/\(∃L D j n s r x g,Ending.returned v=.returned D/\Q L j n/\ai K s (outs r) L D x/\aj K s (outs r) j g ∧
   (x++(g++z)).Nodup/\(∀o b,r (.out o)=some b->o < n)/\bp w R K s z/\(∀o b,N (.out o)=some b->r (.out o)=some b)):=by
  intro F;obtain⟨D,g1,L,j,n,s,r,x,g,q1,q2,q3,q4,q5,q6,q7⟩:=Ka W F T;exact⟨M,D,g1,L,D,j,n,s,r,x,g,rfl,q1,q2,q3,q4,q5,k.trans q6,fun o b h=>q7 o b (hN o b h)⟩
 cases e with
 | ret=>exact I B
 | normal=>exact I B
 | exit i=>exact B.elim
 | goto l=>exact B.elim
 | panic ch=>exact B.elim
 | outgrown=>exact B.elim
inductive Tr where
 |nil
 |node (l:Tr) (k:Nat) (v:TI) (r:Tr)
def Tr.find:Tr->Nat->Option TI
 | .nil,_=>none
 | .node l k v r,t=>match Nat.blt t k with
  | true=>l.find t
  | false=>(match Nat.blt k t with|true=>r.find t|false=>some v)
def Tr.HN (P:Program):Tr->Prop
 | .nil=>True
 | .node l k v r=>l.HN P/\v.ok P k/\r.HN P
theorem Tr.all_nil {P:Program}:Tr.HN P .nil:=trivial
theorem Tr.ag {P:Program} {l r:Tr} {k:Nat} {v:TI} (a:l.HN P) (V:v.ok P k) (R:r.HN P):Tr.HN P (.node l k v r):=⟨a,V,R⟩
theorem Tr.EF {P:Program}:∀{c:Tr},c.HN P->∀{t:Nat} {i:TI},c.find t=some i->i.ok P t
 | .nil,_,t,i,h=>by grind[Tr.find]
 | .node l k v r,⟨f,V,R⟩,t,i,h=>by
  simp only[Tr.find] at h
  cases a:Nat.blt t k with
  | true=>rw[a] at h;exact Tr.EF f h
  | false=>
   rw[a] at h
   cases b:Nat.blt k t with
   | true=>rw[b] at h;exact Tr.EF R h
   | false=>
    rw[b] at h;have d:¬t < k:=fun h=>by rw[←Nat.blt_eq,a] at h;grind
    have e:¬k < t:=fun h=>by rw[←Nat.blt_eq,b] at h;grind
    grind
def Zs (P:Program) (f:FuncId):Bool:=match P.funcs[f]? with
 | some g=>g.body.isSome&&!(g.name== "runtime.NumGoroutine")
 | none=>false
theorem wp_loop_ghost {c:Code} {Q:Exit->Act->World->Prop} (I:Nat->Act->World->Prop) {n0:Nat} {a:Act} {w:World} (o:I n0 a w)
  (h:∀n a w,I n a w->c.wp P (Exit.then (fun i m=>∃q,q < n/\I q i m) Q) a w):(Code.loop c).wp P Q a w:=by
 intro b k r;have v:∀n a w,I n a w->∃e i m,Q e i m/\Arrives P (lone (b.at a (.code c::.inLoop c::k)) r w) b k r e i m:=by
  intro n
  induction n using Nat.strongRecOn with
  | _ n A=>
   intro a w z;obtain⟨e,j,p,f,d⟩:=h n a w z b (.inLoop c::k) r
   cases e with
   | normal=>
    obtain⟨q,t,s⟩:=f;obtain⟨F,y,B,u,g⟩:=A q t j p s;exact⟨F,y,B,u,.of_steps (Steps.trans d (.one step_inLoop)) g⟩
   | exit id=>exact⟨_,j,p,f,.pass (x:=.inLoop c) rfl (fun _ _=>.inl (by simp)) d⟩
   | goto l=>exact⟨_,j,p,f,.pass (x:=.inLoop c) rfl (fun _ _=>.inl (by simp)) d⟩
   | ret=>exact⟨_,j,p,f,.pass (x:=.inLoop c) rfl (fun _ _=>.inl (by simp)) d⟩
   | panic C=>exact⟨_,j,p,f,.pass (x:=.inLoop c) rfl (fun _ _=>.inl (by simp)) d⟩
   | outgrown=>exact⟨_,j,p,f,.pass (x:=.inLoop c) rfl (fun _ _=>.inl (by simp)) d⟩
 obtain⟨e,i,m,f,d⟩:=v n0 a w o;exact⟨e,i,m,f,.of_steps (.one step_loop) d⟩
end
end Go.Tp
namespace Go.Tp
abbrev iv (n:Int):ac:=.dat (.flat (.int .i64 n))
abbrev bv (b:Bool):ac:=.dat (.flat (.bool b))
abbrev sv (s:ByteArray):ac:=.dat (.flat (.string s))
abbrev Heap:=List (Name×aL)
section
variable {w w':World} {R R':Own} {M M' M'':Name->Option Nat}
end
section
variable {P:Program} {G:bA} {H:Hints} {Ef:bW->bz} {A:E0} {C:Wa} {pr:bW}
section
variable {wrap:IntKind->Int->Int} {add dif mul:IntKind->Int->Int->Int} {lt eq:Int->Int->Bool} {slt seq:ByteArray->ByteArray->Bool} {cat:ByteArray->ByteArray->Option ByteArray} {elt:List ak->Int->Option ak} {byte:ByteArray->Int->Option UInt8}
 {sub:Nat->List ak->Option Int->Option Int->Option (List ak)} {ssub:ByteArray->Option Int->Option Int->Option ByteArray} {app:Nat->Nat->List ak->List ak->Option (List ak)}
 {key:TypeDesc->Value->List (Value×ak)->Option (Option (Nat×ak))} {len:List ak->Nat} {slen:ByteArray->Nat} {rem quo mx:Int->Int->Int}
end
end
theorem wrap_i64 {n:Int} (a:-9223372036854775808<=n) (b:n<=9223372036854775807):IntKind.i64.wrap n=n:=by
 simp[IntKind.wrap,IntKind.signed,IntKind.bits];omega
end Go.Tp
namespace Go.Tp
def Sy:Value->Value->Bool
 | .int k n,.int k' n'=>decide (k=k')&&eqZ n n'
 | .string s,.string s'=>eqY s.data.toList s'.data.toList
 | .bool b,.bool b'=>(match b,b' with|true,true=>true|false,false=>true|_,_=>false)
 | .pointer none,.pointer none=>true
 | .map none,.map none=>true
 | .nilFunc,.nilFunc=>true
 | .nilIface,.nilIface=>true
 | .slice none 0 0,.slice none 0 0=>true
 | _,_=>false
where
 eqZ:Int->Int->Bool
  | .ofNat a,.ofNat b=>Nat.beq a b
  | .negSucc a,.negSucc b=>Nat.beq a b
  | _,_=>false
 eqY:List UInt8->List UInt8->Bool
  | [],[]=>true
  | a::l,b::r=>(match Nat.beq a.toNat b.toNat with|true=>eqY l r|false=>false)
  | _,_=>false
theorem Rk {a b:Int} (h:Sy.eqZ a b=true):a=b:=by
 unfold Sy.eqZ at h
 split at h
 all_goals simp_all
theorem He:∀{a b:List UInt8},Sy.eqY a b=true->a=b
 | [],[],_=>rfl
 | [],_::_,h=>by grind[Sy.eqY]
 | _::_,[],h=>by grind[Sy.eqY]
 | a::l,b::r,h=>by
  unfold Sy.eqY at h
  split at h
  ·rename_i c;rw[UInt8.toNat_inj.1 (Nat.eq_of_beq_eq_true c),He h]
  grind
theorem Hf {a b:Value} (h:Sy a b=true):a=b:=by
 unfold Sy at h
 split at h
 ·grind[Rk]
 ·rename_i s c;obtain⟨⟨l⟩⟩:=s;obtain⟨⟨d⟩⟩:=c
  grind[He]
 all_goals grind
mutual
def Na:ak->ak->Bool
 | .flat v,.flat u=>Sy v u
 | .slice c,.slice d=>EI c d
 | .agg c,.agg d=>EI c d
 | _,_=>false
def EI:List ak->List ak->Bool
 | [],[]=>true
 | a::l,b::r=>(match Na a b with|true=>EI l r|false=>false)
 | _,_=>false
end
mutual
theorem A3:∀{a b:ak},Na a b=true->a=b
 | .flat v,.flat u,h=>by rw[Hf h]
 | .slice d,.slice e,h=>by rw[nB h]
 | .agg d,.agg e,h=>by rw[nB h]
 | .flat _,.slice _,h=>by grind[Na]
 | .flat _,.agg _,h=>by grind[Na]
 | .slice _,.flat _,h=>by grind[Na]
 | .slice _,.agg _,h=>by grind[Na]
 | .agg _,.flat _,h=>by grind[Na]
 | .agg _,.slice _,h=>by grind[Na]
theorem nB:∀{a b:List ak},EI a b=true->a=b
 | [],[],_=>rfl
 | [],_::_,h=>by grind[EI]
 | _::_,[],h=>by grind[EI]
 | a::l,b::r,h=>by
  simp only[EI] at h
  split at h
  ·rename_i c;rw[A3 c,nB h]
  grind
end
def UN:Name->Name->Bool
 | .loc a,.loc b=>Nat.beq a b
 | .out a,.out b=>Nat.beq a b
 | _,_=>false
theorem qx {a b:Name} (h:UN a b=true):a=b:=by
 unfold UN at h
 split at h
 all_goals simp_all
def Zy:Fn->Fn->Bool
 | .func a,.func b=>Nat.beq a b
 | _,_=>false
theorem M9 {a b:Fn} (h:Zy a b=true):a=b:=by
 unfold Zy at h
 split at h
 all_goals simp_all
mutual
def ND:ac->ac->Bool
 | .dat a,.dat b=>Na a b
 | .own a,.own b=>EI a b
 | .ref a,.ref b=>EI a b
 | .ptr n i,.ptr m j=>UN n m&&Nat.beq i j
 | .map n,.map m=>UN n m
 | .win n a b c,.win k d e g=>UN n k&&Nat.beq a d&&Nat.beq b e&&Nat.beq c g
 | .fn f a b,.fn h d e=>Zy f h&&A5 a d&&A5 b e
 | .agg a,.agg b=>A5 a b
 | .tup a,.tup b=>A5 a b
 | .undef,.undef=>true
 | _,_=>false
def A5:List ac->List ac->Bool
 | [],[]=>true
 | a::l,b::r=>(match ND a b with|true=>A5 l r|false=>false)
 | _,_=>false
end
mutual
theorem Rn:∀{a b:ac},ND a b=true->a=b
 | .dat a,b,h=>by cases b <;> simp only[ND,Bool.false_eq_true] at h;rw[A3 h]
 | .own a,b,h=>by cases b <;> simp only[ND,Bool.false_eq_true] at h;rw[nB h]
 | .ref a,b,h=>by cases b <;> simp only[ND,Bool.false_eq_true] at h;rw[nB h]
 | .ptr n i,b,h=>by cases b <;> simp only[ND,Bool.false_eq_true,Bool.and_eq_true] at h;rw[qx h.1,Nat.eq_of_beq_eq_true h.2]
 | .map n,b,h=>by cases b <;> simp only[ND,Bool.false_eq_true] at h;rw[qx h]
 | .win n x y z,b,h=>by cases b <;> simp only[ND,Bool.false_eq_true,Bool.and_eq_true] at h;rw[qx h.1.1.1,Nat.eq_of_beq_eq_true h.1.1.2,Nat.eq_of_beq_eq_true h.1.2,Nat.eq_of_beq_eq_true h.2]
 | .fn f x y,b,h=>by cases b <;> simp only[ND,Bool.false_eq_true,Bool.and_eq_true] at h;rw[M9 h.1.1,jn h.1.2,jn h.2]
 | .agg a,b,h=>by cases b <;> simp only[ND,Bool.false_eq_true] at h;rw[jn h]
 | .tup a,b,h=>by cases b <;> simp only[ND,Bool.false_eq_true] at h;rw[jn h]
 | .undef,b,h=>by grind[ND]
theorem jn:∀{a b:List ac},A5 a b=true->a=b
 | [],[],_=>rfl
 | [],_::_,h=>by grind[A5]
 | _::_,[],h=>by grind[A5]
 | a::l,b::r,h=>by
  simp only[A5] at h
  split at h
  ·rename_i c;rw[Rn c,jn h]
  grind
end
def M8:List (Value×ak)->List (Value×ak)->Bool
 | [],[]=>true
 |(k,d)::l,(b,a)::r=>(match Sy k b&&Na d a with|true=>M8 l r|false=>false)
 | _,_=>false
theorem Da:∀{a b:List (Value×ak)},M8 a b=true->a=b
 | [],[],_=>rfl
 | [],_::_,h=>by grind[M8]
 | _::_,[],h=>by grind[M8]
 |(k,d)::l,(f,e)::r,h=>by
  simp only[M8] at h
  split at h
  ·rename_i c;simp at c;rw[Hf c.1,A3 c.2,Da h]
  grind
def eqO:aL->aL->Bool
 | .cells a,.cells b=>A5 a b
 | .map a,.map b=>M8 a b
 | _,_=>false
theorem Hg {a b:aL} (h:eqO a b=true):a=b:=by
 unfold eqO at h
 grind[jn,Da]
theorem Rl (n:Name):UN n n=true:=by cases n <;> simp[UN]
def G3 (n:Name):List (Name×aL)->Option aL
 | []=>none
 |(m,o)::l=>match UN m n with|true=>some o|false=>G3 n l
theorem AU {n:Name}:∀{l:List (Name×aL)} {o:aL},G3 n l=some o->eA n l=some o
 | [],o,h=>by grind[G3]
 |(m,p)::l,o,h=>by
  simp only[G3] at h;simp only[eA]
  split at h
  ·grind[qx]
  rename_i a;rw[if_neg (fun e=>by grind[Rl])];exact AU h
def vn:List (Name×aL)->List (Name×aL)->Bool
 | [],_=>true
 |(n,o)::l,h=>(match G3 n h with
  | some p=>(match eqO o p with|true=>vn l h|false=>false)
  | none=>false)
theorem wV:∀{a b:List (Name×aL)},vn a b=true->Sk a b
 | [],_,_=>fun n e h=>by grind[eA]
 |(n,o)::l,b,h=>by
  simp only[vn] at h
  split at h
  ·rename_i p w
   split at h
   ·rename_i c;obtain rfl:=Hg c;intro k e d;simp only[eA] at d
    split at d
    ·grind[AU]
    exact wV h k e d
   grind
  grind
def JR:(List (Name×aL))->(List (Name×aL))->Bool
 | [],[]=>true
 |(n,o)::l,(m,p)::r=>(match UN n m&&eqO o p with|true=>JR l r|false=>false)
 | _,_=>false
theorem wo:∀{a b:List (Name×aL)},JR a b=true->a=b
 | [],[],_=>rfl
 | [],_::_,h=>by grind[JR]
 | _::_,[],h=>by grind[JR]
 |(n,o)::l,(m,p)::r,h=>by
  simp only[JR] at h
  split at h
  ·rename_i c;simp at c;rw[qx c.1,Hg c.2,wo h]
  grind
def Ci (k:Nat):Name->Name
 | .loc i=>.loc i
 | .out o=>match Nat.beq o k with
  | true=>.out (k+1)
  | false=>(match Nat.beq o (k+1) with|true=>.out k|false=>.out o)
mutual
def E1 (k:Nat):ac->ac
 | .dat d=>.dat d
 | .own h=>.own h
 | .ref c=>.ref c
 | .ptr n e=>.ptr (Ci k n) e
 | .map n=>.map (Ci k n)
 | .win n s e g=>.win (Ci k n) s e g
 | .fn f a b=>.fn f (yU k a) (yU k b)
 | .agg c=>.agg (yU k c)
 | .tup c=>.tup (yU k c)
 | .undef=>.undef
def yU (k:Nat):List ac->List ac
 | []=>[]
 | a::r=>E1 k a::yU k r
end
def swO (k:Nat):aL->aL
 | .cells c=>.cells (yU k c)
 | .map a=>.map a
def swH (k:Nat):List (Name×aL)->List (Name×aL)
 | []=>[]
 |(n,o)::r=>(Ci k n,swO k o)::swH k r
def Km:List (Name×aL)->List (Name×aL)
 | x::y::r=>y::x::r
 | r=>r
def swS (k:Nat) (s:aa):aa:=⟨yU k s.tmps,swH k s.locs,Km (swH k s.heap),s.next⟩
theorem nP (k o:Nat):Ci k (.out o)=if o=k then .out (k+1) else if o=k+1 then .out k else .out o:=by
 simp only[Ci]
 by_cases a:o=k
 ·simp_all
 have E:Nat.beq o k=false:=by cases h:Nat.beq o k;all_goals simp_all
 rw[E,if_neg a]
 by_cases b:o=k+1
 ·simp_all
 have F:Nat.beq o (k+1)=false:=by cases h:Nat.beq o (k+1);all_goals simp_all
 grind
theorem yg (k:Nat):∀n,Ci k (Ci k n)=n
 | .loc _=>rfl
 | .out o=>by
  grind[nP]
section
variable {w:World} {R:Own} {N:Name->Option Nat} {k:Nat}
mutual
theorem ai.sw:∀{a:ac} {v:Value} {B:List Nat},ai w R N a v B->ai w R (fun n=>N (Ci k n)) (E1 k a) v B
 | .dat _,_,_,h=>by exact h
 | .own _,_,_,h=>by exact h
 | .ref _,_,_,h=>by exact h
 | .ptr n j,_,_,h=>by
  grind[E1,ai,yg]
 | .map n,_,_,h=>by
  grind[E1,ai,yg]
 | .win n s j m,_,_,h=>by
  grind[E1,ai,yg]
 | .fn f a c,_,_,h=>by
  obtain⟨o,d,p,e,g,b⟩:=h;exact⟨o,d,p,e,ah.sw (as:=a) g,ah.sw (as:=c) b⟩
 | .agg i,_,_,h=>by
  obtain⟨d,e,g⟩:=h;exact⟨d,e,ah.sw (as:=i) g⟩
 | .tup i,_,_,h=>by
  obtain⟨d,e,g⟩:=h;exact⟨d,e,ah.sw (as:=i) g⟩
 | .undef,_,_,h=>by exact h
theorem ah.sw:∀{as:List ac} {d:List Value} {B:List Nat},ah w R N as d B->ah w R (fun n=>N (Ci k n)) (yU k as) d B
 | [],_,_,h=>by exact h
 | a::as,_,_,h=>by
  obtain⟨v,l,r,Q,E,F,g,b⟩:=h;exact⟨v,l,r,Q,E,F,ai.sw (a:=a) g,ah.sw (as:=as) b⟩
end
theorem yT:∀(a b:List ac),yU k (a++b)=yU k a++yU k b
 | [],b=>rfl
 | x::a,b=>by simp only[List.cons_append,yU,yT a b]
theorem Cj:∀(n:Nat),yU k (List.replicate n .undef)=List.replicate n .undef
 | 0=>rfl
 | n+1=>by simp only[List.replicate_succ,yU,E1,Cj n]
theorem Ju {a:ac} (h:yw (E1 k a)=true):yw a=true:=by
 cases a <;> simp only[E1] at h <;> first|grind|rfl|grind[yw]
theorem R0 {f:List ac} (h:cd (yU k f)=true):cd f=true:=by
 match f with
 | []=>grind[yU]
 | [a]=>simp[yU,cd] at h
 | [a,b]=>
  cases b with
  | own g=>exact Ju h
  | dat d=>
   simp only[yU,E1] at h;unfold cd at h
   split at h
   ·grind
   ·rename_i p g e;obtain⟨rfl,rfl⟩:=e;exact Ju h
   ·rename_i p e;obtain⟨rfl,rfl⟩:=e;exact Ju h
   grind
  | _=>simp[yU,E1,cd] at h
 | a::b::c::r=>simp[yU,cd] at h
theorem aI.sw {o:aL} {b:Nat} {B:List Nat} (h:aI w R N o b B):aI w R (fun n=>N (Ci k n)) (swO k o) b B:=by
 cases o with
 | cells c=>
  obtain⟨l,a,j,d,i,f,e⟩:=h;refine⟨l,a,j,d,?_,f,fun g=>e (R0 g)⟩
  have:=i.sw (k:=k)
  grind[yT,Cj]
 | map m=>exact h
theorem aj.sw:∀{c:List (Name×aL)} {B:List Nat},aj w R N c B->aj w R (fun n=>N (Ci k n)) (swH k c) B
 | [],_,h=>h
 |(n,_)::_,_,⟨b,r,Q,e,f,a,d⟩=>⟨b,r,Q,e,by grind[yg],a.sw,aj.sw d⟩
theorem aj.Km {e:List (Name×aL)} {B:List Nat} (h:aj w R N e B):∃d,aj w R N (Km e) d/\d.Perm B:=by
 match e with
 | []=>exact⟨B,h,List.Perm.refl _⟩
 | [x]=>exact⟨B,h,List.Perm.refl _⟩
 |(n,o)::(m,p)::r=>
  obtain⟨b,g,Q,rfl,l,a,c,i,q,rfl,k,j,f⟩:=h;refine⟨_,⟨c,i,_,rfl,k,j,b,g,q,rfl,l,a,f⟩,?_⟩;grind
theorem Tt:outs (fun n=>N (Ci k n))=fun n=>outs N (Ci k n):=by
 funext n
 cases n <;> grind[Ci,outs]
end
theorem OS {G:bA} {k:Nat} {s:aa} (h:k+1 < s.next):Vd G k (swS k s) s:=by
 intro w R N e Z U H z a;obtain⟨c,f,g⟩:=(a.heap.sw (k:=k)).Km;refine⟨fun n=>N (Ci k n),Z,U,c,⟨by grind[ai],a.tmps.sw,a.locs.sw,by rw[Tt];exact f,?_,?_,a.glob,a.frame⟩,?_⟩
 ·have:=a.nodup
  refine (List.Perm.nodup_iff ?_).1 this;exact (((g.symm.append_right z).append_left U).append_left Z)
 ·intro o b d;rw[nP] at d;show o < s.next
  split at d
  ·grind
  split at d
  ·grind
  exact a.next o b d
 grind[nP]
def Cx (s a:aa):Bool:=A5 s.tmps a.tmps&&JR s.locs a.locs&&JR s.heap a.heap&&Nat.beq s.next a.next
theorem sy {s d:aa} (h:Cx s d=true):s=d:=by
 unfold Cx at h;simp only[Bool.and_eq_true] at h;obtain⟨t,l,e,n⟩:=s;obtain⟨k,i,c,j⟩:=d;obtain⟨⟨⟨a,b⟩,f⟩,g⟩:=h;rw[show t=k from jn a,show l=i from wo b,show e=c from wo f,show n=j from Nat.eq_of_beq_eq_true g]
def Mu (k:Nat) (a s:aa):Bool:=match Cx a s with|true=>true|false=>Nat.blt (k+1) s.next&&Cx a (swS k s)
theorem CB {G:bA} {k:Nat} {a s:aa} (h:Mu k a s=true):Vd G k a s:=by
 unfold Mu at h
 split at h
 ·rename_i d;rw[sy d];exact fun w R N b Z U H z c=>⟨N,Z,U,H,c,fun _ _ _ h=>h⟩
 simp at h;grind[sy,OS]
end Go.Tp
namespace Go.Tp
structure eX where
 val:ac
 heap:Heap
 next:Nat
abbrev lH:=FuncId->List ac->Heap->Nat->Option eX
structure qS where
 code:Code
 ntmps:Nat
 results:List ResultVar
 ord:Nat->aw
 live:Nat->Nat
section
variable (X:lH) (E:bz) (G:bA) (H:Hints)
def HP (a:List Oper) (o:Oper) (s:aa):Option aa:=
 match dC a s o.guard with
 | none=>none
 | some b=>
  if b=true then
   (match dv o.op with
    | some c=>(match mw E G H c s with
     | some (f,d,e)=>(match X f d e.heap e.next with
      | some r=>some (({e with heap:=r.heap,next:=r.next }:aa).put o.dst r.val)
      | none=>none)
     | none=>none)
    | none=>aa4 E G (readOnly H.moves a o) (lQ H a o) o s)
  else some (s.put o.dst (.tup []))
def E3 (a:List Oper):List Oper->aa->Option aa
 | [],s=>some s
 | o::b,s=>(match HP X E G H a o s with|some c=>E3 a b c|none=>none)
def HO (g:Bool) (i:List Nat) (a:List Oper) (o:Oper) (s:aa):Option aa:=
 match dC a s o.guard with
 | none=>none
 | some b=>
  if b=true then
   (match dv o.op with
    | some c=>(match dX E G H c s with
     | some (f,d,e)=>(match hO H o with
      | true=>(match X f d [] e.next with
       | some ⟨v,[],n⟩=>some (({e with next:=n }:aa).put o.dst v)
       | _=>none)
      | false=>(match X f d e.heap e.next with
       | some r=>(match !mK H o||vn e.heap r.heap with
        | true=>some (({e with heap:=r.heap,next:=r.next }:aa).put o.dst r.val)
        | false=>none)
       | none=>none))
     | none=>none)
    | none=>(match fk o.op with
     | some t=>(match dM g a (gk a t (ae5 i t s)) s with
      | some h=>aa4 E G false false o h
      | none=>none)
     | none=>(match iI o.op with
      | true=>aa4 E G (readOnly H.moves a o) (lQ H a o) o s
      | false=>none)))
  else some (s.put o.dst (.tup []))
def Dy (e:List Nat) (c:Bool) (d:Nat->Bool) (b:List Oper):List (Nat×Bool)->aa->Option aa
 | [],s=>some s
 |(i,lone)::r,s=>
  match b[i]? with
  | none=>none
  | some o=>
   if lone=true then (match HO X E G H c e b o s with|some f=>Dy e c d b r f|none=>none)
   else (match eK E G (c||d i) b o s with
    | some a=>Dy e c d b r (s.put o.dst a)
    | none=>none)
def DA (b:List Oper):Nat->Array Bool->aa->Option aa
 | 0,_,s=>some s
 | m+1,a,s=>match Region.ready .any b.toArray a with
  | []=>some s
  | i::_=>(match b[i]? with
   | some o=>(match HP X E G H b o s with|some c=>DA b m (bK a i) c|none=>none)
   | none=>none)
def sr (all:List Oper) (k:Nat) (b:aa):Nat->Array Bool->aa->Bool
 | 0,a,s=>(Region.ready .any all.toArray a).isEmpty&&Mu k b s
 | m+1,a,s=>match Region.ready .any all.toArray a with
  | []=>Mu k b s
  | i::l=>(i::l).all fun i=>match all[i]? with
   | some o=>(match HP X E G H all o s with|some c=>sr all k b m (bK a i) c|none=>false)
   | none=>false
def rL:List Bool->List Bool->Bool
 | [],[]=>true
 | true::l,true::r=>rL l r
 | false::l,false::r=>rL l r
 | _,_=>false
def Dz (h:aw) (b:List Oper):Nat->Array Bool->aa->Option aa
 | 0,_,s=>some s
 | m+1,a,s=>match Region.ready .any b.toArray a with
  | []=>none
  | i::_=>(match b[i]? with
   | some o=>(match HO X E G H (aK H b h.pre) h.tk b o s with|some c=>Dz h b m (bK a i) c|none=>none)
   | none=>none)
def sq (h:aw) (all:List Oper) (p:Array Bool) (b:aa):Nat->Array Bool->aa->Bool
 | 0,a,s=>rL a.toList p.toList&&Cx b s
 | m+1,a,s=>!rL a.toList p.toList&&!(Region.ready .any all.toArray a).isEmpty&&(Region.ready .any all.toArray a).all fun i=>h.pre.contains (i,true)&&(match all[i]? with
   | some o=>(match HO X E G H (aK H all h.pre) h.tk all o s with|some c=>sq h all p b m (bK a i) c|none=>false)
   | none=>false)
def yF (a:List Oper) (h:aw) (s:aa):Option aa:=
 match Dy X E G H h.tk (aK H a h.pre) (quietAt H a h.pre) a (bR h.pre) s with
 | some c=>(match Dz X E G H h a (h.pre.length - (bR h.pre).length) (eR (bR h.pre) (Array.replicate a.length false)) c with
  | some b=>(match sq X E G H h a (eR h.pre (Array.replicate a.length false)) b (h.pre.length - (bR h.pre).length) (eR (bR h.pre) (Array.replicate a.length false)) c with
   | true=>(match iA E a h.nw b with
    | some d=>E3 X E G H a (dZ a h.tail) d
    | none=>none)
   | false=>none)
  | none=>none)
 | none=>none
def Kh (a:List Oper) (h:aw) (s:aa):Option aa:=
 if gz h=true then (match DA X E G H a a.length (Array.replicate a.length false) s with
  | some b=>(match sr X E G H a s.next b a.length (Array.replicate a.length false) s with|true=>some b|false=>none)
  | none=>none)
 else
 if gP h=true then yF X E G H a (gh h) s else
 match Dy X E G H h.tk (aK H a h.pre) (quietAt H a h.pre) a h.pre s with
 | some c=>(match iA E a h.nw c with
  | some d=>E3 X E G H a (dZ a h.tail) d
  | none=>none)
 | none=>none
def SB (d:List ResultVar) (s:aa):Option eX:=
 match gU E s d with
 | none=>none
 | some b=>
  if aW (jF b)=true then some ⟨pack (jF b),s.heap,s.next⟩
  else match aei (repeatL s.locs.length (nq s.locs)) s (jF b) with
   |(c,a)=>if aW a=true then some ⟨pack a,c.heap,c.next⟩ else none
end
def XQ (r:eX):ac->Heap->Nat->Prop:=fun v h n=>v=r.val/\h=r.heap/\n=r.next
section
variable {P:Program} {X:lH} {E:bz} {G:bA} {H:Hints}
def Kg (P:Program) (G:bA) (X:lH):Prop:=∀f a b c r,X f a b c=some r->ay P G f a b c (XQ r)
theorem yE (l:Kg P G X) {a:List Oper} {o:Oper} {s k:aa} (h:HP X E G H a o s=some k) {K:aa->Prop} (m:K k):mT (ay P G) E G H a o K s:=by
 unfold HP at h;unfold mT
 split at h
 ·grind
 rename_i b d;rw[d];dsimp only
 split at h
 ·rename_i i;rw[if_pos i]
  split at h
  ·rename_i c e;rw[e];dsimp only
   split at h
   ·rename_i f j q g;rw[g];split at h
    ·rename_i r R;simp at h;refine (l _ _ _ _ _ R).mono ?_;rintro v p n ⟨rfl,rfl,rfl⟩ _ _;grind
    grind
   grind
  grind
 grind
theorem nN (f:Kg P G X) {b:List Oper} {K:aa->Prop}:∀{c:List Oper} {s d:aa},E3 X E G H b c s=some d->K d->mS (ay P G) E G H b K c s
 | [],s,d,h,e=>by simp[E3] at h;subst h;exact e
 | o::g,s,d,h,e=>by
  simp only[E3] at h;simp only[mS,iT]
  split at h
  ·rename_i i a;exact yE f a (nN f h e)
  grind
theorem yD (m:Kg P G X) {l:Bool} {q:List Nat} {a:List Oper} {o:Oper} {s p:aa} (h:HO X E G H l q a o s=some p) {K:aa->Prop} (w:K p):KV (ay P G) E G H l q a o K s:=by
 unfold HO at h;unfold KV
 split at h
 ·grind
 rename_i b d;rw[d];dsimp only
 split at h
 ·rename_i j;rw[if_pos j]
  split at h
  ·rename_i c e;rw[e];dsimp only
   split at h
   ·rename_i f k x g;rw[g];cases i:hO H o with
    | true=>
     rw[i] at h;dsimp only at h ⊢
     split at h
     ·rename_i v n R;simp at h;refine (m _ _ _ _ _ R).mono ?_;rintro v t n ⟨rfl,rfl,rfl⟩ _ _;grind
     grind
    | false=>
     rw[i] at h;dsimp only at h ⊢
     split at h
     ·rename_i r R
      split at h
      ·rename_i u;simp at h;refine (m _ _ _ _ _ R).mono ?_;rintro v t n ⟨rfl,rfl,rfl⟩ _ _;grind[wV]
      grind
     grind
   grind
  grind
 grind
theorem nM (e:Kg P G X) {m:List Nat} {g:Bool} {j:Nat->Bool} {b:List Oper} {T:aa->Prop}:∀{l:List (Nat×Bool)} {s d:aa},Dy X E G H m g j b l s=some d->T d->mu (ay P G) E G H m g j b T l s
 | [],s,d,h,c=>by simp[Dy] at h;subst h;exact c
 |(i,lone)::k,s,d,h,c=>by
  simp only[Dy] at h;simp only[mu]
  split at h
  ·grind
  rename_i o O;rw[O];simp only[iT]
  split at h
  ·rename_i f;rw[if_pos f]
   split at h
   ·rename_i p n;exact yD e n (nM e h c)
   grind
  rename_i f;rw[if_neg f]
  split at h
  ·rename_i a A;rw[A];exact nM e h c
  grind
theorem tp (n:Kg P G X) {d:List Oper} {k:Nat} {c:aa} {Q:aa->Prop} (e:Q c):∀(m:Nat) (b:Array Bool) (s:aa),sr X E G H d k c m b s=true->afz (ay P G) E G H d (fun q=>∃c,Q c/\Vd G k c q) m b s
 | 0,b,s,h=>by
  simp only[sr,Bool.and_eq_true,List.isEmpty_iff] at h;exact⟨h.1,c,e,CB h.2⟩
 | m+1,b,s,h=>by
  simp only[sr] at h;split at h
  ·rename_i f;exact .inl ⟨f,c,e,CB h⟩
  rename_i i l f;refine .inr ⟨by grind,?_⟩;rw[f];intro j p;have a:=List.all_eq_true.1 h j p
  split at a
  ·rename_i o O
   split at a
   ·rename_i r g;exact⟨o,O,yE n g (tp n e m _ r a)⟩
   grind
  grind
theorem kS:∀{a b:List Bool},rL a b=true↔a=b
 | [],[]=>by simp[rL]
 | [],_::_=>by simp[rL]
 | _::_,[]=>by simp[rL]
 | true::l,true::r=>by simp[rL,kS (a:=l) (b:=r)]
 | false::l,false::r=>by simp[rL,kS (a:=l) (b:=r)]
 | true::l,false::r=>by simp[rL]
 | false::l,true::r=>by simp[rL]
theorem tm (n:Kg P G X) {h:aw} {d:List Oper} {p:Array Bool} {q:aa} {K:aa->Prop} (r:K q):∀(m:Nat) (c:Array Bool) (s:aa),sq X E G H h d p q m c s=true->wI (ay P G) E G H h d p K m c s
 | 0,c,s,j=>by
  simp only[sq,Bool.and_eq_true] at j;refine⟨Array.ext' (kS.1 j.1),?_⟩;grind[sy]
 | m+1,c,s,j=>by
  simp only[sq,Bool.and_eq_true,Bool.not_eq_true'] at j;obtain⟨⟨a,b⟩,f⟩:=j;refine⟨fun e=>?_,fun e=>by grind,fun i t=>?_⟩
  ·grind[kS]
  have g:=List.all_eq_true.1 f i t;simp only[Bool.and_eq_true] at g;refine⟨by grind,?_⟩;have k:=g.2
  split at k
  ·rename_i o O
   split at k
   ·rename_i u l;exact⟨o,O,yD n l (tm n r m _ u k)⟩
   grind
  grind
theorem DB (e:Kg P G X) {a:List Oper} {h:aw} {s b:aa} (c:yF X E G H a h s=some b) {Q:aa->Prop} (d:Q b):By (ay P G) E G H a h Q s:=by
 unfold yF at c;grind[By,nM,tm,nN]
theorem E4 (g:Kg P G X) {c:List Oper} {h:aw} {s e:aa} (a:Kh X E G H c h s=some e) {Q:aa->Prop} (f:Q e):Bz (ay P G) E G H c h Q s:=by
 unfold Kh at a;unfold Bz
 by_cases d:gz h=true
 ·rw[if_pos d] at a;rw[if_pos d]
  split at a
  ·rename_i i _
   split at a
   ·rename_i b;simp at a;subst a;exact tp g f _ _ _ b
   grind
  grind
 grind[DB,nM,nN]
theorem nL {rs:List ResultVar} {s:aa} {r:eX} (h:SB E rs s=some r):ye E rs (XQ r) s:=by
 unfold SB at h;unfold ye
 split at h
 ·grind
 rename_i f b;rw[b];dsimp only
 split at h
 ·rename_i N;rw[if_pos N];simp at h;subst h;exact⟨rfl,rfl,rfl⟩
 rename_i N;rw[if_neg N]
 split at h
 rename_i e d c;rw[c];split at h
 ·rename_i a;rw[if_pos a];simp at h;subst h;exact⟨rfl,rfl,rfl⟩
 grind
def Z9 (P:Program) (a b:FuncId->Bool) (F:FuncId->Option qS):Prop:=
 ∀f x,F f=some x->∃c:Func,P.funcs[f]?=some c/\c.body=some x.code/\c.ntmps=x.ntmps/\c.results.toList=x.results/\dh ⟨a,x.ord,b,false⟩ x.code=true
end
def qS.of (b:Func) (d:Nat->aw) (a:Nat->Nat):qS:=⟨match b.body with|some c=>c|none=>.skip,b.ntmps,b.results.toList,d,a⟩
inductive aT where
 |nil
 |node (l:aT) (k:Nat) (fn:Func) (ord:Nat->aw) (live:Nat->Nat) (r:aT)
def aT.find:aT->Nat->Option qS
 | .nil,_=>none
 | .node l k c b a r,t=>match Nat.blt t k with
  | true=>l.find t
  | false=>(match Nat.blt k t with|true=>r.find t|false=>some (qS.of c b a))
def EX (a b:FuncId->Bool) (e:Func) (d:Nat->aw):Bool:=
 match e.body with
 | some c=>dh ⟨a,d,b,false⟩ c
 | none=>false
def LN (P:Program) (a b:FuncId->Bool) (k:Nat) (d:Func) (c:Nat->aw):Prop:=P.funcs[k]?=some d/\EX a b d c=true
theorem ao {P:Program} {c d:FuncId->Bool} {k:Nat} {f:Func} {e:Nat->aw} (a:P.funcs[k]?=some f) (b:EX c d f e=true:=by kernel_rfl):LN P c d k f e:=⟨a,b⟩
def aT.HN (P:Program) (a b:FuncId->Bool):aT->Prop
 | .nil=>True
 | .node l k d c _ r=>l.HN P a b/\LN P a b k d c/\r.HN P a b
theorem aT.all_nil {P:Program} {a b:FuncId->Bool}:aT.HN P a b .nil:=trivial
theorem aT.ag {P:Program} {c d:FuncId->Bool} {l r:aT} {k:Nat} {h:Func} {g:Nat->aw} {e:Nat->Nat} (a:l.HN P c d) (b:LN P c d k h g) (f:r.HN P c d):aT.HN P c d (.node l k h g e r):=⟨a,b,f⟩
theorem aT.ok {P:Program} {c d:FuncId->Bool}:∀{t:aT},t.HN P c d->Z9 P c d t.find
 | .nil,_=>by intro f x h;grind[aT.find]
 | .node l k q p i r,⟨j,m,n⟩=>by
  intro f x h;simp only[aT.find] at h
  cases e:Nat.blt f k with
  | true=>rw[e] at h;exact aT.ok j f x h
  | false=>
   rw[e] at h
   cases g:Nat.blt k f with
   | true=>rw[g] at h;exact aT.ok n f x h
   | false=>
    rw[g] at h;have a:¬ @LT.lt Nat _ f k:=fun h=>by rw[←Nat.blt_eq,e] at h;grind
    have b:¬ @LT.lt Nat _ k f:=fun h=>by rw[←Nat.blt_eq,g] at h;grind
    have o:@Eq Nat f k:=by omega
    subst o;simp at h;subst h;obtain⟨s,u⟩:=m;grind[EX,qS.of]
end Go.Tp
namespace Go.Tp
def jP:List UInt8->List UInt8->Bool
 | [],[]=>true
 | a::x,b::y=>(match Nat.beq a.toNat b.toNat with|true=>jP x y|false=>false)
 | _,_=>false
def ML:List UInt8->List UInt8->Bool
 | _,[]=>false
 | [],_::_=>true
 | a::x,b::y=>(match Nat.blt a.toNat b.toNat with
  | true=>true
  | false=>(match Nat.beq a.toNat b.toNat with|true=>ML x y|false=>false))
theorem R6 (a b:UInt8):Nat.beq a.toNat b.toNat=(a==b):=by
 rw[Bool.eq_iff_iff,Nat.beq_eq,beq_iff_eq];exact⟨UInt8.toNat_inj.1,fun h=>by rw[h]⟩
theorem ZY (a b:UInt8):Nat.blt a.toNat b.toNat=decide (a < b):=by
 rw[Bool.eq_iff_iff,Nat.blt_eq,decide_eq_true_eq];exact UInt8.lt_iff_toNat_lt.symm
theorem wu:∀x y,jP x y=(x==y)
 | [],[]=>rfl
 | [],_::_=>rfl
 | _::_,[]=>rfl
 | a::x,b::y=>by
  simp only[jP,R6,wu x y]
  grind
theorem Qo:∀x y,ML x y=Op.bytesLess x y
 | [],[]=>rfl
 | [],_::_=>rfl
 | _::_,[]=>rfl
 | a::x,b::y=>by
  simp only[ML,ZY,R6,Qo x y,Op.bytesLess]
  grind
theorem toList_data (x:ByteArray):x.toList=x.data.toList:=ByteArray.toList_eq x
def an (k:IntKind) (n:Int):Int:=
 match k with
 | .i64=>(match n with
  | .ofNat m=>(match Nat.blt m 9223372036854775808 with|true=>.ofNat m|false=>k.wrap n)
  | .negSucc m=>(match Nat.blt m 9223372036854775808 with|true=>.negSucc m|false=>k.wrap n))
 | .u8=>(match n with
  | .ofNat m=>(match Nat.blt m 256 with|true=>.ofNat m|false=>k.wrap n)
  | .negSucc _=>k.wrap n)
 | .u64=>(match n with
  | .ofNat m=>(match Nat.blt m 18446744073709551616 with|true=>.ofNat m|false=>k.wrap n)
  | .negSucc _=>k.wrap n)
 | _=>k.wrap n
theorem gC {a b:Nat} (h:a<=b):Nat.ble a b=true:=by simp_all
theorem fD {a b:Nat} (h:Nat.ble a b=true):a<=b:=by simp_all
theorem oY {a b:Nat} (h:Nat.blt a b=true):a < b:=by simp_all
theorem cQ (k:IntKind) (n:Int):an k n=k.wrap n:=by
 unfold an
 split
 ·split
  ·split
   ·rename_i m h;have h:=oY h;simp[IntKind.wrap,IntKind.signed,IntKind.bits];omega
   rfl
  rename_i m
  split
  ·rename_i h;have h:=oY h;grind[wrap_i64]
  rfl
 ·split
  ·split
   ·rename_i m h;have h:=oY h;simp[IntKind.wrap,IntKind.signed,IntKind.bits];omega
   rfl
  rfl
 ·split
  ·split
   ·rename_i m h;have h:=oY h;simp[IntKind.wrap,IntKind.signed,IntKind.bits];omega
   rfl
  rfl
 rfl
def aF (a b:Int):Bool:=
 match a,b with
 | .ofNat x,.ofNat y=>Nat.blt x y
 | .negSucc x,.negSucc y=>Nat.blt y x
 | .negSucc _,.ofNat _=>true
 | .ofNat _,.negSucc _=>false
theorem dA (a b:Int):aF a b=decide (a < b):=by
 cases a <;> cases b <;> simp only[aF] <;> rw[Bool.eq_iff_iff] <;> simp[Nat.blt_eq] <;> omega
def aB (a b:Int):Bool:=
 match a,b with
 | .ofNat x,.ofNat y=>Nat.beq x y
 | .negSucc x,.negSucc y=>Nat.beq x y
 | .negSucc _,.ofNat _=>false
 | .ofNat _,.negSucc _=>false
theorem cN (a b:Int):aB a b=(a==b):=by
 cases a <;> cases b <;> simp only[aB] <;> rw[Bool.eq_iff_iff] <;> simp <;> omega
def OB:TypeDesc->Value->Value->Option Bool
 | .string,.string a,.string b=>some (jP a.data.toList b.data.toList)
 | c,a,b=>Instr.sameNow c a b
theorem OA (c:TypeDesc) (a b:Value):OB c a b=Instr.sameNow c a b:=by
 unfold OB
 split
 ·rename_i x y;simp only[Instr.sameNow,wu,Option.some.injEq];obtain⟨⟨a⟩⟩:=x;obtain⟨⟨b⟩⟩:=y;have e:((⟨⟨a⟩⟩:ByteArray)==⟨⟨b⟩⟩)=((Array.mk a)==(Array.mk b)):=rfl;grind
 rfl
def findF (a:TypeDesc) (k:Value):List (Value×ak)->Nat->Option (Option (Nat×ak))
 | [],_=>some none
 |(x,d)::b,i=>
  match OB a k x with
  | some true=>some (some (i,d))
  | some false=>findF a k b (i+1)
  | none=>none
theorem G4 (c:TypeDesc) (k:Value):∀a i,findF c k a i=findKey c k a i
 | [],_=>rfl
 |(x,d)::a,i=>by
  simp only[findF,findKey,OA]
  cases h:Instr.sameNow c k x with
  | none=>rfl
  | some b=>cases b <;> simp[G4 c k a]
def sizedB (a:Nat):List ak->Bool
 | []=>true
 | d::r=>(match Nat.beq d.cells.length a with|true=>sizedB a r|false=>false)
theorem gm {a:Nat}:∀{l:List ak},sizedB a l=true↔∀d∈l,d.cells.length=a
 | []=>by simp[sizedB]
 | d::r=>by
  simp only[sizedB]
  split
  ·rename_i h;rw[Nat.beq_eq] at h;rw[gm];grind
  rename_i h
  have:¬d.cells.length=a:=fun e=>by simp_all
  grind
def Ex {α:Type}:List α->Nat->Option α
 | [],_=>none
 | a::_,0=>some a
 | _::r,n+1=>Ex r n
theorem uC {α:Type}:∀(l:List α) (n:Nat),Ex l n=l[n]?
 | [],_=>by simp[Ex]
 | _::_,0=>by simp[Ex]
 | _::r,n+1=>by simp[Ex,uC r n]
def bW.nA:bW where
 wrap:=an
 add k a b:=an k (a+b)
 dif k a b:=an k (a - b)
 mul k a b:=an k (a*b)
 lt:=aF
 eq:=aB
 slt x y:=ML x.data.toList y.data.toList
 seq x y:=jP x.data.toList y.data.toList
 cat x y:=(match Nat.ble (x.size+y.size) 9223372036854775807 with|true=>some ⟨⟨x.data.toList++y.data.toList⟩⟩|false=>none)
 elt es i:=(match i with|.ofNat n=>Ex es n|.negSucc _=>none)
 byte s i:=(match i with|.ofNat n=>Ex s.data.toList n|.negSucc _=>none)
 sub size es lo hi:=(match sizedB size es,Nat.blt 0 size with
   | true,true=>(match eJ hi es.length,eJ lo 0 with
    | some h,some l=>(match Nat.ble l h,Nat.ble h es.length with|true,true=>some ((es.take h).drop l)|_,_=>none)
    | _,_=>none)
   | _,_=>none)
 ssub:=bW.nc.ssub
 app size bytes es ds:=(match size with
   | 0=>none
   | s+1=>(match sizedB (s+1) ds,sizedB (s+1) es,Nat.blt 0 bytes,Nat.ble ((es.length+ds.length)*bytes) 140737488355328,Nat.ble (es.length+ds.length) lim with
    | true,true,true,true,true=>some (es++ds)
    | _,_,_,_,_=>none))
 key td k es:=findF td k es 0
 len:=List.length
 slen:=ByteArray.size
 rem:=Int.tmod
 quo:=Int.tdiv
 mx x y:=(match aF x y with|true=>y|false=>x)
theorem Ri:bW.nA=bW.nc:=by
 unfold bW.nA bW.nc;congr 1
 ·funext k n;exact cQ k n
 ·funext k a b;exact cQ k _
 ·funext k a b;exact cQ k _
 ·funext k a b;exact cQ k _
 ·funext a b;exact dA a b
 ·funext a b;exact cN a b
 ·funext x y;rw[Qo,toList_data,toList_data]
 ·funext x y;rw[wu,toList_data,toList_data]
 ·funext x y
  have z:IntKind.i64.max=9223372036854775807:=by decide
  have m:(⟨⟨x.data.toList++y.data.toList⟩⟩:ByteArray)=x++y:=by
   have e:x++y=⟨x.data++y.data⟩:=by
    cases x;cases y;simp[ByteArray.ext_iff]
   rw[e]
   cases x;cases y;simp
  rw[m,z]
  split
  ·rename_i h;rw[Nat.ble_eq] at h;rw[if_neg (by omega)]
  rename_i h
  have:¬x.size+y.size<=9223372036854775807:=fun e=>by rw[←Nat.ble_eq] at e;rw[e] at h;simp at h
  rw[if_pos (by omega)]
 ·funext j i
  cases i with
  | ofNat n=>simp[uC]
  | negSucc n=>rfl
 ·funext s i
  cases i with
  | ofNat n=>
   simp only[uC];rw[if_pos (show (0:Int)<=ofNat n from Int.natCast_nonneg n)]
   by_cases h:n < s.size
   ·rw[show (ofNat n).toNat=n from rfl,getElem?_pos s n h];have o:n < s.data.toList.length:=by simpa using h
    rw[List.getElem?_eq_getElem o];simp[ByteArray.getElem_eq_getElem_data]
   rw[show (ofNat n).toNat=n from rfl,getElem?_neg s n h,List.getElem?_eq_none (by simpa using h)]
  | negSucc n=>rfl
 ·funext c j A w
  by_cases p:∀d∈j,d.cells.length=c
  ·rw[gm.2 p]
   by_cases o:0 < c
   ·rw[if_pos ⟨p,o⟩,show Nat.blt 0 c=true from by rw[Nat.blt_eq];exact o];dsimp only
    cases eJ w j.length with
    | none=>rfl
    | some h=>
     cases eJ A 0 with
     | none=>rfl
     | some l=>
      dsimp only
      by_cases f:l<=h <;> by_cases g:h<=j.length
      ·rw[if_pos ⟨f,g⟩,gC f,gC g]
      ·rw[if_neg (fun h=>g h.2),gC f,show Nat.ble h j.length=false from by rw[Bool.eq_false_iff];intro e;exact g (fD e)]
      ·rw[if_neg (fun h=>f h.1),show Nat.ble l h=false from by rw[Bool.eq_false_iff];intro e;exact f (fD e)]
      rw[if_neg (fun h=>f h.1),show Nat.ble l h=false from by rw[Bool.eq_false_iff];intro e;exact f (fD e)]
   rw[if_neg (fun h=>o h.2),show Nat.blt 0 c=false from by rw[Bool.eq_false_iff];intro e;exact o (by rwa [Nat.blt_eq] at e)]
  rw[if_neg (fun h=>p h.1),show sizedB c j=false from by rw[Bool.eq_false_iff];intro e;exact p (gm.1 e)]
 ·funext c bytes j S
  cases c with
  | zero=>rfl
  | succ s=>
   dsimp only
   by_cases m:(∀d∈S,d.cells.length=s+1)/\(∀d∈j,d.cells.length=s+1)/\0 < bytes/\(j.length+S.length)*bytes<=140737488355328/\j.length+S.length<=lim
   ·rw[gm.2 m.1,gm.2 m.2.1,show Nat.blt 0 bytes=true from by rw[Nat.blt_eq];exact m.2.2.1,gC m.2.2.2.1,gC m.2.2.2.2];exact (if_pos m).symm
   rw[if_neg m]
   split
   ·rename_i r t q u v;rw[Nat.blt_eq] at q;exact absurd ⟨gm.1 r,gm.1 t,q,fD u,fD v⟩ m
   rfl
 ·funext B k j;exact G4 B k j 0
 funext x y
 rw[dA]
 by_cases h:x < y <;> simp[h]
end Go.Tp
namespace Go.Tp
abbrev Sl:=List (Nat×ac)
structure ab where
 sl:Sl
 locs:Heap
 heap:Heap
 next:Nat
noncomputable def rJ (l:Sl) (t:Nat):ac:=
 @List.rec (Nat×ac) (fun _=>ac) .undef (fun p _ a=>@Bool.rec (fun _=>ac) a p.2 (Nat.beq p.1 t)) l
theorem AM (t:Nat):rJ [] t=.undef:=rfl
theorem ij (d:Nat) (v:ac) (r:Sl) (t:Nat):rJ ((d,v)::r) t=if d=t then v else rJ r t:=by
 have e:rJ ((d,v)::r) t=@Bool.rec (fun _=>ac) (rJ r t) v (Nat.beq d t):=rfl;rw[e]
 by_cases h:d=t
 ·simp_all
 have:Nat.beq d t=false:=by rw[Bool.eq_false_iff];simp_all
 simp_all
noncomputable def Gn:Nat->Nat->Sl->List ac
 | 0,_,_=>[]
 | n+1,k,l=>rJ l k::Gn n (k+1) l
theorem oq:∀(n k:Nat) (l:Sl),(Gn n k l).length=n
 | 0,_,_=>rfl
 | n+1,k,l=>by simp[Gn,oq n]
theorem kq:∀(n k:Nat) (l:Sl) (t:Nat),(Gn n k l)[t]?=if t < n then some (rJ l (k+t)) else none
 | 0,_,_,_=>by simp[Gn]
 | n+1,k,l,0=>by simp[Gn]
 | n+1,k,l,t+1=>by
  simp only[Gn,List.getElem?_cons_succ,kq n (k+1) l t];grind
theorem Ei (n:Nat) (l:Sl) (d:Nat) (v:ac):(Gn n 0 l).set d v=Gn n 0 ((d,v)::l):=by
 apply List.ext_getElem?
 grind[oq,kq,ij]
noncomputable def BU (f:ac->ac) (l:Sl):Sl:=@List.rec (Nat×ac) (fun _=>Sl) [] (fun p _ a=>(p.1,f p.2)::a) l
theorem Gt {f:ac->ac} (a:f .undef=.undef) (t:Nat):∀l:Sl,rJ (BU f l) t=f (rJ l t)
 | []=>by grind[BU,AM]
 |(d,v)::r=>by
  have e:BU f ((d,v)::r)=(d,f v)::BU f r:=rfl;rw[e,ij,ij]
  split
  ·rfl
  exact Gt a t r
theorem ra {f:ac->ac} (a:f .undef=.undef):∀(n k:Nat) (l:Sl),(Gn n k l).map f=Gn n k (BU f l)
 | 0,_,_=>rfl
 | n+1,k,l=>by simp only[Gn,List.map_cons,Gt a,ra a n]
def sE (n:Name) (a:ac):ac:=if mentions n a=true then .undef else a
theorem sF (n:Name):∀l,dD n l=l.map (sE n)
 | []=>rfl
 | a::r=>by rw[dD,sF n r];rfl
theorem GV (n:Name) (S:List ak):∀l,hU n S l=l.map (yb n S)
 | []=>by simp[hU]
 | a::r=>by simp[hU,GV n S r]
theorem zP (n m:Name):∀l,ff n m l=l.map (tH n m)
 | []=>by simp[ff]
 | a::r=>by simp[ff,zP n m r]
noncomputable def ab.al (n:Nat) (f:ab):aa:=⟨Gn n 0 f.sl,f.locs,f.heap,f.next⟩
section
variable (E:bz) (G:bA) (H:Hints) (n:Nat)
noncomputable def rK (f:ab) (t:Nat):ac:=@Bool.rec (fun _=>ac) .undef (rJ f.sl t) (Nat.blt t n)
theorem jC (f:ab) (t:Nat):bq (f.al n).tmps t=rK n f t:=by
 unfold bq rK ab.al;rw[kq]
 by_cases h:t < n
 ·have:Nat.blt t n=true:=by simp_all
  rw[if_pos h,this,Nat.zero_add]
 have:Nat.blt t n=false:=by rw[Bool.eq_false_iff];simp_all
 rw[if_neg h,this]
def iW (f:ab) (e:Option Tmp) (v:ac):ab:=
 match f,e with
 | ⟨g,b,a,c⟩,some d=>⟨(d,v)::g,b,a,c⟩
 | f,none=>f
theorem eT (f:ab) (a:Option Tmp) (v:ac):(iW f a v).al n=(f.al n).put a v:=by
 cases a <;> simp_all[iW,ab.al,aa.put,Ei]
noncomputable def py (f:ab):Operand->ac
 | .tmp t=>rK n f t
 | .const v=>bE v
 | .global g=>match G g with|some c=>.ref c|none=>.undef
 | .func g=>.fn (.func g) [] []
theorem nv (f:ab) (x:Operand):fm G (f.al n) x=py G n f x:=by
 cases x with
 | tmp t=>exact jC n f t
 | const v=>rfl
 | global g=>rfl
 | func g=>rfl
def QS (a:Option Nat) (k:Nat):Bool:=match a with|none=>false|some j=>Nat.beq j k
theorem LC (a:Option Nat) (k:Nat):(QS a k=true)↔a=some k:=by
 cases a <;> simp_all[QS]
noncomputable def gf (f:ab) (a:Option Nat):Nat->List Operand->List ac
 | _,[]=>[]
 | k,x::r=>(match QS a k with|true=>py G n f x|false=>de (py G n f x))::gf f a (k+1) r
theorem qv (f:ab) (a:Option Nat):∀(b:List Operand) (k:Nat),aE G (f.al n) a k b=gf G n f a k b
 | [],_=>rfl
 | x::r,k=>by
  simp only[aE,gf,nv,qv f a r (k+1)]
  grind[LC]
noncomputable def uK (f:ab) (a:Option Nat) (b:List Operand):ab:=
 match a with
 | none=>f
 | some k=>match b[k]? with
  | some (.tmp t)=>iW f (some t) (de (rK n f t))
  | _=>f
theorem AX (f:ab) (a:Option Nat) (b:List Operand):(uK n f a b).al n=bF (f.al n) a b:=by
 unfold uK bF
 grind[eT,aa.put,jC]
def tX:Name->Name->Bool
 | .loc i,.loc j=>Nat.beq i j
 | .out i,.out j=>Nat.beq i j
 | _,_=>false
theorem kQ (a b:Name):tX a b=true↔a=b:=by
 cases a <;> cases b <;> simp[tX]
def qJ (k:Name):Heap->Option aL
 | []=>none
 |(m,o)::r=>match tX m k with|true=>some o|false=>qJ k r
theorem jS (k:Name):∀l,qJ k l=eA k l
 | []=>rfl
 |(m,o)::r=>by
  simp only[qJ,eA,jS k r]
  grind[kQ]
def qG (k:Name) (a:aL):Heap->Heap
 | []=>[]
 |(m,o)::r=>match tX m k with|true=>(m,a)::r|false=>(m,o)::qG k a r
def qL (k:Name):Heap->Heap
 | []=>[]
 |(m,o)::r=>match tX m k with|true=>qL k r|false=>(m,o)::qL k r
theorem nI (k:Name) (a:aL):∀l,qG k a l=iX k a l
 | []=>rfl
 |(m,o)::r=>by
  simp only[qG,iX,nI k a r]
  grind[kQ]
theorem lE (k:Name):∀l,qL k l=iY k l
 | []=>rfl
 |(m,o)::r=>by
  simp only[qL,iY,lE k r]
  grind[kQ]
def Rc (f:ab) (k:Name):Option aL:=
 match k with
 | .loc i=>qJ (.loc i) f.locs
 | .out o=>qJ (.out o) f.heap
theorem EC (f:ab) (k:Name):(f.al n).obj k=Rc f k:=by
 cases k <;> simp[aa.obj,Rc,ab.al,jS]
def rq (f:ab) (o:Op) (a:List ac):Option aL:=match looks o a with|some k=>Rc f k|none=>none
theorem AR (f:ab) (o:Op) (a:List ac):aX (f.al n) o a=rq f o a:=by
 grind[aX,rq,EC]
def rl (f:ab) (k:Name) (o:aL):Option ab:=
 match f,k with
 | ⟨d,b,a,c⟩,.loc i=>some ⟨d,qG (.loc i) o b,a,c⟩
 | ⟨d,b,a,c⟩,.out i=>if bh o=true then some ⟨d,b,qG (.out i) o a,c⟩ else none
theorem JF (f:ab) (k:Name) (o:aL):(f.al n).setObj k o=(rl f k o).map (·.al n):=by
 obtain⟨d,b,a,c⟩:=f
 cases k <;> grind[aa.setObj,rl,ab.al,nI]
noncomputable def UG (f:ab) (d:Nat) (o:aL):ab:=
 match f with
 | ⟨e,b,a,c⟩=>⟨(d,As d o)::BU (sE (.loc d)) e,(.loc d,o)::lj (.loc d) b,a,c⟩
theorem LM (f:ab) (d:Nat) (o:aL):(UG f d o).al n=newObj (f.al n) d o:=by
 simp_all[UG,newObj,ab.al,sF,ra,sE,Ei]
noncomputable def ED (f:ab) (d:Nat) (o:aL) (h e:Nat):ab:=
 match f with
 | ⟨g,b,a,c⟩=>⟨(d,.win (.loc d) h 0 e)::BU (sE (.loc d)) g,(.loc d,o)::lj (.loc d) b,a,c⟩
theorem JI (f:ab) (d:Nat) (o:aL) (b a:Nat):(ED f d o b a).al n=om (f.al n) d o b a:=by
 simp_all[ED,om,ab.al,sF,ra,sE,Ei]
noncomputable def ly (o:Oper) (k:Option Name) (f:ab) (out:Out):Option ab:=
 match out with
 | ⟨l,m⟩=>match m with
  | .keep=>some (iW f o.dst l)
  | .set b=>(match k with
   | some k=>(match rl f k b with|some f=>some (iW f o.dst l)|none=>none)
   | none=>none)
  | .new b=>(match o.dst with
   | some d=>if nu d b=true then some (UG f d b) else none
   | none=>none)
  | .row b i g=>(match o.dst with
   | some d=>if nu d b=true then some (ED f d b i g) else none
   | none=>none)
  | .fresh b=>(match f with
   | ⟨h,e,c,a⟩=>if bh b=true then some (iW ⟨h,e,(.out a,b)::c,a+1⟩ o.dst (sI a b)) else none)
  | .grow b i g=>(match f with
   | ⟨h,e,c,a⟩=>match k with
    | some (.loc j)=>if bh b=true then some (iW ⟨h,qL (.loc j) e,(.out a,b)::c,a+1⟩ o.dst (.win (.out a) i 0 g)) else none
    | some (.out j)=>if bh b=true then some (iW ⟨h,e,(.out a,b)::qL (.out j) c,a+1⟩ o.dst (.win (.out a) i 0 g)) else none
    | none=>if bh b=true then some (iW ⟨h,e,(.out a,b)::c,a+1⟩ o.dst (.win (.out a) i 0 g)) else none)
theorem GU (o:Oper) (k:Option Name) (f:ab) (out:Out):dW o k (f.al n) out=(ly o k f out).map (·.al n):=by
 obtain⟨l,e⟩:=out;unfold dW ly
 cases e with
 | keep=>simp[eT]
 | set a=>
  grind[JF,eT]
 | new a=>
  grind[LM]
 | row a i g=>
  grind[JI]
 | fresh a=>
  obtain⟨h,c,b,d⟩:=f;dsimp only
  split
  ·simp only[Option.map_some,eT];rfl
  rfl
 | grow a i g=>
  obtain⟨h,c,b,d⟩:=f;cases k with
  | none=>
   dsimp only
   split
   ·simp only[Option.map_some,eT];rfl
   rfl
  | some k=>
   cases k with
   | loc j=>
    dsimp only
    split
    ·simp only[Option.map_some,eT,lE];rfl
    rfl
   | out j=>
    dsimp only
    split
    ·simp only[Option.map_some,eT,lE];rfl
    rfl
noncomputable def Ez (o:Oper) (d:Option Nat) (e:List Operand) (b:Bool) (f:ab) (a:List ac):Option ab:=
 match jE E b o.op a (rq f o.op a) with
 | none=>none
 | some c=>ly o (looks o.op a) (uK n f d e) c
noncomputable def xp (q a:Bool) (o:Oper) (f:ab):Option ab:=
 Ez E n o (kp q o.op) (opsL o.op) a f (gf G n f (kp q o.op) 0 (opsL o.op))
theorem uE (q a:Bool) (o:Oper) (f:ab):aa4 E G q a o (f.al n)=(xp E G n q a o f).map (·.al n):=by
 grind[aa4,xp,Ez,qv,AR,AX,GU]
noncomputable def px:ab->List Operand->List ac×ab
 | f,[]=>([],f)
 | f,x::r=>
  match px (uK n f (some 0) [x]) r with
  |(b,a)=>(py G n f x::b,a)
theorem AQ:∀(a:List Operand) (f:ab),cR G (f.al n) a=((px G n f a).1,(px G n f a).2.al n)
 | [],f=>rfl
 | x::r,f=>by
  simp only[cR,px,←AX,AQ r,nv]
noncomputable def wj (i:Bool) (k:Name) (f:ab) (b:List ac):Option (ab×List ac):=
 match f with
 | ⟨g,d,e,a⟩=>match k,qJ k d with
  | .loc _,some (.cells c)=>
   match uF i k b c with
   | some S=>some (⟨BU (yb k S) g,sM (hU k S) (iY k d),e,a⟩,hU k S b)
   | none=>if aW (ff k (.out a) c)=true then
    some (⟨BU (tH k (.out a)) g,sM (ff k (.out a)) (iY k d),(.out a,.cells (ff k (.out a) c))::e,a+1⟩,ff k (.out a) b)
   else none
  | .loc _,some (.map h)=>
   some (⟨BU (tH k (.out a)) g,sM (ff k (.out a)) (iY k d),(.out a,.map h)::e,a+1⟩,ff k (.out a) b)
  | _,_=>none
theorem C5 (d:Bool) (k:Name) (f:ab) (a:List ac):tN d k (f.al n) a=(wj d k f a).map (fun x=>(x.1.al n,x.2)):=by
 obtain⟨l,b,e,g⟩:=f;unfold tN wj;simp only[ab.al,jS]
 cases k with
 | out i=>rfl
 | loc i=>
  cases eA (.loc i) b with
  | none=>rfl
  | some h=>
   cases h with
   | cells c=>
    dsimp only
    cases uF d (.loc i) a c with
    | some S=>grind[GV,ra,yb]
    | none=>
     grind[zP,ra,tH]
   | map j=>grind[zP,ra,tH]
noncomputable def xt (c:Bool):List Name->ab->List ac->ab×List ac
 | [],f,a=>(f,a)
 | k::d,f,a=>
  match wj c k f a with
  | some (e,b)=>xt c d e b
  | none=>xt c d f a
theorem uI (b:Bool):∀(c:List Name) (f:ab) (a:List ac),vI b c (f.al n) a=((xt b c f a).1.al n,(xt b c f a).2)
 | [],_,_=>rfl
 | k::c,f,a=>by
  simp only[vI,xt,C5]
  cases wj b k f a with
  | none=>exact uI b c f a
  | some x=>exact uI b c x.1 x.2
def uJ (f:ab) (a:List ac):List Name:=
 match tb (qi a) [] with
 | []=>[]
 | l=>Vh (Bf f.locs f.locs.length l)
theorem JJ (f:ab) (a:List ac):Jf (f.al n) a=uJ f a:=rfl
noncomputable def ru (c:Call) (f:ab):Option (FuncId×List ac×ab):=
 match c.callee with
 | .value x=>(match py G n f x with
  | .fn (.func g) b a=>
   if E.fn g=true then
    match (match H.moves g with|true=>px G n f c.args.toList|false=>(gf G n f none 0 c.args.toList,f)) with
    |(h,e)=>(match xt (!H.caps g) (uJ e (b++h++a)) e (b++h++a) with
     |(i,d)=>if aW d=true then some (g,d,i) else none)
   else none
  | _=>none)
 | _=>none
theorem AY (c:Call) (f:ab):mw E G H c (f.al n)=(ru E G H n c f).map (fun x=>(x.1,x.2.1,x.2.2.al n)):=by
 unfold mw ru
 cases c.callee with
 | builtin b=>rfl
 | invoke a b=>rfl
 | value x=>
  dsimp only;rw[nv]
  cases py G n f x with
  | fn g e d=>
   grind[AQ,qv,JJ,uI]
  | _=>rfl
noncomputable def ny (c:Call) (f:ab):Option (FuncId×List ac×ab):=
 match c.callee with
 | .value x=>(match py G n f x with
  | .fn (.func g) b a=>
   if E.fn g=true then
    match (match H.moves g with|true=>px G n f c.args.toList|false=>(gf G n f none 0 c.args.toList,f)) with
    |(d,e)=>if aW (b++d++a)=true then some (g,b++d++a,e) else none
   else none
  | _=>none)
 | _=>none
theorem xz (c:Call) (f:ab):dX E G H c (f.al n)=(ny E G H n c f).map (fun x=>(x.1,x.2.1,x.2.2.al n)):=by
 unfold dX ny
 grind[nv,AQ,qv]
noncomputable def gW (c:List Oper) (f:ab) (g:Option (Nat×Bool)):Option Bool:=
 match g with
 | none=>some true
 | some (j,a)=>(match c[j]? with
  | some o=>(match o.dst with
   | some t=>(match rK n f t with
    | .dat (.flat (.bool b))=>some (b==a)
    | .tup []=>some false
    | _=>none)
   | none=>none)
  | none=>none)
theorem lx (a:List Oper) (f:ab) (g:Option (Nat×Bool)):dC a (f.al n) g=gW n a f g:=by
 unfold dC gW
 grind[jC]
noncomputable def qt (d:Bool) (c:List Oper) (o:Oper) (f:ab):Option ac:=
 match gW n c f o.guard with
 | none=>none
 | some b=>
  if b=true then
   if oE o.op=true then (match jE E false o.op [] none with|some _=>some .undef|none=>none)
   else (match dv o.op with
    | some _=>none
    | none=>
     if (jf o.op&&qk d (looks o.op (gf G n f none 0 (opsL o.op))))=true then
      (match jE E false o.op (gf G n f none 0 (opsL o.op)) (rq f o.op (gf G n f none 0 (opsL o.op))) with
       | some a=>(match a.eff with|.keep=>some a.val|_=>none)
       | none=>none)
     else none)
  else some (.tup [])
theorem wh (b:Bool) (a:List Oper) (o:Oper) (f:ab):eK E G b a o (f.al n)=qt E G n b a o f:=by
 grind[eK,qt,lx,qv,AR]
def Rb (f:ab) (k:Name) (o:aL):ab:=
 match f,k with
 | ⟨d,b,a,c⟩,.loc i=>⟨d,qG (.loc i) o b,a,c⟩
 | ⟨d,b,a,c⟩,.out i=>⟨d,b,qG (.out i) o a,c⟩
theorem Ra (f:ab) (k:Name) (o:aL):(Rb f k o).al n=(f.al n).kn k o:=by
 obtain⟨d,b,a,c⟩:=f
 cases k <;> simp[Rb,ab.al,aa.kn,nI]
noncomputable def mf (e:Bool) (a:List Oper):List Nat->ab->Option ab
 | [],f=>some f
 | i::r,f=>
  match a[i]? with
  | some o=>(match o.op,o.dst,o.guard with
   | .load _ (.tmp u),some t,none=>(match rK n f u with
    | .ptr k b=>if Eh e k=true then (match Rc f k with
     | some (.cells c)=>(match c[b]? with
      | some (.own d)=>(match rK n f t with
       | .dat (.slice _)=>mf e a r (Rb (iW f (some t) (.own d)) k (.cells (bI b [.dat (.slice d)] c)))
       | _=>none)
      | _=>none)
     | _=>none) else none
    | _=>none)
   | _,_,_=>none)
  | none=>none
theorem oL (d:Bool) (a:List Oper):∀(p:List Nat) (f b:ab),mf n d a p f=some b->dM d a p (f.al n)=some (b.al n)
 | [],f,b,h=>by simp[mf] at h;subst h;rfl
 | i::r,f,b,h=>by
  simp only[mf] at h
  split at h
  ·rename_i o O
   split at h
   ·rename_i T u t l D J
    split at h
    ·rename_i k w v
     split at h
     ·rename_i j
      split at h
      ·rename_i c g
       split at h
       ·rename_i x e
        split at h
        ·rename_i q s;have m:=oL d a r _ _ h;rw[Ra,eT] at m;simp only[dM,O,l,D,J];rw[jC,v];dsimp only;rw[if_pos j,EC,g];dsimp only;rw[e];rw[jC,s];exact m
        grind
       grind
      grind
     grind
    grind
   grind
  grind
noncomputable def Qn (m:Name) (l:Sl):Bool:=@List.rec (Nat×ac) (fun _=>Bool) false (fun p _ a=>mentions m p.2||a) l
theorem Gp {m:Name} (t:Nat):∀{l:Sl},Qn m l=false->mentions m (rJ l t)=false
 | [],_=>by grind[AM,mentions]
 |(d,v)::r,h=>by
  have e:Qn m ((d,v)::r)=(mentions m v||Qn m r):=rfl;rw[e,Bool.or_eq_false_iff] at h;rw[ij]
  split
  ·grind
  exact Gp t h.2
theorem KZ {m:Name} {l:Sl} (h:Qn m l=false):∀n k:Nat,aU m (Gn n k l)=false
 | 0,_=>by simp[Gn,aU]
 | n+1,k=>by simp only[Gn,aU,Gp k h,KZ h n (k+1),Bool.or_self]
noncomputable def oM (a:List Oper) (c:Option Nat) (f:ab):Option ab:=
 match c with
 | none=>some f
 | some i=>(match a[i]? with
  | some o=>(match o.op,o.dst,o.guard with
   | .alloc t,some d,none=>(match E.ty t with
    | some b=>if dU (aY (bE b.zero))=true/\aU (.loc d) (aY (bE b.zero))=false/\d < n/\Qn (.loc d) f.sl=false then some (UG f d (.cells (aY (bE b.zero)))) else none
    | none=>none)
   | _,_,_=>none)
  | none=>none)
theorem kz (a:List Oper) (g:Option Nat) (f j:ab) (h:oM E n a g f=some j):iA E a g (f.al n)=some (j.al n):=by
 unfold oM at h;unfold iA;have l:(f.al n).tmps.length=n:=oq n 0 f.sl
 cases g with
 | none=>grind
 | some i=>
  dsimp only at h ⊢
  cases k:a[i]? with
  | none=>grind
  | some o=>
   rw[k] at h;dsimp only at h ⊢
   split at h
   ·rename_i t d b D J;rw[b,D,J];dsimp only
    cases c:E.ty t with
    | none=>grind
    | some m=>
     rw[c] at h;dsimp only at h ⊢;rw[l]
     split at h
     ·rename_i e;rw[if_pos ⟨e.1,e.2.1,e.2.2.1,KZ e.2.2.2 n 0⟩];grind[LM]
     grind
   grind
end
end Go.Tp
namespace Go.Tp
def dK:ac->Option ak
 | .dat (.flat v)=>some (.flat v)
 | .dat (.slice a)=>some (.slice a)
 | .own a=>some (.slice a)
 | _=>none
def nG:Nat->List ac->Option (List ak)
 | 0,_=>some []
 | n+1,a::r=>(match dK a with|some d=>(match nG n r with|some l=>some (d::l)|none=>none)|none=>none)
 | _+1,[]=>none
def DU (n a:Nat) (d:Option aL):Option (Nat×List ak):=
 match d with
 | some (.cells c)=>(match Nat.ble a 4294967296 with
  | true=>(match nG a c with|some (e::b)=>some (n,e::b)|_=>none)
  | false=>none)
 | _=>none
def rowOf (a:ac):Option (Nat×Nat):=
 match a with
 | .win (.out n) 1 0 b=>some (n,b)
 | _=>none
def yh (a:ac) (b:List (Name×aL)):Option (Nat×List ak):=
 match rowOf a with
 | some x=>DU x.1 x.2 (eA (.out x.1) b)
 | none=>none
def DV (t:Nat) (s:aa):Option aa:=
 match yh (bq s.tmps t) s.heap with
 | some (n,a)=>some {s with tmps:=s.tmps.set t (.dat (.slice a)),heap:=iY (.out n) s.heap }
 | none=>none
def gF (G:bA) (s h:aa):Prop:=
 ∀(w:World) (R:Own) (N:Name->Option Nat) (a:List Value) (Z U H z:List Nat),dw G w R N a s undef .undef [] Z U H z->
  ∃g f e d c,dw G w g f a h undef .undef [] e d c z/\bp w R w g z/\(∀o b,N (.out o)=some b->f (.out o)=some b)
theorem gF.refl (G:bA) (s:aa):gF G s s:=fun _ R N _ Z U H _ h=>⟨R,N,Z,U,H,h,aZ _,fun _ _ h=>h⟩
theorem gF.trans {G:bA} {s d e:aa} (h:gF G s d) (k:gF G d e):gF G s e:=fun w R N c Z U H z m=>by
 obtain⟨i,f,y,n,a,u,v,x⟩:=h w R N c Z U H z m;obtain⟨j,g,A,p,l,q,r,t⟩:=k w i f c y n a z u;exact⟨j,g,A,p,l,q,v.trans r,fun o b O=>t o b (x o b O)⟩
theorem sf:∀{n:Nat} {c:List ac} {e:List ak},nG n c=some e->e.length=n/\∀(i:Nat) (d:ak),e[i]?=some d->∃a,c[i]?=some a/\dK a=some d
 | 0,_,e,h=>by grind[nG]
 | n+1,[],e,h=>by grind[nG]
 | n+1,a::r,e,h=>by
  unfold nG at h
  split at h
  ·rename_i d D
   split at h
   ·rename_i l f;simp at h;subst h;obtain⟨g,b⟩:=sf f;grind
   grind
  grind
theorem mn {w:World} {R:Own} {N:Name->Option Nat} {a:ac} {d:ak} (h:dK a=some d) {v:Value} {B:List Nat} (b:ai w R N a v B):eU w R v d/\d.cells.length=1:=by
 unfold dK at h
 split at h
 ·simp at h;subst h;exact⟨(cB b).2,rfl⟩
 ·simp at h;subst h;exact⟨(cB b).2,rfl⟩
 ·simp at h;subst h;exact⟨(cy b).rep,rfl⟩
 grind
theorem MX {G:bA} {t:Nat} {s s2:aa} (h:DV t s=some s2):gF G s s2:=by
 unfold DV at h
 split at h
 rotate_left
 ·simp at h
 rename_i n es V;simp only[Option.some.injEq] at h;subst h;unfold yh at V
 split at V
 rotate_left
 ·simp at V
 rename_i x L;obtain⟨m,F⟩:=x;have a2:bq s.tmps t=.win (.out m) 1 0 F:=by
  unfold rowOf at L
  split at L
  ·rename_i n' bi h';simp only[Option.some.injEq,Prod.mk.injEq] at L;obtain⟨rfl,rfl⟩:=L;exact h'
  simp at L
 dsimp only at V;unfold DU at V
 split at V
 rotate_left
 ·simp at V
 rename_i cs ba
 split at V
 rotate_left
 ·simp at V
 rename_i S;have S:=Nat.le_of_ble_eq_true S
 split at V
 rotate_left
 ·simp at V
 rename_i Q f a6;simp only[Option.some.injEq,Prod.mk.injEq] at V;obtain⟨rfl,rfl⟩:=V;obtain⟨a9,a7⟩:=sf a6;intro w R N ae Z U H z W;have bc:=wc a2 (by simp);obtain⟨v,bk,g1,g2,_⟩:=dY W.tmps bc;simp only[ai] at g2;obtain⟨_,b,O,hb,rfl,av,_,bf,bg⟩:=g2;obtain⟨a3,y,r,ad,E,af,a0,_,M,ax,Y⟩:=aj.kK W.heap ba
 have:y=b:=by simp only[outs] at af;rw[hb] at af;simpa using af.symm
 subst this;obtain⟨vs,aq,sp,ar,bb,bl,_⟩:=a0;obtain⟨R',P⟩:∃R':Own,R'=fun c I=>c≠y/\R c I:=⟨_,rfl⟩
 have p:Step w R w R':=⟨rfl,rfl,rfl,Nat.le_refl _,fun c _ u=>⟨rfl,fun I h=>by subst P;exact u I h.2⟩,fun c I _ u=>⟨fun h=>by subst P;exact u h.2,rfl⟩,fun _ _=>rfl⟩;have k:∀B,y∉B->bp w R w R' B:=fun B a4=>⟨p,fun c hc _=>⟨rfl,fun I h=>by subst P;exact⟨fun e=>a4 (e ▸ hc),h⟩⟩⟩
 have az:=W.nodup;simp only[List.nil_append] at az;subst E;have hp:(Z++(U++((a3++(y::r)++ad)++z))).Perm (y::(r++(Z++(U++((a3++ad)++z))))):=by
  rw[List.perm_iff_count];intro q;simp only[List.count_append,List.count_cons];omega
 have T:=List.nodup_cons.1 (hp.nodup_iff.1 az);have u:=T.1;simp only[List.mem_append,not_or] at u;obtain⟨_,n1,n2,⟨n3,be⟩,n4⟩:=u;have n5:y∉M:=fun hm=>by
  rcases List.mem_append.1 (Y.subset hm) with h|h
  ·exact n3 h
  exact be h
 have a1:eU w R' (.slice (some ⟨y,0,none⟩) F O) (.slice (Q::f)):=by
  have l:(Q::f).length=F:=a9;rw[←l];have o:∀i,i < (Q::f).length->∃a x bx,cs[i]?=some a/\dK a=some (Q::f)[i]! /\ vs[i]?=some x/\ai w R (outs N) a x bx:=by
   intro i C;obtain⟨a,A,D⟩:=a7 i _ (List.getElem?_eq_getElem C);obtain⟨x,bx,q1,q2,_⟩:=dY bb (rj A);exact⟨a,x,bx,A,by rw[D,getElem!_pos _ i C],by rw[←Array.getElem?_toList];exact q1,q2⟩
  refine .slice y 0 O 1 _ (fun i _=>vs[i]?.getD default) (by omega) ?_ (by rw[l];exact av) (by rw[l];simp only[lim];omega) ?_ ?_
  ·intro e he;obtain⟨i,C,rfl⟩:=List.getElem_of_mem he;obtain⟨a,x,bx,_,D,_,L⟩:=o i C;rw[getElem!_pos _ i C] at D;exact (mn D L).2
  ·intro i j C hj;obtain⟨a,x,bx,_,D,al,L⟩:=o i C
   have:j=0:=by omega
   subst this;refine⟨?_,fun h=>by subst P;exact h.1 rfl⟩;rw[cell_of_row w y _ vs aq (0,0) ar];simp[al]
  ·intro i j e c he hc;have C:i < (Q::f).length:=(List.getElem?_eq_some_iff.1 he).1;obtain⟨a,x,bx,_,D,al,L⟩:=o i C;have a8:(Q::f)[i]! = e:=by
    rw[getElem!_pos _ i C];rw[List.getElem?_eq_getElem C] at he;simpa using he
   rw[a8] at D;obtain⟨k1,K⟩:=mn D L;have a5:c=e:=by
    unfold dK at D
    split at D
    all_goals first
     |(simp at D;subst D;cases j with
      | zero=>simpa [ak.cells] using hc.symm
      | succ j=>simp[ak.cells] at hc)
     |simp at D
   subst a5;rw[al];exact k1.step p
 obtain⟨am,p1,p2⟩:=ng (a:=.dat (.slice (Q::f))) (v:=.slice (some ⟨y,0,none⟩) F O) (b:=[]) (X:=U++(M++z)) t (W.tmps.keep (k Z n1)) (bQ (d:=.slice (Q::f)) a1) (by
  have h2:=(List.nodup_append.1 T.2).2.1;rw[List.nil_append];refine List.Nodup.sublist ?_ h2;exact List.Sublist.append (.refl _) (List.Sublist.append (.refl _) (List.Sublist.append Y (.refl _))))
 have ag:ae.set t (.slice (some ⟨y,0,none⟩) F O)=ae:=by
  apply List.ext_getElem?
  intro j;rw[List.getElem?_set]
  split
  ·rename_i hj;subst hj;split
   ·exact g1.symm
   rename_i l;rw[List.getElem?_eq_none (by omega)]
  rfl
 rw[ag] at p1;exact⟨R',N,am,U,M,⟨aJ _,p1,W.locs.keep (k U n2),ax.keep (k M n5),by simpa using p2,W.next,fun g cs J=>(W.glob g cs J).step p,W.frame⟩,k z n4,fun _ _ h=>h⟩
theorem JD {G:bA} (i:List Name) (s:aa):gF G s (vI false i s []).1:=by
 intro w R N h Z U H z c;have j:dw G w R N h s (.tuple ([]:List Value).toArray) (.tup []) [] Z U H z:=⟨by simp[ai,ah],c.tmps,c.locs,c.heap,c.nodup,c.next,c.glob,c.frame⟩;have n:vI false i s []=((vI false i s []).1,(vI false i s []).2):=rfl;obtain⟨m,l,k,g,e,d,a,b,f,_⟩:=nX n j;refine⟨m,l,g,e,d,⟨aJ _,a.tmps,a.locs,a.heap,?_,a.next,a.glob,a.frame⟩,b,f⟩
 have:=a.nodup
 grind
end Go.Tp
