/- Part 2 of what the last text proves. -/
import Derived.Test.YtmpmgmmcaghacaaGreatDoorQ01
set_option linter.unusedVariables false
set_option linter.unusedSimpArgs false
set_option maxRecDepth 100000
set_option maxHeartbeats 4000000
namespace Go.Tp
theorem wC:∀{l:List ak},si l↔∀d∈l,yd d
 | []=>by simp[si]
 | d::r=>by simp[si,wC (l:=r)]
theorem J8 {e:ak} (h:∀(j:Nat) (c:ak),e.cells[j]?=some c->yd c):yd e:=by
 cases e with
 | flat v=>exact h 0 (.flat v) rfl
 | slice a=>exact h 0 (.slice a) rfl
 | agg f=>
  simp only[yd];rw[wC];intro d D;obtain⟨j,b⟩:=List.getElem?_of_mem D;exact h j d b
theorem eU.pH {w:World} {R:Own} {v:Value} {d:ak} (h:eU w R v d):yd d:=by
 induction h with
 | flat h=>exact h
 | nil a c=>exact⟨Nat.zero_le _,trivial⟩
 | slice b n c s o t q j g l f k r=>
  refine⟨l,wC.2 fun e m=>?_⟩;obtain⟨i,p⟩:=List.getElem?_of_mem m;grind[J8]
theorem dz.pH {w:World} {R:Own}:∀{a:List Value} {c:List ak},dz w R a c->si c
 | [],[],_=>trivial
 | _::_,_::_,h=>⟨h.1.pH,dz.pH h.2⟩
 | [],_::_,h=>h.elim
 | _::_,[],h=>h.elim
theorem ve.pH {w:World} {R:Own} {v:Value}:∀{d:ak},ve w R v d->yd d
 | .agg _,⟨_,_,h⟩=>h.pH
 | .flat _,h=>eU.pH h
 | .slice _,h=>eU.pH h
theorem eN.pH {w:World} {R:Own} {b:Nat}:∀{a:Nat} {c:List ak},eN w R b a c->si c
 | _,[],_=>trivial
 | _,_::_,⟨⟨_,_,_,d⟩,T⟩=>⟨d.pH,eN.pH T⟩
section
variable {w:World} {R:Own} {N:Name->Option Nat}
mutual
theorem ai.pH:∀{a:ac} {v:Value} {B:List Nat},ai w R N a v B->nH a
 | .dat _,_,_,h=>by exact h.2.pH
 | .own _,_,_,h=>by
  simp only[nH]
  cases h with
  | nil=>exact⟨Nat.zero_le _,trivial⟩
  | row b l s x i t j o z k y n h p=>have:=h.pH;grind[yd]
 | .ref _,_,_,h=>by
  obtain⟨_,b,q,_,e⟩:=h;exact e.pH
 | .ptr _ _,_,_,_=>by simp[nH]
 | .map _,_,_,_=>by simp[nH]
 | .win _ _ _ _,_,_,_=>by simp[nH]
 | .fn _ g d,_,_,h=>by
  obtain⟨_,i,A,_,e,f⟩:=h;exact⟨ah.pH (as:=g) e,ah.pH (as:=d) f⟩
 | .agg c,_,_,h=>by
  obtain⟨i,_,e⟩:=h;exact ah.pH (as:=c) e
 | .tup c,_,_,h=>by
  obtain⟨i,_,e⟩:=h;exact ah.pH (as:=c) e
 | .undef,_,_,_=>by simp[nH]
theorem ah.pH:∀{as:List ac} {i:List Value} {B:List Nat},ah w R N as i B->rN as
 | [],_,_,_=>by simp[rN]
 | a::as,_,_,h=>by
  obtain⟨v,u,r,Q,_,_,m,e⟩:=h;exact⟨ai.pH (a:=a) m,ah.pH (as:=as) e⟩
end
theorem dQ.pH:∀{b:List (Value×ak)} {a:List MapEntry},dQ w R b a->ZX b
 | [],_,_=>trivial
 |(_,_)::_,_,⟨_,_,_,_,f,g⟩=>⟨f.pH,dQ.pH g⟩
theorem Dn:∀{l m:List ac},rN (l++m)->rN l
 | [],_,_=>by simp[rN]
 | a::l,m,h=>by exact⟨h.1,Dn h.2⟩
theorem aj.pH:∀{c:List (Name×aL)} {B:List Nat},aj w R N c B->yc c
 | [],_,_=>trivial
 |(_,.cells _)::_,_,⟨_,_,_,_,_,⟨_,_,_,_,a,_⟩,b⟩=>⟨Dn a.pH,aj.pH b⟩
 |(_,.map _)::_,_,⟨_,_,_,_,_,⟨_,_,_,_,_,a⟩,b⟩=>⟨a.1.pH,aj.pH b⟩
end
section
variable {P:Program} {E:bz} {G:bA} {H:Hints} {D:List Deferred} {rd:Option Nat}
variable {K:aa->Prop} {Qx:Exit->Act->World->Prop} {R:Own} {o:Oper} {w:World}
theorem bp.trans {f g:World} {c e:Own} {B:List Nat} (h:bp w R f c B) (k:bp f c g e B):bp w R g e B:=
 ⟨h.step.trans k.step,fun b d a=>by
  obtain⟨E,i⟩:=h.same b d a;obtain⟨F,j⟩:=k.same b d (Nat.lt_of_lt_of_le a h.step.size);grind⟩
theorem Sm.trans {g:World} {f:Own} {N e:Name->Option Nat} {z:List Nat} (k:bp w R g f z) (m:∀o b,N (.out o)=some b->e (.out o)=some b) {a:Act} {i:World}
  (h:Sm G D K g f e z a i):Sm G D K w R N z a i:=by
 obtain⟨s',l,j,Z,U,H,p,q,n,d,c⟩:=h;exact⟨s',l,j,Z,U,H,p,q,n,k.trans d,fun o b h=>c o b (m o b h)⟩
theorem ke {ops:Array Oper} {s:aa} {c:Act} {N:Name->Option Nat} {Z:List Nat} (T:ah w R N s.tmps c.tmps.toList Z) {b:Bool} (h:dC ops.toList s o.guard=some b) :
  Region.wanted o (yielded ops c.tmps)=b:=by
 unfold dC at h;unfold Region.wanted
 cases J:o.guard with
 | none=>grind
 | some p=>
  obtain⟨j,k⟩:=p;rw[J] at h;simp only at h ⊢
  split at h
  ·rename_i i l
   split at h
   ·rename_i t m
    split at h
    ·rename_i g e;have a:s.tmps[t]?=some (.dat (.flat (.bool g))):=by
      grind[bq]
     obtain⟨v,d,E,F,_⟩:=dY T a;obtain⟨_,rfl,_⟩:=aC F;have n:yielded ops c.tmps j=some g:=by
      unfold yielded;grind
     simp_all
    ·rename_i e;simp at h;have a:s.tmps[t]?=some (.tup []):=by
      grind[bq]
     obtain⟨v,d,E,F,_⟩:=dY T a;obtain⟨q,rfl,rfl,_⟩:=F;have f:ops[j]?=some i:=by grind
     have n:yielded ops c.tmps j=none:=by
      unfold yielded;grind
     grind
    grind
   grind
  grind
theorem vE {b:Act} {c:World} {v:Value} {K:Act->World->Prop} {d:Exit->Act->World->Prop} (a:V9 P w b.eval o v c) (h:K (b.put o.dst v) c):o.wp P b w K d:=by
 unfold Oper.wp
 rcases a with a|⟨a,rfl⟩
 ·rw[a,Oper.upon_value];grind
 rw[a,Oper.upon_skip];grind
theorem Bg {f:FuncId} {u:List ac} {E:aa} {p:List Value} {l:Act} {N:Name->Option Nat} {x Z U H z:List Nat} {Kx:Act->World->Prop}
  (ae:(execOp l.eval o).run P w=.ok (.enter f p.toArray) w) (j:dw G w R N l.tmps.toList E (.tuple p.toArray) (.tup u) x Z U H z) (aq:aW u=true) (hd:l.defers=D)
  (h:ay P G f u E.heap E.next (fun v heap n=>nH v->yc heap->K (({E with heap:=heap,next:=n }:aa).put o.dst v)))
  (hK:∀(v:ac) (L:Value) (heap:List (Name×aL)) (n:Nat) (t:World) (R':Own) (N':Name->Option Nat) (T S:List Nat),K (({E with heap:=heap,next:=n }:aa).put o.dst v)->
   dw G t R' N' (l.put o.dst L).tmps.toList (({E with heap:=heap,next:=n }:aa).put o.dst v) undef .undef [] T U S z->bp w R t R' (U++z)->(∀m c,N m=some c->N' m=some c)->(∀i,N' (.loc i)=N (.loc i))->Kx (l.put o.dst L) t) :
  o.wp P l w Kx Qx:=by
 unfold Oper.wp;rw[ae,Oper.upon_enter];have V:=j.val;obtain⟨a2,ec,M⟩:=V;simp at ec;subst ec;have ab:(x++(H++(Z++(U++z)))).Nodup:=by
  have hp:(x++(H++(Z++(U++z)))).Perm (x++(Z++(U++(H++z)))):=by
   grind
  exact hp.nodup_iff.2 j.nodup
 refine (h w R N p x H (Z++(U++z)) (M.yi aq (fun _=>rfl)) j.heap ab j.next j.glob ?_).mono ?_
 ·intro b d;simp at d
  rcases d with h|h|h
  ·exact j.tmps.lt b h
  ·exact j.locs.lt b h
  exact j.frame b h
 rintro e t ⟨v,L,r,B,k,Q,C,a,rfl,hQ,O,W,X,ad,A,af⟩
 -- the caller's names beside the callee's
 let F:Name->Option Nat:=fun m=>match m with|.loc i=>N (.loc i)|.out o=>Q (.out o)
 have y:∀m c,N m=some c->F m=some c:=fun m c hm=>by cases m <;> grind
 have an:bp w R t k Z:=A.sub (by grind);have am:bp w R t k U:=A.sub (by grind);have al:bp w R t k (U++z):=A.sub (by intro b d;simp at d;rcases d with h|h <;> simp[h]);have az:ah t k F E.tmps l.tmps.toList Z:=(j.tmps.keep an).ext y;have ao:aj t k F E.locs U:=(j.locs.keep am).ext y;have ag:aj t k (outs F) r a:=W.tO (N:=Q) (N':=F) (fun _=>rfl);have a0:ai t k F v L C:=O.yi O.bY (fun _=>rfl);have Y:(C++(Z++(U++(a++z)))).Nodup:=by
  have hp:(C++(Z++(U++(a++z)))).Perm (C++(a++(Z++(U++z)))):=by
   rw[List.perm_iff_count];intro q;simp only[List.count_append];omega
  exact hp.nodup_iff.2 X
 let s3:aa:={E with heap:=r,next:=B }
 obtain⟨I,ar,av⟩:=fW (s:=s3) o.dst az a0 Y;obtain⟨q1,q2,q3⟩:=dB s3 o.dst v;obtain⟨a1,a3⟩:=ga l o.dst L;have ax:dw G t k F (l.put o.dst L).tmps.toList (s3.put o.dst v) undef .undef [] I U a z:=
  ⟨aJ _,by rw[a1];exact ar,by rw[q1];exact ao,by rw[q2];exact ag,by simpa using av,by rw[q3];exact ad,
   fun g cs J=>(j.glob g cs J).step A.step,fun b d=>Nat.lt_of_lt_of_le (j.frame b d) A.step.size⟩
 exact hK v L r B t k F I a (hQ O.pH W.pH) ax al y (fun _=>rfl)
theorem xX {f:FuncId} {x:List ac} {C:aa} {p:List Value} {l:Act} {N:Name->Option Nat} {y Z U H z:List Nat} {Kx:Act->World->Prop}
  (ae:(execOp l.eval o).run P w=.ok (.enter f p.toArray) w) (a:dw G w R N l.tmps.toList C (.tuple p.toArray) (.tup x) y Z U H z) (az:aW x=true) (hd:l.defers=D)
  (h:ay P G f x [] C.next (fun v F n=>nH v->yc F->F=[]/\K (({C with next:=n }:aa).put o.dst v)))
  (hK:∀(v:ac) (M:Value) (n:Nat) (t:World) (R':Own) (N':Name->Option Nat) (T:List Nat),K (({C with next:=n }:aa).put o.dst v)->
   dw G t R' N' (l.put o.dst M).tmps.toList (({C with next:=n }:aa).put o.dst v) undef .undef [] T U H z->bp w R t R' (U++(H++z))->(∀m c,N m=some c->N' m=some c)->(∀i,N' (.loc i)=N (.loc i))->Kx (l.put o.dst M) t) :
  o.wp P l w Kx Qx:=by
 unfold Oper.wp;rw[ae,Oper.upon_enter];have V:=a.val;obtain⟨a6,ec,O⟩:=V;simp at ec;subst ec;have ab:(y++([]++(H++(Z++(U++z))))).Nodup:=by
  have hp:(y++([]++(H++(Z++(U++z))))).Perm (y++(Z++(U++(H++z)))):=by
   grind
  exact hp.nodup_iff.2 a.nodup
 refine (h w R N p y [] (H++(Z++(U++z))) (O.yi az (fun _=>rfl)) rfl ab a.next a.glob ?_).mono ?_
 ·intro b d;simp at d
  rcases d with h|h|h|h
  ·exact a.heap.lt b h
  ·exact a.tmps.lt b h
  ·exact a.locs.lt b h
  exact a.frame b h
 rintro e t ⟨v,M,am,A,j,af,B,L,rfl,hQ,Q,W,X,ad,u,ag⟩;obtain⟨rfl,al⟩:=hQ Q.pH W.pH;obtain rfl:L=[]:=W
 let I:Name->Option Nat:=fun m=>match m with|.loc i=>N (.loc i)|.out o=>af (.out o)
 have r:∀m c,N m=some c->I m=some c:=fun m c S=>by cases m <;> grind
 have av:bp w R t j Z:=u.sub (by grind);have ar:bp w R t j U:=u.sub (by intro b d;simp[d]);have aq:bp w R t j H:=u.sub (by intro b d;simp[d]);have ao:bp w R t j (U++(H++z)):=u.sub (by intro b d;simp at d;rcases d with h|h|h <;> simp[h]);have a3:ah t j I C.tmps l.tmps.toList Z:=(a.tmps.keep av).ext r;have ax:aj t j I C.locs U:=(a.locs.keep ar).ext r;have an:aj t j (outs I) C.heap H:=(a.heap.keep aq).ext (fun m c S=>by
  cases m with
  | loc i=>simp[outs] at S
  | out k=>simp only[outs] at S ⊢;exact r _ _ S)
 have a4:ai t j I v M B:=Q.yi Q.bY (fun _=>rfl);have Y:(B++(Z++(U++(H++z)))).Nodup:=by
  have hp:(B++(Z++(U++(H++z)))).Perm (B++([]++(H++(Z++(U++z))))):=by
   rw[List.perm_iff_count];intro q;simp only[List.count_append,List.count_nil];omega
  exact hp.nodup_iff.2 X
 let s3:aa:={C with next:=A }
 obtain⟨E,a0,a1⟩:=fW (s:=s3) o.dst a3 a4 Y;obtain⟨q1,q2,q3⟩:=dB s3 o.dst v;obtain⟨a5,a7⟩:=ga l o.dst M;have a2:dw G t j I (l.put o.dst M).tmps.toList (s3.put o.dst v) undef .undef [] E U H z:=
  ⟨aJ _,by rw[a5];exact a0,by rw[q1];exact ax,by rw[q2];exact an,by simpa using a1,by rw[q3];exact ad,
   fun g cs J=>(a.glob g cs J).step u.step,fun b d=>Nat.lt_of_lt_of_le (a.frame b d) u.step.size⟩
 exact hK v M A t j I E al a2 ao r (fun _=>rfl)
theorem nO {s:aa} {f:Act} {N:Name->Option Nat} {Z U H z:List Nat} (e:dw G w R N f.tmps.toList s undef .undef [] Z U H z) (d:Option Tmp) :
  ∃c,dw G w R N (f.put d undef).tmps.toList (s.put d (.tup [])) undef .undef [] c U H z:=by
 obtain⟨c,g,h⟩:=fW (a:=.tup []) (v:=undef) (b:=[]) d e.tmps (by simp[ai,ah,undef]) (by simpa using e.nodup);obtain⟨i,j,k⟩:=dB s d (.tup []);exact⟨c,aJ _,by grind[ga],by rw[i];exact e.locs,by rw[j];exact e.heap,by grind,by rw[k];exact e.next,e.glob,e.frame⟩
theorem jv (W:E.Ok P) (l:Array Oper) {i:Nat} (hi:l[i]?=some o) {s:aa} (h:mT (ay P G) E G H l.toList o K s) {N:Name->Option Nat} {e:Act} {Z U m z:List Nat} (A:dw G w R N e.tmps.toList s undef .undef [] Z U m z) (y:e.defers=D) :
  wpOpIn (rdF rd) 1 P l Qx i (Sm G D K w R N z) e w:=by
 unfold wpOpIn;simp only[hi];unfold mT at h
 split at h
 ·grind
 rename_i b hw;have ad:=ke A.tmps hw;rw[ad]
 split at h
 ·rename_i d;rw[if_pos d];refine aql ?_ rd ?_
  ·cases O:o.op <;> first|rfl|grind[lK,aa4,jE]
  split at h
  ·rename_i c hc;have V:=vW hc
   split at h
   ·rename_i f ae s2 r;obtain⟨F,x,R',N',ag,a,g,j,X,Q,L,T,_⟩:=agJ W r A o V;refine Bg x X T y h ?_;intro v I af n w' C B q p hK Y S t _;exact⟨_,C,B,q,g,p,hK,Y,by rw[(ga e o.dst I).2];exact y,Q.trans (S.sub (by intro b d;simp[d])),fun o b h=>t _ _ (L o b h)⟩
   exact h.elim
  split at h
  ·rename_i s' ab;obtain⟨I,w',u,⟨R',N',a,g,j,k,M,J,_⟩,_⟩:=qF W ab A;exact vE u ⟨s',R',N',a,g,j,h,k,by rw[(ga e o.dst I).2];exact y,M,fun o b h=>J _ _ h⟩
  exact h.elim
 rename_i d;rw[if_neg d];obtain⟨a,k⟩:=nO A o.dst;exact⟨fun _ _=>trivial,_,R,N,a,U,m,h,k,by rw[(ga e o.dst undef).2];exact y,aZ _,fun _ _ h=>h⟩
theorem Bt (W:E.Ok P) (d:Array Oper) (Q:aa->Prop) (t:Exit->Act->World->Prop) :
  ∀(a:List Oper) (k:Nat) (s:aa),d.toList.drop k=a->mS (ay P G) E G H d.toList Q a s->∀(w:World) (R:Own) (N:Name->Option Nat) (e:Act) (Z U f z:List Nat),
   dw G w R N e.tmps.toList s undef .undef [] Z U f z->e.defers=D->(∀q r,Sm G D Q w R N z q r->t .normal q r)->wpOpsIn (rdF rd) 1 P d t (List.range' k a.length) e w
 | [],k,s,_,h,w,R,N,e,Z,U,f,z,B,v,u=>by
  exact u _ _ ⟨s,R,N,Z,U,f,h,B,v,aZ _,fun _ _ h=>h⟩
 | o::a,k,s,l,h,w,R,N,e,Z,U,f,z,B,v,u=>by
  have A:d[k]?=some o:=by
   have:=List.getElem?_drop (xs:=d.toList) (i:=k) (j:=0)
   grind
  have g:d.toList.drop (k+1)=a:=by rw[←List.drop_drop,l];rfl
  simp only[mS,iT] at h;refine wpOpIn_mono ?_ (jv W d A (K:=mS (ay P G) E G H d.toList Q a) h B v);rintro q r ⟨M,I,F,p,n,m,L,C,x,y,c⟩;exact Bt W d Q t a (k+1) M g L r I F q p n m z C x (fun J O b=>u J O (b.trans y c))
theorem uY (W:E.Ok P) {id:Nat} {a:Array Oper} {Q:Exit->aa->Prop} {s:aa} (h:mS (ay P G) E G H a.toList (Q .normal) a.toList s):cL P G (.region id a false) Q s:=by
 intro w R N b Z U c z e D d;refine aov fun f=>?_
 rw[List.range_eq_range',←Array.length_toList];exact Bt W a (Q .normal) _ a.toList 0 s (by simp) h w R N b Z U c z e d (fun _ _ h=>h)
def fV (T:List ac) (a:Option Nat) (b:List Operand):List ac:=
 match a with
 | none=>T
 | some k=>match b[k]? with
  | some (.tmp t)=>T.set t (de (bq T t))
  | _=>T
theorem oR (s:aa) (a:Option Nat) (b:List Operand):bF s a b={s with tmps:=fV s.tmps a b }:=by
 unfold bF fV
 cases a with
 | none=>rfl
 | some k=>
  dsimp only
  cases b[k]? with
  | none=>rfl
  | some x=>cases x <;> rfl
theorem ml (T:List ac) (c:Option Nat) (b:List Operand):(∃t,b.any (dI t)=true/\∀a,fV a c b=a.set t (de (bq a t)))∨∀a,fV a c b=a:=by
 unfold fV
 cases c with
 | none=>grind
 | some k=>
  dsimp only
  cases X:b[k]? with
  | none=>grind
  | some x=>
   cases x with
   | tmp t=>
    refine .inl ⟨t,?_,fun _=>rfl⟩;rw[List.any_eq_true];exact⟨.tmp t,List.mem_of_getElem? X,Nat.beq_refl t⟩
   | _=>grind
theorem Kd (s:aa) (T:List ac) {x:Operand} (h:∀t,dI t x=true->bq T t=bq s.tmps t):fm G {s with tmps:=T } x=fm G s x:=by
 cases x with
 | tmp t=>exact h t (Nat.beq_refl t)
 | _=>rfl
theorem rZ (s:aa) (T:List ac) (a:Option Nat):∀(k:Nat) {b:List Operand},(∀t,b.any (dI t)=true->bq T t=bq s.tmps t)->aE G {s with tmps:=T } a k b=aE G s a k b
 | _,[],_=>rfl
 | k,x::r,h=>by
  simp only[aE];rw[Kd s T (fun t c=>h t (by grind)),rZ s T a (k+1) (fun t c=>h t (by grind))]
theorem Qd (s:aa) (T:List ac) (n:Name):aa.obj {s with tmps:=T } n=s.obj n:=by cases n <;> rfl
theorem BV (s:aa) (T:List ac) (o:Op) (a:List ac):aX {s with tmps:=T } o a=aX s o a:=by
 grind[aX,Qd]
theorem afL {o:Oper} (D:o.dst=none) {n:Option Name} {s d:aa} {out:Out} (T:List ac) (h:dW o n s out=some d):dW o n {s with tmps:=T } out=some {d with tmps:=T }/\d.tmps=s.tmps:=by
 unfold dW at h ⊢
 cases b:out.eff with
 | keep=>grind[aa.put]
 | set a=>
  rw[b] at h;simp only[D,aa.put] at h ⊢
  cases n with
  | none=>grind
  | some n=>
   cases n <;> grind[aa.setObj]
 | new a=>grind
 | row a e c=>grind
 | fresh a=>
  grind[aa.put]
 | grow a e c=>
  grind[aa.put]
def hZ (T:List ac) (d:Option Tmp) (v:ac):List ac:=match d with|some d=>T.set d v|none=>T
def Ru:Eff->Bool
 | .new _=>false
 | .row _ _ _=>false
 | _=>true
variable {c:Bool} {d x:Tmp} {o:Oper} {s:aa}
theorem yn (s:aa) (d:Option Tmp) (v:ac):s.put d v={s with tmps:=hZ s.tmps d v }:=by cases d <;> rfl
theorem Bq {n:Option Name} {d:aa} {out:Out} (D:o.dst=none∨Ru out.eff=true) (h:dW o n s out=some d) :
  ∃v,(∀T,dW o n {s with tmps:=T } out=some {d with tmps:=hZ T o.dst v })/\d.tmps=hZ s.tmps o.dst v:=by
 rcases D with D|D
 ·refine⟨.undef,fun T=>?_,?_⟩
  ·rw[D];exact (afL D T h).1
  rw[D];exact (afL D s.tmps h).2
 unfold dW at h ⊢
 cases b:out.eff with
 | new a=>grind[Ru]
 | row a e c=>grind[Ru]
 | keep=>
  grind[yn]
 | set a=>
  rw[b] at h;simp only[yn] at h ⊢
  cases n with
  | none=>grind
  | some n=>
   cases n <;> grind[aa.setObj]
 | fresh a=>
  grind[yn]
 | grow a e c=>
  grind[yn,bh]
theorem GN {i:TI} {b:Nat} {c:List ac} {x:ac} {a:Out} (h:jB E i b c x=some a):Ru a.eff=true:=by
 unfold jB at h
 repeat' split at h
 all_goals first
  |(simp at h;done)
  |(cases h;rfl)
theorem U4 {f:Op} (a:isApp f=true) {d:List ac} {g:Option aL} {b:Out} (h:jE E c f d g=some b):Ru b.eff=true:=by
 unfold isApp at a
 split at a
 ·rename_i e i;simp only[jE,lG] at h
  split at h
  ·grind
  ·split at h
   ·split at h
    ·unfold bB at h
     repeat' split at h
     all_goals first
      |(simp at h;done)
      |exact GN h
      |(cases h;rfl)
    ·unfold fS at h
     repeat' split at h
     all_goals first
      |(simp at h;done)
      |(cases h;rfl)
   grind
 grind
theorem oZ {q:Bool} (D:o.dst=none∨isApp o.op=true) {d:aa} (h:aa4 E G q c o s=some d) :
  ∃v,(∀T:List ac,(∀t,(opsL o.op).any (dI t)=true->bq T t=bq s.tmps t)->aa4 E G q c o {s with tmps:=T }=some {d with tmps:=hZ (fV T (kp q o.op) (opsL o.op)) o.dst v }) ∧
   d.tmps=hZ (fV s.tmps (kp q o.op) (opsL o.op)) o.dst v:=by
 unfold aa4 at h ⊢
 split at h
 ·grind
 rename_i e O;obtain⟨v,a,b⟩:=Bq (D.imp id (fun D=>U4 D O)) h;grind[rZ,BV,oR]
theorem Bp {q:Bool} (X:opsL o.op=[.tmp x]) (l:∀a,looks o.op a=none) (n:∀a p e,jE E c o.op a p=some e->e.eff=.keep) (D:o.dst=some d) {k:aa}
  (h:aa4 E G q c o s=some k) :
  ∃j,k={s with tmps:=(fV s.tmps (kp q o.op) [.tmp x]).set d j }/\∀f:aa,bq f.tmps x=bq s.tmps x->aa4 E G q c o f=some {f with tmps:=(fV f.tmps (kp q o.op) [.tmp x]).set d j }:=by
 unfold aa4 at h
 split at h
 ·grind
 rename_i e O;have g:=n _ _ _ O;refine⟨e.val,?_,?_⟩
 ·grind[dW,oR,aa.put]
 intro f b;have V:aE G f (kp q o.op) 0 (opsL o.op)=aE G s (kp q o.op) 0 (opsL o.op):=by
  grind[aE,fm]
 unfold aa4;have i:∀m:aa,∀a,aX m o.op a=none:=fun m a=>by grind[aX]
 rw[i] at O;rw[V,i,O];dsimp only;unfold dW;rw[g,oR,D,X];rfl
theorem Jt {b:Bool} {x:Operand} (c:List ac) (d:Option aL) (a:Out) (h:jE E b (.move x) c d=some a):a.eff=.keep:=by
 simp only[jE,Dv] at h
 grind
theorem BX {b:Bool} {x:Operand} {k:Nat} (c:List ac) (d:Option aL) (a:Out) (h:jE E b (.extract x k) c d=some a):a.eff=.keep:=by
 simp only[jE,va] at h
 grind
theorem Ir {T:List ac} {c:ac} {i j:Option Nat} {f:List Operand} (X:f.any (dI x)=false) (D:f.any (dI d)=false) :
  (fV (fV T j f) i [.tmp x]).set d c=fV ((fV T i [.tmp x]).set d c) j f:=by
 rcases ml T j f with⟨t,k,e⟩|e
 ·have b:t≠x:=fun h=>by grind
  have a:t≠d:=fun h=>by grind
  simp only[e]
  rcases ml T i [.tmp x] with⟨u,l,F⟩|F
  ·have g:u=x:=((show x=u by simp_all[dI])).symm;subst g;simp only[F];rw[bG b,bG (Ne.symm a),bG (Ne.symm b),List.set_comm _ _ b,List.set_comm _ _ a]
  simp only[F];rw[bG (Ne.symm a),List.set_comm _ _ a]
 grind
theorem iP {T:List ac} {t:Tmp} {b:Option Nat} {a:List Operand} (h:a.any (dI t)=false):bq (fV T b a) t=bq T t:=by
 rcases ml T b a with⟨u,c,e⟩|e
 all_goals grind[bG]
theorem adP {x t:Nat} (h:x≠t):[Operand.tmp x].any (dI t)=false:=by
 cases d:[Operand.tmp x].any (dI t) <;> simp_all[dI]
theorem nD {T:List ac} {a:ac} {f:Option Nat} {c:List Operand} (h:c.any (dI d)=false):fV (T.set d a) f c=(fV T f c).set d a:=by
 rcases ml T f c with⟨t,i,e⟩|e
 ·have b:t≠d:=fun g=>by grind
  rw[e,e,bG (Ne.symm b),List.set_comm _ _ b]
 grind
theorem sX {T:List ac} {P:Option Tmp} {v:ac} (h:P≠some x):bq (hZ T P v) x=bq T x:=by
 cases P with
 | none=>rfl
 | some e=>exact bG (fun b=>h (by rw[b]))
theorem oQ {T:List ac} {P:Option Tmp} {v a:ac} (h:P≠some d):(hZ T P v).set d a=hZ (T.set d a) P v:=by
 cases P with
 | none=>rfl
 | some e=>exact List.set_comm _ _ (fun b=>h (by rw[b]))
theorem Hj {T:List ac} {P:Option Tmp} {v:ac} {a:Option Nat} (h:P≠some x):fV (hZ T P v) a [.tmp x]=hZ (fV T a [.tmp x]) P v:=by
 cases P with
 | none=>rfl
 | some e=>exact nD (adP (fun b=>h (by rw[b])))
theorem J9 {q h e:Bool} {p:Oper} (X:opsL o.op=[.tmp x]) (l:∀f,looks o.op f=none) (k:∀f z g,jE E c o.op f z=some g->g.eff=.keep) (D:o.dst=some d) (w:p.dst=none∨isApp p.op=true)
  (a:(opsL p.op).any (dI x)=false) (b:(opsL p.op).any (dI d)=false) (t:p.dst≠some x) (r:p.dst≠some d) {i j:aa} (O:aa4 E G q c o s=some i) (u:aa4 E G h e p i=some j) :
  ∃m,aa4 E G h e p s=some m/\aa4 E G q c o m=some j:=by
 obtain⟨A,rfl,n⟩:=Bp X l k D O;obtain⟨v,y,K⟩:=oZ w u;refine⟨_,y s.tmps (by
  grind[bG,iP,adP]),?_⟩
 grind[sX,iP,Hj,oQ,Ir]
theorem Nv {A:E0} {c:List Oper} {p:Oper} (q:ju o p=true) {K:aa->Prop} (h:mT A E G H c o (mT A E G H c p K) s):mT A E G H c p (mT A E G H c o K) s:=by
 unfold ju at q;simp at q;obtain⟨⟨⟨⟨y,z⟩,I⟩,g⟩,f⟩:=q;have e:∀(r:Oper) (K:aa->Prop) (s:aa),r.guard=none->lK r.op=none->(mT A E G H c r K s↔∃w,aa4 E G (readOnly H.moves c r) (lQ H c r) r s=some w/\K w):=by
  grind[mT,dC,lQ]
 have t:lK o.op=none/\∃x d,opsL o.op=[.tmp x]/\(∀i,looks o.op i=none)/\(∀i M m,jE E (lQ H c o) o.op i M=some m->m.eff=.keep)/\o.dst=some d/\(opsL p.op).any (dI x)=false/\(opsL p.op).any (dI d)=false/\p.dst≠some x/\p.dst≠some d:=by
  split at f
  ·rename_i x k d j F;simp only[Bool.and_eq_true,Bool.not_eq_true',bne_iff_ne] at f;rw[j];exact⟨rfl,x,d,rfl,fun _=>rfl,BX,F,f.1.1.1,f.1.1.2,f.1.2,f.2⟩
  ·rename_i x d j F;simp only[Bool.and_eq_true,Bool.not_eq_true',bne_iff_ne] at f;rw[j];exact⟨rfl,x,d,rfl,fun _=>rfl,Jt,F,f.1.1.1,f.1.1.2,f.1.2,f.2⟩
  simp at f
 obtain⟨n,x,d,X,l,L,D,a,b,v,u⟩:=t;obtain⟨P,j,h⟩:=(e o _ _ y n).1 h;obtain⟨N,F,h⟩:=(e p _ _ z g).1 h;obtain⟨O,B,C⟩:=J9 X l L D I a b v u j F;exact (e p _ _ z g).2 ⟨O,B,(e o _ _ y n).2 ⟨N,C,h⟩⟩
theorem mr (W:E.Ok P) (g:Array Oper) (Q:aa->Prop) (y:Exit->Act->World->Prop) :
  ∀(x:List Nat) (e:Array Bool) (l:Nat) (s:aa),iR g x e=true->x.length<=l->mS (ay P G) E G H g.toList Q (dZ g.toList x) s->∀(w:World) (R:Own) (N:Name->Option Nat) (n:Act) (Z U t z:List Nat),
   dw G w R N n.tmps.toList s undef .undef [] Z U t z->n.defers=D->(∀M w',Sm G D Q w R N z M w'->y .normal M w')->wpAnyIn (rdF rd) 1 P .any g y l e n w
 | [],e,l,s,q,_,h,w,R,N,n,Z,U,t,z,X,T,S=>by
  simp only[iR] at q;exact wpAnyIn_done (by grind) (S _ _ ⟨s,R,N,Z,U,t,h,X,T,aZ _,fun _ _ h=>h⟩) l
 | _::_,_,0,_,_,V,_,_,_,_,_,_,_,_,_,_,_,_=>by grind
 | [i],e,l+1,s,q,V,h,w,R,N,n,Z,U,t,z,X,T,S=>by
  simp only[iR,Bool.and_eq_true] at q;have m:Region.ready .any g e=[i]:=by grind
  obtain⟨_,o,O,_⟩:=mem_ready.1 (show i∈Region.ready .any g e by grind);have v:g.toList[i]?=some o:=by grind
  simp only[dZ,v,mS,iT] at h;refine wpAnyIn_all m (by simp) ?_;intro j hj;simp at hj;subst hj;refine wpOpIn_mono ?_ (jv W g O (K:=Q) h X T);rintro M w' h2;exact wpAnyIn_done (by grind[bK]) (S _ _ h2) l
 | i::j::r,e,l+1,s,q,V,h,w,R,N,n,Z,U,t,z,X,T,S=>by
  simp only[iR,Bool.or_eq_true] at q
  rcases q with q|q
  ·simp only[Bool.and_eq_true] at q;have m:Region.ready .any g e=[i]:=by simpa using q.1
   obtain⟨_,o,O,_⟩:=mem_ready.1 (show i∈Region.ready .any g e by rw[m];simp);have v:g.toList[i]?=some o:=by simpa using O
   rw[dZ,v] at h;simp only[mS,iT] at h;refine wpAnyIn_all m (by simp) ?_;intro k u;simp at u;subst u;refine wpOpIn_mono ?_ (jv W g O (K:=mS (ay P G) E G H g.toList Q (dZ g.toList (j::r))) h X T);rintro M w' ⟨s',R',N',C,B,A,hq,L,I,J,c⟩;exact mr W g Q y (j::r) _ l s' q.2 (by simp at V ⊢;omega) hq w' R' N' M C B A z L I (fun a2 w2 h2=>S a2 w2 (h2.trans J c))
  simp only[Vy,Bool.and_eq_true,Bool.or_eq_true,beq_iff_eq] at q;obtain⟨⟨⟨⟨m,a4⟩,a5⟩,F⟩,af⟩:=q
  split at F
  ·rename_i o p O hp;have v:g.toList[i]?=some o:=by simpa using O
   have az:g.toList[j]?=some p:=by simpa using hp
   simp only[dZ,v,az,mS,iT] at h;have a6:=Nv F h;have al:∀(a b:Nat) (oa ob:Oper),g[a]?=some oa->g[b]?=some ob->Region.ready .any g (e.setIfInBounds a true)=[b]->iR g r ((e.setIfInBounds a true).setIfInBounds b true)=true->
     mT (ay P G) E G H g.toList oa (mT (ay P G) E G H g.toList ob (mS (ay P G) E G H g.toList Q (dZ g.toList r))) s->
     wpOpIn (rdF rd) 1 P g y a (wpAnyIn (rdF rd) 1 P .any g y l (e.setIfInBounds a true)) n w:=by
    intro a b oa ob av ax d ao h;refine wpOpIn_mono ?_ (jv W g av h X T);rintro M w' ⟨s',R',N',C,B,A,hq,L,I,J,c⟩
    cases l with
    | zero=>simp at V
    | succ l=>
     refine wpAnyIn_all d (by simp) ?_;intro k u;simp at u;subst u;refine wpOpIn_mono ?_ (jv W g ax hq L I);rintro a2 w2 ⟨s2,R2,N2,ae,ad,ab,a0,a1,aq,ar,am⟩;exact mr W g Q y r _ l s2 ao (by simp at V;omega) a0 w2 R2 N2 a2 ae ad ab z a1 aq (fun a3 w3 f=>S a3 w3 ((f.trans ar am).trans J c))
   have hi:wpOpIn (rdF rd) 1 P g y i (wpAnyIn (rdF rd) 1 P .any g y l (e.setIfInBounds i true)) n w:=al i j o p O hp a4 af h;have an:(e.setIfInBounds j true).setIfInBounds i true=(e.setIfInBounds i true).setIfInBounds j true:=by
    by_cases ag:i=j
    ·subst ag;rfl
    exact Array.setIfInBounds_comm _ _ (Ne.symm ag)
   have hj:wpOpIn (rdF rd) 1 P g y j (wpAnyIn (rdF rd) 1 P .any g y l (e.setIfInBounds j true)) n w:=al j i p o hp O a5 (by rw[an];exact af) a6
   rcases m with m|m
   ·refine wpAnyIn_all m (by simp) ?_;intro k u;simp at u
    rcases u with rfl|rfl
    ·exact hi
    exact hj
   refine wpAnyIn_all m (by simp) ?_;intro k u;simp at u
   rcases u with rfl|rfl
   ·exact hj
   exact hi
  simp at F
end
end Go.Tp
namespace Go.Tp
section
variable {P:Program} {E:bz} {G:bA} {H:Hints}
variable (P E G H) in
def Z3 (ops:Array Oper) (h:aw) (i:Nat) (K:aa->Prop) (s:aa):Prop:=
 ∃(lone:Bool) (o:Oper),(i,lone)∈h.pre/\ops[i]?=some o/\(if lone=true then KV (ay P G) E G H (aK H ops.toList h.pre) h.tk ops.toList o K s else ∃a,eK E G (aK H ops.toList h.pre||quietAt H ops.toList h.pre i) ops.toList o s=some a/\K (s.put o.dst a))
variable {s:aa}
theorem qc {z:Bool} {B:List Nat} {l:List Oper} {o:Oper} {K x:aa->Prop} (k:∀s,K s->x s) (h:KV (ay P G) E G H z B l o K s):KV (ay P G) E G H z B l o x s:=by
 unfold KV at h ⊢
 split
 ·grind
 rename_i b w;simp only[w] at h
 split
 ·rename_i d;simp only[d,if_true] at h
  split
  ·rename_i c e;simp only[e] at h
   split
   ·rename_i f y F A;simp only[A] at h
    cases r:hO H o with
    | true=>rw[r] at h;exact h.mono fun v q n u m p=>⟨(u m p).1,k _ (u m p).2⟩
    | false=>rw[r] at h;exact h.mono fun v q n u m p=>⟨(u m p).1,k _ (u m p).2⟩
   rename_i A;simp[A] at h
  rename_i e;simp only[e] at h
  split
  ·rename_i t T;simp only[T] at h
   split
   ·rename_i D i;simp only[i] at h
    split
    ·rename_i C g;simp only[g] at h;exact k _ h
    rename_i g;simp[g] at h
   rename_i i;simp[i] at h
  rename_i T;simp only[T] at h
  split
  ·rename_i j;simp only[j] at h
   split
   ·rename_i C g;simp only[g] at h;exact k _ h
   rename_i g;simp[g] at h
  rename_i j;simp only[j] at h
  split
  ·rename_i a A;simp only[A] at h;exact k _ h
  rename_i A;simp[A] at h
 rename_i d;simp only[d] at h;exact k _ h
theorem Qc {c:Array Oper} {h:aw} {i:Nat} {K d:aa->Prop} (k:∀s,K s->d s) (e:Z3 P E G H c h i K s):Z3 P E G H c h i d s:=by
 obtain⟨lone,o,a,b,f⟩:=e;refine⟨lone,o,a,b,?_⟩
 grind[qc]
theorem pq {all:List Oper} {a:List (Nat×Bool)}:∀{j:Nat} {o:Oper} {c:Call},(j,true)∈a->all[j]?=some o->lK o.op=some c->hO H o=false->aK H all a=false:=by
 induction a <;> grind[aK]
theorem H8 {N q m:Bool} {n:List Oper} {g h:Oper} {a:ac} (A:ju g h=true) {r:aa} (I:eK E G N n g s=some a) (O:aa4 E G q m h (s.put g.dst a)=some r) :
  ∃M,aa4 E G q m h s=some M/\M.put g.dst a=r/\eK E G N n g M=some a:=by
 unfold ju at A;simp at A;obtain⟨⟨⟨⟨Q,_⟩,R⟩,_⟩,i⟩:=A;have B:∃x d,opsL g.op=[.tmp x]/\g.dst=some d/\lK g.op=none/\oE g.op=false/\(∀c,looks g.op c=none)/\(opsL h.op).any (dI x)=false/\(opsL h.op).any (dI d)=false/\h.dst≠some x/\h.dst≠some d:=by
  split at i
  ·rename_i y k u j F;simp only[Bool.and_eq_true,Bool.not_eq_true',bne_iff_ne] at i;exact⟨y,u,by rw[j];rfl,F,by rw[j];rfl,by rw[j];rfl,fun _=>by rw[j];rfl,i.1.1.1,i.1.1.2,i.1.2,i.2⟩
  ·rename_i y u j F;simp only[Bool.and_eq_true,Bool.not_eq_true',bne_iff_ne] at i;exact⟨y,u,by rw[j];rfl,F,by rw[j];rfl,by rw[j];rfl,fun _=>by rw[j];rfl,i.1.1.1,i.1.1.2,i.1.2,i.2⟩
  grind
 obtain⟨x,d,X,D,V,U,l,S,b,H,C⟩:=B;rw[D] at O ⊢;obtain⟨v,p,K⟩:=oZ R O;have p:=p s.tmps (by
  grind[aa.put,bG])
 have J:({(s.put (some d) a) with tmps:=s.tmps }:aa)=s:=rfl;rw[J] at p;refine⟨_,p,?_,?_⟩
 ·obtain⟨Z,W,f,Y⟩:=r;simp only[aa.put] at K ⊢;rw[K,nD b,oQ C]
 have o:bq (hZ (fV s.tmps (kp q h.op) (opsL h.op)) h.dst v) x=bq s.tmps x:=by
  rw[sX H,iP S]
 have w:aE G ({r with tmps:=hZ (fV s.tmps (kp q h.op) (opsL h.op)) h.dst v }:aa) none 0 (opsL g.op)=aE G s none 0 (opsL g.op):=by
  rw[X];simp only[aE,fm,o]
 have z:∀(P:aa) c,aX P g.op c=none:=fun P c=>by unfold aX;rw[l]
 unfold eK at I ⊢;simp only[Q,dC,w,z] at I ⊢;exact I
theorem Fl {C q h:Bool} {j:List Oper} {c m:Oper} {a:ac} (A:Bs c m=true) {z:aa} (w:eK E G C j c s=some a) (H:aa4 E G q h m (s.put c.dst a)=some z) :
  ∃B,aa4 E G q h m s=some B/\B.put c.dst a=z/\eK E G C j c B=some a:=by
 unfold Bs at A;simp at A;obtain⟨⟨⟨⟨M,_⟩,N⟩,_⟩,k⟩:=A;have r:∃g T d,c.op=.load T (.global g)/\c.dst=some d/\(opsL m.op).any (dI d)=false/\m.dst≠some d:=by
  grind
 obtain⟨g,T,d,l,D,b,u⟩:=r;rw[D] at H ⊢;obtain⟨v,n,K⟩:=oZ N H;have n:=n s.tmps (by
  grind[aa.put,bG])
 have x:({(s.put (some d) a) with tmps:=s.tmps }:aa)=s:=rfl;refine⟨_,n,?_,?_⟩
 ·obtain⟨Q,O,f,P⟩:=z;simp only[aa.put] at K ⊢;rw[K,nD b,oQ u]
 have o:∀i:aa,aE G i none 0 (opsL c.op)=aE G s none 0 (opsL c.op):=fun i=>by rw[l];rfl
 have p:∀i:aa,aX i c.op (aE G s none 0 (opsL c.op))=none:=fun i=>by
  rw[l];show aX i (.load T (.global g)) (aE G s none 0 [.global g])=none;simp only[aE,fm]
  cases G g <;> rfl
 unfold eK at w ⊢;simp only[M,dC,o,p] at w ⊢;exact w
theorem MJ {H q j:Bool} {c:Array Oper} {i g:Oper} {a:ac} (m:uw g=true) (I:∀d,i.dst=some d->d∉g.looksAt c) (b:∀d,i.dst=some d->g.dst≠some d) (f:∀d,g.dst=some d->d∉i.looksAt c) {J:aa} (M:eK E G H c.toList i s=some a) (N:aa4 E G q j g (s.put i.dst a)=some J) :
  ∃A,aa4 E G q j g s=some A/\A.put i.dst a=J/\eK E G H c.toList i A=some a:=by
 unfold uw at m
 split at m
 rotate_left
 ·grind
 rename_i x u n l;have X:opsL g.op=[.tmp x]:=by rw[n];rfl
 have r:x∈g.looksAt c:=by
  have:=iH (o:=g) (all:=c.toList) (t:=x) (by grind)
  simp_all
 obtain⟨B,F,k⟩:=Bp X (fun _=>by rw[n];rfl) (fun K R P h=>by
  rw[n] at h;simp only[jE,Dv] at h
  grind) l N
 have y:bq (s.put i.dst a).tmps x=bq s.tmps x:=dm (fun e=>I x e r);have O:=k s y.symm;refine⟨_,O,?_,?_⟩
 ·rw[F]
  cases D:i.dst with
  | none=>rfl
  | some d=>
   have w:x≠d:=fun e=>I d D (e ▸ r)
   have v:u≠d:=fun e=>b d D (by grind)
   have p:List.any [Operand.tmp x] (dI d)=false:=by
    simp only[List.any_cons,List.any_nil,Bool.or_false,dI]
    cases L:Nat.beq x d with
    | false=>rfl
    | true=>exact absurd (Nat.eq_of_beq_eq_true L) w
   simp only[aa.put];rw[nD p,List.set_comm _ _ v]
 rw[←M];refine gG ?_ (.of_eq rfl (fun _=>rfl));intro t T;have z:u≠t:=fun e=>f u l (by rw[e];simpa using T)
 show de (bq ((fV s.tmps (kp q g.op) [.tmp x]).set u B) t)=_;rw[bG z];unfold fV
 cases Q:kp q g.op with
 | none=>rfl
 | some k=>
  cases k with
  | zero=>
   have C:=kC (s:=s) (x:=.tmp x) t;simp only[bF,List.getElem?_cons_zero] at C;simpa using C
  | succ k=>rfl
theorem TA {g:Array Oper} {h:aw} (ba:ew g h=true) {i j:Nat} {w q:Oper} {a:ac} (hi:g[i]?=some w) (bi:(i,false)∈h.pre) (hj:g[j]?=some q) (V:w.apart g q=true)
  (a2:∀t k B,fk q.op=some t->k∈gk g.toList t h.tk->g.toList[k]?=some B->∀e∈B.after,Region.binds .any e=true->e.on≠i) {K:aa->Prop}
  (hF:∀c,lK q.op=some c->hO H q=false->mK H q=false->(j,true)∈h.pre->(aK H g.toList h.pre||quietAt H g.toList h.pre i)=false)
  (hG:iI q.op=true->(j,true)∈h.pre->uw q=true∨(ju w q=true∨Bs w q=true))
  (hy:eK E G (aK H g.toList h.pre||quietAt H g.toList h.pre i) g.toList w s=some a) (p:Z3 P E G H g h j K (s.put w.dst a)) :
  Z3 P E G H g h j (fun s'=>eK E G (aK H g.toList h.pre||quietAt H g.toList h.pre i) g.toList w s'=some a/\K (s'.put w.dst a)) s:=by
 obtain⟨h1,h2,h3⟩:=Oper.apart_spec V;obtain⟨lone,o,hm,O,p⟩:=p;rw[hj] at O;simp at O;subst O;refine⟨lone,q,hm,hj,?_⟩;have Y:te q g.toList s (s.put w.dst a):=FC (by simp_all);have W:∀(s:aa) (v:ac),te w g.toList s (s.put q.dst v):=fun s v=>FC (by simp_all)
 have ad:∀{fh:Bool} (s:aa) (d:Option Tmp) (v:ac),yf fh s (s.put d v):=fun s d v=>.of_eq (dB s d v).1 (fun _=>(dB s d v).2.1)
 split
 ·rename_i l;rw[if_pos l] at p;subst l;unfold KV at p ⊢;rw[pI Y] at p
  split
  ·rename_i hw;simp[hw] at p
  rename_i b hw;simp only[hw] at p
  split
  ·rename_i hb;simp only[hb,if_true] at p
   split
   ·rename_i c hc;simp only[hc] at p;have N:=vW hc;rw[EZ (fun d D ae=>h1 d D (List.mem_append_left _ (List.mem_filterMap.2 ⟨.tmp d,by rw[N];simpa [Op.operands] using ae,rfl⟩)))] at p
    cases L:dX E G H c s with
    | none=>rw[L] at p;simp at p
    | some x=>
     obtain⟨f,bt,C⟩:=x;rw[L] at p;simp only[Option.map_some] at p;obtain⟨ag,X⟩:=EY L w g.toList;have e1:(C.put w.dst a).heap=C.heap:=(dB C w.dst a).2.1;have F:(C.put w.dst a).next=C.next:=(dB C w.dst a).2.2;rw[e1,F] at p;dsimp only at p ⊢
     cases az:hO H q with
     | true=>
      rw[az] at p;refine p.mono fun v heap n hq b1 Q=>⟨(hq b1 Q).1,?_,?_⟩
      ·rw[←hy];refine gG ?_ ?_
       ·have k1:te w g.toList s {C with next:=n }:=ag;exact k1.trans (W _ v)
       exact .of_eq (by rw[(dB _ q.dst v).1];exact X) (fun _=>by rw[(dB _ q.dst v).2.1];exact (mW L:C.heap=s.heap))
      have:=(hq b1 Q).2
      have e:(⟨(C.put w.dst a).tmps,(C.put w.dst a).locs,C.heap,n⟩:aa)=({C with next:=n }:aa).put w.dst a:=by cases w.dst <;> rfl
      rw[e,put_comm h2] at this;exact this
     | false=>
      rw[az] at p;refine p.mono fun v heap n hq b1 Q=>⟨(hq b1 Q).1,?_,?_⟩
      ·cases a6:mK H q with
       | true=>
        refine H9 ?_ ?_ hy
        ·have k1:te w g.toList s {C with heap:=heap,next:=n }:=ag;exact k1.trans (W _ v)
        intro m ob an;have z:=(hq b1 Q).1 a6;rw[afo]
        cases m with
        | loc k=>simp only[aa.obj] at an ⊢;rw[X];exact an
        | out k=>simp only[aa.obj] at an ⊢;exact z _ _ (by rw[(mW L:C.heap=s.heap)];exact an)
       | false=>
        have bf:=hF c hc az a6 hm;rw[←hy];refine gG ?_ ?_
        ·have k1:te w g.toList s {C with heap:=heap,next:=n }:=ag;exact k1.trans (W _ v)
        exact .of_eq (by rw[(dB _ q.dst v).1];exact X) (fun hf=>by rw[bf] at hf;simp at hf)
      have:=(hq b1 Q).2
      rw[Pj,put_comm h2] at this;exact this
   rename_i hc;simp only[hc] at p
   split
   ·rename_i t ht;simp only[ht] at p;obtain⟨_,rr,a4⟩:=tY ht;have a7:t∈q.looksAt g:=by
     have:=iH (o:=q) (all:=g.toList) (t:=t) (by rw[a4];simp)
     simpa using this
    have I:∀d,w.dst=some d->Operand.tmp d∉opsL q.op:=fun d D ae=>h1 d D (by have:=iH (o:=q) (all:=g.toList) ae;simpa using this)
    have a9:ae5 h.tk t (s.put w.dst a)=ae5 h.tk t s:=by unfold ae5;rw[dm (fun e=>h1 t e a7)]
    rw[a9] at p
    -- the loads that the append owns by are others than oi
    have ao:∀k∈gk g.toList t (ae5 h.tk t s),k≠i:=fun k S e=>by
     obtain⟨_,B,y,bb⟩:=kI (mZ S);rw[e] at y
     have:g[i]?=some B:=by simpa using y
     rw[hi] at this;simp at this;subst this;exact h1 t bb a7
    have A:∀k∈gk g.toList t (ae5 h.tk t s),∀B,g.toList[k]?=some B->(B.dst=some t/\w.dst≠some t/\t∉w.looksAt g)/\∀T u,B.op=.load T (.tmp u)->w.dst≠some u:=fun k S B y=>by
     obtain⟨bk,o2,ax,a1⟩:=kI (mZ S);rw[ax] at y;simp at y;subst y;obtain⟨⟨d,e1,F,e3⟩,e4⟩:=mO ba (i:=k) (by simp[bk]) (by simpa using ax) bi (Ne.symm (ao k S)) hi;rw[a1] at e1;simp at e1;subst e1;exact⟨⟨a1,F,e3 rfl⟩,fun T u N=>by
      rcases e4 T u N with h|⟨e,he,hb,br⟩
      ·exact h
      exact absurd br (a2 t k o2 ht (mZ S) ax e he hb)⟩
    cases a0:dM (aK H g.toList h.pre) g.toList (gk g.toList t (ae5 h.tk t s)) s with
    | none=>
     exfalso
     -- what is shown with the value in its slot is shown without
     have:∀(tk:List Nat) (s U:aa),(∀k∈tk,∀B,g.toList[k]?=some B->(B.dst=some t/\w.dst≠some t/\t∉w.looksAt g)/\∀T u,B.op=.load T (.tmp u)->w.dst≠some u)->dM (aK H g.toList h.pre) g.toList tk (s.put w.dst a)=some U->∃C,dM (aK H g.toList h.pre) g.toList tk s=some C:=by
      intro tk
      induction tk with
      | nil=>intro s U _ _;exact⟨s,rfl⟩
      | cons k r ih=>
       intro s U hh bg;obtain⟨B,T,u,t',n,a8,cs,es,bu,y,N,D,J,hu,bo,a3,be,aq,af⟩:=aef bg;obtain⟨⟨q1,q2,_⟩,q3⟩:=hh k (by simp) B y;have bd:=q3 T u N;rw[D] at q1;simp at q1;subst q1;rw[dm bd] at hu;rw[dm q2] at aq;rw[afo] at a3;have e0:(({s.put w.dst a with tmps:=(s.put w.dst a).tmps.set t' (.own es)}:aa).kn n (.cells (bI a8 [.dat (.slice es)] cs)))=(({s with tmps:=s.tmps.set t' (.own es)}:aa).kn n (.cells (bI a8 [.dat (.slice es)] cs))).put w.dst a:=by
        rw[←arX];congr 1
        cases bc:w.dst with
        | none=>rfl
        | some d=>
         have bn:d≠t':=fun e=>q2 (by rw[bc,e])
         simp only[aa.put];rw[List.set_comm _ _ bn]
       rw[e0] at af;obtain⟨s3,bs⟩:=ih _ _ (fun k S=>hh k (by simp[S])) af;refine⟨s3,?_⟩;simp only[dM,y,N,D,J,hu,if_pos bo,a3,be,aq];exact bs
     cases ar:dM (aK H g.toList h.pre) g.toList (gk g.toList t (ae5 h.tk t s)) (s.put w.dst a) with
     | none=>simp[ar] at p
     | some U=>
      obtain⟨C,R⟩:=this _ _ _ A ar;rw[a0] at R;simp at R
    | some U=>
     have a5:=zq (v:=a) (dst:=w.dst) _ _ _ (fun k S B y _=>by rw[((A k S B y).1).1];exact ((A k S B y).1).2.1) (fun k S B T u y N=>(A k S B y).2 T u N) a0;simp only[a5] at p;obtain⟨q1,q3,q4⟩:=zp _ _ _ a0
     cases z:aa4 E G false false q U with
     | none=>
      exfalso
      cases Z:aa4 E G false false q (U.put w.dst a) with
      | none=>simp[Z] at p
      | some C=>
       -- the same operands
       unfold aa4 at z Z;rw[mM _ _ _ _ I] at Z;have bl:∀s':aa,looks q.op (aE G U (kp false q.op) 0 (opsL q.op))=none->aX s' q.op (aE G U (kp false q.op) 0 (opsL q.op))=none:=fun s' l=>by unfold aX;rw[l]
       cases al:jE E false q.op (aE G U (kp false q.op) 0 (opsL q.op)) (aX (U.put w.dst a) q.op (aE G U (kp false q.op) 0 (opsL q.op))) with
       | none=>simp[al] at Z
       | some out=>
        obtain⟨S,l⟩:=qH ht al;rw[bl _ l] at al z;rw[al] at z;simp[dW,S] at z
     | some C=>
      obtain⟨v,he,av⟩:=uW ht z;have am:=av w.dst a I h2;simp only[am] at p;dsimp only;rw[z];refine⟨?_,p⟩;rw[←hy];subst he;refine gG ?_ ?_
      ·refine te.trans (s':={U with tmps:=U.tmps.set t (de (bq U.tmps t))}) ?_ (W _ v);intro t' aq;have e1:=kC (s:=U) (x:=.tmp t) t';simp only[bF,List.getElem?_cons_zero] at e1;rw[e1,q4 t' (fun k S B y e=>by
        obtain⟨⟨g1,_,g3⟩,_⟩:=A k S B y;rw[g1] at e;simp at e;subst e;exact g3 (by simpa using aq))]
      exact q1.trans (.of_eq (by rw[(dB _ q.dst v).1]) (fun _=>by rw[(dB _ q.dst v).2.1]))
   rename_i ht;simp only[ht] at p
   split
   ·rename_i z;simp only[z] at p
    cases R:aa4 E G (readOnly H.moves g.toList q) (lQ H g.toList q) q (s.put w.dst a) with
    | none=>rw[R] at p;simp at p
    | some C=>
     rw[R] at p;obtain⟨s3,k1,k2,M⟩:∃s3,aa4 E G (readOnly H.moves g.toList q) (lQ H g.toList q) q s=some s3/\s3.put w.dst a=C/\eK E G (aK H g.toList h.pre||quietAt H g.toList h.pre i) g.toList w s3=some a:=by
      rcases hG z hm with bm|V
      ·exact MJ bm (by simpa using h1) h2 (by simpa using h3) hy R
      rcases V with V|V
      ·exact H8 V hy R
      exact Fl V hy R
     rw[k1];exact⟨M,by rw[k2];exact p⟩
   rename_i z;simp only[z] at p;rw[gG Y (ad _ _ _)] at p
   cases ab:eK E G (aK H g.toList h.pre) g.toList q s with
   | none=>rw[ab] at p;exact p.elim
   | some b=>
    rw[ab] at p;dsimp only at p ⊢;refine⟨?_,?_⟩
    ·rw[←hy];exact gG (W _ _) (ad _ _ _)
    rw[put_comm h2] at p;exact p
  rename_i hb;simp only[hb] at p;refine⟨?_,?_⟩
  ·rw[←hy];exact gG (W _ _) (ad _ _ _)
  have:=p
  simp only[Bool.false_eq_true,if_false] at this;rw[put_comm h2] at this;exact this
 rename_i l;rw[if_neg l] at p;obtain⟨b,ab,am⟩:=p;rw[gG Y (ad _ _ _)] at ab;refine⟨b,ab,?_,?_⟩
 ·rw[←hy];exact gG (W _ _) (ad _ _ _)
 rw[put_comm h2] at am;exact am
variable (P E G H) in
def qO (ops:Array Oper) (h:aw) (p:Array Bool) (T:aa->Prop):Nat->Array Bool->aa->Prop
 | 0,listed,s=>listed=p/\T s
 | fuel+1,listed,s=>
  (listed=p/\T s)∨(listed≠p/\Region.ready .any ops listed≠[]/\∀i∈Region.ready .any ops listed,Z3 P E G H ops h i (qO ops h p T fuel (bK listed i)) s) ∨
  (∃i oi a,bK listed i=p/\oB ops h p i=true/\ops[i]?=some oi/\(i,false)∈h.pre/\i∈Region.ready .any ops listed/\eK E G (aK H ops.toList h.pre||quietAt H ops.toList h.pre i) ops.toList oi s=some a/\T (s.put oi.dst a))
variable {a:Array Bool} {i:Nat}
theorem cJ {b:Array Oper} (h:i∈Region.ready .any b a) (d:a.size=b.size):a[i]?=some false:=by
 obtain⟨e,o,O,_⟩:=mem_ready.1 h;have c:i < b.size:=(Array.getElem?_eq_some_iff.1 O).1;simp_all
theorem tB {p:Array Bool} (h:a[i]?=some false) (e:bK a i=p):p.setIfInBounds i false=a:=by
 grind[bK]
def fp (b:Array Oper) (a:Array Bool):Prop:=∀(d:Nat) (o:Oper),a[d]?=some true->b[d]?=some o->∀e∈o.after,Region.binds .any e=true->a.getD e.on false=true
theorem fp.step {f:Array Oper} (h:fp f a) {j:Nat} (l:j∈Region.ready .any f a):fp f (bK a j):=by
 intro d o D O e k i
 by_cases g:d=j
 ·subst g;obtain⟨_,m,c,b⟩:=mem_ready.1 l;rw[O] at c;simp at c;subst c;exact getD_set_true (b e k i)
 unfold bK at D;rw[Array.getElem?_setIfInBounds_ne (Ne.symm g)] at D;exact getD_set_true (h d o D O e k i)
theorem L0 {h:Array Oper} {c:Array Bool} (j:fp h c) (q:c[i]?=some false) (l:waited h (bK c i) i=true):False:=by
 obtain⟨d,D,e⟩:=List.any_eq_true.1 l;simp only[Bool.and_eq_true] at e;obtain⟨⟨a,b⟩,f⟩:=e;have k:d≠i:=by grind
 split at f
 ·rename_i o O;obtain⟨p,m,g⟩:=Array.any_eq_true'.1 f;simp at g;have n:c[d]?=some true:=by
   unfold bK at b;rw[getD_set_ne false (Ne.symm k),Array.getD_eq_getD_getElem?] at b
   grind
  have:=j d o n O p m g.1
  simp_all
 grind
theorem AD {g:Array Oper} {c p:Array Bool} (m:fp g c) (s:c[i]?=some false) (e:bK c i=p) (l:(waited g p i||Region.ready .any g (p.setIfInBounds i false)==[i])=true):Region.ready .any g c=[i]:=by
 have k:=tB s e;rw[Bool.or_eq_true] at l
 rcases l with l|l
 ·obtain⟨d,D,h⟩:=List.any_eq_true.1 l;simp only[Bool.and_eq_true] at h;obtain⟨⟨a,b⟩,f⟩:=h;have n:d≠i:=by grind
  split at f
  ·rename_i o O;obtain⟨t,q,j⟩:=Array.any_eq_true'.1 f;simp at j;have r:c[d]?=some true:=by
    rw[←e] at b;unfold bK at b;rw[getD_set_ne false (Ne.symm n),Array.getD_eq_getD_getElem?] at b
    grind
   have:=m d o r O t q j.1
   simp_all
  grind
 grind
theorem tI {d:Array Oper} {a:Array Bool} (c:fp d a):∀(f i j:Nat),a.getD i false=true->reach d.toList f i j=true->a.getD j false=true
 | 0,_,_,_,h=>by grind[reach]
 | f+1,i,j,m,h=>by
  simp only[reach] at h
  split at h
  ·rename_i o O;obtain⟨e,n,b⟩:=List.any_eq_true.1 h;simp at b;have k:a[i]?=some true:=by
    rw[Array.getD_eq_getD_getElem?] at m
    grind
   have l:=c i o k (by grind) e (by grind) b.1
   rcases b.2 with g|g
   ·grind
   exact tI c f e.on j l g
  grind
theorem lX {c:Array Oper} (k:fp c a) {f j:Nat} (R:i∈Region.ready .any c a) (h:reach c.toList f i j=true) (n:a.getD j true=false):False:=by
 obtain⟨_,o,O,d⟩:=mem_ready.1 R;have l:a.getD j false=true:=by
  cases f with
  | zero=>grind[reach]
  | succ f=>
   have g:c.toList[i]?=some o:=by grind
   simp only[reach,g] at h;obtain⟨e,m,b⟩:=List.any_eq_true.1 h;simp at b;grind[tI]
 grind
theorem xN {n:Array Oper} {h:aw} (a7:ew n h=true) (a6:oV n h=true) (Y:gJ n h=true) {p:Array Bool} {T:aa->Prop} {K:Oper} {a:ac} (hi:n[i]?=some K) (hm:(i,false)∈h.pre)
  (u:(waited n p i||Region.ready .any n (p.setIfInBounds i false)==[i])=true∨oB n h p i=true) (w:p[i]?=some true) :
  ∀(q:Nat) (m:Array Bool) (s:aa),m.size=n.size->fp n m->
   (∀j C,n[j]?=some C->j≠i->m.getD j true=false->(∀e∈C.after,Region.binds .any e=true->e.on≠i)->K.apart n C=true)->
   i∈Region.ready .any n m->eK E G (aK H n.toList h.pre||quietAt H n.toList h.pre i) n.toList K s=some a->
   qO P E G H n h p T q (bK m i) (s.put K.dst a)->qO P E G H n h p T (q+1) m s:=by
 intro q
 induction q with
 | zero=>
  intro m s N x y Q hy W;have r:=cJ Q N;have al:m≠p:=fun e=>by grind
  rcases u with u|u
  rotate_left
  ·exact .inr (.inr ⟨i,K,a,W.1,u,hi,hm,Q,hy,W.2⟩)
  have ad:=AD x r W.1 u;refine .inr (.inl ⟨al,fun h=>(by grind),fun j R=>?_⟩);have z:=R;rw[ad] at z;simp at z;subst z;exact⟨false,K,hm,hi,by grind⟩
 | succ q ih=>
  intro m s N x y Q hy W;have r:=cJ Q N;have al:m≠p:=fun e=>by rw[e,w] at r;simp at r
  by_cases v:bK m i=p/\oB n h p i=true/\¬(waited n p i||Region.ready .any n (p.setIfInBounds i false)==[i])=true
  ·have hT:T (s.put K.dst a):=by
    rcases W with⟨_,hT⟩|⟨Z,_⟩|⟨i',ao,a',e',_,ab,_,an,_,_⟩
    ·exact hT
    ·exact absurd v.1 Z
    exfalso
    have o:=cJ an (by simpa [bK] using N);rw[v.1] at o e'
    have:(bK p i')[i']?=some true:=by
     have l:i' < p.size:=(Array.getElem?_eq_some_iff.1 o).1;simp[bK,l]
    rw[e',o] at this;simp at this
   exact .inr (.inr ⟨i,K,a,v.1,v.2.1,hi,hm,Q,hy,hT⟩)
  refine .inr (.inl ⟨al,fun h=>(by rw[h] at Q;cases Q),fun j R=>?_⟩)
  by_cases A:j=i
  ·subst A;exact⟨false,K,hm,hi,by simp only[Bool.false_eq_true,if_false];exact⟨a,hy,W⟩⟩
  have O:Z3 P E G H n h j (qO P E G H n h p T q (bK (bK m i) j)) (s.put K.dst a):=by
   rcases W with⟨e,hT⟩|⟨Z,_,ar⟩|⟨i',ao,a',e',B,ab,bd,an,bi,aq⟩
   ·exfalso
    have U:(waited n p i||Region.ready .any n (p.setIfInBounds i false)==[i])=true:=by
     rcases u with h'|h'
     ·exact h'
     exact Classical.byContradiction fun am=>v ⟨e,h',am⟩
    have ad:=AD x r e U;have z:=R;rw[ad] at z;simp at z;exact absurd z A
   ·exact ar j (ready_mono R A)
   have o:=cJ an (by simpa [bK] using N);have a9:i≠i':=by
    rintro rfl;have l:i < m.size:=(Array.getElem?_eq_some_iff.1 r).1;simp[bK,l] at o
   have av:=tB o e';have a5:=tB r (rfl:bK m i=bK m i);have ag:j∈Region.ready .any n (bK m i):=ready_mono R A;have az:j=i':=by
    refine Classical.byContradiction fun bb=>?_
    unfold oB at B
    split at B
    ·simp at B
    rename_i j0 r0 bk;simp only[Bool.and_eq_true,Bool.or_eq_true,beq_iff_eq] at B;obtain⟨⟨⟨⟨⟨⟨⟨O,_⟩,_⟩,_⟩,h5⟩,_⟩,_⟩,_⟩:=B;rw[av] at O;have ba:j=j0:=by
     rcases O with O|O <;> rw[O] at ag <;> simp at ag <;> rcases ag with h'|h' <;> first|exact h'|exact absurd h' bb
    subst ba;have V:=List.all_eq_true.1 h5 (i,false) hm;rw[av,a5] at V;simp only[Bool.or_eq_true,beq_iff_eq,a9,false_or] at V
    rcases V with V|V
    ·exact L0 x r V
    simp at V;exact V R
   subst az;have hP:qO P E G H n h p T q (bK (bK m i) j) ((s.put K.dst a).put ao.dst a'):=by
    rw[e']
    cases q with
    | zero=>exact⟨rfl,aq⟩
    | succ q=>exact .inl ⟨rfl,aq⟩
   exact⟨false,ao,bd,ab,by simp only[Bool.false_eq_true,if_false];exact⟨a',bi,hP⟩⟩
  ·obtain⟨I,C,M,D⟩:=mem_ready.1 R;have a1:∀e∈C.after,Region.binds .any e=true->e.on≠i:=fun e he d af=>by
    have O:=D e he d;rw[af] at O;rw[Array.getD_eq_getD_getElem?,r] at O;simp at O
   have a2:∀t k o',fk C.op=some t->k∈gk n.toList t h.tk->n.toList[k]?=some o'->∀e∈o'.after,Region.binds .any e=true->e.on≠i:=by
    intro t k o' ht hk be e he d af;obtain⟨lone,_,L,_,_⟩:=O;have X:=a6;unfold oV at X;have g1:=List.all_eq_true.1 X (j,lone) L;simp only[M,ht] at g1;have g2:=List.all_eq_true.1 g1 k hk;obtain⟨F,a8,ae⟩:=Array.any_eq_true'.1 g2;simp only[Bool.and_eq_true,beq_iff_eq] at ae;have g3:=D F a8 ae.1;rw[ae.2,Array.getD_eq_getD_getElem?] at g3;have B:m[k]?=some true:=by
     cases J:m[k]? with
     | none=>rw[J] at g3;simp at g3
     | some b=>rw[J] at g3;simp at g3;rw[g3]
    have:=x k o' B (by simpa using be) e he d
    rw[af,Array.getD_eq_getD_getElem?,r] at this;simp at this
   have hF:∀c,lK C.op=some c->hO H C=false->mK H C=false->(j,true)∈h.pre->(aK H n.toList h.pre||quietAt H n.toList h.pre i)=false:=by
    intro c ax a4 bf L;rw[Bool.eq_false_iff];intro ht;rw[pq (all:=n.toList) L (by simpa using M) ax a4,Bool.false_or] at ht;unfold quietAt at ht;have g:=List.all_eq_true.1 ht (j,true) L;have a3:n.toList[j]?=some C:=by simpa using M
    simp only[a3,ax,a4,bf,Bool.not_true,Bool.false_or,Option.isNone_some,Bool.or_eq_true] at g
    rcases g with g|g
    ·exact lX x Q g I
    refine lX x R g ?_;rw[Array.getD_eq_getD_getElem?,r];rfl
   have hG:iI C.op=true->(j,true)∈h.pre->uw C=true∨(ju K C=true∨Bs K C=true):=by
    intro bg L;unfold gJ at Y;have g1:=List.all_eq_true.1 Y (j,true) L;simp only[M,bg,Bool.not_true,Bool.false_or,Bool.and_eq_true] at g1;have g2:=List.all_eq_true.1 g1.2 (i,false) hm;simp only[hi,Bool.false_or,Bool.or_eq_true] at g2
    rcases g2 with ((g|g)|g)|g
    ·exact .inl g
    ·exact .inr g
    ·exact (lX x Q g I).elim
    refine (lX x R g ?_).elim;rw[Array.getD_eq_getD_getElem?,r];rfl
   have h2:=TA a7 hi hm M (y j C M A I a1) a2 hF hG hy O;have S:∀k ok,n[k]?=some ok->k≠i->(bK m j).getD k true=false->(∀e∈ok.after,Region.binds .any e=true->e.on≠i)->K.apart n ok=true:=fun k ok hk bc o am=>by
    refine y k ok hk bc ?_ am
    by_cases a0:j=k
    ·subst a0;exact I
    unfold bK at o;rw[getD_set_ne true a0] at o;exact o
   refine Qc (fun s' f=>ih (bK m j) s' (by simpa [bK] using N) (x.step R) S (ready_mono Q (Ne.symm A)) f.1 ?_) h2;have e:bK (bK m j) i=bK (bK m i) j:=by unfold bK;rw[Array.setIfInBounds_comm _ _ A]
   rw[e];exact f.2
theorem lZ:∀(r:List (Nat×Bool)) (l:Array Bool) (i:Nat),l[i]?=some true->(eR r l)[i]?=some true
 | [],_,_,h=>h
 |(j,_)::r,l,i,h=>by
  apply lZ r
  grind[bK]
theorem qN {c:Array Oper} {h:aw} (D:ew c h=true) (C:oV c h=true) (v:gJ c h=true) {T:aa->Prop} {p:Array Bool} (m:kE c h p h.pre=true) :
  ∀(r:List (Nat×Bool)) (b:Array Bool) (s:aa) (d:Nat),(∀x∈r,x∈h.pre)->b.size=c.size->fp c b->p=eR r b->oU c r b=true->r.length<=d->
   mu (ay P G) E G H h.tk (aK H c.toList h.pre) (quietAt H c.toList h.pre) c.toList T r s->qO P E G H c h p T d b s
 | [],b,s,d,_,_,_,w,_,_,h=>by
  cases d with
  | zero=>exact⟨w.symm,h⟩
  | succ d=>exact .inl ⟨w.symm,h⟩
 |(i,lone)::r,b,s,0,_,_,_,_,_,S,_=>by grind
 |(i,lone)::r,b,s,d+1,z,u,g,w,Y,S,n=>by
  have W:=z (i,lone) (by simp);simp only[oU,Bool.and_eq_true] at Y;obtain⟨f,R⟩:=Y;have L:i∈Region.ready .any c b:=by
   grind
  simp only[mu,iT] at n;have M:(bK b i).size=c.size:=by grind[bK]
  have I:p=eR r (bK b i):=w;have y:∀Q,mu (ay P G) E G H h.tk (aK H c.toList h.pre) (quietAt H c.toList h.pre) c.toList T r Q->qO P E G H c h p T d (bK b i) Q:=fun Q Z=>
   qN D C v m r (bK b i) Q d (fun x X=>z x (by grind)) M (g.step L) I R (by grind) Z
  split at n
  ·grind
  rename_i o O;have t:c[i]?=some o:=by simpa using O
  have V:i < b.size:=by rw[u];exact (Array.getElem?_eq_some_iff.1 t).1
  have J:p[i]?=some true:=by
   rw[I]
   apply lZ
   simp[bK,V]
  cases lone
  ·simp only[Bool.false_eq_true,if_false,Bool.and_eq_true] at n f
   split at n
   ·rename_i a A;refine xN D C v t W ?_ J d b s u g (Region.free_spec t f.2) (by simpa using f.1) A (y _ n)
    have:∀(q:List (Nat×Bool)),(i,false)∈q->kE c h p q=true->(waited c p i||Region.ready .any c (p.setIfInBounds i false)==[i])=true∨oB c h p i=true:=by
     intro q
     induction q with
     | nil=>intro K;simp at K
     | cons x q ih=>
      intro K g;obtain⟨k,l⟩:=x;simp only[kE,Bool.and_eq_true,Bool.or_eq_true] at g
      rcases List.mem_cons.1 K with e|K
      ·simp at e;obtain⟨rfl,rfl⟩:=e
       rcases g.1 with (F|F)|F
       ·simp at F
       ·exact .inl (by rw[Bool.or_eq_true];exact F)
       exact .inr F
      exact ih K g.2
    exact this h.pre W m
   exact n.elim
  simp only[if_true] at n f;have B:Region.ready .any c b=[i]:=by simpa using f
  have N:=cJ (i:=i) (by rw[B];simp) u;refine .inr (.inl ⟨fun e=>by rw[e,J] at N;simp at N,by rw[B];simp,fun j U=>?_⟩);rw[B] at U;simp at U;subst U;exact⟨true,o,W,t,by simp only[if_true];exact qc y n⟩
theorem tJ:∀{r:List (Nat×Bool)} {x:Nat×Bool},x∈lA r->x∈r/\x.2=false
 | [],_,h=>by grind[lA]
 |(i,true)::r,_,h=>by grind[lA]
 |(i,false)::r,x,h=>by
  rcases List.mem_cons.1 h with rfl|h
  ·simp
  obtain⟨a,b⟩:=tJ h;grind
theorem qM {c:Array Oper} {h:aw} (u:ew c h=true) (n:oV c h=true) (j:gJ c h=true) {T K:aa->Prop} {p:Array Bool} (l:kE c h p h.pre=true) (g:∀x∈h.pre,p[x.1]?=some true) (d:Nat) :
  ∀(r:List (Nat×Bool)) (b:Array Bool) (s:aa),(∀x∈r,x∈h.pre/\x.2=false)->b.size=c.size->fp c b->oU c r b=true->
   (∀J,K J->qO P E G H c h p T d (eR r b) J)->
   mu (ay P G) E G H h.tk (aK H c.toList h.pre) (quietAt H c.toList h.pre) c.toList K r s->qO P E G H c h p T (r.length+d) b s
 | [],b,s,_,_,_,_,B,h=>by
  rw[List.length_nil,Nat.zero_add];exact B s h
 |(i,true)::r,b,s,f,_,_,_,_,_=>by
  simp_all
 |(i,false)::r,b,s,f,D,t,F,B,v=>by
  obtain⟨I,_⟩:=f (i,false) (by simp);simp only[oU,Bool.and_eq_true] at F;obtain⟨m,C⟩:=F;simp only[Bool.false_eq_true,if_false,Bool.and_eq_true] at m;have k:i∈Region.ready .any c b:=by grind
  simp only[mu,iT] at v;have z:(bK b i).size=c.size:=by grind[bK]
  split at v
  ·grind
  rename_i o O;have w:c[i]?=some o:=by grind
  simp at v
  split at v
  ·rename_i a A;have y:=qM u n j l g d r (bK b i) _ (fun x X=>f x (by grind)) z (t.step k) C B v;have e:((i,false)::r).length+d=(r.length+d)+1:=by grind
   rw[e];refine xN u n j w I ?_ (g _ I) (r.length+d) b s D t (Region.free_spec w m.2) k A y
   have:∀(q:List (Nat×Bool)),(i,false)∈q->kE c h p q=true->(waited c p i||Region.ready .any c (p.setIfInBounds i false)==[i])=true∨oB c h p i=true:=by
    intro q
    induction q <;> grind[kE]
   grind
  grind
theorem so {d:Array Oper} {h:aw} {T:aa->Prop} {p:Array Bool}:∀(m:Nat) (c:Array Bool) (s:aa),
  wI (ay P G) E G H h d.toList p T m c s->qO P E G H d h p T m c s
 | 0,c,s,e=>e
 | m+1,c,s,e=>by
  obtain⟨a,b,f⟩:=e;refine .inr (.inl ⟨a,b,fun i k=>?_⟩);obtain⟨l,o,O,g⟩:=f i k;refine⟨true,o,l,by grind,?_⟩;exact qc (fun n j=>so m _ n j) g
end
end Go.Tp
namespace Go.Tp
section
variable {P:Program} {E:bz} {G:bA} {H:Hints} {D:List Deferred} {rd:Option Nat}
variable {R:Own} {o:Oper} {s:aa} {w:World}
theorem Se (W:E.Ok P) {out:Out} (m:jE E false o.op (aE G s none 0 (opsL o.op)) (aX s o.op (aE G s none 0 (opsL o.op)))=some out) (X:out.eff=.keep) {N:Name->Option Nat} {C:Act} {Z U H z:List Nat} (I:dw G w R N C.tmps.toList s undef .undef [] Z U H z) :
  ∃v y B g,V9 P w C.eval o v y/\ai y B N out.val v g/\wQ w [] g/\bp w R y B (Z++(U++(H++z))):=by
 have A:=kU I.tmps I.glob none 0 (opsL o.op) (by simp);generalize S:aE G s none 0 (opsL o.op)=t at m A;have u:(Z++(U++(H++z))).Nodup:=by simpa using I.nodup
 cases a:aX s o.op t with
 | none=>
  rw[a] at m;have l:eY w R N o.op t none none:=by
   grind[eY]
  obtain⟨v,y,B,p,j,f⟩:=nJ (rest:=Z++(U++(H++z))) W m A (fun _=>rfl) l (by grind[tV]) (fun _=>rfl);grind
 | some q=>
  rw[a] at m;have l:∃b r,eY w R N o.op t (some q) (some (b,r))/\(b::r).Nodup:=by
   unfold aX at a
   split at a
   ·rename_i n Y
    cases n with
    | loc i=>
     simp only[aa.obj] at a;obtain⟨T,b,r,J,L,F,K,_⟩:=aj.split I.locs a;refine⟨b,r,?_,?_⟩
     ·unfold eY;rw[Y];exact .inr ⟨b,r,q,rfl,rfl,F,K⟩
     subst L;refine List.Nodup.sublist ?_ u;refine List.Sublist.trans ?_ (List.sublist_append_right _ _);refine List.Sublist.trans ?_ (List.sublist_append_left _ _);exact (List.sublist_append_right _ _).trans (List.sublist_append_left _ _)
    | out k=>
     simp only[aa.obj] at a;obtain⟨T,b,r,J,L,F,K,_⟩:=aj.split I.heap a;have O:bh q=true:=by
      cases q with
      | cells c=>obtain⟨vs,e,sp,d,Q,hR⟩:=K;have:=Q.bY;rw[ji] at this;exact this
      | map es=>rfl
     refine⟨b,r,?_,?_⟩
     ·unfold eY;rw[Y];exact .inr ⟨b,r,q,rfl,rfl,by simpa [outs] using F,K.yi O (fun _=>rfl)⟩
     subst L;refine List.Nodup.sublist ?_ u;refine List.Sublist.trans ?_ (List.sublist_append_right _ _);refine List.Sublist.trans ?_ (List.sublist_append_right _ _);refine List.Sublist.trans ?_ (List.sublist_append_left _ _);exact (List.sublist_append_right _ _).trans (List.sublist_append_left _ _)
   simp at a
  obtain⟨b,r,l,D⟩:=l;obtain⟨v,y,B,p,j,f⟩:=nJ (rest:=[]) W m A (fun _=>rfl) l (by simpa [tV] using D) (fun _=>rfl);rw[X] at f;obtain⟨g,V,M,_,x⟩:=f
  rcases x with h|⟨rfl,rfl⟩
  ·simp at h
  exact⟨v,y,B,g,p,V,M,aZ _⟩
theorem Kv {m:World} {n:Own} {N:Name->Option Nat} {l:Act} {Z U H z bsV:List Nat} (e:List Nat) {a:ac} {cv:Value} (j:Option Tmp) (i:dw G w R N l.tmps.toList s undef .undef [] Z U H z)
  (V:ai m n N a cv bsV) (t:wQ w [] (bsV++e)) (C:∀b∈e,b < m.heap.size) (k:bp w R m n (Z++(U++(H++z)))) :
  ∃f,dw G m n N (l.put j cv).tmps.toList (s.put j a) undef .undef [] f U H (e++z):=by
 have o:∀b∈Z++(U++(H++z)),b < w.heap.size:=fun b d=>by
  simp at d
  rcases d with h|h|h|h
  ·exact i.tmps.lt b h
  ·exact i.locs.lt b h
  ·exact i.heap.lt b h
  exact i.frame b h
 have r:((bsV++e)++(Z++(U++(H++z)))).Nodup:=fO (bsM:=[]) (by simpa using i.nodup) o t;have p:(bsV++(Z++(U++(H++(e++z))))).Nodup:=by
  have B:(bsV++(Z++(U++(H++(e++z))))).Perm ((bsV++e)++(Z++(U++(H++z)))):=by
   rw[List.perm_iff_count];intro q;simp only[List.count_append];omega
  grind
 obtain⟨f,u,v⟩:=fW j (i.tmps.keep (k.sub (by grind))) V p;obtain⟨x,y,A⟩:=dB s j a;exact⟨f,aJ _,by grind[ga],by rw[x];exact i.locs.keep (k.sub (by grind)),by rw[y];exact i.heap.keep (k.sub (by simp_all)),by grind,by rw[A];exact i.next,
  fun g c J=>(i.glob g c J).step k.step,fun b d=>by
   rcases List.mem_append.1 d with h|h
   ·grind
   exact Nat.lt_of_lt_of_le (i.frame b h) k.step.size⟩
structure B3 (E:bz) (G:bA) (H:Hints) (ops:Array Oper) (h:aw) (listed:Array Bool) (w:World) (R:Own) (N:Name->Option Nat) (act:Act) (s:aa) (bsT bsL bsH bsX bsF:List Nat):Prop where
 rel:dw G w R N act.tmps.toList s undef .undef [] bsT bsL bsH (bsX++bsF)
 nwf:∀i o t d ti,h.nw=some i->listed[i]?=some true->ops[i]?=some o->o.op=.alloc t->o.dst=some d->o.guard=none->E.ty t=some ti->d < act.tmps.size->
  ∃b,b∈bsX/\act.tmps[d]?=some (.pointer (some ⟨b,0,none⟩))/\aI w R N (.cells (aY (bE ti.zero))) b []
 tkf:∀i o T u t n off ob,i∈h.tk->listed[i]?=some true->ops[i]?=some o->o.op=.load T (.tmp u)->o.dst=some t->o.guard=none->bq s.tmps u=.ptr n off->Eh (aK H ops.toList h.pre) n=true->s.obj n=some ob->t < act.tmps.size->
  ∃b v,N n=some b/\act.tmps[t]?=some v/\(w.cell? ⟨b,off,none⟩=some v∨∃vs,v=.agg vs)
theorem EN {b:Array Oper} {h:aw} (e:ew b h=true) {i:Nat} (c:i∈h.nw.toList++h.tk) (O:b[i]?=some o) {T:TypeId} {u:Tmp} (d:o.op=.load T (.tmp u)):o.dst≠some u:=by
 have a:=List.all_eq_true.1 e i c;grind
theorem xK {b:Act} {a:Option Tmp} {v:Value} {t:Nat} (h:a≠some t):(b.put a v).tmps[t]?=b.tmps[t]?:=by
 cases a with
 | none=>rfl
 | some d=>
  have c:d≠t:=fun e=>h (by rw[e])
  simp[Act.put,Array.getElem?_setIfInBounds_ne c]
theorem kF {a:Act} {b:Option Tmp} {v:Value}:(a.put b v).tmps.size=a.tmps.size:=by
 cases b <;> simp[Act.put]
theorem zy {a:Array Bool} {i j:Nat} (h:(bK a i)[j]?=some true) (b:j≠i):a[j]?=some true:=by
 grind[bK]
theorem Di {c:World} {b a:Nat} (h:c.heap[b]?=w.heap[b]?):c.cell? ⟨b,a,none⟩=w.cell? ⟨b,a,none⟩:=by
 simp[World.cell?,h]
theorem B3.carry {r:Array Oper} {h:aw} {p:Array Bool} {Y:World} {R':Own} {N N':Name->Option Nat} {C:Act} {W:aa} {Z U ab K z:List Nat} (ad:List Nat) {cv:Value}
  (hp:B3 E G H r h p w R N C s Z U ab K z)
  (hc:ew r h=true) (ae:fp r p) {i:Nat} {l:Bool} (hi:r[i]?=some o) (ar:p[i]?=some false) (hm:(i,l)∈h.pre) (k:bp w R Y R' K) (ao:∀n Q b,Eh (aK H r.toList h.pre) n=true->s.obj n=some Q->N n=some b->Y.heap[b]?=w.heap[b]?) (hN:∀m c,N m=some c->N' m=some c) (L:∀n Q,Eh (aK H r.toList h.pre) n=true->W.obj n=some Q->∃y,s.obj n=some y)
  (hT:∀t n x,Eh (aK H r.toList h.pre) n=true->o.dst≠some t->bq W.tmps t=.ptr n x->bq s.tmps t=.ptr n x) :
  (∀j q t d X,j≠i->h.nw=some j->(bK p i)[j]?=some true->r[j]?=some q->q.op=.alloc t->q.dst=some d->q.guard=none->E.ty t=some X->d < (C.put o.dst cv).tmps.size->
   ∃b,b∈ad++K/\(C.put o.dst cv).tmps[d]?=some (.pointer (some ⟨b,0,none⟩))/\aI Y R' N' (.cells (aY (bE X.zero))) b []) ∧
  (∀j q T u t n x Q,j≠i->j∈h.tk->(bK p i)[j]?=some true->r[j]?=some q->q.op=.load T (.tmp u)->q.dst=some t->q.guard=none->bq W.tmps u=.ptr n x->Eh (aK H r.toList h.pre) n=true->W.obj n=some Q->
   t < (C.put o.dst cv).tmps.size->∃b v,N' n=some b/\(C.put o.dst cv).tmps[t]?=some v/\(Y.cell? ⟨b,x,none⟩=some v∨∃vs,v=.agg vs)):=by
 constructor
 ·intro j q t d X B ag V P I D J am F;obtain⟨⟨d',A,af,_⟩,_⟩:=mO hc (i:=j) (by grind) P hm (Ne.symm B) hi;rw[D] at A;simp at A;rw[kF] at F;obtain⟨b,a,h2,f⟩:=hp.nwf j q t d X ag (zy V B) P I D J am F;refine⟨b,by grind,by grind[xK],?_⟩;exact (f.keep (k.sub (by grind))).ext hN
 intro j q T u t n x Q B al V P I D J hu O M F;obtain⟨⟨d',A,af,_⟩,g⟩:=mO hc (i:=j) (by grind) P hm (Ne.symm B) hi;rw[D] at A;simp at A;subst A;have S:o.dst≠some u:=by
  rcases g T u I with S|⟨e,he,hb,aq⟩
  ·grind
  have:=ae j q (zy V B) P e he hb
  simp_all
 have an:=hT u n x O S hu;rw[kF] at F;obtain⟨y,M⟩:=L _ _ O M;obtain⟨b,v,a,h2,f⟩:=hp.tkf j q T u t n x y al (zy V B) P I D J an O M F;grind[xK,Di]
theorem vR {g:World} {h:Own} {N:Name->Option Nat} {e:List (Name×aL)} {U B:List Nat} (l:aj w R N e U) (k:bp w R g h B) (s:∀b∈U,b∈B):∀n c b,eA n e=some c->N n=some b->g.heap[b]?=w.heap[b]?:=by
 intro n c b a d;obtain⟨i,j,r,f,E,F,_,_⟩:=aj.split l a;rw[d] at F;simp at F;exact (k.same b (s b (by grind)) (l.lt b (by grind))).1
theorem qe {g:World} {h:Own} {N:Name->Option Nat} {U H B:List Nat} (l:aj w R N s.locs U) (j:aj w R (outs N) s.heap H) (e:bp w R g h B) (m:∀b∈U,b∈B) (c:∀b∈H,b∈B):∀n f b,s.obj n=some f->N n=some b->g.heap[b]?=w.heap[b]?:=by
 intro n f b a d
 cases n with
 | loc i=>exact vR l e m _ _ _ a d
 | out k=>exact vR j e c _ _ _ a d
theorem MH {N:Name->Option Nat} {U H:List Nat} (l:aj w R N s.locs U) (p:aj w R (outs N) s.heap H) {n:Name} {f:aL} (h:s.obj n=some f) :
  ∃b r,N n=some b/\aI w R N f b r/\(b∈U∨b∈H):=by
 cases n with
 | loc i=>
  obtain⟨o,b,r,a,E,F,g,_⟩:=aj.split l h;grind
 | out k=>
  obtain⟨o,b,r,a,E,F,g,_⟩:=aj.split p h;have j:bh f=true:=by
   cases f with
   | cells c=>obtain⟨v,e,u,d,m,t⟩:=g;have:=m.bY;rw[ji] at this;exact this
   | map q=>rfl
  exact⟨b,r,by grind[outs],g.yi j (fun _=>rfl),.inr (by grind)⟩
theorem af7 {a b:ac} {n:Name} {c:Nat} (h:de a=de b) (A:a=.ptr n c):b=.ptr n c:=by
 cases b <;> grind[jK,de]
theorem MM (W:E.Ok P) {T:TypeId} {l:TI} (j:E.ty T=some l) {N:Name->Option Nat} {b a:Nat} {r:List Nat} {c:List ac} (p:aI w R N (.cells c) b r) {v:ac} (V:loadCells l a c=some v)
  {ρ:Operand->Value} {x:Operand} (O:o.op=.load T x) (X:ρ x=.pointer (some ⟨b,a,none⟩)) {k:Value} {K:World} (y:V9 P w ρ o k K):w.cell? ⟨b,a,none⟩=some k∨∃s,k=.agg s:=by
 obtain⟨s,i,B,d,q,_⟩:=p;replace V:=mI (ps:=List.replicate B .undef) V;generalize c++List.replicate B .undef=c at q V;obtain⟨f,L,F,G⟩:=mH V q;obtain⟨g,t,u⟩:=nT (N:=N) (P:=P) W j d q V;have z:(execOp ρ o).run P w=.ok (.value g) w:=by
  obtain⟨D,M,C,I,m,guard⟩:=o;subst O;rw[←X] at t;exact bU t
 have n:k=g:=by
  grind
 cases A:l.isAgg with
 | true=>
  right;unfold loadCells at V;rw[A] at V;simp only[if_true] at V
  split at V
  ·simp at V;subst V
   rcases jK (bj (fb l.size (jQ a c))) with⟨S,h⟩|h
   ·rw[h] at u;obtain⟨Q,e,_⟩:=(cB u).2;grind
   grind[ai]
  grind
 | false=>
  left;have J:=G A;have H:w.cell? ⟨b,a,none⟩=some f:=by rw[cell_of_row w b a s i (0,0) d];grind
  have:(Instr.loadAt T (.pointer (some ⟨b,a,none⟩))).run P w=.ok f w:=by
   simp[Instr.loadAt,Instr.sureAddr,loadVar,W.kN j,A,H]
  grind
theorem ID (W:E.Ok P) {ad:Array Oper} {h:aw} (hc:ew ad h=true) {fh:Bool} {L:Array Bool} {N:Name->Option Nat} {ae:Act} {Z U aq af z:List Nat}
  (hp:B3 E G H ad h L w R N ae s Z U aq af z) (a4:fp ad L) (hd:ae.defers=D) {i:Nat} (hi:ad[i]?=some o) (a7:L[i]?=some false) {lone:Bool} (hm:(i,lone)∈h.pre) {a:ac} (S:eK E G fh ad.toList o s=some a)
  {Qx:Exit->Act->World->Prop} {K:Act->World->Prop}
  (hK:∀cv w' R' I a9,B3 E G H ad h (bK L i) w' R' N (ae.put o.dst cv) (s.put o.dst a) I U aq a9 z->bp w R w' R' z->K (ae.put o.dst cv) w'):wpOpIn (rdF rd) 1 P ad Qx i K ae w:=by
 have ax:∀n,(s.put o.dst a).obj n=s.obj n:=fun n=>afo
 have ag:∀n ob,Eh (aK H ad.toList h.pre) n=true->(s.put o.dst a).obj n=some ob->∃y,s.obj n=some y:=fun n ob _ h=>⟨ob,by grind⟩
 have hT:∀t n B,Eh (aK H ad.toList h.pre) n=true->o.dst≠some t->bq (s.put o.dst a).tmps t=.ptr n B->bq s.tmps t=.ptr n B:=fun t n B _ ht h=>by grind[dm]
 unfold wpOpIn;simp only[hi];unfold eK at S
 split at S
 ·simp at S
 rename_i b hw;rw[ke hp.rel.tmps hw]
 split at S
 ·rename_i hb;subst hb;simp only[if_true];refine aql ?_ rd ?_
  ·cases O:o.op <;> first|rfl|(rw[O] at S;simp[oE,lK,jf] at S)
  split at S
  ·
   rename_i am
   split at S
   ·rename_i bm m;simp at S;subst S;have bk:∃t,o.op=.alloc t:=by
     unfold oE at am
     split at am
     ·exact⟨_,by assumption⟩
     simp at am
    obtain⟨t,a0⟩:=bk;have bl:opsL o.op=[]:=by rw[a0];rfl
    have bt:([]++(tV none++(Z++(U++(aq++(af++z)))))).Nodup:=by simpa [tV] using hp.rel.nodup
    obtain⟨cv,w',R',al,k,a2⟩:=nJ (ρ:=ae.eval) (w:=w) (R:=R) (N:=N) (vals:=[]) (ob:=none) (nm:=none) (bsM:=[]) (rest:=Z++(U++(aq++(af++z)))) W m (by rw[bl];exact aP) (fun _=>rfl)
     (by unfold eY;rw[a0];exact⟨rfl,rfl⟩) bt (fun _=>rfl)
    have bf:∃ti,E.ty t=some ti/\bm.eff=.new (.cells (aY (bE ti.zero))):=by
     rw[a0] at m;simp only[jE,Kf] at m
     split at m
     ·rename_i ti a6
      split at m
      ·simp at m;exact⟨ti,a6,by rw[←m]⟩
      simp at m
     simp at m
    obtain⟨ti,a6,ar⟩:=bf;rw[ar] at a2;obtain⟨_,bo,bi,br,bv,bc⟩:=a2;have ba:bo=[]:=List.eq_nil_iff_forall_not_mem.2 fun x X=>by have:=br.2 x X;simp at this
    subst ba;simp only at bc;refine vE al ?_;obtain⟨I,bu⟩:=Kv (a:=.undef) (cv:=cv) (bsV:=[]) [w.heap.size] o.dst hp.rel (aJ _) ⟨by simp,fun b hb=>.inr (by simp at hb;omega)⟩ (by intro b hb;simp at hb;subst hb;exact bv) k;have an:dw G w' R' N (ae.put o.dst cv).tmps.toList (s.put o.dst .undef) undef .undef [] I U aq (([w.heap.size]++af)++z):=by
     simpa using bu
    obtain⟨p,c2⟩:=hp.carry (cv:=cv) [w.heap.size] hc a4 hi a7 hm (k.sub (by intro x X;simp[X])) (fun n ob b _=>qe hp.rel.locs hp.rel.heap k (by intro x X;simp[X]) (by intro x X;simp[X]) n ob b) (fun _ _ h=>h) ag hT;refine hK cv w' R' I ([w.heap.size]++af) ⟨an,?_,?_⟩ (k.sub (by intro x X;simp[X]))
    ·intro j q t' d a1 av l f e C J Y g
     by_cases A:j=i
     ·subst A;rw[hi] at f;simp at f;subst f;rw[a0] at e;simp at e;subst e;rw[a6] at Y;simp at Y;subst Y;refine⟨w.heap.size,by simp,?_,bi⟩;rw[kF] at g;rw[C,bc];simp[Act.put,g]
     exact p j q t' d a1 A av l f e C J Y g
    intro j q T u t' n B ob ao l f e C J hu az ab g
    by_cases A:j=i
    ·subst A;rw[hi] at f;simp at f;subst f;rw[a0] at e;simp at e
    exact c2 j q T u t' n B ob A ao l f e C J hu az ab g
   simp at S
  -- a value
  rename_i am
  split at S
  ·simp at S
  split at S
  ·split at S
   ·rename_i bm m
    split at S
    ·rename_i ar;simp at S;subst S;obtain⟨cv,w',R',bsV,al,V,hf,k⟩:=Se W m ar hp.rel;refine vE al ?_;obtain⟨I,an⟩:=Kv [] o.dst hp.rel V (by simpa using hf) (by simp) k;rw[List.nil_append] at an;obtain⟨p,c2⟩:=hp.carry (cv:=cv) [] hc a4 hi a7 hm (k.sub (by intro x X;simp[X])) (fun n ob b _=>qe hp.rel.locs hp.rel.heap k (by intro x X;simp[X]) (by intro x X;simp[X]) n ob b) (fun _ _ h=>h) ag hT;refine hK cv w' R' I af ⟨an,?_,?_⟩ (k.sub (by intro x X;simp[X]))
     ·intro j q t' d a1 av l f e C J Y g
      by_cases A:j=i
      ·subst A;rw[hi] at f;simp at f;subst f;rw[e] at am;simp[oE] at am
      simpa using p j q t' d a1 A av l f e C J Y g
     intro j q T u t' n B ob ao l f e C J hu az ab g
     by_cases A:j=i
     ·subst A;rw[hi] at f;simp at f;subst f;have bw:o.dst≠some u:=EN hc (by simp[ao]) hi e;rw[dm bw] at hu;rw[ax] at ab;have a8:aE G s none 0 (opsL o.op)=[.ptr n B]:=by
       rw[e];simp[opsL,aE,fm,hu,de]
      rw[a8] at m;have bs:aX s o.op [.ptr n B]=some ob:=by
       unfold aX;rw[e];simp[looks,ab]
      rw[bs,e] at m;simp only[jE,eB] at m
      split at m
      ·rename_i ti c Y bb;simp at bb;subst bb;simp only[Bool.false_and,Bool.false_eq_true,if_false] at m
       cases be:loadCells ti B c with
       | none=>rw[be] at m;simp[xj] at m
       | some v=>
        obtain⟨b',r,F,e3,e1⟩:=MH hp.rel.locs hp.rel.heap ab;have bd:s.tmps[u]?=some (.ptr n B):=by
         unfold bq at hu
         cases hs:s.tmps[u]? with
         | none=>rw[hs] at hu;simp at hu
         | some v=>rw[hs] at hu;simp at hu;rw[hu]
        obtain⟨u1,bx,g1,g2,_⟩:=dY hp.rel.tmps bd;simp only[ai] at g2;obtain⟨_,Q,a3,rfl⟩:=g2;rw[F] at a3;simp at a3;subst a3;have hρ:ae.eval (.tmp u)=.pointer (some ⟨b',B,none⟩):=by
         simp at g1;simp[Act.eval,g1]
        have M:=MM W Y e3 be e hρ al;refine⟨b',cv,F,?_,?_⟩
        ·rw[kF] at g;rw[C];simp[Act.put,g]
        rcases M with M|M
        ·left;have a5:=qe hp.rel.locs hp.rel.heap k (by intro x X;simp[X]) (by intro x X;simp[X]) _ _ _ ab F;rw[Di a5];exact M
        exact .inr M
      simp at m
     exact c2 j q T u t' n B ob A ao l f e C J hu az ab g
    simp at S
   simp at S
  simp at S
 -- not wanted
 rename_i hb;simp at S;subst S;rw[if_neg hb];obtain⟨I,an⟩:=nO hp.rel o.dst;obtain⟨p,c2⟩:=hp.carry (cv:=undef) [] hc a4 hi a7 hm (aZ _) (fun _ _ _ _ _ _=>rfl) (fun _ _ h=>h) ag hT;have bg:o.guard≠none:=by
  intro J;unfold dC at hw;rw[J] at hw;simp at hw;exact hb hw
 refine⟨fun _ _=>trivial,hK undef w R I af ⟨an,?_,?_⟩ (aZ _)⟩
 ·intro j q t' d a1 av l f e C J Y g
  by_cases A:j=i
  ·subst A;rw[hi] at f;simp at f;subst f;exact absurd J bg
  simpa using p j q t' d a1 A av l f e C J Y g
 intro j q T u t' n B ob ao l f e C J hu az ab g
 by_cases A:j=i
 ·subst A;rw[hi] at f;simp at f;subst f;exact absurd J bg
 exact c2 j q T u t' n B ob A ao l f e C J hu az ab g
end
end Go.Tp
namespace Go.Tp
section
variable {P:Program} {E:bz} {G:bA} {H:Hints} {D:List Deferred} {rd:Option Nat}
variable {R:Own} {n:Name} {o:Oper} {s:aa} {w:World}
theorem BC (W:E.Ok P) {c:Call} {s2:aa} {f:FuncId} {l:List ac} (h:dX E G H c s=some (f,l,s2)) {N:Name->Option Nat} {e:Act} {Z U n z:List Nat}
  (k:dw G w R N e.tmps.toList s undef .undef [] Z U n z) (o:Oper) (O:o.op=.call c) :
  ∃m:List Value,(execOp e.eval o).run P w=.ok (.enter f m.toArray) w/\aW l=true/\∃L b,dw G w R N e.tmps.toList s2 (.tuple m.toArray) (.tup l) L b U n z:=by
 obtain⟨p,a,y⟩:=c
 cases p with
 | builtin _=>grind[dX]
 | invoke _ _=>grind[dX]
 | value fo=>
  simp only[dX] at h;obtain⟨bf,v⟩:=qw k.tmps k.glob fo;generalize ae:fm G s fo=af at h v
  split at h
  ·rename_i g t j;obtain⟨_,vf,uf,ef,q,C⟩:=v
   split at h
   ·rename_i V;obtain⟨I,S,ag,T⟩:=W.fn g V;have r:(Z++(U++(n++z))).Nodup:=by simpa using k.nodup
    have F:∃(J:List ac) (A:aa) (i b:List Nat),(if H.moves g=true then cR G s a.toList else (aE G s none 0 a.toList,s))=(J,A) ∧
      ah w R N J (a.toList.map e.eval) i/\ah w R N A.tmps e.tmps.toList b/\(i++(b++(U++(n++z)))).Nodup/\A.locs=s.locs/\A.heap=s.heap/\A.next=s.next:=by
     split
     ·obtain⟨i,b,k1,K,M⟩:=kX k.glob a.toList k.tmps r;grind[gl]
     exact⟨_,_,[],Z,rfl,kU k.tmps k.glob none 0 _ (by simp),k.tmps,by simpa using r,rfl,rfl,rfl⟩
    obtain⟨J,A,i,b,x,ad,ab,D,q1,q2,q3⟩:=F;rw[x] at h;simp only at h
    split at h
    ·rename_i Y;simp only[Option.some.injEq,Prod.mk.injEq] at h;obtain⟨rfl,rfl,rfl⟩:=h;have B:ah w R N (t++J++j) (vf++a.toList.map e.eval++uf) i:=by
      have:=ct (ct q ad) C
      simpa using this
     refine⟨vf++a.toList.map e.eval++uf,?_,Y,i,b,⟨by simp only[ai];exact⟨_,rfl,B⟩,ab,by rw[q1];exact k.locs,by rw[q2];exact k.heap,D,by rw[q3];exact k.next,k.glob,k.frame⟩⟩;have u:I.body.isNone=false:=by cases d:I.body <;> simp_all
     have Q:¬I.body=none:=by intro d;simp[d] at u
     have X:¬I.name= "runtime.NumGoroutine":=by simpa using T
     simp[execOp,O,resolve,ef,Deferred.ofValue,invoke,callFunc,S,X,Q]
    simp at h
   simp at h
  simp at h
theorem wJ:∀{a:List (Name×aL)} {n m:Name} {o x:aL},eA m (iX n o a)=some x->∃y,eA m a=some y
 | [],_,_,_,_,h=>by grind[iX]
 |(k,y)::a,n,m,o,x,h=>by
  simp only[iX] at h
  split at h
  ·grind[eA]
  simp only[eA] at h ⊢
  split
  ·grind
  rename_i b;rw[if_neg b] at h;exact wJ h
theorem wc {l:List ac} {t:Nat} {v:ac} (h:bq l t=v) (V:v≠.undef):l[t]?=some v:=by
 grind[bq]
theorem arY {m:Name} {o x:aL} (h:(s.kn n o).obj m=some x):∃y,s.obj m=some y:=by
 cases n <;> cases m <;> simp only[aa.kn,aa.obj] at h ⊢
 all_goals grind[wJ]
theorem tz {fh:Bool} {ao:Array Oper} {w:World} {R:Own} {N:Name->Option Nat} {g:Act} {z:List Nat} :
  ∀(tk:List Nat) {s s':aa} {Z U H:List Nat},dM fh ao.toList tk s=some s'->dw G w R N g.tmps.toList s undef .undef [] Z U H z->
   (∀i o T u t n e ob,i∈tk->ao[i]?=some o->o.op=.load T (.tmp u)->o.dst=some t->o.guard=none->bq s.tmps u=.ptr n e->Eh fh n=true->s.obj n=some ob->t < g.tmps.size->
    ∃b v,N n=some b/\g.tmps[t]?=some v/\(w.cell? ⟨b,e,none⟩=some v∨∃vs,v=.agg vs))->
   ∃az ax av,dw G w R N g.tmps.toList s' undef .undef [] az ax av z
 | [],s,s',Z,U,H,h,C,_=>by grind[dM]
 | i::r,s,s',Z,U,H,h,C,hf=>by
  obtain⟨o,T,u,t,n,e,c,x,bw,O,bk,D,J,hu,bi,al,ag,ht,P⟩:=aef h;have bf:ao[i]?=some o:=by grind
  have a6:g.tmps.size=s.tmps.length:=by have:=C.tmps.length;grind
  have a7:=wc ht (by simp);have a8:t < g.tmps.size:=by grind
  obtain⟨b0,v,af,V,f⟩:=hf i o T u t n e (.cells c) (by simp) bf bk D J hu bi al a8;obtain⟨v',bv,g1,g2,_⟩:=dY C.tmps a7;have br:v'=v:=by
   have:g.tmps.toList[t]?=some v:=by simpa using V
   rw[this] at g1;simp at g1;exact g1.symm
  subst br;have an:g.tmps.toList.set t v'=g.tmps.toList:=by
   apply List.ext_getElem?
   intro j;rw[List.getElem?_set]
   split
   ·rename_i hj;subst hj;split
    ·exact g1.symm
    rename_i l;rw[List.getElem?_eq_none (by omega)]
   rfl
  have K:bI e [ac.dat (.slice x)] c=c.set e (.dat (.slice x)):=by
   apply List.ext_getElem?
   intro j;rw[gq,List.getElem?_set]
   by_cases hj:e=j
   ·subst hj
    by_cases l:e < c.length
    ·rw[if_pos ⟨Nat.le_refl _,by simp,l⟩,if_pos rfl,if_pos l];simp
    rw[if_neg (by omega),if_pos rfl,if_neg l];exact List.getElem?_eq_none (by omega)
   rw[if_neg (by simp;omega),if_neg hj]
  -- the object's cells, ownership gone
  have B:∀(M:Name->Option Nat) (b:Nat) (S:List Nat),N n=some b->aI w R M (.cells c) b S->∃A m,iV w R v' x A/\aI w R M (.cells (bI e [.dat (.slice x)] c)) b m/\S.Perm (A++m):=by
   intro M b S hN a3;rw[hN] at af;simp at af;subst af;obtain⟨vs,Y,sp,ab,bl,hR⟩:=a3;obtain⟨ba,A,aq,cv,f1,f2,f3,f4⟩:=ah.split bl (rj ag);have bb:w.cell? ⟨b,e,none⟩=some cv:=by rw[cell_of_row w b e vs Y (0,0) ab];simpa using f2
   have bo:v'=cv:=by
    rcases f with f|⟨us,bn⟩
    ·rw[bb] at f;simp at f;exact f.symm
    subst bn
    have:=(dG g2).2
    cases this
   subst bo;have ad:=f4 w R (.dat (.slice x)) v' [] (aZ _) (bQ (d:=.slice x) (cy f3).rep);have k1:vs.toList.set e v'=vs.toList:=by
    apply List.ext_getElem?
    intro j;rw[List.getElem?_set]
    split
    ·rename_i hj;subst hj;split
     ·exact f2.symm
     rename_i l;rw[List.getElem?_eq_none (by omega)]
    rfl
   rw[k1,List.set_append_left (h:=(List.getElem?_eq_some_iff.1 ag).1)] at ad;refine⟨A,ba++[]++aq,cy f3,⟨vs,Y,sp,ab,by rw[K];exact ad,hR.1,fun hb=>hR.2 (xH ag hb)⟩,?_⟩;subst f1;rw[List.perm_iff_count];intro q;simp only[List.count_append,List.count_nil];omega
  have W:∃A L I,iV w R v' x A/\aj w R N (s.kn n (.cells (bI e [.dat (.slice x)] c))).locs L/\aj w R (outs N) (s.kn n (.cells (bI e [.dat (.slice x)] c))).heap I/\(A++(Z++(L++(I++z)))).Nodup:=by
   have h0:(Z++(U++(H++z))).Nodup:=by simpa using C.nodup
   cases n with
   | loc k=>
    obtain⟨Q,b,S,p,E,F,e3,e4⟩:=aj.split C.locs al;obtain⟨A,m,q1,q2,q3⟩:=B N b S F e3;refine⟨A,_,H,q1,e4 w R _ m (aZ _) q2,C.heap,?_⟩;subst E;have hp:(A++(Z++((Q++(b::m)++p)++(H++z)))).Perm (Z++((Q++(b::S)++p)++(H++z))):=by
     have ar:=List.perm_iff_count.1 q3;rw[List.perm_iff_count];intro q;have:=ar q;simp only[List.count_append,List.count_cons] at this ⊢;omega
    exact hp.nodup_iff.2 h0
   | out k=>
    obtain⟨Q,b,S,p,E,F,e3,e4⟩:=aj.split C.heap al;obtain⟨A,m,q1,q2,q3⟩:=B (outs N) b S (by simpa [outs] using F) e3;refine⟨A,U,_,q1,C.locs,e4 w R _ m (aZ _) q2,?_⟩;subst E;have hp:(A++(Z++(U++((Q++(b::m)++p)++z)))).Perm (Z++(U++((Q++(b::S)++p)++z))):=by
     have ar:=List.perm_iff_count.1 q3;rw[List.perm_iff_count];intro q;have:=ar q;simp only[List.count_append,List.count_cons] at this ⊢;omega
    exact hp.nodup_iff.2 h0
  obtain⟨A,L,I,q1,q2,q3,q4⟩:=W;obtain⟨bu,p1,p2⟩:=ng (a:=.own x) t C.tmps (by simpa only[ai] using q1) q4;rw[an] at p1;have e5:(({s with tmps:=s.tmps.set t (.own x)}:aa).kn n (.cells (bI e [.dat (.slice x)] c)))={s.kn n (.cells (bI e [.dat (.slice x)] c)) with tmps:=s.tmps.set t (.own x)}:=by cases n <;> rfl
  rw[e5] at P;refine tz r P ⟨aJ _,p1,q2,q3,by simpa using p2,by simpa only[CG] using C.next,C.glob,C.frame⟩ ?_;intro i' o' T' u' t' n' ae bs be bg a5 bc bd X a4 a1 a0;have bm:bq s.tmps u'=.ptr n' ae:=by
   by_cases a9:t=u'
   ·subst a9
    exfalso
    unfold bq at X;rw[List.getElem?_set_self (by rw[←a6];exact a8)] at X;simp at X
   rwa [bG a9] at X
  have a2:∃y,s.obj n'=some y:=by
   have am:(s.kn n (.cells (bI e [.dat (.slice x)] c))).obj n'=some bs:=by cases n' <;> exact a1
   exact arY am
  obtain⟨y,hy⟩:=a2;exact hf i' o' T' u' t' n' ae y (by simp[be]) bg a5 bc bd bm a4 hy a0
theorem zw {g:Bool} {e:List Oper}:∀(x:List Nat) (s d:aa),dM g e x s=some d->∀n b,d.obj n=some b->∃y,s.obj n=some y
 | [],s,d,h,n,b,N=>by grind[dM]
 | i::r,s,d,h,n,b,N=>by
  obtain⟨o,T,u,t,m,w,c,A,f,O,p,D,J,C,l,k,j,B,a⟩:=aef h;obtain⟨y,q⟩:=zw r _ _ a n b N;obtain⟨z,v⟩:=arY q;exact⟨z,by cases n <;> exact v⟩
theorem Br:∀{a:List (Name×aL)} {n m:Name} {o x:aL},eA m a=some x->∃y,eA m (iX n o a)=some y
 | [],_,_,_,_,h=>by grind[eA]
 |(k,y)::a,n,m,o,x,h=>by
  simp only[eA] at h;simp only[iX]
  split
  ·grind[eA]
  simp only[eA]
  split
  ·grind
  rename_i b;rw[if_neg b] at h;exact Br h
theorem Pm {m:Name} {o x:aL} (h:s.obj m=some x):∃y,(s.kn n o).obj m=some y:=by
 cases n <;> cases m <;> simp only[aa.kn,aa.obj] at h ⊢
 all_goals simp_all[Br]
theorem zt {k:Bool} {e:List Oper}:∀(z:List Nat) (s d:aa),dM k e z s=some d->∀n b,s.obj n=some b->∃y,d.obj n=some y
 | [],s,d,h,n,b,N=>by grind[dM]
 | i::r,s,d,h,n,b,N=>by
  obtain⟨o,T,u,t,m,f,c,g,j,O,v,D,J,B,q,p,l,A,a⟩:=aef h;obtain⟨y,w⟩:=Pm (s:={s with tmps:=s.tmps.set t (.own g)}) (n:=m) (o:=.cells (bI f [.dat (.slice g)] c)) (m:=n) (x:=b) (by cases n <;> exact N);exact zt r _ _ a n y w
theorem zr {k:Bool} {g:List Oper}:∀(y:List Nat) (s f:aa),dM k g y s=some f->∀t n b,bq f.tmps t=.ptr n b->bq s.tmps t=.ptr n b
 | [],s,f,h,t,n,b,N=>by grind[dM]
 | i::r,s,f,h,x,w,e,N=>by
  obtain⟨o,T,u,t,m,b,c,z,j,O,v,D,J,B,q,p,l,A,d⟩:=aef h;have a:=zr r _ _ d x w e N;grind[CE,bq]
theorem Nu (W:E.Ok P) {t:Tmp} (T:fk o.op=some t) {Y:aa} (h:aa4 E G false false o s=some Y) {N:Name->Option Nat} {i:Act} {Z U H z:List Nat}
  (f:dw G w R N i.tmps.toList s undef .undef [] Z U H z) :
  ∃v y B e,V9 P w i.eval o v y/\dw G y B N (i.put o.dst v).tmps.toList Y undef .undef [] e U H z/\bp w R y B (U++(H++z)):=by
 unfold aa4 at h;have q:(Z++(U++(H++z))).Nodup:=by simpa using f.nodup
 obtain⟨ab,e,A,x,p,O⟩:=rB f.tmps f.glob (kp false o.op) (opsL o.op) (U++(H++z)) q
 split at h
 ·grind
 rename_i X m;obtain⟨k,l⟩:=qH T m;have L:aX s o.op (aE G s (kp false o.op) 0 (opsL o.op))=none:=by grind[aX]
 rw[L] at m;have K:eY w R N o.op (aE G s (kp false o.op) 0 (opsL o.op)) none none:=by grind[eY]
 obtain⟨v,y,B,u,a,j⟩:=nJ (rest:=e++(U++(H++z))) W m A (fun h=>O (by grind[kp])) K (by simpa [tV] using p) (fun _=>rfl);rw[k] at j;obtain⟨C,V,hf,_,_⟩:=j;simp only[dW,k,Option.some.injEq] at h;subst h;obtain⟨D,F,I⟩:=ry s (kp false o.op) (opsL o.op);have M:∀b∈e++(U++(H++z)),b < w.heap.size:=fun b d=>by
  simp at d
  rcases d with h|h|h|h
  ·exact x.lt b h
  ·exact f.locs.lt b h
  ·exact f.heap.lt b h
  exact f.frame b h
 have r:(C++(e++(U++(H++z)))).Nodup:=fO p M hf;obtain⟨n,Q,S⟩:=fW o.dst (x.keep (a.sub (by intro b d;simp[d]))) V r;obtain⟨q1,q2,q3⟩:=dB (bF s (kp false o.op) (opsL o.op)) o.dst X.val;refine⟨v,y,B,n,u,⟨aJ _,?_,?_,?_,by simpa using S,?_,fun g c J=>(f.glob g c J).step a.step,fun b d=>Nat.lt_of_lt_of_le (f.frame b d) a.step.size⟩,a.sub (by intro b d;simp at d;simp;exact .inr d)⟩
 ·rw[(ga i o.dst v).1];exact Q
 ·rw[q1,D];exact f.locs.keep (a.sub (by intro b d;simp[d]))
 ·rw[q2,F];exact f.heap.keep (a.sub (by intro b d;simp[d]))
 rw[q3,I];exact f.next
theorem XZ (W:E.Ok P) {B:Array Oper} {h:aw} (hc:ew B h=true) (bt:oV B h=true) (a7:gJ B h=true) {A:Array Bool} {N:Name->Option Nat} {am:Act} {Z U bb ar z:List Nat}
  (hp:B3 E G H B h A w R N am s Z U bb ar z) (b8:fp B A) (hd:am.defers=D) {i:Nat} (hi:B[i]?=some o) (cm:A[i]?=some false) (hm:(i,true)∈h.pre) (ci:i∈Region.ready .any B A) {K:aa->Prop} (bx:¬(lK o.op=none/\fk o.op=none/\iI o.op=false/\dC B.toList s o.guard=some true)) (V:KV (ay P G) E G H (aK H B.toList h.pre) h.tk B.toList o K s)
  {Qx:Exit->Act->World->Prop} {Kx:Act->World->Prop}
  (hK:∀s' cv w' R' N' g L I,K s'->B3 E G H B h (bK A i) w' R' N' (am.put o.dst cv) s' g L I ar z->bp w R w' R' z->(∀o b,N (.out o)=some b->N' (.out o)=some b)->Kx (am.put o.dst cv) w'):wpOpIn (rdF rd) 1 P B Qx i Kx am w:=by
 have ad:∀{s':aa} {cv:Value} {w':World} {R':Own} {N':Name->Option Nat} {g L I:List Nat},dw G w' R' N' (am.put o.dst cv).tmps.toList s' undef .undef [] g L I (ar++z)->bp w R w' R' ar->(∀n M b,Eh (aK H B.toList h.pre) n=true->s.obj n=some M->N n=some b->w'.heap[b]?=w.heap[b]?)->
   (∀m c,N m=some c->N' m=some c)->(∀n M,Eh (aK H B.toList h.pre) n=true->s'.obj n=some M->∃y,s.obj n=some y)->(∀t n S,Eh (aK H B.toList h.pre) n=true->o.dst≠some t->bq s'.tmps t=.ptr n S->bq s.tmps t=.ptr n S)->
   (o.guard≠none∨∃c,o.op=.call c)->B3 E G H B h (bK A i) w' R' N' (am.put o.dst cv) s' g L I ar z:=by
  intro s' cv w' R' N' g L I al hk cf hN bf hT Y;obtain⟨p,c2⟩:=hp.carry (cv:=cv) [] hc b8 hi cm hm hk cf hN bf hT;refine⟨al,?_,?_⟩
  ·intro j q t' d b5 bg l ab ag bd J ck a0
   by_cases ax:j=i
   ·grind
   simpa using p j q t' d b5 ax bg l ab ag bd J ck a0
  intro j q T u t' n S M bo l ab ag bd J hu bi ao a0
  by_cases ax:j=i
  ·grind
  exact c2 j q T u t' n S M ax bo l ab ag bd J hu bi ao a0
 unfold wpOpIn;simp only[hi];unfold KV at V
 split at V
 ·exact V.elim
 rename_i b hw;rw[ke hp.rel.tmps hw]
 split at V
 ·rename_i hb;subst hb;simp only[if_true];refine aql ?_ rd ?_
  ·cases O:o.op <;> first|rfl|exact absurd ⟨by rw[O];rfl,by rw[O];rfl,by rw[O];rfl,hw⟩ bx
  split at V
  ·rename_i c ae;have a2:=vW ae
   split at V
   ·rename_i f cn s2 av;obtain⟨b6,a9,bw,cr,cq,al⟩:=BC W av hp.rel o a2;obtain⟨ba,aq⟩:=mV av
    cases bk:hO H o with
    | true=>
     rw[bk] at V;refine xX a9 al bw hd V ?_;intro v cv n w' R' N' g bc bm hk af _;refine hK _ cv w' R' N' g U bb bc (ad bm (hk.sub (by intro x X;simp[X])) ?_ af ?_ ?_ (.inr ⟨c,a2⟩)) (hk.sub (by intro x X;simp[X])) (fun o b h=>af _ _ h)
     ·intro n M b _ ao hb;exact qe hp.rel.locs hp.rel.heap hk (by intro x X;simp[X]) (by intro x X;simp[X]) n M b ao hb
     ·intro n M _ C;rw[afo] at C;have F:=mW av
      cases n with
      | loc k=>simp only[aa.obj] at C ⊢;exact⟨M,by rw[←aq];exact C⟩
      | out k=>simp only[aa.obj] at C ⊢;exact⟨M,by rw[←F];exact C⟩
     intro t n S _ ht C;rw[dm ht] at C;exact af7 (ba t) C
    | false=>
    rw[bk] at V;refine Bg a9 al bw hd (V.mono fun v bu n X r Q=>(X r Q).2) ?_;intro v cv bu n w' R' N' g I bc bm hk af _;have cb:=pq (all:=B.toList) hm (by simpa using hi) ae bk;have a8:∀n,Eh (aK H B.toList h.pre) n=true->∃k,n=.loc k:=by
     intro n C
     cases n with
     | loc k=>exact⟨k,rfl⟩
     | out k=>rw[cb] at C;simp[Eh] at C
    refine hK _ cv w' R' N' g U I bc (ad bm (hk.sub (by intro x X;simp[X])) ?_ af ?_ ?_ (.inr ⟨c,a2⟩)) (hk.sub (by intro x X;simp[X])) (fun o b h=>af _ _ h)
    ·intro n M b C ao hb;obtain⟨k,rfl⟩:=a8 n C;exact vR hp.rel.locs hk (by intro x X;simp[X]) _ M b ao hb
    ·intro n M bi C;obtain⟨k,rfl⟩:=a8 n bi;rw[afo] at C;simp only[aa.obj] at C ⊢;exact⟨M,by rw[←aq];exact C⟩
    intro t n S _ ht C;rw[dm ht] at C;exact af7 (ba t) C
   exact V.elim
  split at V
  ·rename_i t ht
   split at V
   ·rename_i s1 a6
    split at V
    ·rename_i s' a5;obtain⟨c,_,a2,_,_⟩:=pc ht
     -- the loads by which it owns have come up
     have az:∀k∈gk B.toList t (ae5 h.tk t s),A[k]?=some true:=by
      intro k hk;unfold oV at bt;have a:=List.all_eq_true.1 bt (i,true) hm;simp only[hi,ht] at a;have h2:=List.all_eq_true.1 a k (mZ hk);obtain⟨e,ca,be⟩:=Array.any_eq_true'.1 h2;simp only[Bool.and_eq_true,beq_iff_eq] at be;obtain⟨_,o',a1,a4⟩:=mem_ready.1 ci;rw[hi] at a1;simp at a1;subst a1;have h3:=a4 e ca be.1;rw[be.2] at h3;rw[Array.getD_eq_getD_getElem?] at h3
      cases J:A[k]? with
      | none=>rw[J] at h3;simp at h3
      | some b=>rw[J] at h3;simp at h3;rw[h3]
     obtain⟨cp,bs,br,bl⟩:=tz _ a6 hp.rel (fun k o' T u t' n S M hk a1 b4 b9 cc cl b3 b0 bv=>hp.tkf k o' T u t' n S M (kI (mZ hk)).1 (az k hk) a1 b4 b9 cc cl b3 b0 bv);obtain⟨cv,w',R',g,a3,al,an⟩:=Nu W ht a5 bl;refine vE a3 ?_;obtain⟨v,he,_⟩:=uW ht a5;refine hK s' cv w' R' N g bs br V (ad al (an.sub (by intro x X;simp[X])) ?_ (fun _ _ h=>h) ?_ ?_ (.inr ⟨c,a2⟩)) (an.sub (by intro x X;simp[X])) (fun _ _ h=>h)
     ·intro n M b _ ao hb;obtain⟨y,hy⟩:=zt _ _ _ a6 n M ao;exact qe bl.locs bl.heap an (by intro x X;simp[X]) (by intro x X;simp[X]) n y b hy hb
     ·intro n M _ C;rw[he,afo] at C;exact zw _ _ _ a6 n M (by cases n <;> exact C)
     intro t' n S _ cj C;rw[he,dm cj] at C;have e1:=kC (s:=s1) (x:=.tmp t) t';simp only[bF,List.getElem?_cons_zero] at e1;exact zr _ _ _ a6 t' _ _ (af7 e1 C)
    exact V.elim
   exact V.elim
  split at V
  ·rename_i bn
   split at V
   ·rename_i s' a5;unfold gJ at a7;have g1:=List.all_eq_true.1 a7 (i,true) hm;simp only[hi,bn,Bool.not_true,Bool.false_or,Bool.and_eq_true,Option.isNone_iff_eq_none,List.isEmpty_iff] at g1;obtain⟨⟨⟨bg,bo⟩,_⟩,_⟩:=g1;obtain⟨cv,w',a3,⟨R',N',g,L,I,ch,ce,b7,_⟩,_⟩:=qF W a5 hp.rel;refine vE a3 (hK s' cv w' R' N' g L I V ⟨ch,?_,?_⟩ (ce.sub (by intro x X;simp[X])) b7)
    ·intro j q t' d b5 hj;rw[bg] at hj;simp at hj
    intro j q T u t' n S M hj;rw[bo] at hj;simp at hj
   exact V.elim
  rename_i bn;exact (bx ⟨by assumption,by assumption,bn,hw⟩).elim
 rename_i hb;rw[if_neg hb];have cg:o.guard≠none:=by
  intro J;unfold dC at hw;rw[J] at hw;simp at hw;exact hb hw
 obtain⟨g,al⟩:=nO hp.rel o.dst;exact⟨fun _ _=>trivial,hK _ undef w R N g U bb V (ad al (aZ _) (fun _ _ _ _ _ _=>rfl) (fun _ _ h=>h) (fun n M _ C=>⟨M,by rw[afo] at C;exact C⟩) (fun t n S _ ht C=>by rw[dm ht] at C;exact C) (.inl cg)) (aZ _) (fun _ _ h=>h)⟩
def nS (E:bz) (a:List Oper) (c:Option Nat) (s:aa):Option aa:=
 match c with
 | none=>some s
 | some i=>(match a[i]? with
  | some o=>(match o.op,o.dst,o.guard with
   | .alloc t,some d,none=>(match E.ty t with
    | some b=>if dU (aY (bE b.zero))=true/\aU (.loc d) (aY (bE b.zero))=false/\d < s.tmps.length then some (newObj s d (.cells (aY (bE b.zero)))) else none
    | none=>none)
   | _,_,_=>none)
  | none=>none)
theorem FE {a:List Oper} {b:Option Nat} {c:aa} (h:iA E a b s=some c):nS E a b s=some c:=by
 unfold iA at h;grind[nS]
theorem mG {n:Name}:∀{l:List ac} {t:Nat} {v:ac},aU n l=false->l[t]?=some v->mentions n v=false
 | [],_,_,_,h=>by grind
 | a::l,0,v,h,V=>by grind[aU]
 | a::l,t+1,v,h,V=>by simp only[aU,Bool.or_eq_false_iff] at h;exact mG h.2 (by simpa using V)
theorem vH {n:Name}:∀{l:List ac} {t:Nat},(∀v,l[t]?=some v->mentions n v=false)->(dD n l)[t]?=l[t]?
 | [],_,_=>rfl
 | a::l,0,h=>by grind[dD]
 | a::l,t+1,h=>by simp only[dD,List.getElem?_cons_succ];exact vH (fun v V=>h v (by grind))
theorem CI {l:List ac} {d:Nat} {a:ac} (h:aU n (l.set d a)=false) {t:Nat} (T:t≠d):(dD n l)[t]?=l[t]?:=
 vH fun v V=>mG h (by rw[List.getElem?_set_ne (Ne.symm T)];grind)
theorem MA {l:List ac} {d:Nat} {a:ac} (h:aU n (l.set d a)=false):(dD n l).set d a=l.set d a:=by
 apply List.ext_getElem?
 grind[CJ,CI]
theorem IE {l:List ac} (h:aU n l=false):dD n l=l:=by
 apply List.ext_getElem?
 grind[vH,mG]
theorem FF {b:Array Oper} {g:Option Nat} {r:aa} {d:Tmp} {a:ac} (h:iA E b.toList g (s.put (some d) a)=some r) (f:qf b g≠some d) :
  ∃c,nS E b.toList g s=some c/\r=c.put (some d) a/\∀x,x≠d->qf b g≠some x->bq c.tmps x=bq s.tmps x:=by
 unfold iA at h;unfold nS
 cases g with
 | none=>grind
 | some i=>
  dsimp only at h ⊢
  cases u:b.toList[i]? with
  | none=>grind
  | some o=>
   rw[u] at h;dsimp only at h ⊢
   split at h
   ·rename_i t j n D J;rw[n,D,J];have m:qf b (some i)=some j:=by
     grind[qf]
    rw[m] at f;have l:j≠d:=fun e=>f (by rw[e])
    dsimp only
    cases p:E.ty t with
    | none=>grind
    | some v=>
     rw[p] at h;dsimp only at h ⊢
     split at h
     ·rename_i k;have q:aU (.loc j) (s.tmps.set d a)=false:=k.2.2.2;rw[if_pos ⟨k.1,k.2.1,by grind[aa.put]⟩];simp at h;refine⟨_,rfl,?_,?_⟩
      ·rw[←h];simp only[newObj,aa.put];rw[IE q,List.set_comm _ _ l,MA q]
      grind[newObj,bq,CI]
     grind
   grind
theorem MO {Z:Bool} {j:List Oper} {c:Oper} {x d:Tmp} {a:ac} (A:ju o c=true) (X:opsL o.op=[.tmp x]) (D:o.dst=some d) {i:aa} {K:aa->Prop} (p:eK E G Z j o s=some a) (S:bq i.tmps x=bq s.tmps x)
  (h:mT (ay P G) E G H j c K (i.put (some d) a)) :
  ∃q,aa4 E G (readOnly H.moves j c) (lQ H j c) c i=some q/\aa4 E G true false o q=some (q.put (some d) a)/\K (q.put (some d) a):=by
 unfold ju at A;simp at A;obtain⟨⟨⟨⟨g1,g2⟩,g3⟩,g⟩,n⟩:=A;have L:lK o.op=none/\oE o.op=false/\(∀m,looks o.op m=none)/\(opsL c.op).any (dI x)=false/\(opsL c.op).any (dI d)=false/\c.dst≠some x/\c.dst≠some d:=by
  split at n
  ·rename_i y k Y C F;rw[C] at X ⊢;simp[opsL] at X;subst X;rw[D] at F;simp at F;subst F;simp only[Bool.and_eq_true,Bool.not_eq_true',bne_iff_ne] at n;exact⟨rfl,rfl,fun _=>rfl,n.1.1.1,n.1.1.2,n.1.2,n.2⟩
  ·rename_i y Y C F;rw[C] at X ⊢;simp[opsL] at X;subst X;rw[D] at F;simp at F;subst F;simp only[Bool.and_eq_true,Bool.not_eq_true',bne_iff_ne] at n;exact⟨rfl,rfl,fun _=>rfl,n.1.1.1,n.1.1.2,n.1.2,n.2⟩
  simp at n
 obtain⟨hc,I,l,h1,b,N,M⟩:=L;unfold mT at h;simp only[g2,dC,g,if_true] at h
 split at h
 ·rename_i B O;obtain⟨v,z,U⟩:=oZ g3 O;have z:=z i.tmps (by
   intro t T;have R:d≠t:=fun e=>by rw[←e,b] at T;simp at T
   simp only[aa.put];rw[bG R])
  have Q:({(i.put (some d) a) with tmps:=i.tmps }:aa)=i:=rfl;rw[Q] at z;have w:B=({B with tmps:=hZ (fV i.tmps (kp (readOnly H.moves j c) c.op) (opsL c.op)) c.dst v }:aa).put (some d) a:=by
   obtain⟨t3,l3,f,n3⟩:=B;simp only[aa.put] at U ⊢;rw[U,nD b,oQ M]
  refine⟨_,z,?_,by rw[←w];exact h⟩;unfold eK at p;simp only[g1,dC,if_true,I,Bool.false_eq_true,if_false,hc] at p
  split at p
  ·split at p
   ·rename_i ab r
    split at p
    ·rename_i hk;simp only[Option.some.injEq] at p;have u:∀W:aa,∀m,aX W o.op m=none:=fun W m=>by unfold aX;rw[l]
     rw[u] at r;have J:bq (hZ (fV i.tmps (kp (readOnly H.moves j c) c.op) (opsL c.op)) c.dst v) x=bq s.tmps x:=by rw[sX N,iP h1,S]
     have V:aE G ({B with tmps:=hZ (fV i.tmps (kp (readOnly H.moves j c) c.op) (opsL c.op)) c.dst v }:aa) none 0 (opsL o.op)=aE G s none 0 (opsL o.op):=by
      rw[X];simp only[aE,fm,J]
     have hm:kp true o.op=none:=rfl;unfold aa4;rw[hm,V,u,r];simp only[dW,hk,bF,D,p]
    simp at p
   simp at p
  simp at p
 exact h.elim
theorem Kn (W:E.Ok P) (ops:Array Oper) {i:Nat} (y:ops[i]?=some o) (J:o.guard=none) {q j:Bool} {p:aa} (m:aa4 E G q j o s=some p) {u:Exit->Act->World->Prop} {N:Name->Option Nat} {a:Act} {Z U H z:List Nat} (r:dw G w R N a.tmps.toList s undef .undef [] Z U H z) (C:a.defers=D) :
  wpOpIn (rdF rd) 1 P ops u i (Sm G D (fun B=>B=p) w R N z) a w:=by
 unfold wpOpIn;simp only[y];have n:=ke (ops:=ops) (o:=o) (b:=true) r.tmps (by rw[J];rfl);rw[n,if_pos rfl];refine aql ?_ rd ?_
 ·cases O:o.op <;> first|rfl|grind[aa4,jE]
 obtain⟨v,F,g,⟨x,t,f,e,d,l,k,c,_⟩,_⟩:=qF W m r;exact vE g ⟨p,x,t,f,e,d,rfl,l,by grind[ga],k,fun o b h=>c _ _ h⟩
theorem tA {P:Array Oper} {N:Name->Option Nat} {f:Act} {Z U H B z:List Nat} {nw:Option Nat} {s':aa} (h:nS E P.toList nw s=some s')
  (n:dw G w R N f.tmps.toList s undef .undef [] Z U H (B++z))
  (hf:∀i o t d Q,nw=some i->P[i]?=some o->o.op=.alloc t->o.dst=some d->o.guard=none->E.ty t=some Q->d < f.tmps.size->
   ∃b,b∈B/\f.tmps[d]?=some (.pointer (some ⟨b,0,none⟩))/\aI w R N (.cells (aY (bE Q.zero))) b []) :
  ∃N' A y,dw G w R N' f.tmps.toList s' undef .undef [] A y H z/\∀k,N' (.out k)=N (.out k):=by
 cases nw with
 | none=>
  simp[nS] at h;subst h;refine⟨N,Z,U,⟨n.val,n.tmps,n.locs,n.heap,?_,n.next,n.glob,fun b hb=>n.frame b (by grind)⟩,fun _=>rfl⟩;refine List.Nodup.sublist ?_ n.nodup;grind
 | some i=>
  simp only[nS] at h
  split at h
  ·rename_i o O
   split at h
   ·rename_i t d W D J
    split at h
    ·rename_i Q af
     split at h
     ·rename_i r;simp at h;subst h;have ae:f.tmps.size=s.tmps.length:=by have:=n.tmps.length;simpa using this
      obtain⟨b,T,V,L⟩:=hf i o t d Q rfl (by simpa using O) W D J af (by rw[ae];exact r.2.2);have hN:∀m,m≠Name.loc d->bX N (.loc d) b m=N m:=fun m hm=>by simp[bX,hm]
      obtain⟨p,t1,t2⟩:=ah.pZ hN n.tmps;obtain⟨g,l1,l2⟩:=aj.pZ hN n.locs;have K:aI w R (bX N (.loc d) b) (.cells (aY (bE Q.zero))) b []:=nU L (fun cs C=>by simp at C;subst C;exact r.2.1);have S:aj w R (outs (bX N (.loc d) b)) s.heap H:=n.heap.tO (fun k=>by simp[bX]);have ad:ai w R (bX N (.loc d) b) (.ptr (.loc d) 0) (.pointer (some ⟨b,0,none⟩)) []:=by simp[ai,bX]
      have I:([]++(p++((b::([]++g))++(H++z)))).Nodup:=by
       have h0:=n.nodup;obtain⟨x1,x2,e⟩:=List.append_of_mem T;subst e;have a:(b::(Z++(U++(H++z)))).Nodup:=by
        have Y:([]++(Z++(U++(H++((x1++b::x2)++z))))).Perm ((x1++x2)++(b::(Z++(U++(H++z))))):=by
         rw[List.perm_iff_count];intro q;simp only[List.count_append,List.count_cons,List.count_nil];omega
        exact (List.nodup_append.1 (Y.nodup_iff.1 h0)).2.1
       have Y:([]++(p++((b::([]++g))++(H++z)))).Perm (b::(p++(g++(H++z)))):=by rw[List.perm_iff_count];intro q;simp only[List.count_append,List.count_cons,List.count_nil];omega
       refine Y.nodup_iff.2 (List.Nodup.sublist ?_ a);exact (List.Sublist.append t2 (List.Sublist.append l2 (.refl _))).cons_cons _
      obtain⟨u,M,ab⟩:=ng d t1 ad I;have F:f.tmps.toList[d]?=some (.pointer (some ⟨b,0,none⟩)):=by simpa using V
      have v:f.tmps.toList.set d (.pointer (some ⟨b,0,none⟩))=f.tmps.toList:=by
       apply List.ext_getElem?
       intro j;rw[List.getElem?_set]
       split
       ·rename_i hj;subst hj;split
        ·exact F.symm
        rename_i l;rw[List.getElem?_eq_none (by omega)]
       rfl
      rw[v] at M;refine⟨bX N (.loc d) b,u,b::([]++g),⟨aJ _,?_,?_,?_,by simpa using ab,?_,n.glob,fun x X=>n.frame x (by simp[X])⟩,fun k=>by simp[bX]⟩
      ·simp only[newObj,As];exact M
      ·simp only[newObj];exact⟨b,[],g,rfl,by simp[bX],K,l1⟩
      ·simp only[newObj];exact S
      intro k c hk;simp[bX] at hk;simp only[newObj];exact n.next k c hk
     simp at h
    simp at h
   simp at h
  simp at h
theorem sd {a:Array Oper}:∀(r:List (Nat×Bool)) (l:Array Bool),oU a r l=true->l.size=a.size->∀x∈r,(eR r l)[x.1]?=some true
 | [],_,_,_,x,X=>by grind
 |(i,lone)::r,l,e,c,x,X=>by
  simp only[oU,Bool.and_eq_true] at e
  rcases List.mem_cons.1 X with rfl|X
  ·simp only[eR]
   apply lZ
   have b:i∈Region.ready .any a l:=by
    grind
   obtain⟨_,o,O,_⟩:=mem_ready.1 b;grind[bK]
  exact sd r (bK l i) e.2 (by grind[bK]) x X
theorem xM (W:E.Ok P) {l:Array Oper} {h:aw} (hc:ew l h=true) (bv:oV l h=true) (bi:gJ l h=true) {p:Array Bool} {Q:aa->Prop} {Kx:Exit->Act->World->Prop} (a6:∀x∈h.pre,p[x.1]?=some true) (bc:iR l h.tail p=true) :
  ∀(B F:Nat) (g:Array Bool) (s:aa),B+h.tail.length<=F->g.size=l.size->fp l g->
   qO P E G H l h p (fun s1=>match iA E l.toList h.nw s1 with
    | some s2=>mS (ay P G) E G H l.toList Q (dZ l.toList h.tail) s2
    | none=>False) B g s->
   ∀(w:World) (R:Own) (N:Name->Option Nat) (m:Act) (Z U n q z:List Nat),B3 E G H l h g w R N m s Z U n q z->m.defers=D->
   (∀I V,Sm G D Q w R N z I V->Kx .normal I V)->wpAnyIn (rdF rd) 1 P .any l Kx F g m w:=by
 have an:∀(F:Nat) (s:aa),h.tail.length<=F->(match iA E l.toList h.nw s with
    | some s2=>mS (ay P G) E G H l.toList Q (dZ l.toList h.tail) s2
    | none=>False)->
   ∀(w:World) (R:Own) (N:Name->Option Nat) (m:Act) (Z U n q z:List Nat),B3 E G H l h p w R N m s Z U n q z->m.defers=D->
   (∀I V,Sm G D Q w R N z I V->Kx .normal I V)->wpAnyIn (rdF rd) 1 P .any l Kx F p m w:=by
  intro F s hF hT w R N m Z U n q z hp Y hK;have a8:∀i,i∈h.nw.toList++h.tk->p[i]?=some true:=by
   intro i hi;have h1:=List.all_eq_true.1 hc i hi;grind
  split at hT
  ·rename_i s3 ch;obtain⟨N3,a5,a4,ba,a7⟩:=tA (FE ch) hp.rel (fun i o t d ti hi O a9 Y J bd u=>hp.nwf i o t d ti hi (a8 i (by grind)) O a9 Y J bd u);exact mr W l Q Kx h.tail p F s3 bc hF hT w R N3 m a5 a4 n z ba Y (fun I V h'=>hK I V (h'.trans (aZ _) (fun o b hb=>by grind)))
  exact hT.elim
 have ag:∀{B:Nat} (F:Nat) (g:Array Bool) (s:aa),B+1+h.tail.length<=F->g.size=l.size->fp l g->∀(i:Nat) (oi:Oper) (a:ac),bK g i=p->oB l h p i=true->l[i]?=some oi->(i,false)∈h.pre->
   i∈Region.ready .any l g->eK E G (aK H l.toList h.pre||quietAt H l.toList h.pre i) l.toList oi s=some a->
   (match iA E l.toList h.nw (s.put oi.dst a) with
    | some s2=>mS (ay P G) E G H l.toList Q (dZ l.toList h.tail) s2
    | none=>False)->
   ∀(w:World) (R:Own) (N:Name->Option Nat) (m:Act) (Z U n q z:List Nat),B3 E G H l h g w R N m s Z U n q z->m.defers=D->
   (∀I V,Sm G D Q w R N z I V->Kx .normal I V)->wpAnyIn (rdF rd) 1 P .any l Kx F g m w:=by
  intro B F g s hF T L i oi a ae u ao hm bb hq hT w R N m Z U n q z hp Y hK;have br:=cJ bb T;have hb:=tB br ae;have ck:=u;unfold oB at u
  split at u
  ·simp at u
  ·rename_i j r bo;rw[hb] at u;simp only[Bool.and_eq_true,Bool.or_eq_true,beq_iff_eq] at u;obtain⟨⟨⟨⟨⟨⟨⟨ar,cf⟩,cm⟩,bx⟩,_⟩,cb⟩,cn⟩,S⟩:=u
   split at S
   rotate_left
   ·simp at S
   rename_i cp oj aq bn;rw[ao] at aq;simp at aq;subst aq;simp only[Bool.and_eq_true] at S;obtain⟨⟨af,az⟩,b9⟩:=S;obtain⟨F',rfl⟩:∃F',F=F'+1:=⟨F - 1,by omega⟩
   -- i first
   have hi:wpOpIn (rdF rd) 1 P l Kx i (wpAnyIn (rdF rd) 1 P .any l Kx F' (g.setIfInBounds i true)) m w:=by
    refine ID W hc hp L Y ao br hm hq ?_;intro v V R' y ab ad C;rw[show g.setIfInBounds i true=p from ae];rw[ae] at ad;exact an F' _ (by omega) hT V R' N _ y U n ab z ad (by rw[(ga m oi.dst v).2];exact Y) (fun I w2 h'=>hK I w2 (h'.trans C (fun _ _ hb=>hb)))
   -- j first
   have hj:wpOpIn (rdF rd) 1 P l Kx j (wpAnyIn (rdF rd) 1 P .any l Kx F' (g.setIfInBounds j true)) m w:=by
    obtain⟨x,d,X,av⟩:∃x d,opsL oi.op=[.tmp x]/\oi.dst=some d:=by
     have am:=af;unfold ju at am;simp only[Bool.and_eq_true] at am;have g5:=am.2
     split at g5
     ·rename_i x k d e1 e2;exact⟨x,d,by rw[e1];rfl,e2⟩
     ·rename_i x d e1 e2;exact⟨x,d,by rw[e1];rfl,e2⟩
     simp at g5
    rw[av] at hT
    split at hT
    ·rename_i s2 cg;have bl:qf l h.nw≠some d:=by rw[←av];simpa using b9
     obtain⟨cr,b8,rfl,b3⟩:=FF cg bl;rw[X,av] at az;simp at az;have ci:x≠d:=fun e=>by have:=az.1;rw[e] at this;simp[dI] at this
     have cj:qf l h.nw≠some x:=fun e=>by
      have:=az.2
      rw[e] at this;simp[dI] at this
     have b4:l.toList[j]?=some oj:=by simpa using bn
     rw[bo] at hT;simp only[dZ,b4,mS,iT] at hT;obtain⟨cs,k1,K,M⟩:=MO af X av hq (b3 x ci cj) hT;have a8:∀k,k∈h.nw.toList->g[k]?=some true:=by
      intro k C;have h1:=List.all_eq_true.1 (by unfold ew at hc;exact hc) k (List.mem_append_left _ C);simp only[Bool.and_eq_true] at h1;have h2:=a6 (k,false) (by simpa using h1.1);have b7:i≠k:=fun e=>by subst e;simp[C] at cb
      rw[←ae] at h2;unfold bK at h2;rwa [Array.getElem?_setIfInBounds_ne b7] at h2
     obtain⟨N3,a5,a4,ba,a7⟩:=tA b8 hp.rel (fun k o t dk ti C O a9 b2 J bd u=>hp.nwf k o t dk ti C (a8 k (by simp[C])) O a9 b2 J bd u);have gj:oj.guard=none/\oi.guard=none:=by
      unfold ju at af;simp only[Bool.and_eq_true,Bool.or_eq_true,Option.isNone_iff_eq_none] at af;exact⟨af.1.1.1.2,af.1.1.1.1⟩
     refine wpOpIn_mono ?_ (Kn W l bn gj.1 k1 ba Y);rintro I V ⟨s',R',N',y,a1,a0,rfl,cc,b0,b5,c⟩;have cl:h.tail.length=r.length+1:=by rw[bo];rfl
     obtain⟨F2,rfl⟩:∃F2,F'=F2+1:=⟨F' - 1,by omega⟩;refine wpAnyIn_all cf (by simp) ?_;intro k C;simp at C;subst C;refine wpOpIn_mono ?_ (Kn W l ao gj.2 K cc b0);rintro a2 w2 ⟨cq,R2,N2,bg,bf,be,rfl,ce,b1,b6,bt⟩;have bw:(g.setIfInBounds j true).setIfInBounds k true=bK p j:=by
      rw[←ae];unfold bK
      by_cases bk:j=k
      ·subst bk;rfl
      exact Array.setIfInBounds_comm _ _ bk
     rw[bw];refine mr W l Q Kx r (bK p j) F2 _ bx (by omega) M w2 R2 N2 a2 bg bf be z ce b1 (fun a3 w3 f=>hK a3 w3 ?_);exact ((f.trans b6 bt).trans b5 c).trans (aZ _) (fun o b hb=>by rw[a7];exact hb)
    exact hT.elim
   rcases ar with ar|ar
   ·refine wpAnyIn_all ar (by simp) ?_;intro k C;simp at C
    rcases C with rfl|rfl
    ·exact hi
    exact hj
   refine wpAnyIn_all ar (by simp) ?_;intro k C;simp at C
   rcases C with rfl|rfl
   ·exact hj
   exact hi
 intro B
 induction B with
 | zero=>
  intro F g s hF _ _ A w R N m Z U n q z hp Y hK;obtain⟨rfl,hT⟩:=A;exact an F s (by omega) hT w R N m Z U n q z hp Y hK
 | succ B ih=>
  intro F g s hF T L A w R N m Z U n q z hp Y hK
  rcases A with⟨rfl,hT⟩|⟨_,ca,ax⟩|⟨i,oi,a,ae,u,ao,hm,bb,hq,hT⟩
  rotate_right
  ·exact ag F g s hF T L i oi a ae u ao hm bb hq hT w R N m Z U n q z hp Y hK
  ·exact an F s (by omega) hT w R N m Z U n q z hp Y hK
  obtain⟨F',rfl⟩:∃F',F=F'+1:=⟨F - 1,by omega⟩;refine⟨fun h0=>absurd h0 ca,fun i hi=>?_⟩;obtain⟨lone,o,hm,O,hs⟩:=ax i hi
  cases lone
  ·simp only[Bool.false_eq_true,if_false] at hs;obtain⟨a,al,bu⟩:=hs;refine ID W hc hp L Y O (cJ hi T) hm al ?_;intro v V R' y ab ad C;exact ih F' (bK g i) _ (by omega) (by simpa [bK] using T) (L.step hi) bu V R' N _ y U n ab z ad (by rw[(ga m o.dst v).2];exact Y) (fun I w2 h'=>hK I w2 (h'.trans C (fun _ _ hb=>hb)))
  simp only[if_true] at hs
  by_cases bm:lK o.op=none/\fk o.op=none/\iI o.op=false/\dC l.toList s o.guard=some true
  ·obtain⟨n1,n2,n3,n4⟩:=bm;unfold KV at hs;simp only[n1,n2,n3,n4,if_true] at hs
   cases al:eK E G (aK H l.toList h.pre) l.toList o s with
   | none=>rw[al] at hs;exact hs.elim
   | some a=>
    rw[al] at hs;dsimp only at hs;refine ID W hc hp L Y O (cJ hi T) hm al ?_;intro v V R' y ab ad C;exact ih F' (bK g i) _ (by omega) (by simpa [bK] using T) (L.step hi) hs V R' N _ y U n ab z ad (by rw[(ga m o.dst v).2];exact Y) (fun I w2 h'=>hK I w2 (h'.trans C (fun _ _ hb=>hb)))
  refine XZ W hc bv bi hp L Y O (cJ hi T) hm hi bm hs ?_;intro s' v V R' N' y a1 a0 bs ad C hN;exact ih F' (bK g i) s' (by omega) (by simpa [bK] using T) (L.step hi) bs V R' N' _ y a1 a0 q z ad (by rw[(ga m o.dst v).2];exact Y) (fun I w2 h'=>hK I w2 (h'.trans C (fun o b hb=>hN _ _ hb)))
theorem HJ (W:E.Ok P) {f:Array Oper} {Q:aa->Prop} {B:Exit->Act->World->Prop} :
  ∀(m F:Nat) (a:Array Bool) (s:aa),afz (ay P G) E G H f.toList Q m a s->m<=F->∀(w:World) (R:Own) (N:Name->Option Nat) (d:Act) (Z U e z:List Nat),
   dw G w R N d.tmps.toList s undef .undef [] Z U e z->d.defers=D->(∀n t,Sm G D Q w R N z n t->B .normal n t)->wpAnyIn (rdF rd) 1 P .any f B F a d w:=by
 intro m
 induction m with
 | zero=>
  intro F a s h _ w R N d Z U e z r q p;exact wpAnyIn_done h.1 (p _ _ ⟨s,R,N,Z,U,e,h.2,r,q,aZ _,fun _ _ h=>h⟩) F
 | succ m M=>
  intro F a s h V w R N d Z U e z r q p;rcases h with h|⟨y,l⟩
  ·exact wpAnyIn_done h.1 (p _ _ ⟨s,R,N,Z,U,e,h.2,r,q,aZ _,fun _ _ h=>h⟩) F
  obtain⟨u,rfl⟩:∃u,F=u+1:=⟨F - 1,by omega⟩;refine wpAnyIn_all (rs:=Region.ready .any f a) rfl y ?_;intro j K;obtain⟨o,O,b⟩:=l j K;refine wpOpIn_mono ?_ (jv W f (by grind) b r q);rintro n t ⟨S,I,C,k,i,g,L,A,v,x,c⟩;exact M u _ S L (by omega) t I C n k i g z A v (fun J T b=>p J T (b.trans x c))
theorem tK:∀(r:List (Nat×Bool)),(lA r).length<=r.length
 | []=>by simp[lA]
 |(i,true)::r=>by simp[lA]
 |(i,false)::r=>by simp only[lA,List.length_cons];have:=tK r;omega
theorem zW:∀(r:List (Nat×Bool)) (l:Array Bool) {n:Nat},l.size=n->(∀y∈r,y.1 < n)->∀x∈r,(eR r l)[x.1]?=some true
 | [],_,_,_,_,x,X=>by grind
 |(i,b)::r,l,n,N,a,x,X=>by
  have s:(bK l i).size=n:=by grind[bK]
  rcases List.mem_cons.1 X with rfl|X
  ·exact lZ r (bK l i) i (by grind[bK])
  exact zW r (bK l i) s (fun y c=>a y (by grind)) x X
theorem BB (W:E.Ok P) (hm:P.follows .mixedOrders=true) {id:Nat} {f:Array Oper} {h:aw} {Q:Exit->aa->Prop} (C:(gz h||(if gP h=true then RN f (aar h) else (ZI f h||Je f h)))=true) (K:Bz (ay P G) E G H f.toList h (Q .normal) s):cL P G (.region id f true) Q s:=by
 by_cases X:gz h=true
 ·intro w R N r Z U v z p D F;unfold Bz at K;rw[if_pos X,Array.length_toList] at K;refine anm hm fun rd=>?_
  have I:Step w R {w with drawn:=w.drawn+1 } R:=⟨rfl,rfl,rfl,Nat.le_refl _,fun _ _ h=>⟨rfl,h⟩,fun _ _ _ h=>⟨h,rfl⟩,fun _ _=>rfl⟩;have e:∀B,bp w R {w with drawn:=w.drawn+1 } R B:=fun B=>⟨I,fun _ _ _=>⟨rfl,fun _ h=>h⟩⟩
  have Y:dw G {w with drawn:=w.drawn+1 } R N r.tmps.toList s undef .undef [] Z U v z:=
   ⟨aJ _,p.tmps.keep (e _),p.locs.keep (e _),p.heap.keep (e _),p.nodup,p.next,fun g c J=>(p.glob g c J).step I,p.frame⟩
  refine HJ W f.size f.size _ s K (Nat.le_refl _) _ R N r Z U v z Y F ?_;rintro a' w' ⟨s',R',N',a6,a5,a4,⟨s0,hq,aq⟩,a1,az,a0,av⟩;obtain⟨N2,am,al,ag,a2,ax⟩:=aq _ _ _ _ _ _ _ _ a1;exact⟨s0,R',N2,am,al,ag,hq,a2,az,(e _).trans a0,fun o b hb=>ax o b (p.next o b hb) (av o b hb)⟩
 have ar:gz h=false:=by grind
 rw[ar,Bool.false_or] at C;unfold Bz at K;rw[if_neg X] at K
 by_cases af:gP h=true
 ·rw[if_pos af] at C K;obtain⟨L,an⟩:∃L,L=aar h:=⟨_,rfl⟩;rw[←an] at C K;intro w R N r Z U v z p D F;unfold RN at C;simp only[Bool.and_eq_true,decide_eq_true_eq] at C;obtain⟨⟨⟨⟨⟨⟨⟨S,M⟩,O⟩,m⟩,A⟩,j⟩,ae⟩,ao⟩:=C;refine anm hm fun rd=>?_
  unfold By at K;have a7:(lA L.pre).length<=L.pre.length:=tK L.pre;have ad:fp f (Array.replicate f.size false):=fun d o F=>by
   grind
  have ab:∀x∈L.pre,(eR L.pre (Array.replicate f.size false))[x.1]?=some true:=fun x X=>zW L.pre _ (n:=f.size) (by simp) (fun y hy=>by grind) x X
  have V:=qM (P:=P) (E:=E) (G:=G) (H:=H) m A j M ab (L.pre.length - (lA L.pre).length) (lA L.pre) (Array.replicate f.size false) s (fun _ h=>tJ h) (by simp) ad S (fun s' h=>so _ _ _ h) K;have I:Step w R {w with drawn:=w.drawn+1 } R:=⟨rfl,rfl,rfl,Nat.le_refl _,fun _ _ h=>⟨rfl,h⟩,fun _ _ _ h=>⟨h,rfl⟩,fun _ _=>rfl⟩;have e:∀B,bp w R {w with drawn:=w.drawn+1 } R B:=fun B=>⟨I,fun _ _ _=>⟨rfl,fun _ h=>h⟩⟩
  have Y:dw G {w with drawn:=w.drawn+1 } R N r.tmps.toList s undef .undef [] Z U v ([]++z):=
   ⟨aJ _,p.tmps.keep (e _),p.locs.keep (e _),p.heap.keep (e _),p.nodup,p.next,fun g c J=>(p.glob g c J).step I,p.frame⟩
  have q:∀(i:Nat),(Array.replicate f.size false)[i]?≠some true:=by
   intro i hi;rw[Array.getElem?_replicate] at hi
   split at hi <;> simp at hi
  refine xM W m A j ab O _ f.size _ s (by omega) (by simp) ad V _ R N r Z U v [] z ⟨Y,?_,?_⟩ F ?_
  ·intro i o t d ti _ l;exact absurd l (q i)
  ·intro i o T u t n a3 ob _ l;exact absurd l (q i)
  intro a' w' L;exact L.trans (e _) (fun _ _ h=>h)
 rw[if_neg af] at C K;rw[Bool.or_eq_true] at C
 rcases C with C|C
 rotate_left
 ·exfalso
  unfold Je at C;simp only[Bool.and_eq_true,List.isEmpty_iff] at C;obtain⟨a,h2⟩:=C;rw[a] at K;simp only[mu] at K
  split at h2
  ·rename_i k hk;rw[hk] at K
   have:f.toList[k]?=none:=by simpa using h2
   simp only[iA,this] at K
  simp at h2
 intro w R N r Z U v z p D F;unfold ZI at C;simp only[Bool.and_eq_true,decide_eq_true_eq] at C;obtain⟨⟨⟨⟨⟨⟨⟨_,S⟩,M⟩,O⟩,m⟩,A⟩,j⟩,ae⟩:=C;refine anm hm fun rd=>?_
 have V:=qN (P:=P) (E:=E) (G:=G) (H:=H) m A j M h.pre (Array.replicate f.size false) s h.pre.length (fun _ h=>h) (by simp) (fun d o F=>by rw[Array.getElem?_replicate] at F;split at F <;> simp at F) rfl S (Nat.le_refl _) K;have I:Step w R {w with drawn:=w.drawn+1 } R:=⟨rfl,rfl,rfl,Nat.le_refl _,fun _ _ h=>⟨rfl,h⟩,fun _ _ _ h=>⟨h,rfl⟩,fun _ _=>rfl⟩;have e:∀B,bp w R {w with drawn:=w.drawn+1 } R B:=fun B=>⟨I,fun _ _ _=>⟨rfl,fun _ h=>h⟩⟩
 have Y:dw G {w with drawn:=w.drawn+1 } R N r.tmps.toList s undef .undef [] Z U v ([]++z):=
  ⟨aJ _,p.tmps.keep (e _),p.locs.keep (e _),p.heap.keep (e _),p.nodup,p.next,fun g c J=>(p.glob g c J).step I,p.frame⟩
 have q:∀(i:Nat),(Array.replicate f.size false)[i]?≠some true:=by
  intro i hi;rw[Array.getElem?_replicate] at hi
  split at hi <;> simp at hi
 refine xM W m A j (sd h.pre _ S (by simp)) O h.pre.length f.size _ s ae (by simp) (fun d o F=>by rw[Array.getElem?_replicate] at F;split at F <;> simp at F) V _ R N r Z U v [] z ⟨Y,?_,?_⟩ F ?_
 ·intro i o t d ti _ l;exact absurd l (q i)
 ·intro i o T u t n a3 ob _ l;exact absurd l (q i)
 intro a' w' L;exact L.trans (e _) (fun _ _ h=>h)
end
end Go.Tp
namespace Go.Tp
section
variable {P:Program} {E:bz} {G:bA} {H:Hints} {D:List Deferred}
variable {N:Name->Option Nat} {Q:Exit->aa->Prop} {w:World}
theorem Dx.trans {i:World} {R g:Own} {f:Name->Option Nat} {z:List Nat} (k:bp w R i g z) (n:∀o b,N (.out o)=some b->f (.out o)=some b) {e:Exit} {a:Act} {j:World}
  (h:Dx G D Q i g f z e a j):Dx G D Q w R N z e a j:=by
 obtain⟨s',m,l,Z,U,H,q,r,p,d,c⟩:=h;exact⟨s',m,l,Z,U,H,q,r,p,k.trans d,fun o b h=>c o b (n o b h)⟩
theorem wK {x y:Code} {s:aa} (h:cL P G x (fun e i=>match e with|.normal=>cL P G y Q i|e=>Q e i) s):cL P G (.seq x y) Q s:=by
 intro w R N j Z U H z q D p
 apply aqj
 refine lp (h w R N j Z U H z q p) ?_;rintro e a r ⟨i,l,k,d,c,b,o,g,f,n,m⟩
 cases e with
 | normal=>exact lp (o r l k a d c b z g f) (fun e a w h=>h.trans n m)
 | _=>exact⟨i,l,k,d,c,b,o,g,f,n,m⟩
theorem cL.mono {c:Code} {Q':Exit->aa->Prop} {s:aa} (h:cL P G c Q s) (n:∀e s,Q e s->Q' e s):cL P G c Q' s:=by
 intro w R N i Z U H z o D m;refine lp (h w R N i Z U H z o m) ?_;rintro e a q ⟨p,k,j,f,d,b,l,g⟩;exact⟨p,k,j,f,d,b,n _ _ l,g⟩
theorem gD {c:Code} {e:Exit} {s:aa} (d:∀{Q:Exit->Act->World->Prop} {a:Act} {w:World},Q e a w->c.wpR P Q a w) (h:Q e s):cL P G c Q s:=by
 intro w R N b Z U H z g D f;exact d ⟨s,R,N,Z,U,H,h,g,f,aZ _,fun _ _ h=>h⟩
theorem NS {R:Own} {a:ac} {v:Value} {B:List Nat} (h:ai w R N a v B):∃b,ai w R N (tidy a) v b/\b.Sublist B:=by
 unfold tidy
 split
 ·exact⟨[],qT h,List.nil_sublist _⟩
 grind
theorem B8 {w:World} {R:Own} {N:Name->Option Nat}:∀{d:List ac} {e:List Value} {B:List Nat},ah w R N d e B->∃c,ah w R N (jF d) e c/\c.Sublist B
 | [],_,_,h=>by obtain⟨rfl,rfl⟩:=aM h;exact⟨[],aP,.refl _⟩
 | a::d,_,_,h=>by
  obtain⟨v,i,r,Q,rfl,rfl,f,b⟩:=au h;obtain⟨p,j,K⟩:=NS f;obtain⟨q,M,g⟩:=B8 b;exact⟨p++q,by grind[jF,aD],List.Sublist.append K g⟩
def vB (b:Array Value):ResultVar->Sem Value
 | .tmp t=>pure (b.getD t undef)
 | .cell a t=>do loadVar t (←asAddr (b.getD a undef))
theorem mC (W:E.Ok P) {w:World} {R:Own} {N:Name->Option Nat} {A:Act} (J:∀g cs,G g=some cs->aed w R g cs):∀(O:List ResultVar) {s:aa} {S:List ac} {Z U H k:List Nat},gU E s O=some S->
  ah w R N s.tmps A.tmps.toList Z->aj w R N s.locs U->aj w R (outs N) s.heap H->(Z++k).Nodup->
  ∃m X Y,(O.mapM (vB A.tmps)).run P w=.ok m w/\ah w R N S m X/\m.length=O.length/\(X++(Y++k)).Nodup
 | [],s,S,Z,U,H,k,h,T,_,_,y=>by
  simp[gU] at h;subst h;exact⟨[],[],Z,by simp,aP,rfl,by simpa using y⟩
 | .tmp t::O,s,S,Z,U,H,k,h,T,l,hh,y=>by
  simp only[gU] at h
  split at h
  ·rename_i ar I;simp at h;subst h;obtain⟨Q,bT,h1,h2,f,_⟩:=rB T J (some 0) [.tmp t] k y;obtain⟨b0,e0,am⟩:=dO h1;simp only[aE,if_true,List.cons.injEq,and_true] at e0;subst e0;obtain⟨q1,q2,_⟩:=ry s (some 0) [.tmp t];have ae:(bT++(Q++k)).Nodup:=by
    have z:(bT++(Q++k)).Perm (Q++(bT++k)):=List.perm_append_comm_assoc _ _ _;exact z.nodup_iff.2 f
   obtain⟨m,o,x,k1,K,M,k4⟩:=mC W J O I h2 (by rw[q1];exact l) (by rw[q2];exact hh) ae;refine⟨A.eval (.tmp t)::m,Q++o,x,?_,aD am K,by simp[M],?_⟩
   ·simp only[List.mapM_cons,Sem.run_bind,vB,Sem.run_pure,Result.andThen_ok,k1];rfl
   have z:((Q++o)++(x++k)).Perm (o++(x++(Q++k))):=by
    rw[List.perm_iff_count];intro q;simp only[List.count_append];omega
   exact z.nodup_iff.2 k4
  simp at h
 | .cell a t::O,s,S,Z,U,H,k,h,T,l,hh,y=>by
  simp only[gU] at h
  split at h
  ·rename_i v ar V I;simp at h;subst h;obtain⟨m,o,x,k1,K,M,k4⟩:=mC W J O I T l hh y;unfold yC at V
   split at V
   ·rename_i n L z
    split at V
    ·rename_i cs i C ao;have ad:s.tmps[a]?=some (.ptr n L):=by
      unfold bq at z
      cases hs:s.tmps[a]? with
      | none=>rw[hs] at z;simp at z
      | some v=>rw[hs] at z;simp at z;rw[z]
     obtain⟨u,b',e1,F,_⟩:=dY T ad;simp only[ai] at F;obtain⟨_,b,d,rfl⟩:=F;have af:∃r,aI w R N (.cells cs) b r:=by
      unfold aa.obj at C
      cases n with
      | loc j=>
       obtain⟨aq,c,p,ag,_,B,f3,_⟩:=aj.split l C;rw[d] at B;simp at B;subst B;exact⟨p,f3⟩
      | out j=>
       obtain⟨aq,c,p,ag,_,B,f3,_⟩:=aj.split hh C;simp only[outs] at B;rw[d] at B;simp at B;subst B;refine⟨p,f3.yi ?_ (fun _=>rfl)⟩;obtain⟨S,e,sp,_,D,_⟩:=f3
       have:=D.bY
       rw[ji] at this;exact this
     obtain⟨r,av,el,sp,ab,D,_⟩:=af;obtain⟨cv,g1,g2⟩:=nT (N:=N) W ao ab D (mI V);refine⟨cv::m,[]++o,x,?_,aD g2 K,by simp[M],by simpa using k4⟩;have an:A.tmps.getD a undef=.pointer (some ⟨b,L,none⟩):=by simp at e1;simp[e1]
     have al:(loadVar t ⟨b,L,none⟩).run P w=.ok cv w:=by simpa [Instr.loadAt,Instr.sureAddr] using g1
     simp only[List.mapM_cons,Sem.run_bind,vB,an,asAddr,Sem.run_pure,Result.andThen_ok,al,k1]
    simp at V
   simp at V
  simp at h
def KL:List Value->Value
 | [v]=>v
 | a=>.tuple a.toArray
theorem arP {c:Func} {b:Act} {a:List Value} (h:(c.results.toList.mapM (vB b.tmps)).run P w=.ok a w) :
  (results c b.tmps).run P w=.ok (KL a) w:=by
 have d:results c b.tmps=(do
   let f ←c.results.mapM (vB b.tmps)
   pure (if h:f.size=1 then f[0] else .tuple f)):=rfl
 have e:(c.results.mapM (vB b.tmps)).run P w=.ok a.toArray w:=by
  rw[Array.mapM_eq_mapM_toList];simp[h]
 rw[d];simp only[Sem.run_bind,e,Result.andThen_ok]
 cases a with
 | nil=>rfl
 | cons v a=>cases a <;> rfl
theorem kA {w:World}:∀(m:List Name) {s q:aa} {e c:List ac} {R:Own} {N:Name->Option Nat},aei m s e=(q,c)->∀{f:List Value} {d:List Value} {g Z U H z:List Nat},
  dw G w R N f s (.tuple d.toArray) (.tup e) g Z U H z->
  ∃C B l k j i,dw G w C B f q (.tuple d.toArray) (.tup c) l k j i z/\bp w R w C z/\(∀o b,N (.out o)=some b->B (.out o)=some b)
 | [],s,q,e,c,R,N,h,f,d,g,Z,U,H,z,p=>by
  grind[aei,aZ]
 | n::m,s,q,e,c,R,N,h,f,d,g,Z,U,H,z,p=>by
  simp only[aei] at h
  split at h
  ·split at h
   ·rename_i Q r a;obtain⟨M,L,T,S,P,O,y,v,t,_⟩:=xf a p;obtain⟨E,D,K,J,I,F,A,x,u⟩:=kA m h y;exact⟨E,D,K,J,I,F,A,v.trans x,fun o b h=>u o b (t o b h)⟩
   exact kA m h p
  exact kA m h p
theorem F9 {R:Own} {c:List ac} {b:List Value} {B:List Nat} (h:ah w R N c b B):ai w R N (pack c) (KL b) B:=by
 cases c with
 | nil=>
  grind[aM,pack,KL,ai]
 | cons a c=>
  have l:=h.length
  cases c with
  | nil=>
   cases b with
   | nil=>grind
   | cons v b=>
    simp at l;subst l;obtain⟨d,e,A⟩:=dO h;simp at e;subst e;exact A
  | cons f c=>
   cases b with
   | nil=>grind
   | cons v b=>
    cases b <;> grind[pack,KL,ai]
theorem zX {a:List ac} (h:aW a=true):pB (pack a)=true:=by
 unfold pack
 grind[aW,pB]
theorem Ka (W:E.Ok P) {I:Func} {Q:ac->List (Name×aL)->Nat->Prop} {s:aa} (h:ye E I.results.toList Q s) {R:Own} {t:Act} {Z U H z:List Nat}
  (a:dw G w R N t.tmps.toList s undef .undef [] Z U H z) :
  ∃cv,(results I t.tmps).run P w=.ok cv w/\∃v c d F D u i,Q v c d/\ai w F (outs D) v cv u/\aj w F (outs D) c i/\(u++(i++z)).Nodup ∧
   (∀o b,D (.out o)=some b->o < d)/\bp w R w F z/\(∀o b,N (.out o)=some b->D (.out o)=some b):=by
 unfold ye at h
 split at h
 ·exact h.elim
 rename_i vs T;have B:(Z++(U++(H++z))).Nodup:=by simpa using a.nodup
 obtain⟨y,ab,Y,k1,K,M,k4⟩:=mC W a.glob I.results.toList T a.tmps a.locs a.heap B;obtain⟨j,k5,k6⟩:=B8 K;refine⟨_,arP k1,?_⟩
 split at h
 ·rename_i q;refine⟨_,_,_,R,N,j,H,h,(F9 k5).Kk (zX q),a.heap,?_,a.next,aZ _,fun _ _ h=>h⟩;refine List.Nodup.sublist ?_ k4;exact List.Sublist.append k6 ((List.sublist_append_right _ _).trans (List.sublist_append_right _ _))
 split at h
 rename_i s' ae A
 split at h
 ·rename_i q
  -- the slots are no longer needed: a state without them
  have S:dw G w R N [] {s with tmps:=[]} (.tuple y.toArray) (.tup (jF vs)) j [] U H z:=
   ⟨by simp only[ai];exact⟨y,rfl,k5⟩,aP,a.locs,a.heap,by
    refine List.Nodup.sublist ?_ k4;exact List.Sublist.append k6 (by simp),a.next,a.glob,a.frame⟩
  have p:∀(C:List Name) (k r:aa) (g l:List ac),aei C k g=(r,l)->aei C {k with tmps:=[]} g=({r with tmps:=[]},l):=by
   intro C
   induction C with
   | nil=>intro k r g l h;simp only[aei,Prod.mk.injEq] at h ⊢;obtain⟨rfl,rfl⟩:=h;exact⟨rfl,rfl⟩
   | cons n C X=>
    intro k r g l h;simp only[aei] at h ⊢
    split at h
    ·rename_i O;rw[if_pos O];have hp:tN true n {k with tmps:=[]} g=(tN true n k g).map (fun x=>({x.1 with tmps:=[]},x.2)):=by
      unfold tN;dsimp only
      split
      ·split
       ·simp[aiZ]
       split <;> simp[ff]
      ·simp[ff]
      simp
     rw[hp]
     split at h
     ·rename_i s3 a3 f;rw[f];exact X s3 r a3 l h
     rename_i f;rw[f];exact X k r g l h
    rename_i O;rw[if_neg O];exact X k r g l h
  obtain⟨R2,N2,v2,t2,l2,g2,e,L,J⟩:=kA _ (p _ _ _ _ _ A) S;have V:=e.val;simp only[ai] at V;obtain⟨ad,ec,m⟩:=V;simp at ec;subst ec;refine⟨_,_,_,R2,N2,v2,g2,h,(F9 m).Kk (zX q),e.heap,?_,e.next,L,J⟩;refine List.Nodup.sublist ?_ e.nodup;exact List.Sublist.append (.refl _) ((List.sublist_append_right _ _).trans (List.sublist_append_right _ _))
 exact h.elim
theorem wY {w:World} {R:Own} {N:Name->Option Nat}:∀(k:Nat),ah w R N (List.replicate k .undef) (List.replicate k undef) []
 | 0=>aP
 | k+1=>by simpa [List.replicate_succ] using aD (b1:=[]) (b2:=[]) (aJ (w:=w) (R:=R) (N:=N) undef) (wY k)
theorem gX (W:E.Ok P) {f:FuncId} {x:Func} {c:Code} (hf:P.funcs[f]?=some x) (d:x.body=some c) {n:List ac} {p:List (Name×aL)} {t:Nat} {Q:ac->List (Name×aL)->Nat->Prop}
  (h:rN n->yc p->cL P G c (adO E x.results.toList Q) (enter x.ntmps n p t)):ay P G f n p t Q:=by
 intro w R N s B H z A Y S T J hF;replace h:=h A.pH Y.pH;refine calls_of_wp hf d ?_;have D:=A.length;have hr:dw G w R (outs N) ((s.toArray++Array.replicate (x.ntmps - s.toArray.size) undef).toList) (enter x.ntmps n p t) undef .undef [] B [] H z:=by
  refine⟨aJ _,?_,rfl,?_,by simpa using S,?_,J,hF⟩
  ·have:=ct A (wY (w:=w) (R:=R) (N:=outs N) (x.ntmps - n.length))
   simpa [enter,D] using this
  ·exact Y.ext (fun m b hm=>by cases m with|loc i=>simp[outs] at hm|out o=>exact hm)
  intro o b O;exact T o b O
 refine apK (lp (h w R (outs N) _ B [] H z hr rfl) ?_);rintro e a K ⟨s',R',N',Z,U,X,y,V,M,hk,hN⟩;have I:ye E x.results.toList Q s'->a.defers=[]/\∃v,(results x a.tmps).run P K=.ok v K/\(∃L C j k r q u g,Ending.returned v=.returned C/\Q L j k/\ai K r (outs q) L C u/\aj K r (outs q) j g ∧
   (u++(g++z)).Nodup/\(∀o b,q (.out o)=some b->o < k)/\bp w R K r z/\(∀o b,N (.out o)=some b->q (.out o)=some b)):=by
  intro F;obtain⟨C,g1,L,j,k,r,q,u,g,q1,q2,q3,q4,q5,q6,q7⟩:=Ka W F V;exact⟨M,C,g1,L,C,j,k,r,q,u,g,rfl,q1,q2,q3,q4,q5,hk.trans q6,fun o b h=>q7 o b (hN o b h)⟩
 cases e with
 | ret=>exact I y
 | normal=>exact I y
 | exit i=>exact y.elim
 | goto l=>exact y.elim
 | panic ch=>exact y.elim
 | outgrown=>exact y.elim
inductive Tr where
 |nil
 |node (l:Tr) (k:Nat) (v:TI) (r:Tr)
def Tr.find:Tr->Nat->Option TI
 | .nil,_=>none
 | .node l k v r,t=>match Nat.blt t k with
  | true=>l.find t
  | false=>(match Nat.blt k t with|true=>r.find t|false=>some v)
def Tr.HN (P:Program):Tr->Prop
 | .nil=>True
 | .node l k v r=>l.HN P/\v.ok P k/\r.HN P
theorem Tr.all_nil {P:Program}:Tr.HN P .nil:=trivial
theorem Tr.ag {P:Program} {l r:Tr} {k:Nat} {v:TI} (a:l.HN P) (V:v.ok P k) (R:r.HN P):Tr.HN P (.node l k v r):=⟨a,V,R⟩
theorem Tr.EF {P:Program}:∀{c:Tr},c.HN P->∀{t:Nat} {i:TI},c.find t=some i->i.ok P t
 | .nil,_,t,i,h=>by grind[Tr.find]
 | .node l k v r,⟨f,V,R⟩,t,i,h=>by
  simp only[Tr.find] at h
  cases a:Nat.blt t k with
  | true=>rw[a] at h;exact Tr.EF f h
  | false=>
   rw[a] at h
   cases b:Nat.blt k t with
   | true=>rw[b] at h;exact Tr.EF R h
   | false=>
    rw[b] at h;have d:¬t < k:=fun h=>by rw[←Nat.blt_eq,a] at h;grind
    have e:¬k < t:=fun h=>by rw[←Nat.blt_eq,b] at h;grind
    grind
def Zs (P:Program) (f:FuncId):Bool:=match P.funcs[f]? with
 | some g=>g.body.isSome&&!(g.name== "runtime.NumGoroutine")
 | none=>false
theorem are {w:World} {R:Own} {N:Name->Option Nat} (f:List Nat):∀{d:List ac} {g:List Value} {B:List Nat} (k:Nat),ah w R N d g B->∃c,ah w R N (as3 f k d) g c/\c.Sublist B
 | [],_,_,_,h=>by obtain⟨rfl,rfl⟩:=aM h;exact⟨[],aP,.refl _⟩
 | a::d,_,_,k,h=>by
  obtain⟨v,l,r,Q,rfl,rfl,j,b⟩:=au h;obtain⟨c,e,i⟩:=are f (k+1) b;simp only[as3]
  split
  ·exact⟨r++c,aD j e,List.Sublist.append (.refl _) i⟩
  exact⟨[]++c,aD (aJ v) e,by grind⟩
theorem apT {w:World} {R:Own} {N:Name->Option Nat} (k:List Nat):∀{d:List (Name×aL)} {B:List Nat},aj w R N d B->∃c,aj w R N (arf k d) c/\c.Sublist B
 | [],_,h=>⟨_,h,.refl _⟩
 |(.loc i,o)::d,_,⟨b,r,Q,e,l,a,j⟩=>by
  subst e;obtain⟨c,f,g⟩:=apT k j;simp only[arf]
  split
  ·exact⟨b::(r++c),⟨b,r,c,rfl,l,a,f⟩,(List.Sublist.append (.refl _) g).cons_cons _⟩
  grind
 |(.out i,o)::d,_,⟨b,r,Q,e,l,a,j⟩=>by
  subst e;obtain⟨c,f,g⟩:=apT k j;exact⟨c,f,g.trans ((List.sublist_append_right r Q).cons _)⟩
theorem dw.forget {w:World} {R:Own} {N:Name->Option Nat} {c:List Value} {s:aa} {Z U H z:List Nat} (h:dw G w R N c s undef .undef [] Z U H z) (d e:List Nat) :
  ∃b a,dw G w R N c (s.keep d e) undef .undef [] b a H z:=by
 obtain⟨b,f,K⟩:=are d 0 h.tmps;obtain⟨a,M,g⟩:=apT e h.locs;exact⟨b,a,aJ _,f,M,h.heap,List.Nodup.sublist (List.Sublist.append (.refl _) (List.Sublist.append K (List.Sublist.append g (.refl _)))) h.nodup,h.next,h.glob,h.frame⟩
end
end Go.Tp
namespace Go.Tp
abbrev iv (n:Int):ac:=.dat (.flat (.int .i64 n))
abbrev bv (b:Bool):ac:=.dat (.flat (.bool b))
abbrev Heap:=List (Name×aL)
section
variable {w w':World} {R R':Own} {M M' M'':Name->Option Nat}
end
section
variable {P:Program} {G:bA} {H:Hints} {Ef:bW->bz} {A:E0} {C:Wa} {pr:bW}
section
variable {wrap:IntKind->Int->Int} {add dif mul:IntKind->Int->Int->Int} {lt eq:Int->Int->Bool} {slt seq:ByteArray->ByteArray->Bool} {cat:ByteArray->ByteArray->Option ByteArray} {elt:List ak->Int->Option ak} {byte:ByteArray->Int->Option UInt8}
 {sub:Nat->List ak->Option Int->Option Int->Option (List ak)} {ssub:ByteArray->Option Int->Option Int->Option ByteArray} {app:Nat->Nat->List ak->List ak->Option (List ak)}
 {key:TypeDesc->Value->List (Value×ak)->Option (Option (Nat×ak))} {len:List ak->Nat} {slen:ByteArray->Nat} {rem quo mx:Int->Int->Int}
end
end
theorem wrap_i64 {n:Int} (a:-9223372036854775808<=n) (b:n<=9223372036854775807):IntKind.i64.wrap n=n:=by
 simp[IntKind.wrap,IntKind.signed,IntKind.bits];omega
end Go.Tp
namespace Go.Tp
def Sy:Value->Value->Bool
 | .int k n,.int k' n'=>decide (k=k')&&eqZ n n'
 | .string s,.string s'=>eqY s.data.toList s'.data.toList
 | .bool b,.bool b'=>(match b,b' with|true,true=>true|false,false=>true|_,_=>false)
 | .pointer none,.pointer none=>true
 | .map none,.map none=>true
 | .nilFunc,.nilFunc=>true
 | .nilIface,.nilIface=>true
 | .slice none 0 0,.slice none 0 0=>true
 | _,_=>false
where
 eqZ:Int->Int->Bool
  | .ofNat a,.ofNat b=>Nat.beq a b
  | .negSucc a,.negSucc b=>Nat.beq a b
  | _,_=>false
 eqY:List UInt8->List UInt8->Bool
  | [],[]=>true
  | a::l,b::r=>(match Nat.beq a.toNat b.toNat with|true=>eqY l r|false=>false)
  | _,_=>false
theorem Rk {a b:Int} (h:Sy.eqZ a b=true):a=b:=by
 unfold Sy.eqZ at h
 split at h
 all_goals simp_all
theorem He:∀{a b:List UInt8},Sy.eqY a b=true->a=b
 | [],[],_=>rfl
 | [],_::_,h=>by grind[Sy.eqY]
 | _::_,[],h=>by grind[Sy.eqY]
 | a::l,b::r,h=>by
  unfold Sy.eqY at h
  split at h
  ·rename_i c;rw[UInt8.toNat_inj.1 (Nat.eq_of_beq_eq_true c),He h]
  grind
theorem Hf {a b:Value} (h:Sy a b=true):a=b:=by
 unfold Sy at h
 split at h
 ·grind[Rk]
 ·rename_i s c;obtain⟨⟨l⟩⟩:=s;obtain⟨⟨d⟩⟩:=c
  grind[He]
 all_goals grind
mutual
def Na:ak->ak->Bool
 | .flat v,.flat u=>Sy v u
 | .slice c,.slice d=>EI c d
 | .agg c,.agg d=>EI c d
 | _,_=>false
def EI:List ak->List ak->Bool
 | [],[]=>true
 | a::l,b::r=>(match Na a b with|true=>EI l r|false=>false)
 | _,_=>false
end
mutual
theorem A3:∀{a b:ak},Na a b=true->a=b
 | .flat v,.flat u,h=>by rw[Hf h]
 | .slice d,.slice e,h=>by rw[nB h]
 | .agg d,.agg e,h=>by rw[nB h]
 | .flat _,.slice _,h=>by grind[Na]
 | .flat _,.agg _,h=>by grind[Na]
 | .slice _,.flat _,h=>by grind[Na]
 | .slice _,.agg _,h=>by grind[Na]
 | .agg _,.flat _,h=>by grind[Na]
 | .agg _,.slice _,h=>by grind[Na]
theorem nB:∀{a b:List ak},EI a b=true->a=b
 | [],[],_=>rfl
 | [],_::_,h=>by grind[EI]
 | _::_,[],h=>by grind[EI]
 | a::l,b::r,h=>by
  simp only[EI] at h
  split at h
  ·rename_i c;rw[A3 c,nB h]
  grind
end
def UN:Name->Name->Bool
 | .loc a,.loc b=>Nat.beq a b
 | .out a,.out b=>Nat.beq a b
 | _,_=>false
theorem qx {a b:Name} (h:UN a b=true):a=b:=by
 unfold UN at h
 split at h
 all_goals simp_all
def Zy:Fn->Fn->Bool
 | .func a,.func b=>Nat.beq a b
 | _,_=>false
theorem M9 {a b:Fn} (h:Zy a b=true):a=b:=by
 unfold Zy at h
 split at h
 all_goals simp_all
mutual
def ND:ac->ac->Bool
 | .dat a,.dat b=>Na a b
 | .own a,.own b=>EI a b
 | .ref a,.ref b=>EI a b
 | .ptr n i,.ptr m j=>UN n m&&Nat.beq i j
 | .map n,.map m=>UN n m
 | .win n a b c,.win k d e g=>UN n k&&Nat.beq a d&&Nat.beq b e&&Nat.beq c g
 | .fn f a b,.fn h d e=>Zy f h&&A5 a d&&A5 b e
 | .agg a,.agg b=>A5 a b
 | .tup a,.tup b=>A5 a b
 | .undef,.undef=>true
 | _,_=>false
def A5:List ac->List ac->Bool
 | [],[]=>true
 | a::l,b::r=>(match ND a b with|true=>A5 l r|false=>false)
 | _,_=>false
end
mutual
theorem Rn:∀{a b:ac},ND a b=true->a=b
 | .dat a,b,h=>by cases b <;> simp only[ND,Bool.false_eq_true] at h;rw[A3 h]
 | .own a,b,h=>by cases b <;> simp only[ND,Bool.false_eq_true] at h;rw[nB h]
 | .ref a,b,h=>by cases b <;> simp only[ND,Bool.false_eq_true] at h;rw[nB h]
 | .ptr n i,b,h=>by cases b <;> simp only[ND,Bool.false_eq_true,Bool.and_eq_true] at h;rw[qx h.1,Nat.eq_of_beq_eq_true h.2]
 | .map n,b,h=>by cases b <;> simp only[ND,Bool.false_eq_true] at h;rw[qx h]
 | .win n x y z,b,h=>by cases b <;> simp only[ND,Bool.false_eq_true,Bool.and_eq_true] at h;rw[qx h.1.1.1,Nat.eq_of_beq_eq_true h.1.1.2,Nat.eq_of_beq_eq_true h.1.2,Nat.eq_of_beq_eq_true h.2]
 | .fn f x y,b,h=>by cases b <;> simp only[ND,Bool.false_eq_true,Bool.and_eq_true] at h;rw[M9 h.1.1,jn h.1.2,jn h.2]
 | .agg a,b,h=>by cases b <;> simp only[ND,Bool.false_eq_true] at h;rw[jn h]
 | .tup a,b,h=>by cases b <;> simp only[ND,Bool.false_eq_true] at h;rw[jn h]
 | .undef,b,h=>by grind[ND]
theorem jn:∀{a b:List ac},A5 a b=true->a=b
 | [],[],_=>rfl
 | [],_::_,h=>by grind[A5]
 | _::_,[],h=>by grind[A5]
 | a::l,b::r,h=>by
  simp only[A5] at h
  split at h
  ·rename_i c;rw[Rn c,jn h]
  grind
end
def M8:List (Value×ak)->List (Value×ak)->Bool
 | [],[]=>true
 |(k,d)::l,(b,a)::r=>(match Sy k b&&Na d a with|true=>M8 l r|false=>false)
 | _,_=>false
theorem Da:∀{a b:List (Value×ak)},M8 a b=true->a=b
 | [],[],_=>rfl
 | [],_::_,h=>by grind[M8]
 | _::_,[],h=>by grind[M8]
 |(k,d)::l,(f,e)::r,h=>by
  simp only[M8] at h
  split at h
  ·rename_i c;simp at c;rw[Hf c.1,A3 c.2,Da h]
  grind
def eqO:aL->aL->Bool
 | .cells a,.cells b=>A5 a b
 | .map a,.map b=>M8 a b
 | _,_=>false
theorem Hg {a b:aL} (h:eqO a b=true):a=b:=by
 unfold eqO at h
 grind[jn,Da]
theorem Rl (n:Name):UN n n=true:=by cases n <;> simp[UN]
def G3 (n:Name):List (Name×aL)->Option aL
 | []=>none
 |(m,o)::l=>match UN m n with|true=>some o|false=>G3 n l
theorem AU {n:Name}:∀{l:List (Name×aL)} {o:aL},G3 n l=some o->eA n l=some o
 | [],o,h=>by grind[G3]
 |(m,p)::l,o,h=>by
  simp only[G3] at h;simp only[eA]
  split at h
  ·grind[qx]
  rename_i a;rw[if_neg (fun e=>by grind[Rl])];exact AU h
def vn:List (Name×aL)->List (Name×aL)->Bool
 | [],_=>true
 |(n,o)::l,h=>(match G3 n h with
  | some p=>(match eqO o p with|true=>vn l h|false=>false)
  | none=>false)
theorem wV:∀{a b:List (Name×aL)},vn a b=true->Sk a b
 | [],_,_=>fun n e h=>by grind[eA]
 |(n,o)::l,b,h=>by
  simp only[vn] at h
  split at h
  ·rename_i p w
   split at h
   ·rename_i c;obtain rfl:=Hg c;intro k e d;simp only[eA] at d
    split at d
    ·grind[AU]
    exact wV h k e d
   grind
  grind
def JR:(List (Name×aL))->(List (Name×aL))->Bool
 | [],[]=>true
 |(n,o)::l,(m,p)::r=>(match UN n m&&eqO o p with|true=>JR l r|false=>false)
 | _,_=>false
theorem wo:∀{a b:List (Name×aL)},JR a b=true->a=b
 | [],[],_=>rfl
 | [],_::_,h=>by grind[JR]
 | _::_,[],h=>by grind[JR]
 |(n,o)::l,(m,p)::r,h=>by
  simp only[JR] at h
  split at h
  ·rename_i c;simp at c;rw[qx c.1,Hg c.2,wo h]
  grind
def Ci (k:Nat):Name->Name
 | .loc i=>.loc i
 | .out o=>match Nat.beq o k with
  | true=>.out (k+1)
  | false=>(match Nat.beq o (k+1) with|true=>.out k|false=>.out o)
mutual
def E1 (k:Nat):ac->ac
 | .dat d=>.dat d
 | .own h=>.own h
 | .ref c=>.ref c
 | .ptr n e=>.ptr (Ci k n) e
 | .map n=>.map (Ci k n)
 | .win n s e g=>.win (Ci k n) s e g
 | .fn f a b=>.fn f (yU k a) (yU k b)
 | .agg c=>.agg (yU k c)
 | .tup c=>.tup (yU k c)
 | .undef=>.undef
def yU (k:Nat):List ac->List ac
 | []=>[]
 | a::r=>E1 k a::yU k r
end
def swO (k:Nat):aL->aL
 | .cells c=>.cells (yU k c)
 | .map a=>.map a
def swH (k:Nat):List (Name×aL)->List (Name×aL)
 | []=>[]
 |(n,o)::r=>(Ci k n,swO k o)::swH k r
def Km:List (Name×aL)->List (Name×aL)
 | x::y::r=>y::x::r
 | r=>r
def swS (k:Nat) (s:aa):aa:=⟨yU k s.tmps,swH k s.locs,Km (swH k s.heap),s.next⟩
theorem nP (k o:Nat):Ci k (.out o)=if o=k then .out (k+1) else if o=k+1 then .out k else .out o:=by
 simp only[Ci]
 by_cases a:o=k
 ·simp_all
 have E:Nat.beq o k=false:=by cases h:Nat.beq o k;all_goals simp_all
 rw[E,if_neg a]
 by_cases b:o=k+1
 ·simp_all
 have F:Nat.beq o (k+1)=false:=by cases h:Nat.beq o (k+1);all_goals simp_all
 grind
theorem yg (k:Nat):∀n,Ci k (Ci k n)=n
 | .loc _=>rfl
 | .out o=>by
  grind[nP]
section
variable {w:World} {R:Own} {N:Name->Option Nat} {k:Nat}
mutual
theorem ai.sw:∀{a:ac} {v:Value} {B:List Nat},ai w R N a v B->ai w R (fun n=>N (Ci k n)) (E1 k a) v B
 | .dat _,_,_,h=>by exact h
 | .own _,_,_,h=>by exact h
 | .ref _,_,_,h=>by exact h
 | .ptr n j,_,_,h=>by
  grind[E1,ai,yg]
 | .map n,_,_,h=>by
  grind[E1,ai,yg]
 | .win n s j m,_,_,h=>by
  grind[E1,ai,yg]
 | .fn f a c,_,_,h=>by
  obtain⟨o,d,p,e,g,b⟩:=h;exact⟨o,d,p,e,ah.sw (as:=a) g,ah.sw (as:=c) b⟩
 | .agg i,_,_,h=>by
  obtain⟨d,e,g⟩:=h;exact⟨d,e,ah.sw (as:=i) g⟩
 | .tup i,_,_,h=>by
  obtain⟨d,e,g⟩:=h;exact⟨d,e,ah.sw (as:=i) g⟩
 | .undef,_,_,h=>by exact h
theorem ah.sw:∀{as:List ac} {d:List Value} {B:List Nat},ah w R N as d B->ah w R (fun n=>N (Ci k n)) (yU k as) d B
 | [],_,_,h=>by exact h
 | a::as,_,_,h=>by
  obtain⟨v,l,r,Q,E,F,g,b⟩:=h;exact⟨v,l,r,Q,E,F,ai.sw (a:=a) g,ah.sw (as:=as) b⟩
end
theorem yT:∀(a b:List ac),yU k (a++b)=yU k a++yU k b
 | [],b=>rfl
 | x::a,b=>by simp only[List.cons_append,yU,yT a b]
theorem Cj:∀(n:Nat),yU k (List.replicate n .undef)=List.replicate n .undef
 | 0=>rfl
 | n+1=>by simp only[List.replicate_succ,yU,E1,Cj n]
theorem Ju {a:ac} (h:yw (E1 k a)=true):yw a=true:=by
 cases a <;> simp only[E1] at h <;> first|grind|rfl|grind[yw]
theorem auq {f:List ac} (h:cd (yU k f)=true):cd f=true:=by
 match f with
 | []=>grind[yU]
 | [a]=>simp[yU,cd] at h
 | [a,b]=>
  cases b with
  | own g=>exact Ju h
  | dat d=>
   simp only[yU,E1] at h;unfold cd at h
   split at h
   ·grind
   ·rename_i p g e;obtain⟨rfl,rfl⟩:=e;exact Ju h
   ·rename_i p e;obtain⟨rfl,rfl⟩:=e;exact Ju h
   grind
  | _=>simp[yU,E1,cd] at h
 | a::b::c::r=>simp[yU,cd] at h
theorem aI.sw {o:aL} {b:Nat} {B:List Nat} (h:aI w R N o b B):aI w R (fun n=>N (Ci k n)) (swO k o) b B:=by
 cases o with
 | cells c=>
  obtain⟨l,a,j,d,i,f,e⟩:=h;refine⟨l,a,j,d,?_,f,fun g=>e (auq g)⟩
  have:=i.sw (k:=k)
  grind[yT,Cj]
 | map m=>exact h
theorem aj.sw:∀{c:List (Name×aL)} {B:List Nat},aj w R N c B->aj w R (fun n=>N (Ci k n)) (swH k c) B
 | [],_,h=>h
 |(n,_)::_,_,⟨b,r,Q,e,f,a,d⟩=>⟨b,r,Q,e,by grind[yg],a.sw,aj.sw d⟩
theorem aj.Km {e:List (Name×aL)} {B:List Nat} (h:aj w R N e B):∃d,aj w R N (Km e) d/\d.Perm B:=by
 match e with
 | []=>exact⟨B,h,List.Perm.refl _⟩
 | [x]=>exact⟨B,h,List.Perm.refl _⟩
 |(n,o)::(m,p)::r=>
  obtain⟨b,g,Q,rfl,l,a,c,i,q,rfl,k,j,f⟩:=h;refine⟨_,⟨c,i,_,rfl,k,j,b,g,q,rfl,l,a,f⟩,?_⟩;grind
theorem Tt:outs (fun n=>N (Ci k n))=fun n=>outs N (Ci k n):=by
 funext n
 cases n <;> grind[Ci,outs]
end
theorem OS {G:bA} {k:Nat} {s:aa} (h:k+1 < s.next):Vd G k (swS k s) s:=by
 intro w R N e Z U H z a;obtain⟨c,f,g⟩:=(a.heap.sw (k:=k)).Km;refine⟨fun n=>N (Ci k n),Z,U,c,⟨by grind[ai],a.tmps.sw,a.locs.sw,by rw[Tt];exact f,?_,?_,a.glob,a.frame⟩,?_⟩
 ·have:=a.nodup
  refine (List.Perm.nodup_iff ?_).1 this;exact (((g.symm.append_right z).append_left U).append_left Z)
 ·intro o b d;rw[nP] at d;show o < s.next
  split at d
  ·grind
  split at d
  ·grind
  exact a.next o b d
 grind[nP]
def Cx (s a:aa):Bool:=A5 s.tmps a.tmps&&JR s.locs a.locs&&JR s.heap a.heap&&Nat.beq s.next a.next
theorem sy {s d:aa} (h:Cx s d=true):s=d:=by
 unfold Cx at h;simp only[Bool.and_eq_true] at h;obtain⟨t,l,e,n⟩:=s;obtain⟨k,i,c,j⟩:=d;obtain⟨⟨⟨a,b⟩,f⟩,g⟩:=h;rw[show t=k from jn a,show l=i from wo b,show e=c from wo f,show n=j from Nat.eq_of_beq_eq_true g]
def Mu (k:Nat) (a s:aa):Bool:=match Cx a s with|true=>true|false=>Nat.blt (k+1) s.next&&Cx a (swS k s)
theorem CB {G:bA} {k:Nat} {a s:aa} (h:Mu k a s=true):Vd G k a s:=by
 unfold Mu at h
 split at h
 ·rename_i d;rw[sy d];exact fun w R N b Z U H z c=>⟨N,Z,U,H,c,fun _ _ _ h=>h⟩
 simp at h;grind[sy,OS]
end Go.Tp
namespace Go.Tp
structure eX where
 val:ac
 heap:Heap
 next:Nat
abbrev lH:=FuncId->List ac->Heap->Nat->Option eX
structure qS where
 code:Code
 ntmps:Nat
 results:List ResultVar
 ord:Nat->aw
 live:Nat->Nat
section
variable (X:lH) (E:bz) (G:bA) (H:Hints)
def HP (a:List Oper) (o:Oper) (s:aa):Option aa:=
 match dC a s o.guard with
 | none=>none
 | some b=>
  if b=true then
   (match lK o.op with
    | some c=>(match mw E G H c s with
     | some (f,d,e)=>(match X f d e.heap e.next with
      | some r=>some (({e with heap:=r.heap,next:=r.next }:aa).put o.dst r.val)
      | none=>none)
     | none=>none)
    | none=>aa4 E G (readOnly H.moves a o) (lQ H a o) o s)
  else some (s.put o.dst (.tup []))
def E3 (a:List Oper):List Oper->aa->Option aa
 | [],s=>some s
 | o::b,s=>(match HP X E G H a o s with|some c=>E3 a b c|none=>none)
def HO (g:Bool) (i:List Nat) (a:List Oper) (o:Oper) (s:aa):Option aa:=
 match dC a s o.guard with
 | none=>none
 | some b=>
  if b=true then
   (match lK o.op with
    | some c=>(match dX E G H c s with
     | some (f,d,e)=>(match hO H o with
      | true=>(match X f d [] e.next with
       | some ⟨v,[],n⟩=>some (({e with next:=n }:aa).put o.dst v)
       | _=>none)
      | false=>(match X f d e.heap e.next with
       | some r=>(match !mK H o||vn e.heap r.heap with
        | true=>some (({e with heap:=r.heap,next:=r.next }:aa).put o.dst r.val)
        | false=>none)
       | none=>none))
     | none=>none)
    | none=>(match fk o.op with
     | some t=>(match dM g a (gk a t (ae5 i t s)) s with
      | some h=>aa4 E G false false o h
      | none=>none)
     | none=>(match iI o.op with
      | true=>aa4 E G (readOnly H.moves a o) (lQ H a o) o s
      | false=>none)))
  else some (s.put o.dst (.tup []))
def Dy (e:List Nat) (c:Bool) (d:Nat->Bool) (b:List Oper):List (Nat×Bool)->aa->Option aa
 | [],s=>some s
 |(i,lone)::r,s=>
  match b[i]? with
  | none=>none
  | some o=>
   if lone=true then (match HO X E G H c e b o s with|some f=>Dy e c d b r f|none=>none)
   else (match eK E G (c||d i) b o s with
    | some a=>Dy e c d b r (s.put o.dst a)
    | none=>none)
def DA (b:List Oper):Nat->Array Bool->aa->Option aa
 | 0,_,s=>some s
 | m+1,a,s=>match Region.ready .any b.toArray a with
  | []=>some s
  | i::_=>(match b[i]? with
   | some o=>(match HP X E G H b o s with|some c=>DA b m (bK a i) c|none=>none)
   | none=>none)
def sr (all:List Oper) (k:Nat) (b:aa):Nat->Array Bool->aa->Bool
 | 0,a,s=>(Region.ready .any all.toArray a).isEmpty&&Mu k b s
 | m+1,a,s=>match Region.ready .any all.toArray a with
  | []=>Mu k b s
  | i::l=>(i::l).all fun i=>match all[i]? with
   | some o=>(match HP X E G H all o s with|some c=>sr all k b m (bK a i) c|none=>false)
   | none=>false
def rL:List Bool->List Bool->Bool
 | [],[]=>true
 | true::l,true::r=>rL l r
 | false::l,false::r=>rL l r
 | _,_=>false
def Dz (h:aw) (b:List Oper):Nat->Array Bool->aa->Option aa
 | 0,_,s=>some s
 | m+1,a,s=>match Region.ready .any b.toArray a with
  | []=>none
  | i::_=>(match b[i]? with
   | some o=>(match HO X E G H (aK H b h.pre) h.tk b o s with|some c=>Dz h b m (bK a i) c|none=>none)
   | none=>none)
def sq (h:aw) (all:List Oper) (p:Array Bool) (b:aa):Nat->Array Bool->aa->Bool
 | 0,a,s=>rL a.toList p.toList&&Cx b s
 | m+1,a,s=>!rL a.toList p.toList&&!(Region.ready .any all.toArray a).isEmpty&&(Region.ready .any all.toArray a).all fun i=>h.pre.contains (i,true)&&(match all[i]? with
   | some o=>(match HO X E G H (aK H all h.pre) h.tk all o s with|some c=>sq h all p b m (bK a i) c|none=>false)
   | none=>false)
def yF (a:List Oper) (h:aw) (s:aa):Option aa:=
 match Dy X E G H h.tk (aK H a h.pre) (quietAt H a h.pre) a (lA h.pre) s with
 | some c=>(match Dz X E G H h a (h.pre.length - (lA h.pre).length) (eR (lA h.pre) (Array.replicate a.length false)) c with
  | some b=>(match sq X E G H h a (eR h.pre (Array.replicate a.length false)) b (h.pre.length - (lA h.pre).length) (eR (lA h.pre) (Array.replicate a.length false)) c with
   | true=>(match iA E a h.nw b with
    | some d=>E3 X E G H a (dZ a h.tail) d
    | none=>none)
   | false=>none)
  | none=>none)
 | none=>none
def Kh (a:List Oper) (h:aw) (s:aa):Option aa:=
 if gz h=true then (match DA X E G H a a.length (Array.replicate a.length false) s with
  | some b=>(match sr X E G H a s.next b a.length (Array.replicate a.length false) s with|true=>some b|false=>none)
  | none=>none)
 else
 if gP h=true then yF X E G H a (aar h) s else
 match Dy X E G H h.tk (aK H a h.pre) (quietAt H a h.pre) a h.pre s with
 | some c=>(match iA E a h.nw c with
  | some d=>E3 X E G H a (dZ a h.tail) d
  | none=>none)
 | none=>none
def SB (d:List ResultVar) (s:aa):Option eX:=
 match gU E s d with
 | none=>none
 | some b=>
  if aW (jF b)=true then some ⟨pack (jF b),s.heap,s.next⟩
  else match aei (repeatL s.locs.length (nq s.locs)) s (jF b) with
   |(c,a)=>if aW a=true then some ⟨pack a,c.heap,c.next⟩ else none
end
def XQ (r:eX):ac->Heap->Nat->Prop:=fun v h n=>v=r.val/\h=r.heap/\n=r.next
section
variable {P:Program} {X:lH} {E:bz} {G:bA} {H:Hints}
def Kg (P:Program) (G:bA) (X:lH):Prop:=∀f a b c r,X f a b c=some r->ay P G f a b c (XQ r)
theorem yE (l:Kg P G X) {a:List Oper} {o:Oper} {s k:aa} (h:HP X E G H a o s=some k) {K:aa->Prop} (m:K k):mT (ay P G) E G H a o K s:=by
 unfold HP at h;unfold mT
 split at h
 ·grind
 rename_i b d;rw[d];dsimp only
 split at h
 ·rename_i i;rw[if_pos i]
  split at h
  ·rename_i c e;rw[e];dsimp only
   split at h
   ·rename_i f j q g;rw[g];split at h
    ·rename_i r R;simp at h;refine (l _ _ _ _ _ R).mono ?_;rintro v p n ⟨rfl,rfl,rfl⟩ _ _;grind
    grind
   grind
  grind
 grind
theorem nN (f:Kg P G X) {b:List Oper} {K:aa->Prop}:∀{c:List Oper} {s d:aa},E3 X E G H b c s=some d->K d->mS (ay P G) E G H b K c s
 | [],s,d,h,e=>by simp[E3] at h;subst h;exact e
 | o::g,s,d,h,e=>by
  simp only[E3] at h;simp only[mS,iT]
  split at h
  ·rename_i i a;exact yE f a (nN f h e)
  grind
theorem yD (m:Kg P G X) {l:Bool} {q:List Nat} {a:List Oper} {o:Oper} {s p:aa} (h:HO X E G H l q a o s=some p) {K:aa->Prop} (w:K p):KV (ay P G) E G H l q a o K s:=by
 unfold HO at h;unfold KV
 split at h
 ·grind
 rename_i b d;rw[d];dsimp only
 split at h
 ·rename_i j;rw[if_pos j]
  split at h
  ·rename_i c e;rw[e];dsimp only
   split at h
   ·rename_i f k x g;rw[g];cases i:hO H o with
    | true=>
     rw[i] at h;dsimp only at h ⊢
     split at h
     ·rename_i v n R;simp at h;refine (m _ _ _ _ _ R).mono ?_;rintro v t n ⟨rfl,rfl,rfl⟩ _ _;grind
     grind
    | false=>
     rw[i] at h;dsimp only at h ⊢
     split at h
     ·rename_i r R
      split at h
      ·rename_i u;simp at h;refine (m _ _ _ _ _ R).mono ?_;rintro v t n ⟨rfl,rfl,rfl⟩ _ _;grind[wV]
      grind
     grind
   grind
  grind
 grind
theorem nM (e:Kg P G X) {m:List Nat} {g:Bool} {j:Nat->Bool} {b:List Oper} {T:aa->Prop}:∀{l:List (Nat×Bool)} {s d:aa},Dy X E G H m g j b l s=some d->T d->mu (ay P G) E G H m g j b T l s
 | [],s,d,h,c=>by simp[Dy] at h;subst h;exact c
 |(i,lone)::k,s,d,h,c=>by
  simp only[Dy] at h;simp only[mu]
  split at h
  ·grind
  rename_i o O;rw[O];simp only[iT]
  split at h
  ·rename_i f;rw[if_pos f]
   split at h
   ·rename_i p n;exact yD e n (nM e h c)
   grind
  rename_i f;rw[if_neg f]
  split at h
  ·rename_i a A;rw[A];exact nM e h c
  grind
theorem tp (n:Kg P G X) {d:List Oper} {k:Nat} {c:aa} {Q:aa->Prop} (f:Q c):∀(m:Nat) (b:Array Bool) (s:aa),sr X E G H d k c m b s=true->afz (ay P G) E G H d (fun q=>∃c,Q c/\Vd G k c q) m b s
 | 0,b,s,h=>by
  simp only[sr,Bool.and_eq_true,List.isEmpty_iff] at h;exact⟨h.1,c,f,CB h.2⟩
 | m+1,b,s,h=>by
  simp only[sr] at h;simp only[afz]
  split at h
  ·rename_i e;exact .inl ⟨e,c,f,CB h⟩
  rename_i i l e;refine .inr ⟨by rw[e];simp,?_⟩;rw[e];intro j p;have a:=List.all_eq_true.1 h j p
  split at a
  ·rename_i o O
   split at a
   ·rename_i r g;exact⟨o,O,yE n g (tp n f m _ r a)⟩
   simp at a
  simp at a
theorem kS:∀{a b:List Bool},rL a b=true↔a=b
 | [],[]=>by simp[rL]
 | [],_::_=>by simp[rL]
 | _::_,[]=>by simp[rL]
 | true::l,true::r=>by simp[rL,kS (a:=l) (b:=r)]
 | false::l,false::r=>by simp[rL,kS (a:=l) (b:=r)]
 | true::l,false::r=>by simp[rL]
 | false::l,true::r=>by simp[rL]
theorem tm (n:Kg P G X) {h:aw} {d:List Oper} {p:Array Bool} {q:aa} {K:aa->Prop} (r:K q):∀(m:Nat) (c:Array Bool) (s:aa),sq X E G H h d p q m c s=true->wI (ay P G) E G H h d p K m c s
 | 0,c,s,j=>by
  simp only[sq,Bool.and_eq_true] at j;refine⟨Array.ext' (kS.1 j.1),?_⟩;grind[sy]
 | m+1,c,s,j=>by
  simp only[sq,Bool.and_eq_true,Bool.not_eq_true'] at j;obtain⟨⟨a,b⟩,f⟩:=j;refine⟨fun e=>?_,fun e=>by grind,fun i t=>?_⟩
  ·grind[kS]
  have g:=List.all_eq_true.1 f i t;simp only[Bool.and_eq_true] at g;refine⟨by grind,?_⟩;have k:=g.2
  split at k
  ·rename_i o O
   split at k
   ·rename_i u l;exact⟨o,O,yD n l (tm n r m _ u k)⟩
   grind
  grind
theorem DB (e:Kg P G X) {a:List Oper} {h:aw} {s b:aa} (c:yF X E G H a h s=some b) {Q:aa->Prop} (d:Q b):By (ay P G) E G H a h Q s:=by
 unfold yF at c;grind[By,nM,tm,nN]
theorem E4 (g:Kg P G X) {c:List Oper} {h:aw} {s e:aa} (a:Kh X E G H c h s=some e) {Q:aa->Prop} (f:Q e):Bz (ay P G) E G H c h Q s:=by
 unfold Kh at a;unfold Bz
 by_cases d:gz h=true
 ·rw[if_pos d] at a;rw[if_pos d]
  split at a
  ·rename_i i _
   split at a
   ·rename_i b;simp at a;subst a;exact tp g f _ _ _ b
   grind
  grind
 grind[DB,nM,nN]
theorem nL {rs:List ResultVar} {s:aa} {r:eX} (h:SB E rs s=some r):ye E rs (XQ r) s:=by
 unfold SB at h;unfold ye
 split at h
 ·grind
 rename_i f b;rw[b];dsimp only
 split at h
 ·rename_i N;rw[if_pos N];simp at h;subst h;exact⟨rfl,rfl,rfl⟩
 rename_i N;rw[if_neg N]
 split at h
 rename_i e d c;rw[c];split at h
 ·rename_i a;rw[if_pos a];simp at h;subst h;exact⟨rfl,rfl,rfl⟩
 grind
def Z9 (P:Program) (a b:FuncId->Bool) (F:FuncId->Option qS):Prop:=
 ∀f x,F f=some x->∃c:Func,P.funcs[f]?=some c/\c.body=some x.code/\c.ntmps=x.ntmps/\c.results.toList=x.results/\dh ⟨a,x.ord,b,false⟩ x.code=true
end
def qS.of (b:Func) (d:Nat->aw) (a:Nat->Nat):qS:=⟨match b.body with|some c=>c|none=>.skip,b.ntmps,b.results.toList,d,a⟩
inductive aT where
 |nil
 |node (l:aT) (k:Nat) (fn:Func) (ord:Nat->aw) (live:Nat->Nat) (r:aT)
def aT.find:aT->Nat->Option qS
 | .nil,_=>none
 | .node l k c b a r,t=>match Nat.blt t k with
  | true=>l.find t
  | false=>(match Nat.blt k t with|true=>r.find t|false=>some (qS.of c b a))
def EX (a b:FuncId->Bool) (e:Func) (d:Nat->aw):Bool:=
 match e.body with
 | some c=>dh ⟨a,d,b,false⟩ c
 | none=>false
def LN (P:Program) (a b:FuncId->Bool) (k:Nat) (d:Func) (c:Nat->aw):Prop:=P.funcs[k]?=some d/\EX a b d c=true
theorem ao {P:Program} {c d:FuncId->Bool} {k:Nat} {f:Func} {e:Nat->aw} (a:P.funcs[k]?=some f) (b:EX c d f e=true:=by kernel_rfl):LN P c d k f e:=⟨a,b⟩
def aT.HN (P:Program) (a b:FuncId->Bool):aT->Prop
 | .nil=>True
 | .node l k d c _ r=>l.HN P a b/\LN P a b k d c/\r.HN P a b
theorem aT.all_nil {P:Program} {a b:FuncId->Bool}:aT.HN P a b .nil:=trivial
theorem aT.ag {P:Program} {c d:FuncId->Bool} {l r:aT} {k:Nat} {h:Func} {g:Nat->aw} {e:Nat->Nat} (a:l.HN P c d) (b:LN P c d k h g) (f:r.HN P c d):aT.HN P c d (.node l k h g e r):=⟨a,b,f⟩
theorem aT.ok {P:Program} {c d:FuncId->Bool}:∀{t:aT},t.HN P c d->Z9 P c d t.find
 | .nil,_=>by intro f x h;grind[aT.find]
 | .node l k q p i r,⟨j,m,n⟩=>by
  intro f x h;simp only[aT.find] at h
  cases e:Nat.blt f k with
  | true=>rw[e] at h;exact aT.ok j f x h
  | false=>
   rw[e] at h
   cases g:Nat.blt k f with
   | true=>rw[g] at h;exact aT.ok n f x h
   | false=>
    rw[g] at h;have a:¬ @LT.lt Nat _ f k:=fun h=>by rw[←Nat.blt_eq,e] at h;grind
    have b:¬ @LT.lt Nat _ k f:=fun h=>by rw[←Nat.blt_eq,g] at h;grind
    have o:@Eq Nat f k:=by omega
    subst o;simp at h;subst h;obtain⟨s,u⟩:=m;grind[EX,qS.of]
end Go.Tp
