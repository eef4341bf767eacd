/- Part 1 of what the last text proves. -/
import Derived.Laws.MakeOwn
import Derived.Orders
import Derived.OrdersIn
import Derived.RangeFuncIn
import Derived.Scope
import Derived.Test.YtmpmgmmcaghacaaGreatDoorQ00
set_option linter.unusedVariables false
set_option linter.unusedSimpArgs false
set_option maxRecDepth 100000
set_option maxHeartbeats 4000000
namespace Go.Tp
section
variable {P:Program} {E:bz} {G:bA} {w:World} {R:Own} {N:Name->Option Nat}
theorem qw {s:aa} {b:Act} {Z:List Nat} (T:ah w R N s.tmps b.tmps.toList Z) (J:∀g c,G g=some c->aed w R g c) (x:Operand) :
  ∃B,ai w R N (fm G s x) (b.eval x) B:=by
 cases x with
 | tmp t=>
  simp only[fm,bq,Act.eval]
  cases h:s.tmps[t]? with
  | none=>exact⟨[],aJ _⟩
  | some a=>
   obtain⟨v,d,E,F,_⟩:=dY T h
   have:b.tmps.getD t undef=v:=by simp_all
   grind
 | const v=>exact⟨[],gu v⟩
 | global g=>
  simp only[fm,Act.eval]
  cases h:G g with
  | none=>exact⟨[],aJ _⟩
  | some c=>exact⟨[],by simp only[ai];exact⟨trivial,g,0,rfl,(J g c h).1⟩⟩
 | func f=>exact⟨[],by simp only[fm,Act.eval,ai];grind[aP]⟩
theorem C9 {s:aa} {a:Act} {Z:List Nat} (T:ah w R N s.tmps a.tmps.toList Z) (J:∀g c,G g=some c->aed w R g c) (x:Operand) :
  ai w R N (de (fm G s x)) (a.eval x) []:=by
 obtain⟨B,h⟩:=qw T J x;exact qT h
theorem kU {s:aa} {b:Act} {Z:List Nat} (T:ah w R N s.tmps b.tmps.toList Z) (J:∀g c,G g=some c->aed w R g c) (a:Option Nat):∀(k:Nat) (d:List Operand),
  (∀j,a=some j->j < k∨k+d.length<=j)->ah w R N (aE G s a k d) (d.map b.eval) []
 | _,[],_=>by grind[aE,aP]
 | k,x::d,h=>by
  have f:a≠some k:=fun e=>by grind
  simp only[aE,if_neg f,List.map_cons];exact aD (b1:=[]) (b2:=[]) (C9 T J x) (kU T J a (k+1) d (fun j i=>by grind))
theorem rB {s:aa} {m:Act} {Z:List Nat} (T:ah w R N s.tmps m.tmps.toList Z) (J:∀g c,G g=some c->aed w R g c) (O:Option Nat) (d:List Operand) (q:List Nat) (p:(Z++q).Nodup) :
  ∃C B,ah w R N (aE G s O 0 d) (d.map m.eval) C/\ah w R N (bF s O d).tmps m.tmps.toList B/\(C++(B++q)).Nodup/\(O=none->C=[]):=by
 cases O with
 | none=>exact⟨[],Z,kU T J none 0 d (by simp),by simpa [bF] using T,by simpa using p,fun _=>rfl⟩
 | some k=>
  -- the part with operand k
  have r:∀(d:List Operand) (j:Nat),j<=k->∀H,(∀x,d[k - j]?=some x->ai w R N (fm G s x) (m.eval x) H)->(d.length<=k - j->H=[])->ah w R N (aE G s (some k) j d) (d.map m.eval) H:=by
   intro d
   induction d with
   | nil=>intro j _ H _ o;rw[o (by simp)];simpa [aE] using aP
   | cons x d ih=>
    intro j V H X o
    by_cases K:k=j
    ·subst K;simp only[aE,if_true,List.map_cons];have Y:=X x (by simp);have b:=kU T J (some k) (k+1) d (fun j V=>by simp at V;omega);simpa using aD Y b
    have Q:(some k:Option Nat)≠some j:=by simpa using K
    simp only[aE,if_neg Q,List.map_cons];have e:k - j=(k - (j+1))+1:=by omega
    exact aD (b1:=[]) (C9 T J x) (ih (j+1) (by omega) H (fun y i=>X y (by rw[e];simpa using i)) (fun l=>o (by simp;omega)))
  cases n:d[k]? with
  | none=>
   have l:d.length<=k:=by simpa using n
   exact⟨[],Z,r d 0 (by omega) [] (fun x X=>by rw[Nat.sub_zero,n] at X;simp at X) (fun _=>rfl),by simpa [bF,n] using T,by simpa using p,by simp⟩
  | some x=>
   have u:¬d.length<=k - 0:=fun l=>by rw[List.getElem?_eq_none (by simpa using l)] at n;simp at n
   cases x with
   | tmp t=>
    cases A:s.tmps[t]? with
    | none=>
     have hu:bq s.tmps t=.undef:=by simp[bq,A]
     refine⟨[],Z,r d 0 (by omega) [] (fun y i=>?_) (fun l=>absurd l u),?_,by simpa using p,by simp⟩
     ·rw[Nat.sub_zero,n] at i;simp at i;subst i;simp only[fm,hu];exact aJ _
     have:s.tmps.set t (de (bq s.tmps t))=s.tmps:=List.set_eq_of_length_le (by simpa using A)
     simp only[bF,n,this];exact T
    | some a=>
     obtain⟨D,M,z,v,E,F,U,W⟩:=ah.split T A;have I:bq s.tmps t=a:=by simp[bq,A]
     have P:m.eval (.tmp t)=v:=by simp at F;simp[Act.eval,F]
     refine⟨M,D++[]++z,r d 0 (by omega) M (fun y i=>?_) (fun l=>absurd l u),?_,?_,by simp⟩
     ·rw[Nat.sub_zero,n] at i;simp at i;subst i;rw[P];simp only[fm,I];exact U
     ·have:=W w R (de a) v [] (aZ _) (qT U)
      have L:m.tmps.toList.set t v=m.tmps.toList:=by
       apply List.ext_getElem?
       intro j;rw[List.getElem?_set]
       split
       ·rename_i S;subst S;split
        ·exact F.symm
        rename_i l;rw[List.getElem?_eq_none (by omega)]
       rfl
      rw[L] at this;simp only[bF,n,I];exact this
     subst E;have hp:(M++((D++[]++z)++q)).Perm ((D++M++z)++q):=by
      simp only[List.append_nil,←List.append_assoc];refine List.Perm.append_right _ (List.Perm.append_right _ ?_);exact List.perm_append_comm
     exact hp.nodup_iff.2 p
   | const v=>exact⟨[],Z,r d 0 (by omega) [] (fun y i=>by rw[Nat.sub_zero,n] at i;simp at i;subst i;exact gu v) (fun l=>absurd l u),by simpa [bF,n] using T,by simpa using p,by simp⟩
   | global g=>
    refine⟨[],Z,r d 0 (by omega) [] (fun y i=>?_) (fun l=>absurd l u),by simpa [bF,n] using T,by simpa using p,by simp⟩;rw[Nat.sub_zero,n] at i;simp at i;subst i;simp only[fm,Act.eval]
    cases h:G g with
    | none=>exact aJ _
    | some c=>simp only[ai];exact⟨trivial,g,0,rfl,(J g c h).1⟩
   | func f=>
    refine⟨[],Z,r d 0 (by omega) [] (fun y i=>?_) (fun l=>absurd l u),by simpa [bF,n] using T,by simpa using p,by simp⟩;rw[Nat.sub_zero,n] at i;simp at i;subst i;simp only[fm,Act.eval,ai];exact⟨trivial,[],[],rfl,aP,aP⟩
def wQ (w:World) (B:List Nat) (a:List Nat):Prop:=a.Nodup/\∀b∈a,b∈B∨w.heap.size<=b
def tV:Option (Nat×List Nat)->List Nat
 | none=>[]
 | some (b,r)=>b::r
def LY (w:World) (R:Own) (N:Name->Option Nat) (p:Option aL) (n:Option (Nat×List Nat)) (e l:List Nat) (j:Out) (v:Value) (d:World) (i:Own):Prop:=
 bp w R d i l ∧
 match j.eff with
 | .keep=>∃f,ai d i N j.val v f/\wQ w e f/\(∀b r o,n=some (b,r)->p=some o->aI d i N o b r)/\(n=none∨(d=w/\i=R))
 | .set h=>∃b r a f,n=some (b,r)/\aI d i N h b a/\ai d i N j.val v f/\wQ w (e++r) (f++a)
 | .grow h m g=>∃k a c,aI d i N h k a/\wQ w (e++tV n) (k::a)/\v=.slice (some ⟨k,0,none⟩) g c/\g<=c/\(0 < m/\c<=jq)/\k < d.heap.size/\c*m=eD d k
 | .fresh h=>n=none/\∃a,aI d i N h w.heap.size a/\(a.Nodup/\∀b∈a,b∈e)/\w.heap.size < d.heap.size/\v=(match h with|.cells _=>.pointer (some ⟨w.heap.size,0,none⟩)|.map _=>.map (some w.heap.size))
 | .row h m g=>n=none/\∃a,aI d i N h w.heap.size a/\(a.Nodup/\∀b∈a,b∈e)/\w.heap.size < d.heap.size/\∃c,v=.slice (some ⟨w.heap.size,0,none⟩) g c/\g<=c/\(0 < m/\c<=jq)/\c*m=eD d w.heap.size
 | .new h=>n=none/\∃a,aI d i N h w.heap.size a/\(a.Nodup/\∀b∈a,b∈e)/\w.heap.size < d.heap.size/\v=(match h with|.cells _=>.pointer (some ⟨w.heap.size,0,none⟩)|.map _=>.map (some w.heap.size))
theorem wQ.nil {B:List Nat}:wQ w B []:=⟨List.nodup_nil,by simp⟩
theorem wQ.abh {B:List Nat} (h:B.Nodup):wQ w B B:=⟨h,fun _ d=>.inl d⟩
theorem LY.pure {a:Out} {v:Value} {e:Option aL} {n:Option (Nat×List Nat)} {c d bsV:List Nat} (g:a.eff=.keep) (V:ai w R N a.val v bsV) (h:wQ w c bsV)
  (f:∀b r o,n=some (b,r)->e=some o->aI w R N o b r):LY w R N e n c d a v w R:=by
 refine⟨aZ _,?_⟩;grind
theorem oI (W:E.Ok P) {i:TI} {a:Nat} {c:List ac} {x:ac} {e:Out} (h:jB E i a c x=some e) :
  ∃S,x=.dat (.slice S)/\0 < i.size/\(∀d∈S,d.cells.length=i.size)/\(a+S.length)*i.bytes<=140737488355328/\a+S.length<=lim/\a*i.size<=c.length/\cd (c.take (a*i.size)++(S.flatMap ak.cells).map .dat)=false ∧
   e=⟨.undef,.grow (.cells (c.take (a*i.size)++(S.flatMap ak.cells).map .dat)) i.size (a+S.length)⟩:=by
 unfold jB at h
 split at h
 ·rename_i r b;obtain⟨S,rfl,g,f,_,_,_,_,rfl⟩:=jD (by rw[W.nc] at b;exact b)
  simp_all[pJ]
 grind
theorem fK:∀(a:List Value),ah w R N (List.replicate a.length .undef) a []
 | []=>by grind[aP]
 | u::a=>by
  exact aD (aJ u) (fK a)
theorem Cy (e:TypeId) {s n g:Nat} {c:List ac} {cells:List Value} {r:List Nat} (t:ah w R N c cells r) (l:cells.length=n*s) (p:n<=g) (a:Array Value) (i:a.size=(g - n)*s) (u:cd c=false) (B:List Nat) :
  ∃m,bp w R (w.drew.alloc (.cells (cells.toArray++a) e)) m B/\aI (w.drew.alloc (.cells (cells.toArray++a) e)) m N (.cells c) w.heap.size r ∧
   w.heap.size < (w.drew.alloc (.cells (cells.toArray++a) e)).heap.size/\g*s=eD (w.drew.alloc (.cells (cells.toArray++a) e)) w.heap.size:=by
 let m:Own:=fun b f=>b=w.heap.size∨R b f
 have o:∀b f,b < w.heap.size->(m b f↔R b f):=fun b f d=>⟨fun h=>by grind,fun h=>.inr h⟩
 have k:=fun B=>gV (w:=w) (R:=R) (.cells (cells.toArray++a) e) o B
 have q:(w.drew.alloc (.cells (cells.toArray++a) e)).heap[w.heap.size]?=some (.cells (cells.toArray++a) e (0,0)):=heap_alloc_new w.drew _;have v:g*s=(cells.toArray++a).size:=by
  simp only[Array.size_append,List.size_toArray,i,l];rw[←Nat.add_mul];grind
 refine⟨m,k B,⟨_,e,a.size,q,?_,fun j _=>.inl rfl,fun d=>by grind⟩,bN q,by grind[dF]⟩
 have:=ct (t.keep (k r)) (fK (w:=w.drew.alloc (.cells (cells.toArray++a) e)) (R:=m) (N:=N) a.toList)
 grind
theorem zh (W:E.Ok P) {t ty:TypeId} {i:TI} {x:ac} {u:Value} {c:Option Addr} {F:Out} (O:elemOf E t=some i) (h:jB E i 0 [] x=some F) (hm:AH x=true) (X:ai w R N x u [])
  (p:c=none∨∃b,c=some ⟨b,0,none⟩) (B:List Nat) :
  ∃o' q v G H k,F=⟨.undef,.grow o' i.size q⟩/\(Builtin.append_ #[t,t] ty #[.slice c 0 0,u]).run P w=.ok v G/\bp w R G H B/\aI G H N o' w.heap.size [] ∧
   v=.slice (some ⟨w.heap.size,0,none⟩) q k/\q<=k/\(0 < i.size/\k<=jq)/\w.heap.size < G.heap.size/\k*i.size=eD G w.heap.size:=by
 obtain⟨e,hu,V⟩:=fC W O;obtain⟨⟨ie,k1,K,M,k4,k5⟩,_⟩:=W.ty e i V;obtain⟨S,rfl,U,r,a,o,_,J,rfl⟩:=oI W h;obtain⟨_,Y⟩:=dG X;have A:S≠[]:=by intro e;subst e;simp[AH] at hm
 obtain⟨Q,g,m,f,rfl,_,C,T⟩:=kP Y A r;have l:=cZ C;rw[dV r] at l;have d:∀(j:Nat) u,f[j]?=some u->w.cell? ((⟨Q,g,none⟩:Addr).add j)=some u:=fun j u hj=>by rw[add_plain];exact (T j u hj).1
 have L:0 < S.length:=by cases S with|nil=>exact absurd rfl A|cons _ _=>simp
 simp only[Nat.zero_add] at a o;have I:S.length<=9223372036854775807:=by unfold lim at o;omega
 have Z:∀(z:Array Value) (n:Nat),(Builtin.zeroCells z n).size=n*z.size:=fun z n=>size_zeroCells z n
 have y:=grownCap_ge w S.length 0 e;obtain⟨H,g1,g2,g3,g4⟩:=Cy (N:=N) (s:=i.size) (n:=S.length) e (jd (N:=N) C) l y (Builtin.zeroCells i.zero.cells (grownCap w S.length 0 e - S.length)) (by rw[Z,k5]) (by simpa using J) B;refine⟨_,_,_,_,H,grownCap w S.length 0 e,rfl,?_,g1,by simpa using g2,by rw[Nat.zero_add],by simpa using y,⟨U,Nat.le_trans (grownCap_le_maxLen w S.length 0 e I) (by decide)⟩,g3,g4⟩
 rcases p with rfl|⟨b,rfl⟩
 ·exact run_append_nil (P:=P) w t ty e ie i.zero hu k1 k4 ⟨Q,g,none⟩ S.length m f (by rw[K];exact l) d L (by omega) (by rw[M];omega)
 have D:=run_append_grow (P:=P) w t ty e ie i.zero hu k1 k4 ⟨b,0,none⟩ 0 0 [] (by simp) (by simp) ⟨Q,g,none⟩ S.length m f (by rw[K];exact l) d (by omega) (by omega) (growslice_fits (by omega) (by rw[M];simpa using a));simpa using D
theorem zg (W:E.Ok P) {t ty:TypeId} {i:TI} {f b k:Nat} {r:List Nat} {cs:List ac} {x:ac} {u:Value} {a6:Out} (ba:elemOf E t=some i) (h:jB E i f cs x=some a6) (X:ai w R N x u [])
  (a2:aI w R N (.cells cs) b r) (I:f<=k) (ax:k<=jq) (am:k*i.size=eD w b) (bg:(b::r).Nodup) (B:List Nat) (d:b∉B) :
  ∃o' T v w' R' b' av D,a6=⟨.undef,.grow o' i.size T⟩/\(Builtin.append_ #[t,t] ty #[.slice (some ⟨b,0,none⟩) f k,u]).run P w=.ok v w'/\bp w R w' R' B/\aI w' R' N o' b' av ∧
   wQ w (b::r) (b'::av)/\v=.slice (some ⟨b',0,none⟩) T D/\T<=D/\(0 < i.size/\D<=jq)/\b' < w'.heap.size/\D*i.size=eD w' b':=by
 obtain⟨e,hu,bk⟩:=fC W ba;obtain⟨⟨ie,k1,K,M,k4,k5⟩,_⟩:=W.ty e i bk;obtain⟨S,rfl,ab,ay,V,a1,bo,an,rfl⟩:=oI W h;obtain⟨_,a5⟩:=dG X;obtain⟨o,el,sp,m,hr,hR,_⟩:=a2;have a4:=dF m;rw[a4] at am;have bn:f*i.size<=k*i.size:=Nat.mul_le_mul_right _ I;have ad:cs++List.replicate sp ac.undef=cs.take (f*i.size)++(cs.drop (f*i.size)++List.replicate sp ac.undef):=by rw[←List.append_assoc,List.take_append_drop]
 rw[ad] at hr;obtain⟨l,H,p,q,ar,rfl,O,br⟩:=eL hr;have Z:l.length=f*i.size:=by rw[O.length,List.length_take];omega
 have al:=List.nodup_cons.1 bg;have aw:b∉p:=fun hh=>al.1 (by simp[hh])
 have ag:p.Nodup:=(List.nodup_append.1 al.2).1;have F:wQ w (b::(p++q)) (b::p):=⟨List.nodup_cons.2 ⟨aw,ag⟩,fun c hc=>.inl (by simp at hc ⊢;rcases hc with h|h <;> simp[h])⟩;have a3:l=o.toList.take (f*i.size):=by rw[ar,←Z];simp
 by_cases ao:S=[]
 ·subst ao;have bl:∃a' c,u=.slice a' 0 c:=by cases a5 with|nil a c=>exact⟨a,c,rfl⟩|slice b ae k s es o=>exact⟨_,_,rfl⟩
  obtain⟨a',c,rfl⟩:=bl;refine⟨_,_,_,w,R,b,p,k,rfl,xW t ty e ie hu k1 (some ⟨b,0,none⟩) a' f k c I,aZ _,⟨o,el,H.length,m,?_,hR,fun d=>by rw[an] at d;simp at d⟩,F,by simp,by simpa using I,⟨ab,ax⟩,bN m,by rw[a4];exact am⟩;rw[ar];simpa using ct O (fK (w:=w) (R:=R) (N:=N) H)
 obtain⟨Q,U,af,g,rfl,_,Y,bf⟩:=kP a5 ao ay;have L:=cZ Y;rw[dV ay] at L;have J:∀(j:Nat) u,g[j]?=some u->w.cell? ((⟨Q,U,none⟩:Addr).add j)=some u:=fun j u hj=>by rw[add_plain];exact (bf j u hj).1
 have a8:0 < S.length:=by cases S with|nil=>exact absurd rfl ao|cons _ _=>simp
 have a7:f+S.length<=9223372036854775807:=by unfold lim at a1;omega
 have bm:∀(z:Array Value) (n:Nat),(Builtin.zeroCells z n).size=n*z.size:=fun z n=>size_zeroCells z n
 have bc:(f+S.length)*i.size=f*i.size+S.length*i.size:=Nat.add_mul ..;have a9:0 < S.length*i.size:=Nat.mul_pos a8 ab
 by_cases C:f+S.length<=k
 ·have bd:(f+S.length)*i.size<=k*i.size:=Nat.mul_le_mul_right _ C;have G:=vA (P:=P) (w:=w) t ty e el ie hu k1 b f k o m ⟨Q,U,none⟩ S.length af g (by rw[K];exact L) J (vD Y) C (by rw[K,L];omega);rw[K,←a3] at G;have a0:(l++g++o.toList.drop (f*i.size+g.length)).length=o.size:=by simp[Z];omega
  have A:=fun B d=>jH (R:=R) (R':=R) m (l++g++o.toList.drop (f*i.size+g.length)).toArray (by simpa using a0) (fun c x h=>h) (fun c x _ h=>h) (fun ae be=>by
   have h1:o.size<=ae:=by
    rcases Nat.lt_or_ge ae o.size with h'|h'
    ·exact absurd (hR ae h') be
    exact h'
   rw[Array.getElem?_eq_none h1,Array.getElem?_eq_none (by simp only[List.size_toArray];omega)]) ⟨0,hR 0 (by omega)⟩ B d
  have y:=setRow_heap w b o (l++g++o.toList.drop (f*i.size+g.length)).toArray el (0,0) m;refine⟨_,_,_,_,R,b,p,k,rfl,G,A B d,⟨_,el,(o.toList.drop (f*i.size+g.length)).length,y,?_,fun j hj=>hR j (by simp only[List.size_toArray] at hj;omega),fun d=>by rw[an] at d;simp at d⟩,F,rfl,C,⟨ab,ax⟩,bN y,?_⟩
  ·have q1:=O.keep (A p aw);have q2:=(jd (N:=N) Y).keep (A [] (by simp));have q3:=ct (ct q1 q2) (fK (w:=w.setRow b (l++g++o.toList.drop (f*i.size+g.length)).toArray) (R:=R) (N:=N) (o.toList.drop (f*i.size+g.length)));simpa only[List.append_nil] using q3
  rw[dF y];simp only[List.size_toArray];omega
 have aq:∀(j:Nat) z,l[j]?=some z->w.cell? ((⟨b,0,none⟩:Addr).add j)=some z:=fun j z hj=>by
  rw[add_plain,cell_of_row w b (0+j) o el (0,0) m,Nat.zero_add];have bb:o.toList[j]?=some z:=by
   rw[ar,List.getElem?_append_left]
   ·exact hj
   rcases Nat.lt_or_ge j l.length with h'|h'
   ·exact h'
   rw[List.getElem?_eq_none h'] at hj;simp at hj
  simpa using bb
 have G:=run_append_grow (P:=P) w t ty e ie i.zero hu k1 k4 ⟨b,0,none⟩ f k l (by rw[K];exact Z) aq ⟨Q,U,none⟩ S.length af g (by rw[K];exact L) J (by omega) (by omega) (growslice_fits (by omega) (by rw[M];exact V));have az:=grownCap_ge w (f+S.length) k e;have bi:=ct O (jd (N:=N) Y);obtain⟨R',g1,g2,g3,g4⟩:=Cy (N:=N) (s:=i.size) (n:=f+S.length) e bi (by rw[List.length_append,Z,L];omega) az (Builtin.zeroCells i.zero.cells (grownCap w (f+S.length) k e - (f+S.length))) (by rw[bm,k5]) an B;refine⟨_,_,_,_,R',w.heap.size,p,grownCap w (f+S.length) k e,rfl,?_,g1,by simpa using g2,⟨?_,?_⟩,rfl,az,⟨ab,Nat.le_trans (grownCap_le_maxLen w (f+S.length) k e a7) (by decide)⟩,g3,g4⟩
 ·simpa using G
 ·refine List.nodup_cons.2 ⟨fun hh=>?_,ag⟩
  have:=O.lt _ hh
  omega
 intro c hc
 rcases List.mem_cons.1 hc with rfl|hc
 ·exact .inr (Nat.le_refl _)
 exact .inl (by simp[hc])
theorem MK (z:Array Value) (c:Nat) (d:0 < z.size):(madeCells z ((c+1)*z.size)).toList=z.toList++(madeCells z (c*z.size)).toList:=by
 apply List.ext_getElem?
 intro k;have a:∀n k:Nat,(madeCells z n).toList[k]?=if k < n then some (z[k % z.size]!) else none:=by
  intro n k;simp only[madeCells,Array.toList_map,List.getElem?_map,Array.toList_range]
  grind
 rw[a,List.getElem?_append,a,Nat.add_mul,Nat.one_mul];simp only[Array.length_toList]
 by_cases h:k < z.size
 ·rw[if_pos h,if_pos (by omega),Nat.mod_eq_of_lt h];grind
 rw[if_neg h]
 by_cases b:k < c*z.size+z.size
 ·rw[if_pos b,if_pos (by omega)];congr 2;exact (Nat.mod_eq_sub_mod (by omega))
 grind
theorem zI {b:List ac} {z:Array Value} (a:0 < z.size) (h:ah w R N b z.toList []):∀c:Nat,ah w R N (po b c) (madeCells z (c*z.size)).toList []
 | 0=>by
  have:(madeCells z (0*z.size)).toList=[]:=by simp[madeCells]
  rw[this];exact aP
 | c+1=>by
  rw[MK z c a];exact ct h (zI a h c)
theorem xR (W:E.Ok P) {t:TypeId} {a b:ac} {x y:Value} {u:Out} (h:fR E t [a,b]=some u) (A:ai w R N a x []) (d:ai w R N b y []) (B:List Nat) :
  ∃Q p v z q n s,u=⟨.undef,.grow Q s p⟩/\(Instr.makeSlice t x y).run P w=.ok v z/\bp w R z q B/\aI z q N Q w.heap.size [] ∧
   v=.slice (some ⟨w.heap.size,0,none⟩) p n/\p<=n/\(0 < s/\n<=jq)/\w.heap.size < z.heap.size/\n*s=eD z w.heap.size:=by
 unfold fR at h
 split at h
 ·rename_i O l K c F;obtain⟨rfl,rfl⟩:=F;obtain⟨_,rfl,_⟩:=aC A;obtain⟨_,rfl,_⟩:=aC d
  split at h
  ·rename_i i l c D _ _
   split at h
   ·rename_i L;simp only[Bool.and_eq_true,Nat.ble_eq,Nat.blt_eq] at L;obtain⟨⟨⟨⟨⟨S,Y⟩,f⟩,g⟩,G⟩,Z⟩:=L;simp at h;subst h;obtain⟨e,T,J⟩:=fC W D;obtain⟨⟨r,O,K,M,U,k5⟩,_⟩:=W.ty e i J;have C:(r.bytes:Int)*(c:Int)<=281474976710656:=by
     grind
    have o:=fun V X=>run_make (P:=P) w t e r i.zero T O U V X (l:Int) (c:Int) (by omega) (by omega) C (by grind[lim])
    simp at o
    let q:Own:=fun b m=>b=w.heap.size∨R b m
    have I:∀b m,b < w.heap.size->(q b m↔R b m):=fun b m d=>⟨fun h=>by grind,fun h=>.inr h⟩
    have k:=fun B=>gx (w:=w) (R:=R) (.cells (madeCells i.zero.cells (c*r.size)) e) I B
    have H:(w.alloc (.cells (madeCells i.zero.cells (c*r.size)) e)).heap[w.heap.size]?=some (.cells (madeCells i.zero.cells (c*r.size)) e (0,0)):=heap_alloc_new w _;have hz:=(ia (gu (w:=w) (R:=R) (N:=N) i.zero) G).keep (k []);refine⟨_,l,_,_,q,c,i.size,rfl,o _ _,k B,⟨_,e,0,H,?_,fun j _=>.inl rfl,fun d=>by grind⟩,rfl,S,⟨g,by grind[lim,jq]⟩,bN H,?_⟩
    ·grind[zI]
    rw[dF H,size_madeCells,K]
   grind
  grind
 grind
theorem bU {s:Sem Value} {v:Value} {a:World} (h:s.run P w=.ok v a):(do pure (Next.value (←s)):Sem Next).run P w=.ok (.value v) a:=by
 simp[h]
theorem zm {s:Sem Unit} {a:World} (h:s.run P w=.ok () a):(do s;pure Next.skip:Sem Next).run P w=.ok .skip a:=by
 simp[h]
end
end Go.Tp
namespace Go.Tp
section
variable {P:Program} {E:bz} {w:World} {R:Own} {N:Name->Option Nat}
theorem dO {c:List ac} {x:Value} {B:List Nat} (h:ah w R N c [x] B):∃a,c=[a]/\ai w R N a x B:=by
 cases c with
 | nil=>grind[ah]
 | cons a c=>
  obtain⟨v,d,r,Q,E,rfl,e,b⟩:=au h;obtain⟨rfl,rfl⟩:=E
  cases c <;> grind[ah]
theorem eZ {c:List ac} {x y:Value} {B:List Nat} (h:ah w R N c [x,y] B):∃a b r Q,c=[a,b]/\B=r++Q/\ai w R N a x r/\ai w R N b y Q:=by
 cases c <;> grind[ah,dO]
theorem pX {d:List ac} {x y z:Value} {B:List Nat} (h:ah w R N d [x,y,z] B) :
  ∃a b c r Q e,d=[a,b,c]/\B=r++(Q++e)/\ai w R N a x r/\ai w R N b y Q/\ai w R N c z e:=by
 cases d <;> grind[ah,eZ]
theorem fQ {a b:List Nat} (h:a++b=[]):a=[]/\b=[]:=by simp_all
def eY (w:World) (R:Own) (N:Name->Option Nat) (o:Op) (c:List ac) (e:Option aL) (d:Option (Nat×List Nat)):Prop:=
 match looks o c with
 | none=>e=none/\d=none
 | some n=>(e=none/\d=none)∨∃b r a,e=some a/\d=some (b,r)/\N n=some b/\aI w R N a b r
abbrev V9 (P:Program) (w:World) (ρ:Operand->Value) (o:Oper) (v:Value) (a:World):Prop:=
 (execOp ρ o).run P w=.ok (.value v) a∨((execOp ρ o).run P w=.ok .skip a/\v=undef)
theorem Aw {b:Array Operand} {c:Array TypeId} {a x:ac} {d:Option aL} {n:Option (Nat×List Nat)} (h:eY w R N (.call ⟨.builtin .append,b,c⟩) [a,x] d n) :
  eY w R N (.call ⟨.builtin .append,b,c⟩) [D1 a,nz x] d n:=by
 have e:looks (.call ⟨.builtin .append,b,c⟩) [a,x]=looks (.call ⟨.builtin .append,b,c⟩) [D1 a,nz x]:=by
  unfold D1
  split
  ·rfl
  cases a <;> rfl
 grind[eY]
theorem kd {o:Op} {a:List ac} {b:Option aL} {n:Option (Nat×List Nat)} (h:eY w R N o a b n) (l:looks o a=none):b=none/\n=none:=by
 grind[eY]
theorem fH {o:Op} {a:List ac} {d:Option aL} {c:Option (Nat×List Nat)} {n:Name} {obj:aL} (h:eY w R N o a d c) (l:looks o a=some n) (O:d=some obj) :
  ∃b r,c=some (b,r)/\N n=some b/\aI w R N obj b r:=by
 grind[eY]
theorem nJ (W:E.Ok P) {cm:Bool} {o:Oper} {ρ:Operand->Value} {vals:List ac} {ob:Option aL} {nm:Option (Nat×List Nat)} {bw:Out} (h:jE E cm o.op vals ob=some bw)
  {bsM rest:List Nat} (V:ah w R N vals ((opsL o.op).map ρ) bsM) (Y:KY o.op=none->bsM=[]) (m:eY w R N o.op vals ob nm) (af:(bsM++(tV nm++rest)).Nodup)
  (hc:∀v,ρ (.const v)=v) :
  ∃H w' R',V9 P w ρ o H w'/\LY w R N ob nm bsM rest bw H w' R':=by
 obtain⟨b4,op,Z,b9,a1,guard⟩:=o;have a7:bsM.Nodup:=(List.nodup_append.1 af).1
 cases op with
 | move x=>
  obtain⟨a,rfl,A⟩:=dO V;simp only[jE,Dv,Option.some.injEq] at h;subst h;obtain⟨rfl,rfl⟩:=kd m rfl;exact⟨ρ x,w,R,.inl rfl,.pure rfl A (.abh a7) (by simp)⟩
 | assign x=>
  obtain⟨a,rfl,A⟩:=dO V;simp only[jE,Dv,Option.some.injEq] at h;subst h;obtain⟨rfl,rfl⟩:=kd m rfl;exact⟨ρ x,w,R,.inl rfl,.pure rfl A (.abh a7) (by simp)⟩
 | pick c x y=>
  obtain rfl:=Y rfl;obtain⟨a,b,d,b1,Q,b3,rfl,e,A,hb,D⟩:=pX V;obtain⟨rfl,e'⟩:=fQ e.symm;obtain⟨rfl,rfl⟩:=fQ e';obtain⟨rfl,rfl⟩:=kd m rfl;simp only[jE,V8] at h
  split at h
  ·rename_i cb a' b' L;simp at L;obtain⟨rfl,rfl,rfl⟩:=L;simp at h;subst h;obtain⟨_,e,_⟩:=aC A;refine⟨if cb then ρ x else ρ y,w,R,.inl ?_,.pure (bsV:=[]) rfl ?_ .nil (by simp)⟩
   ·simp[execOp,e,asBool]
   cases cb
   ·simpa using D
   simpa using hb
  simp at h
 | binOp bo t x y ty=>
  obtain rfl:=Y rfl;obtain⟨a,b,b1,Q,rfl,e,A,hb⟩:=eZ V;obtain⟨rfl,rfl⟩:=fQ e.symm;obtain⟨rfl,rfl⟩:=kd m rfl;simp only[jE] at h
  split at h
  ·rename_i hy;unfold AG at hy
   split at hy
   ·obtain⟨he,H,C,T⟩:=zd (w:=w) W h A x (.const (.slice none 0 0));rw[←hc (.slice none 0 0)] at C;exact⟨H,w,R,.inl (bU C),.pure he T .nil (by simp)⟩
   simp at hy
  obtain⟨he,H,C,T⟩:=Mk (w:=w) W h A hb x y;exact⟨H,w,R,.inl (bU C),.pure he T .nil (by simp)⟩
 | unOp uo t x=>
  obtain rfl:=Y rfl;obtain⟨a,rfl,A⟩:=dO V;obtain⟨rfl,rfl⟩:=kd m rfl;obtain⟨he,H,C,T⟩:=Oq (P:=P) (w:=w) W h A;exact⟨H,w,R,.inl (bU C),.pure he T .nil (by simp)⟩
 | convert s d x=>
  obtain rfl:=Y rfl;obtain⟨a,rfl,A⟩:=dO V;obtain⟨rfl,rfl⟩:=kd m rfl;obtain⟨he,H,C,T⟩:=BM (w:=w) W h (kj A);exact⟨H,w,R,.inl (bU C),.pure he T .nil (by simp)⟩
 | nilCheck x=>
  obtain rfl:=Y rfl;obtain⟨a,rfl,A⟩:=dO V;obtain⟨rfl,rfl⟩:=kd m rfl;simp only[jE,ad8] at h
  split at h
  ·rename_i n ae L;simp at L;subst L;simp at h;subst h;have bc:=A;simp only[ai] at bc;obtain⟨_,b,_,e⟩:=bc;refine⟨ρ x,w,R,.inl ?_,.pure rfl A .nil (by simp)⟩;simp[execOp,e]
  ·rename_i cs L;simp at L;subst L;simp at h;subst h;have bc:=A;simp only[ai] at bc;obtain⟨_,b,of,e,_⟩:=bc;refine⟨ρ x,w,R,.inl ?_,.pure rfl A .nil (by simp)⟩;simp[execOp,e]
  simp at h
 | fieldAddr st x f=>
  obtain rfl:=Y rfl;obtain⟨a,rfl,A⟩:=dO V;obtain⟨rfl,rfl⟩:=kd m rfl;obtain⟨he,H,C,T⟩:=xT (w:=w) W h A;exact⟨H,w,R,.inl (bU C),.pure he T .nil (by simp)⟩
 | field st x f=>
  obtain rfl:=Y rfl;obtain⟨a,rfl,A⟩:=dO V;obtain⟨rfl,rfl⟩:=kd m rfl;obtain⟨he,H,C,T⟩:=Fz (w:=w) W h A;exact⟨H,w,R,.inl (bU C),.pure he T .nil (by simp)⟩
 | indexAddr t x y=>
  obtain rfl:=Y rfl;obtain⟨a,b,b1,Q,rfl,e,A,hb⟩:=eZ V;obtain⟨rfl,rfl⟩:=fQ e.symm;obtain⟨rfl,rfl⟩:=kd m rfl;obtain⟨he,H,C,T⟩:=xS (w:=w) W h (kj A) (kj hb);exact⟨H,w,R,.inl (bU C),.pure he T .nil (by simp)⟩
 | index t x y=>
  obtain rfl:=Y rfl;obtain⟨a,b,b1,Q,rfl,e,A,hb⟩:=eZ V;obtain⟨rfl,rfl⟩:=fQ e.symm;obtain⟨rfl,rfl⟩:=kd m rfl;obtain⟨he,H,C,T⟩:=Fy (w:=w) W h A hb;exact⟨H,w,R,.inl (bU C),.pure he T .nil (by simp)⟩
 | slice t x lo hi mx=>
  obtain rfl:=Y rfl;simp only[opsL,List.map_cons] at V
  cases vals with
  | nil=>simp[ah] at V
  | cons a vals=>
   obtain⟨v,da,b1,Q,e1,F,C,T⟩:=au V;simp at e1;obtain⟨rfl,e1⟩:=e1;obtain⟨rfl,rfl⟩:=fQ F.symm;obtain⟨rfl,rfl⟩:=kd m rfl;rw[←e1] at T;obtain⟨he,rfl,H,k1,K⟩:=Fx (ρ:=ρ) (w:=w) W h (kj C) (FQ (by simpa using T));exact⟨H,w,R,.inl (bU k1),.pure he K .nil (by simp)⟩
 | build t ps=>
  obtain rfl:=Y rfl;obtain⟨rfl,rfl⟩:=kd m rfl;obtain⟨he,H,C,T⟩:=FA (w:=w) W h V;exact⟨H,w,R,.inl (bU C),.pure he T .nil (by simp)⟩
 | buildSlice t len ps=>
  obtain rfl:=Y rfl;obtain⟨rfl,rfl⟩:=kd m rfl;simp only[jE] at h
  split at h
  ·obtain⟨o',s,w',R',rfl,C,T,h3,g,G,h6⟩:=zi (w:=w) W h V rest;refine⟨_,w',R',.inl (bU C),T,?_⟩;dsimp only
   cases Nat.beq len 1 with
   | true=>exact⟨rfl,[],h3,⟨by simp,by simp⟩,G,len,rfl,Nat.le_refl _,g,h6⟩
   | false=>exact⟨w.heap.size,[],len,h3,⟨by simp,by simp⟩,rfl,Nat.le_refl _,g,G,h6⟩
  obtain⟨he,H,w',R',C,T,h3⟩:=vu (w:=w) W h V rest;refine⟨H,w',R',.inl (bU C),T,?_⟩;rw[he];exact⟨_,h3,⟨by simp,by simp⟩,by simp⟩
 | makeFunc f aw ar=>
  obtain rfl:=Y rfl;obtain⟨rfl,rfl⟩:=kd m rfl;simp only[opsL,List.map_append] at V;have cg:aw.size=(aw.toList.map ρ).length:=by simp
  simp only[jE,cg] at h;obtain⟨he,H,C,T⟩:=ze (P:=P) (w:=w) h V;refine⟨H,w,R,.inl ?_,.pure he T .nil (by simp)⟩;have e1:(aw.toList.map ρ).toArray=aw.map ρ:=by rw[←Array.toList_map]
  have F:(ar.toList.map ρ).toArray=ar.map ρ:=by rw[←Array.toList_map]
  rw[e1,F] at C;exact bU C
 | extract x i=>
  obtain⟨a,rfl,A⟩:=dO V;obtain⟨rfl,rfl⟩:=kd m rfl;obtain⟨he,H,b',C,T,h3⟩:=BL (P:=P) (w:=w) h A;exact⟨H,w,R,.inl (bU C),.pure he T ⟨h3.nodup a7,fun b hb=>.inl (h3.subset hb)⟩ (by simp)⟩
 | load t x=>
  obtain rfl:=Y rfl;obtain⟨a,rfl,A⟩:=dO V;simp only[jE,eB] at h
  split at h
  ·rename_i cs L;simp at L;subst L;obtain⟨rfl,rfl⟩:=kd m rfl
   split at h
   ·rename_i i a9
    cases l:agj i cs with
    | none=>simp[l,xj] at h
    | some v=>
     simp[l,xj] at h;subst h;simp only[ai] at A;obtain⟨_,b,ae,e,bd⟩:=A;obtain⟨H,C,T⟩:=Ek (N:=N) W a9 l bd;refine⟨H,w,R,.inl ?_,.pure rfl T .nil (by simp)⟩
     have:(Instr.loadAt t (ρ x)).run P w=.ok H w:=by rw[e];simp[Instr.loadAt,Instr.sureAddr,C]
     exact bU this
   simp at h
  ·rename_i n ae L;simp at L;subst L;simp only[ai] at A;obtain⟨_,b,hb,e⟩:=A
   split at h
   ·rename_i i cs a9;obtain⟨b',b1,rfl,I,J⟩:=fH m rfl rfl;rw[hb] at I;simp at I;subst I;have a5:=J;obtain⟨vs,bx,sp,am,hr,hR⟩:=a5;have bm:∀v,loadCells i ae cs=some v->bw=⟨v,.keep⟩->∃H w' R',V9 P w ρ ⟨b4,.load t x,Z,b9,a1,guard⟩ H w'/\LY w R N (some (.cells cs)) (some (b,b1)) [] rest bw H w' R':=by
     intro v l O;subst O;obtain⟨H,C,T⟩:=nT (N:=N) W a9 am hr (mI l);rw[←e] at C;refine⟨H,w,R,.inl (bU C),.pure rfl T .nil ?_⟩;intro Q c1 o al O;simp at al;obtain⟨rfl,rfl⟩:=al;simp at O;subst O;exact J
    split at h
    ·rename_i cj
     split at h
     ·rename_i es ao;simp at h;subst h;obtain⟨ax,bt,ag,H,f1,f2,f3,f4⟩:=ah.split hr (rj ao);have cp:i.isAgg=false:=by simp at cj;exact cj.2
      have b7:w.cell? ⟨b,ae,none⟩=some H:=by
       rw[cell_of_row w b ae vs bx (0,0) am];simpa using f2
      have C:(Instr.loadAt t (ρ x)).run P w=.ok H w:=by
       rw[e];simp[Instr.loadAt,Instr.sureAddr,loadVar,W.kN a9,cp,b7]
      refine⟨H,w,R,.inl (bU C),aZ _,?_⟩;refine⟨b,b1,ax++[]++ag,bt,rfl,?_,f3,?_⟩
      ·have bi:=f4 w R (.dat (.slice es)) H [] (aZ _) (bQ (d:=.slice es) (cy f3).rep);have e1:vs.toList.set ae H=vs.toList:=by
        apply List.ext_getElem?
        intro j;rw[List.getElem?_set]
        split
        ·rename_i hj;subst hj;split
         ·exact f2.symm
         rename_i l;rw[List.getElem?_eq_none (by omega)]
        rfl
       have F:bI ae [ac.dat (.slice es)] cs=cs.set ae (.dat (.slice es)):=by
        apply List.ext_getElem?
        intro j;rw[gq,List.getElem?_set]
        by_cases hj:ae=j
        ·subst hj
         by_cases l:ae < cs.length
         ·rw[if_pos ⟨Nat.le_refl _,by simp,l⟩,if_pos rfl,if_pos l];simp
         rw[if_neg (by omega),if_pos rfl,if_neg l];exact List.getElem?_eq_none (by omega)
        rw[if_neg (by simp;omega),if_neg hj]
       rw[e1] at bi;rw[List.set_append_left (h:=(List.getElem?_eq_some_iff.1 ao).1)] at bi;exact⟨vs,bx,sp,am,by rw[F];exact bi,hR.1,fun hb=>hR.2 (xH ao hb)⟩
      have cr:b1.Nodup:=by
       have:=(List.nodup_append.1 af).2.1
       have:=(List.nodup_append.1 this).1
       simp[tV] at this;exact this.2
      subst f1
      constructor
      ·have hp:(bt++(ax++[]++ag)).Perm (ax++bt++ag):=by
        simp only[List.append_nil,←List.append_assoc];exact List.Perm.append_right _ List.perm_append_comm
       exact hp.nodup_iff.2 cr
      intro c hc;left;simp at hc ⊢
      rcases hc with h|h|h <;> simp[h]
     cases l:loadCells i ae cs with
     | none=>simp[l,xj] at h
     | some v=>simp[l,xj] at h;exact bm v l h.symm
    cases l:loadCells i ae cs with
    | none=>simp[l,xj] at h
    | some v=>simp[l,xj] at h;exact bm v l h.symm
   simp at h
  simp at h
 | store t x y=>
  obtain⟨a,v,b1,Q,rfl,rfl,A,hb⟩:=eZ V;have an:∃n ae,a=.ptr n ae:=by
   cases a <;> simp[jE,cG] at h
   exact⟨_,_,rfl⟩
  obtain⟨n,ae,rfl⟩:=an;have cx:∃cs,ob=some (.cells cs):=by
   simp only[jE,cG] at h
   split at h
   ·exact⟨_,rfl⟩
   simp at h
  obtain⟨cs,ad⟩:=cx;obtain⟨b,c1,rfl,hN,J⟩:=fH m rfl ad;simp only[ai] at A;obtain⟨rfl,b',I,e⟩:=A;rw[hN] at I;simp at I;subst I;subst ad;simp only[List.nil_append,tV] at af;have nd:=af;simp only[List.cons_append] at nd;have cu:b∉Q:=fun hc=>(List.nodup_append.1 nd).2.2 b hc b (by simp) rfl
  have cl:=(List.nodup_append.1 nd).2.1;have br:b∉c1++rest:=(List.nodup_cons.1 cl).1;obtain⟨a0,c9,az,w',ax,c3,ag,C,T,h3,g⟩:=Fw (w:=w) (n:=n) W h J hb rest (by simp at br;exact br.2) (by simp at br;exact br.1) cu;rw[←e] at C;refine⟨undef,w',R,.inr ⟨zm C,rfl⟩,T,?_⟩;rw[az];refine⟨b,c1,ax++Q++ag,[],rfl,g,by rw[a0];exact aJ _,?_⟩;subst h3
  constructor
  ·have c4:(Q++(ax++c3++ag)).Nodup:=by
    have G:=(List.nodup_append.1 nd);refine List.nodup_append.2 ⟨G.1,?_,?_⟩
    ·exact (List.nodup_append.1 (List.nodup_cons.1 cl).2).1
    intro p hp q hq;exact G.2.2 p hp q (by simp at hq ⊢;rcases hq with h|h|h <;> simp[h])
   have ci:(Q++(ax++ag)).Nodup:=by
    refine List.Nodup.sublist ?_ c4;refine List.Sublist.append (.refl _) ?_;rw[List.append_assoc];exact List.Sublist.append (.refl _) (List.sublist_append_right _ _)
   have hp:([]++(ax++Q++ag)).Perm (Q++(ax++ag)):=by
    simp only[List.nil_append];rw[←List.append_assoc];exact List.Perm.append_right _ List.perm_append_comm
   exact hp.nodup_iff.2 ci
  intro c hc;left;simp at hc ⊢
  rcases hc with h|h|h <;> simp[h]
 | alloc t=>
  obtain⟨rfl,rfl⟩:=kd m rfl;simp only[opsL,List.map_nil] at V
  cases vals with
  | cons _ _=>simp[ah] at V
  | nil=>
   obtain⟨_,rfl⟩:=aM V;simp only[jE,Kf] at h
   split at h
   ·rename_i i a9
    split at h
    ·rename_i bf;simp at h;subst h;have hz:=ia (gu (w:=w) (R:=R) (N:=N) i.zero) bf.1;obtain⟨k1,K⟩:=CQ hz t (fun hb=>by have:=bf.2;rw[hb] at this;exact Nat.eq_of_beq_eq_true (by simpa using this)) rest;refine⟨.pointer (some ⟨w.heap.size,0,none⟩),_,_,.inl ?_,k1,rfl,_,K,⟨List.nodup_nil,by simp⟩,by simp,rfl⟩
     have:(Instr.alloc t true (.tuple #[])).run P w=.ok (.pointer (some ⟨w.heap.size,0,none⟩)) (w.alloc (.cells i.zero.cells t)):=by
      simp[Instr.alloc,W.zA a9,newVar,newRow]
     exact bU this
    simp at h
   simp at h
 | box t x=>
  obtain⟨a,rfl,A⟩:=dO V;obtain⟨rfl,rfl⟩:=kd m rfl;simp only[jE,Sj] at h
  split at h
  ·rename_i bf;simp at h;subst h;have hc:=ia A bf.1;obtain⟨k1,K⟩:=CQ hc t (fun hb=>by have:=bf.2;rw[hb] at this;simp at this) rest;refine⟨.pointer (some ⟨w.heap.size,0,none⟩),_,_,.inl ?_,k1,rfl,_,K,⟨a7,fun _ h=>h⟩,by simp,rfl⟩
   have:(Instr.box t (ρ x)).run P w=.ok (.pointer (some ⟨w.heap.size,0,none⟩)) (w.alloc (.cells (ρ x).cells t)):=by
    simp[Instr.box,newVar,newRow]
   exact bU this
  simp at h
 | makeMap t r=>
  obtain⟨rfl,rfl⟩:=kd m rfl;simp only[opsL,List.map_nil] at V
  cases vals with
  | cons _ _=>simp[ah] at V
  | nil=>
   obtain⟨_,rfl⟩:=aM V;simp only[jE,HL,Dw] at h
   cases r with
   | some _=>split at h <;> simp at h
   | none=>
    have b0:(Instr.makeMap t none).run P w=.ok (.map (some w.heap.size)) (w.alloc (.map #[] 0)):=by
     simp[Instr.makeMap]
    obtain⟨k1,K⟩:=TE (w:=w) (R:=R) (N:=N) rest
    split at h
    ·simp at h;subst h;exact⟨.map (some w.heap.size),_,_,.inl (bU b0),k1,rfl,_,K,⟨List.nodup_nil,by simp⟩,by simp,rfl⟩
    simp at h;subst h;exact⟨.map (some w.heap.size),_,_,.inl (bU b0),k1,rfl,_,K,⟨List.nodup_nil,by simp⟩,by simp,rfl⟩
 | lookup t x y ok=>
  obtain rfl:=Y rfl;obtain⟨a,b,b1,Q,rfl,e,A,hb⟩:=eZ V;obtain⟨rfl,rfl⟩:=fQ e.symm;have ad:∀n es,a=.map n->ob=some (.map es)->∃bl ay av,ρ x=.map (some bl)/\w.heap[bl]?=some (.map ay av)/\dQ w R es ay.toList:=by
   intro n es hn O;subst hn;obtain⟨bl,c1,_,hN,J⟩:=fH m rfl O;simp only[ai] at A;obtain⟨_,b',I,e⟩:=A;rw[hN] at I;simp at I;subst I;obtain⟨_,_,ay,av,am,hr,_⟩:=J;exact⟨bl,ay,av,e,am,hr⟩
  obtain⟨he,H,C,T⟩:=DN (w:=w) W h hb A ad;refine⟨H,w,R,.inl (bU C),.pure he T .nil ?_⟩;intro bl c1 obj al O;unfold eY at m
  split at m
  ·rw[m.2] at al;simp at al
  rcases m with⟨_,h⟩|⟨b',c',c7,k1,K,M,k4⟩
  ·rw[h] at al;simp at al
  rw[K] at al;simp at al;obtain⟨rfl,rfl⟩:=al;rw[k1] at O;simp at O;subst O;exact k4
 | mapUpdate t x y z=>
  obtain rfl:=Y rfl;obtain⟨a,b,d,b1,Q,b3,rfl,e,A,hb,D⟩:=pX V;obtain⟨rfl,e'⟩:=fQ e.symm;obtain⟨rfl,rfl⟩:=fQ e';have an:∃n,a=.map n:=by
   simp only[jE,gE] at h
   split at h
   ·rename_i n k v L;simp at L;exact⟨n,L.1⟩
   simp at h
  obtain⟨n,rfl⟩:=an;have ao:∃es,ob=some (.map es):=by
   simp only[jE,gE] at h
   split at h
   ·split at h
    ·exact⟨_,rfl⟩
    simp at h
   simp at h
  obtain⟨es,ad⟩:=ao;obtain⟨bl,c1,rfl,hN,J⟩:=fH m rfl ad;simp only[ai] at A;obtain⟨_,b',I,e⟩:=A;rw[hN] at I;simp at I;subst I;subst ad;have a2:c1=[]:=J.1;subst a2;have be:bl∉rest:=by simp[tV] at af;exact af.1
  obtain⟨a0,cc,az,w',C,T,h3⟩:=pj (w:=w) (n:=n) W h J hb D rest be;rw[←e] at C;refine⟨undef,w',R,.inr ⟨zm C,rfl⟩,T,?_⟩;rw[az];exact⟨bl,[],[],[],rfl,h3,by rw[a0];exact aJ _,by simp,by simp⟩
 | makeSlice t x y=>
  obtain rfl:=Y rfl;obtain⟨a,b,b1,Q,rfl,e,A,hb⟩:=eZ V;obtain⟨rfl,rfl⟩:=fQ e.symm;obtain⟨rfl,rfl⟩:=kd m rfl;obtain⟨o',len,H,w',R',ba,s,rfl,C,T,h3,rfl,G,h6,h7,h8⟩:=xR (w:=w) W h A hb rest;exact⟨_,w',R',.inl (bU C),T,w.heap.size,[],ba,h3,⟨by simp,by simp⟩,rfl,G,h6,h7,h8⟩
 | insert t x y z=>
  obtain rfl:=Y rfl;obtain⟨a,b,d,b1,Q,b3,rfl,e,A,hb,D⟩:=pX V;obtain⟨rfl,e'⟩:=fQ e.symm;obtain⟨rfl,rfl⟩:=fQ e';have an:∃n,a=.map n:=by
   simp only[jE,gE] at h
   split at h
   ·rename_i n k v L;simp at L;exact⟨n,L.1⟩
   simp at h
  obtain⟨n,rfl⟩:=an;have ao:∃es,ob=some (.map es):=by
   simp only[jE,gE] at h
   split at h
   ·split at h
    ·exact⟨_,rfl⟩
    simp at h
   simp at h
  obtain⟨es,ad⟩:=ao;obtain⟨bl,c1,rfl,hN,J⟩:=fH m rfl ad;simp only[ai] at A;obtain⟨_,b',I,e⟩:=A;rw[hN] at I;simp at I;subst I;subst ad;have a2:c1=[]:=J.1;subst a2;have be:bl∉rest:=by simp[tV] at af;exact af.1
  obtain⟨a0,cc,az,w',C,T,h3⟩:=pj (w:=w) (n:=n) W h J hb D rest be;rw[←e] at C;refine⟨undef,w',R,.inr ⟨zm C,rfl⟩,T,?_⟩;rw[az];exact⟨bl,[],[],[],rfl,h3,by rw[a0];exact aJ _,by simp,by simp⟩
 | call c=>
  obtain⟨bn,ab,u⟩:=c
  cases bn with
  | value _=>simp[jE] at h
  | invoke _ _=>simp[jE] at h
  | builtin b=>
   simp only[jE,lG] at h;obtain⟨c8,a4⟩:∃cs:Array Bool,(execOp ρ ⟨b4,.call ⟨.builtin b,ab,u⟩,Z,b9,a1,guard⟩).run P w=(builtin b u Z cs (ab.map ρ)).run P w:=⟨_,rfl⟩;have U:ab.map ρ=((ab.toList).map ρ).toArray:=by rw[←Array.toList_map]
   split at h
   ·simp at h
   ·rename_i t ts b8;have bd:u[0]?=some t:=by
     have:u.toList[0]?=some t:=by rw[b8];simp
     simpa using this
    cases b with
    | len=>
     dsimp only at h;obtain rfl:=Y rfl;have aq:∃a x,vals=[a]/\ab.toList.map ρ=[x]/\ai w R N a x []:=by
      have l:=V.length;simp only[opsL] at V l
      cases vals with
      | nil=>simp[kb,Su] at h
      | cons a vals=>
       cases vals with
       | cons _ _=>simp[kb,Su] at h
       | nil=>
        cases hm:ab.toList.map ρ with
        | nil=>rw[hm] at l;simp at l
        | cons x xs=>
         rw[hm] at l V;simp at l;subst l;obtain⟨a',e,A⟩:=dO V;simp at e;subst e;exact⟨a,x,rfl,rfl,A⟩
     obtain⟨a,x,rfl,X,A⟩:=aq;rw[X] at U
     cases bu:looks (.call ⟨.builtin .len,ab,u⟩) [a] with
     | none=>
      obtain⟨rfl,rfl⟩:=kd m bu;obtain⟨he,H,C,T⟩:=zf (ty:=Z) (w:=w) W bd h (kj A);refine⟨H,w,R,.inl ?_,.pure he T .nil (by simp)⟩;rw[a4,U];simp[builtin,C]
     | some n=>
      have cq:a=.map n:=by cases a <;> simp[looks] at bu;subst bu;rfl
      subst cq;have ao:∃es,ob=some (.map es):=by
       simp only[Su,nz,kb] at h
       split at h
       ·exact⟨_,rfl⟩
       simp at h
      obtain⟨es,ad⟩:=ao;obtain⟨bl,c1,rfl,hN,J⟩:=fH m bu ad;simp only[ai] at A;obtain⟨_,b',I,e⟩:=A;rw[hN] at I;simp at I;subst I;subst ad;have a5:=J;obtain⟨a2,_,ay,av,am,hr,_⟩:=a5;subst a2;obtain⟨he,H,C,T⟩:=BK (N:=N) (ty:=Z) (w:=w) W bd h am hr;refine⟨H,w,R,.inl ?_,.pure he T .nil ?_⟩
      ·rw[a4,U,e];simp[builtin,C]
      intro Q c2 o al O;simp at al O;obtain⟨rfl,rfl⟩:=al;subst O;exact J
    | append=>
     dsimp only at h
     split at h
     ·rename_i t1 t2 a8
      split at h
      ·rename_i B;subst B;have bk:u=#[t2,t2]:=by
        apply Array.toList_inj.1
        have bb:=b8.symm.trans a8;simp only[List.cons.injEq] at bb;rw[a8,←bb.1]
       simp only[opsL] at V;have aq:∃a x,vals=[a,x]:=by
        match vals,h with
        | [],h=>simp[Kb,bB] at h
        | [_],h=>simp[Kb,bB] at h
        | [a,x],_=>exact⟨a,x,rfl⟩
        | _::_::_::_,h=>simp[Kb,bB] at h
       obtain⟨a,x,rfl⟩:=aq;have l:=V.length
       cases hm:ab.toList.map ρ with
       | nil=>rw[hm] at l;simp at l
       | cons y ys=>
        cases ys with
        | nil=>rw[hm] at l;simp at l
        | cons z zs=>
         rw[hm] at l V U;simp at l;subst l;obtain⟨a',x',c1,c2,e0,rfl,A,X⟩:=eZ V;simp at e0;obtain⟨rfl,rfl⟩:=e0;have m:=Aw m;replace A:=CA A;replace X:=kj X;simp only[Kb] at h;clear V;generalize D1 a=a at *;generalize nz x=x at *;have bg:∀{H w'},(Builtin.append_ #[t2,t2] Z #[y,z]).run P w=.ok H w'->V9 P w ρ ⟨b4,.call ⟨.builtin .append,ab,u⟩,Z,b9,a1,guard⟩ H w':=by
          intro H w' C;refine .inl ?_;rw[a4,U,bk];simp[builtin,C]
         unfold bB at h
         split at h
         ·rename_i es x2 L;simp at L;obtain⟨rfl,rfl⟩:=L;obtain⟨rfl,rfl⟩:=kd m rfl
          split at h
          ·rename_i i bs
           split at h
           ·rename_i hc;simp only[Bool.and_eq_true,List.isEmpty_iff] at hc;obtain⟨⟨_,rfl⟩,bv⟩:=hc;have a3:c2=[]:=by
             unfold AH at bv
             split at bv
             ·exact (cB X).1
             simp at bv
            subst a3;have hb:∃a6,y=.slice a6 0 0/\(a6=none∨∃b,a6=some ⟨b,0,none⟩):=by
             rcases lg (cy A) with⟨rfl,_,_⟩|⟨b,ba,s,vs,t',rfl,_,_,_,_,_,he,_⟩
             ·exact⟨_,rfl,.inl rfl⟩
             have:=he rfl
             subst this;exact⟨_,rfl,.inr ⟨b,rfl⟩⟩
            obtain⟨a6,rfl,b6⟩:=hb;obtain⟨o',len,H,w',R',ba,rfl,C,T,h3,rfl,G,h6,h7,h8⟩:=zh (ty:=Z) (w:=w) W bs h bv X b6 rest;exact⟨_,w',R',bg C,T,w.heap.size,[],ba,h3,⟨by simp,by simp⟩,rfl,G,h6,h7,h8⟩
           ·split at h
            ·rename_i r b5
             split at h
             rotate_left
             ·simp at h
             rename_i cw;simp at h;subst h;have a3:c2=[]:=by
              obtain⟨S,rfl,_⟩:=jD (by rw[W.nc] at b5;exact b5);exact (cB X).1
             subst a3;simp only[List.append_nil,tV,List.nil_append] at af;obtain⟨H,w',R',bsV,C,T,h3,g,G⟩:=DP (ty:=Z) (w:=w) W bs b5 cw A X rest (fun b hb hr=>(List.nodup_append.1 af).2.2 b hb b hr rfl);exact⟨H,w',R',bg C,T,bsV,h3,⟨g,by simpa using G⟩,by simp,.inl rfl⟩
            simp at h
          simp at h
         ·rename_i n s ae len x2 L;simp at L;obtain⟨rfl,rfl⟩:=L
          split at h
          ·rename_i i cs bs c5
           split at h
           ·rename_i hc;simp only[Bool.and_eq_true,Nat.beq_eq] at hc;obtain⟨⟨_,rfl⟩,rfl⟩:=hc;obtain⟨bl,b1,rfl,hN,J⟩:=fH (n:=n) (obj:=.cells cs) m rfl (by first|rfl|assumption);simp only[ai] at A;obtain⟨rfl,b',ba,I,rfl,cf,cz,_,c0⟩:=A;rw[hN] at I;simp at I;subst I;have a3:c2=[]:=by
             obtain⟨S,rfl,_⟩:=oI W h;exact (cB X).1
            subst a3;have ch:((bl::b1)++rest).Nodup:=by simpa [tV] using af
            have D:=List.nodup_append.1 ch;obtain⟨o',c6,H,w',R',b',cn,ca,rfl,C,T,h3,hf,rfl,G,h6,h7,h8⟩:=zg (ty:=Z) (w:=w) W bs h X J cf cz.2 (by simpa using c0) D.1 rest (fun hh=>D.2.2 bl (by simp) bl hh rfl);exact⟨_,w',R',bg C,T,b',cn,ca,h3,by simpa [tV] using hf,rfl,G,h6,h7,h8⟩
           simp at h
          simp at h
         simp at h
      have bk:u=#[t,t2]:=by
       apply Array.toList_inj.1
       have bb:=b8.symm.trans a8;simp only[List.cons.injEq] at bb;rw[a8,←bb.1]
      simp only[opsL] at V;have aq:∃a x,vals=[a,x]:=by
       match vals,h with
       | [],h=>simp[Kb,fS] at h
       | [_],h=>simp[Kb,fS] at h
       | [a,x],_=>exact⟨a,x,rfl⟩
       | _::_::_::_,h=>simp[Kb,fS] at h
      obtain⟨a,x,rfl⟩:=aq;simp only[Kb] at h;obtain⟨es,s,ce,ck⟩:∃es s,D1 a=.own es/\nz x=.dat (.flat (.string s)):=by
       unfold fS at h
       split at h
       ·rename_i L;simp at L;exact⟨_,_,L.1,L.2⟩
       simp at h
      rw[ce,ck] at h;have l:=V.length
      cases hm:ab.toList.map ρ with
      | nil=>rw[hm] at l;simp at l
      | cons y ys=>
       cases ys with
       | nil=>rw[hm] at l;simp at l
       | cons z zs=>
        rw[hm] at l V U;simp at l;subst l;obtain⟨a',x',c1,c2,e0,rfl,A,X⟩:=eZ V;simp at e0;obtain⟨rfl,rfl⟩:=e0;have m:=Aw m;replace A:=CA A;replace X:=kj X;rw[ce] at A m;rw[ck] at X m;obtain⟨rfl,rfl⟩:=kd m rfl;have a3:c2=[]:=(cB X).1;subst a3;simp only[List.append_nil,tV,List.nil_append] at af;obtain⟨H,w',R',bsV,C,T,h3,h6,g,G⟩:=vv (ty:=Z) (w:=w) W h A X rest (fun b hb hr=>(List.nodup_append.1 af).2.2 b hb b hr rfl);refine⟨H,w',R',.inl ?_,T,?_⟩
        ·rw[a4,U,bk];simp[builtin,C]
        rw[h6];exact⟨bsV,h3,⟨g,by simpa using G⟩,by simp,.inl rfl⟩
     simp at h
    | max=>
     dsimp only at h;obtain rfl:=Y rfl;obtain⟨rfl,rfl⟩:=kd m rfl;simp only[opsL] at V;have aq:∃a x,vals=[a,x]:=by
      unfold Vb at h
      split at h
      ·exact⟨_,_,rfl⟩
      simp at h
     obtain⟨a,x,rfl⟩:=aq;have l:=V.length
     cases hm:ab.toList.map ρ with
     | nil=>rw[hm] at l;simp at l
     | cons y ys=>
      cases ys with
      | nil=>rw[hm] at l;simp at l
      | cons z zs=>
       rw[hm] at l V;simp at l;subst l;obtain⟨a',x',c1,c2,e0,e,A,X⟩:=eZ V;simp at e0;obtain⟨rfl,rfl⟩:=e0;obtain⟨rfl,rfl⟩:=fQ e.symm;obtain⟨he,H,C,T⟩:=Mj (P:=P) (w:=w) W h A X u Z;rw[hm] at U;refine⟨H,w,R,.inl ?_,.pure he T .nil (by simp)⟩;rw[a4,U];simp[builtin,C]
    | min=>
     dsimp only at h;obtain rfl:=Y rfl;obtain⟨rfl,rfl⟩:=kd m rfl;simp only[opsL] at V;have aq:∃a x,vals=[a,x]:=by
      unfold Nx at h
      split at h
      ·exact⟨_,_,rfl⟩
      simp at h
     obtain⟨a,x,rfl⟩:=aq;have l:=V.length
     cases hm:ab.toList.map ρ with
     | nil=>rw[hm] at l;simp at l
     | cons y ys=>
      cases ys with
      | nil=>rw[hm] at l;simp at l
      | cons z zs=>
       rw[hm] at l V;simp at l;subst l;obtain⟨a',x',c1,c2,e0,e,A,X⟩:=eZ V;simp at e0;obtain⟨rfl,rfl⟩:=e0;obtain⟨rfl,rfl⟩:=fQ e.symm;obtain⟨he,H,C,T⟩:=Mi (P:=P) (w:=w) W h A X u Z;rw[hm] at U;refine⟨H,w,R,.inl ?_,.pure he T .nil (by simp)⟩;rw[a4,U];simp[builtin,C]
    | delete=>
     dsimp only at h;obtain rfl:=Y rfl;simp only[opsL] at V;have aq:∃n x,vals=[.map n,x]:=by
      unfold vd at h
      split at h
      ·exact⟨_,_,rfl⟩
      simp at h
     obtain⟨n,x,rfl⟩:=aq;have l:=V.length
     cases hm:ab.toList.map ρ with
     | nil=>rw[hm] at l;simp at l
     | cons y ys=>
      cases ys with
      | nil=>rw[hm] at l;simp at l
      | cons z zs=>
       rw[hm] at l V;simp at l;subst l;obtain⟨a',x',c1,c2,e0,e,A,X⟩:=eZ V;simp at e0;obtain⟨rfl,rfl⟩:=e0;obtain⟨rfl,rfl⟩:=fQ e.symm;have ao:∃es,ob=some (.map es):=by
        unfold vd at h
        split at h
        ·split at h
         ·exact⟨_,rfl⟩
         simp at h
        simp at h
       obtain⟨es,ad⟩:=ao;obtain⟨bl,d1,rfl,hN,J⟩:=fH m rfl ad;simp only[ai] at A;obtain⟨_,b',I,e⟩:=A;rw[hN] at I;simp at I;subst I;subst ad;have a2:d1=[]:=J.1;subst a2;have be:bl∉rest:=by simp[tV] at af;exact af.1
       obtain⟨H,w',C,T,h3,g⟩:=DO (ty:=Z) (w:=w) (n:=n) W bd h J X rest be;rw[hm,e] at U;refine⟨H,w',R,.inl ?_,T,?_⟩
       ·rw[a4,U];simp[builtin,C]
       obtain⟨cc,he,O⟩:=g;rw[he];exact⟨bl,[],[],[],rfl,O,h3,by simp,by simp⟩
    | _=>simp at h
 | _=>simp[jE] at h
end
end Go.Tp
namespace Go.Tp
section
variable {P:Program} {E:bz} {G:bA} {w:World} {R:Own} {N N':Name->Option Nat}
mutual
theorem ai.ext:∀{a:ac} {v:Value} {B:List Nat},ai w R N a v B->(∀m b,N m=some b->N' m=some b)->ai w R N' a v B
 | .dat _,_,_,h,_=>by exact h
 | .own _,_,_,h,_=>by exact h
 | .ref _,_,_,h,_=>by exact h
 | .ptr m _,_,_,h,d=>by grind[ai]
 | .map m,_,_,h,d=>by grind[ai]
 | .win m _ _ _,_,_,h,d=>by grind[ai]
 | .fn _ x y,_,_,h,d=>by
  obtain⟨j,g,n,e,k,f⟩:=h;exact⟨j,g,n,e,ah.ext (as:=x) k d,ah.ext (as:=y) f d⟩
 | .agg c,_,_,h,d=>by obtain⟨g,e,h⟩:=h;exact⟨g,e,ah.ext (as:=c) h d⟩
 | .tup c,_,_,h,d=>by obtain⟨g,e,h⟩:=h;exact⟨g,e,ah.ext (as:=c) h d⟩
 | .undef,_,_,h,_=>by exact h
theorem ah.ext:∀{as:List ac} {g:List Value} {B:List Nat},ah w R N as g B->(∀m b,N m=some b->N' m=some b)->ah w R N' as g B
 | [],_,_,h,_=>by exact h
 | a::as,_,_,h,d=>by
  obtain⟨v,l,r,Q,E,F,j,k⟩:=h;exact⟨v,l,r,Q,E,F,ai.ext (a:=a) j d,ah.ext (as:=as) k d⟩
end
theorem aI.ext {o:aL} {b:Nat} {B:List Nat} (h:aI w R N o b B) (f:∀m b,N m=some b->N' m=some b):aI w R N' o b B:=by
 cases o with
 | cells c=>obtain⟨k,e,j,d,i,g⟩:=h;exact⟨k,e,j,d,i.ext f,g⟩
 | map l=>exact h
theorem aj.ext:∀{d:List (Name×aL)} {B:List Nat},aj w R N d B->(∀m b,N m=some b->N' m=some b)->aj w R N' d B
 | [],_,h,_=>h
 |(_,_)::_,_,⟨b,r,Q,e,i,a,g⟩,c=>⟨b,r,Q,e,c _ _ i,a.ext c,aj.ext g c⟩
theorem aj.qK:∀{d:List (Name×aL)} {B:List Nat} (n:Name),aj w R N d B->∃c,aj w R N (iY n d) c/\c.Sublist B
 | [],_,_,h=>⟨_,h,.refl _⟩
 |(m,o)::d,_,n,⟨b,r,Q,e,j,a,i⟩=>by
  subst e;obtain⟨c,f,g⟩:=aj.qK n i;simp only[iY]
  split
  ·grind
  exact⟨b::(r++c),⟨b,r,c,rfl,j,a,f⟩,(List.Sublist.append (.refl _) g).cons_cons _⟩
theorem aj.kK:∀{s:List (Name×aL)} {B:List Nat} {n:Name} {o:aL},aj w R N s B->eA n s=some o->
  ∃i b r d,B=i++(b::r)++d/\N n=some b/\aI w R N o b r ∧
   (∀(l:World) (j:Own) (q:aL) (f:List Nat),bp w R l j (i++d)->aI l j N q b f->aj l j N (iX n q s) (i++(b::f)++d)) ∧
   ∃g,aj w R N (iY n s) g/\g.Sublist (i++d)
 | [],_,_,_,_,h=>by grind[eA]
 |(m,x)::s,B,n,o,h,J=>by
  obtain⟨b,r,Q,e,t,a,v⟩:=h;simp only[eA] at J;simp only[iY]
  split at J
  ·rename_i u;subst u;simp at J;subst J;obtain⟨g,G,H⟩:=aj.qK m v;refine⟨[],b,r,Q,by grind,t,a,fun l j q f k y=>?_,g,by grind,by grind⟩;simp only[iX,if_true];exact⟨b,f,Q,by simp,t,y,v.keep (k.sub (by simp))⟩
  rename_i u;rw[if_neg u];obtain⟨i,c,p,d,E,z,A,C,g,D,F⟩:=aj.kK v J;refine⟨b::(r++i),c,p,d,by grind,z,A,fun l j q f k y=>?_,b::(r++g),⟨b,r,g,rfl,t,a,D⟩,?_⟩
  ·simp only[iX,if_neg u];exact⟨b,r,i++(c::f)++d,by simp,t,a.keep (k.sub (by grind)),
    C l j q f (k.sub (by grind)) y⟩
  simp_all
theorem fO {bsM g c:List Nat} (h:(bsM++c).Nodup) (l:∀b∈c,b < w.heap.size) (f:wQ w bsM g):(g++c).Nodup:=by
 refine List.nodup_append.2 ⟨f.1,(List.nodup_append.1 h).2.1,?_⟩;intro a A b d e;subst e
 rcases f.2 a A with i|i
 all_goals grind
theorem ng {g:List ac} {k:List Value} {B b X:List Nat} {a:ac} {v:Value} (d:Nat) (h:ah w R N g k B) (V:ai w R N a v b) (i:(b++(B++X)).Nodup) :
  ∃f,ah w R N (g.set d a) (k.set d v) f/\(f++X).Nodup:=by
 cases D:g[d]? with
 | none=>
  have l:g.length<=d:=by grind
  have n:=h.length;rw[List.set_eq_of_length_le l,List.set_eq_of_length_le (by omega)];grind
 | some x=>
  obtain⟨e,o,c,u,E,F,p,m⟩:=ah.split h D;refine⟨e++b++c,m w R a v b (aZ _) V,?_⟩;subst E;have j:(b++(e++c++X)).Nodup:=by
   refine List.Nodup.sublist ?_ i;grind
  have q:(e++b++c++X).Perm (b++(e++c++X)):=by
   simp only[←List.append_assoc];refine List.Perm.append_right _ (List.Perm.append_right _ ?_);grind
  grind
theorem ga (a:Act) (b:Option Tmp) (v:Value):(a.put b v).tmps.toList=(match b with|some d=>a.tmps.toList.set d v|none=>a.tmps.toList)/\(a.put b v).defers=a.defers:=by
 cases b with
 | none=>exact⟨rfl,rfl⟩
 | some d=>exact⟨by simp[Act.put],rfl⟩
theorem fW {s:aa} {tmps:List Value} {B b X:List Nat} {a:ac} {v:Value} (c:Option Tmp) (h:ah w R N s.tmps tmps B) (V:ai w R N a v b) (f:(b++(B++X)).Nodup) :
  ∃e,ah w R N (s.put c a).tmps (match c with|some d=>tmps.set d v|none=>tmps) e/\(e++X).Nodup:=by
 cases c with
 | none=>exact⟨B,h,(List.nodup_append.1 f).2.1⟩
 | some d=>exact ng d h V f
theorem dB (s:aa) (b:Option Tmp) (a:ac):(s.put b a).locs=s.locs/\(s.put b a).heap=s.heap/\(s.put b a).next=s.next:=by cases b <;> exact⟨rfl,rfl,rfl⟩
theorem ry (s:aa) (a:Option Nat) (b:List Operand):(bF s a b).locs=s.locs/\(bF s a b).heap=s.heap/\(bF s a b).next=s.next:=by
 unfold bF;grind
theorem wF:∀{a:List (Name×aL)} {n:Name} {o:aL},eA n a=some o->iX n o a=a
 | [],_,_,h=>by grind[eA]
 |(m,x)::a,n,o,h=>by
  simp only[eA] at h;simp only[iX]
  split at h
  ·grind
  rename_i b;rw[if_neg b,wF h]
theorem CJ (n:Name):∀(l:List ac),(dD n l).length=l.length
 | []=>rfl
 | _::l=>by simp[dD,CJ n l]
def bX (N:Name->Option Nat) (n:Name) (b:Nat):Name->Option Nat:=fun m=>if m=n then some b else N m
theorem nU {n:Name} {f:Nat} {o:aL} {b:Nat} {B:List Nat} (h:aI w R N o b B) (a:∀c,o=.cells c->aU n c=false):aI w R (bX N n f) o b B:=by
 cases o with
 | cells c=>
  obtain⟨k,e,j,d,i,g⟩:=h;exact⟨k,e,j,d,ah.other i (by rw[BT];exact a c rfl) (fun m a=>by grind[bX]),g⟩
 | map l=>exact h
structure Stepped (P:Program) (G:bA) (w:World) (R:Own) (N:Name->Option Nat) (act:Act) (bsF:List Nat) (o:Oper) (s':aa) (nx:Nat) (cv:Value) (w':World):Prop where
 ran:V9 P w act.eval o cv w'
 rel:∃R' N' bsT bsL bsH,dw G w' R' N' (act.put o.dst cv).tmps.toList s' undef .undef [] bsT bsL bsH bsF/\bp w R w' R' bsF/\(∀k b,N (.out k)=some b->N' (.out k)=some b)/\∀i,o.dst≠some i->N' (.loc i)=N (.loc i)
 next:nx<=s'.next
theorem qF (W:E.Ok P) {q cr:Bool} {o:Oper} {s s':aa} (h:aa4 E G q cr o s=some s') {bt:Act} {Z U H z:List Nat}
  (hr:dw G w R N bt.tmps.toList s undef .undef [] Z U H z):∃v L,Stepped P G w R N bt z o s' s.next v L:=by
 unfold aa4 at h;have cj:(Z++(U++(H++z))).Nodup:=by simpa using hr.nodup
 obtain⟨bsM,l,A,cf,bo,c0⟩:=rB hr.tmps hr.glob (kp q o.op) (opsL o.op) (U++(H++z)) cj;generalize c6:aE G s (kp q o.op) 0 (opsL o.op)=aq at h A;obtain⟨a3,bc,Y⟩:=ry s (kp q o.op) (opsL o.op);generalize c7:bF s (kp q o.op) (opsL o.op)=s1 at h cf a3 bc Y;have ag:=cf.lt;have ao:=hr.locs.lt;have an:=hr.heap.lt;have bg:=hr.frame;have a1:∀b∈U++(H++z),b < w.heap.size:=fun b y=>by
  simp at y
  rcases y with h|h|h
  ·exact ao b h
  ·exact an b h
  exact bg b h
 split at h
 ·simp at h
 rename_i out c3
 -- the object that is looked at
 have ca:∃nm rest,eY w R N o.op aq (aX s o.op aq) nm/\(bsM++(tV nm++rest)).Nodup/\(∀b∈rest,b < w.heap.size)/\(∀b∈z,b∈rest)/\(∀b∈l,b∈rest) ∧
   ((nm=none/\rest=l++(U++(H++z))) ∨
    (∃i b r x j B,looks o.op aq=some (.loc i)/\aX s o.op aq=some B/\nm=some (b,r)/\U=x++(b::r)++j/\rest=l++((x++j)++(H++z))/\N (.loc i)=some b/\(∃ax,aj w R N (iY (.loc i) s.locs) ax/\ax.Sublist (x++j)) ∧
     ∀(L:World) (S:Own) (o':aL) (t:List Nat),bp w R L S (x++j)->aI L S N o' b t->aj L S N (iX (.loc i) o' s.locs) (x++(b::t)++j)) ∨
    (∃k b r x j B,looks o.op aq=some (.out k)/\aX s o.op aq=some B/\nm=some (b,r)/\H=x++(b::r)++j/\rest=l++(U++((x++j)++z))/\N (.out k)=some b/\bh B=true/\(∃ax,aj w R (outs N) (iY (.out k) s.heap) ax/\ax.Sublist (x++j)) ∧
     ∀(L:World) (S:Own) (o':aL) (t:List Nat),bp w R L S (x++j)->aI L S (outs N) o' b t->aj L S (outs N) (iX (.out k) o' s.heap) (x++(b::t)++j))):=by
  have cg:aX s o.op aq=none->∃nm rest,eY w R N o.op aq (aX s o.op aq) nm/\(bsM++(tV nm++rest)).Nodup/\(∀b∈rest,b < w.heap.size)/\(∀b∈z,b∈rest)/\(∀b∈l,b∈rest)/\(nm=none/\rest=l++(U++(H++z))):=by
   intro hn;refine⟨none,l++(U++(H++z)),?_,by simpa [tV] using bo,?_,?_,?_,rfl,rfl⟩
   ·unfold eY
    split
    ·exact⟨hn,rfl⟩
    exact .inl ⟨hn,rfl⟩
   ·intro b y
    rcases List.mem_append.1 y with h|h
    ·exact ag b h
    exact a1 b h
   ·intro b y;simp[y]
   intro b y;simp[y]
  cases b9:aX s o.op aq with
  | none=>
   obtain⟨nm,rest,k1,K,M,k4,k5,k6⟩:=cg b9;rw[b9] at k1;exact⟨nm,rest,k1,K,M,k4,k5,.inl k6⟩
  | some B=>
   have a5:=b9;unfold aX at a5
   split at a5
   ·rename_i n hn
    cases n with
    | loc i=>
     simp only[aa.obj] at a5;obtain⟨x,b,r,j,e1,F,e3,e4,e5⟩:=aj.kK hr.locs a5;refine⟨some (b,r),l++((x++j)++(H++z)),?_,?_,?_,?_,?_,.inr (.inl ⟨i,b,r,x,j,B,hn,rfl,rfl,e1,rfl,F,e5,e4⟩)⟩
     ·unfold eY;rw[hn];exact .inr ⟨b,r,B,rfl,rfl,F,e3⟩
     ·subst e1;have hp:(bsM++(tV (some (b,r))++(l++((x++j)++(H++z))))).Perm (bsM++(l++((x++(b::r)++j)++(H++z)))):=by rw[List.perm_iff_count];intro q;simp only[tV,List.count_append,List.count_cons];omega
      exact hp.nodup_iff.2 bo
     ·intro c T;subst e1;simp at T
      rcases T with h|h|h|h|h
      ·exact ag c h
      ·exact ao c (by simp[h])
      ·exact ao c (by simp[h])
      ·exact an c h
      exact bg c h
     ·intro c T;simp[T]
     intro c T;simp[T]
    | out k=>
     simp only[aa.obj] at a5;obtain⟨x,b,r,j,e1,F,e3,e4,e5⟩:=aj.kK hr.heap a5;have ae:bh B=true:=by
      cases B with
      | cells cs=>obtain⟨vs,e,sp,y,c4,hR⟩:=e3;have:=c4.bY;rw[ji] at this;exact this
      | map es=>rfl
     have cu:aI w R N B b r:=e3.yi ae (fun _=>rfl);refine⟨some (b,r),l++(U++((x++j)++z)),?_,?_,?_,?_,?_,.inr (.inr ⟨k,b,r,x,j,B,hn,rfl,rfl,e1,rfl,by simpa [outs] using F,ae,e5,e4⟩)⟩
     ·unfold eY;rw[hn];exact .inr ⟨b,r,B,rfl,rfl,by simpa [outs] using F,cu⟩
     ·subst e1;have hp:(bsM++(tV (some (b,r))++(l++(U++((x++j)++z))))).Perm (bsM++(l++(U++((x++(b::r)++j)++z)))):=by rw[List.perm_iff_count];intro q;simp only[tV,List.count_append,List.count_cons];omega
      exact hp.nodup_iff.2 bo
     ·intro c T;subst e1;simp at T
      rcases T with h|h|h|h|h
      ·exact ag c h
      ·exact ao c h
      ·exact an c (by simp[h])
      ·exact an c (by simp[h])
      exact bg c h
     ·intro c T;simp[T]
     intro c T;simp[T]
   simp at a5
 obtain⟨nm,rest,cz,a2,ch,cw,cx,am⟩:=ca;obtain⟨v,L,S,a6,u,ad⟩:=nJ (rest:=rest) W c3 A (fun h=>c0 (by unfold kp;split <;> simp[h])) cz a2 (fun _=>rfl);have ar:∀g cs,G g=some cs->aed L S g cs:=fun g cs J=>(hr.glob g cs J).step u.step
 have bn:bp w R L S z:=u.sub cw;have ab:∀b∈z,b < L.heap.size:=fun b y=>Nat.lt_of_lt_of_le (bg b y) u.step.size
 have br:ah L S N s1.tmps bt.tmps.toList l:=cf.keep (u.sub cx);unfold dW at h;obtain⟨bb,c8⟩:=ga bt o.dst v
 cases a9:out.eff with
 | keep=>
  rw[a9] at h ad;simp at h;subst h;obtain⟨a8,V,hf,X,_⟩:=ad
  -- the objects as they were
  have cc:∃Q C,aj L S N s.locs Q/\aj L S (outs N) s.heap C/\Q=U/\C=H:=by
   rcases am with⟨_,e⟩|⟨i,b,r,x,j,B,a,h2,f,h4,h5,h6,_,h7⟩|⟨k,b,r,x,j,B,a,h2,f,h4,h5,h6,bs,_,h7⟩
   ·subst e;exact⟨U,H,hr.locs.keep (u.sub (by intro b y;simp[y])),hr.heap.keep (u.sub (by intro b y;simp[y])),rfl,rfl⟩
   ·subst h5;have O:=X b r B f h2;have hL:=h7 L S B r (u.sub (by intro b y;simp at y ⊢;rcases y with h|h <;> simp[h])) O;unfold aX at h2;rw[a] at h2;simp only[aa.obj] at h2;rw[wF h2] at hL;exact⟨_,H,hL,hr.heap.keep (u.sub (by intro b y;simp[y])),h4.symm,rfl⟩
   subst h5;have O:=X b r B f h2;have hH:=h7 L S B r (u.sub (by intro b y;simp at y ⊢;rcases y with h|h <;> simp[h])) (O.yi bs (fun _=>rfl));unfold aX at h2;rw[a] at h2;simp only[aa.obj] at h2;rw[wF h2] at hH;exact⟨U,_,hr.locs.keep (u.sub (by intro b y;simp[y])),hH,rfl,h4.symm⟩
  obtain⟨Q,C,hL,hH,rfl,rfl⟩:=cc;have cn:(a8++(l++(Q++(C++z)))).Nodup:=by
   refine fO bo ?_ hf;intro b y
   rcases List.mem_append.1 y with h|h
   ·exact ag b h
   exact a1 b h
  obtain⟨I,az,a0⟩:=fW o.dst br V cn;obtain⟨q1,q2,q3⟩:=dB s1 o.dst out.val;refine⟨v,L,a6,⟨S,N,I,Q,C,⟨aJ _,?_,?_,?_,by simpa using a0,?_,ar,ab⟩,bn,fun _ _ h=>h,fun _ _=>rfl⟩,?_⟩
  ·rw[bb];exact az
  ·rw[q1,a3];exact hL
  ·rw[q2,bc];exact hH
  ·rw[q3,Y];exact hr.next
  rw[q3,Y];exact Nat.le_refl _
 | set o'=>
  rw[a9] at h ad;obtain⟨b,r,t,a8,bk,X,V,hf⟩:=ad
  rcases am with⟨e,_⟩|⟨i,b0,p,x,j,B,a,h2,f,h4,h5,h6,_,h7⟩|⟨k,b0,p,x,j,B,a,h2,f,h4,h5,h6,bs,_,h7⟩
  ·rw[e] at bk;simp at bk
  ·rw[f] at bk;simp at bk;obtain⟨rfl,rfl⟩:=bk;rw[a] at h;simp only[aa.setObj,Option.some.injEq] at h;subst h;subst h5;subst f;have hL:=h7 L S o' t (u.sub (by intro b y;simp at y ⊢;rcases y with h|h <;> simp[h])) X;have hH:=hr.heap.keep (u.sub (by intro b y;simp[y]))
   -- nodup
   have av:((a8++t)++(b0::(l++((x++j)++(H++z))))).Nodup:=by
    refine fO (bsM:=bsM++p) ?_ ?_ hf
    ·have hp:((bsM++p)++(b0::(l++((x++j)++(H++z))))).Perm (bsM++(tV (some (b0,p))++(l++((x++j)++(H++z))))):=by rw[List.perm_iff_count];intro q;simp only[tV,List.count_append,List.count_cons];omega
     exact hp.nodup_iff.2 a2
    intro c T
    rcases List.mem_cons.1 T with rfl|T
    ·exact ao c (by rw[h4];simp)
    exact ch c T
   have aw:(a8++(l++((x++(b0::t)++j)++(H++z)))).Nodup:=by
    have hp:(a8++(l++((x++(b0::t)++j)++(H++z)))).Perm ((a8++t)++(b0::(l++((x++j)++(H++z))))):=by rw[List.perm_iff_count];intro q;simp only[List.count_append,List.count_cons];omega
    exact hp.nodup_iff.2 av
   obtain⟨I,az,a0⟩:=fW o.dst br V aw;have e0:(({s1 with locs:=iX (.loc i) o' s1.locs }:aa).put o.dst out.val).tmps=(s1.put o.dst out.val).tmps:=by cases o.dst <;> rfl
   obtain⟨q1,q2,q3⟩:=dB ({s1 with locs:=iX (.loc i) o' s1.locs }:aa) o.dst out.val;refine⟨v,L,a6,⟨S,N,I,x++(b0::t)++j,H,⟨aJ _,?_,?_,?_,by simpa using a0,?_,ar,ab⟩,bn,fun _ _ h=>h,fun _ _=>rfl⟩,?_⟩
   ·rw[bb,e0];exact az
   ·rw[q1];dsimp only;rw[a3];exact hL
   ·rw[q2];dsimp only;rw[bc];exact hH
   ·rw[q3];dsimp only;rw[Y];exact hr.next
   rw[q3];exact Nat.le_of_eq Y.symm
  rw[f] at bk;simp at bk;obtain⟨rfl,rfl⟩:=bk;rw[a] at h;simp only[aa.setObj] at h
  split at h
  ·rename_i s2 b7
   split at b7
   ·rename_i ae;simp only[Option.some.injEq] at h b7;subst h;subst b7;subst h5;subst f;have hH:=h7 L S o' t (u.sub (by intro b y;simp at y ⊢;rcases y with h|h <;> simp[h])) (X.yi ae (fun _=>rfl));have hL:=hr.locs.keep (u.sub (by intro b y;simp[y]));have av:((a8++t)++(b0::(l++(U++((x++j)++z))))).Nodup:=by
     refine fO (bsM:=bsM++p) ?_ ?_ hf
     ·have hp:((bsM++p)++(b0::(l++(U++((x++j)++z))))).Perm (bsM++(tV (some (b0,p))++(l++(U++((x++j)++z))))):=by rw[List.perm_iff_count];intro q;simp only[tV,List.count_append,List.count_cons];omega
      exact hp.nodup_iff.2 a2
     intro c T
     rcases List.mem_cons.1 T with rfl|T
     ·exact an c (by rw[h4];simp)
     exact ch c T
    have aw:(a8++(l++(U++((x++(b0::t)++j)++z)))).Nodup:=by
     have hp:(a8++(l++(U++((x++(b0::t)++j)++z)))).Perm ((a8++t)++(b0::(l++(U++((x++j)++z))))):=by rw[List.perm_iff_count];intro q;simp only[List.count_append,List.count_cons];omega
     exact hp.nodup_iff.2 av
    obtain⟨I,az,a0⟩:=fW o.dst br V aw;have e0:(({s1 with heap:=iX (.out k) o' s1.heap }:aa).put o.dst out.val).tmps=(s1.put o.dst out.val).tmps:=by cases o.dst <;> rfl
    obtain⟨q1,q2,q3⟩:=dB ({s1 with heap:=iX (.out k) o' s1.heap }:aa) o.dst out.val;refine⟨v,L,a6,⟨S,N,I,U,x++(b0::t)++j,⟨aJ _,?_,?_,?_,by simpa using a0,?_,ar,ab⟩,bn,fun _ _ h=>h,fun _ _=>rfl⟩,?_⟩
    ·rw[bb,e0];exact az
    ·rw[q1];dsimp only;rw[a3];exact hL
    ·rw[q2];dsimp only;rw[bc];exact hH
    ·rw[q3];dsimp only;rw[Y];exact hr.next
    rw[q3];exact Nat.le_of_eq Y.symm
   simp at b7
  simp at h
 | grow o' sz bl=>
  rw[a9] at h ad;obtain⟨b',t,b6,X,hf,rfl,bu,b5,ci,b4⟩:=ad;have hN:∀m b,N m=some b->bX N (.out s.next) b' m=some b:=fun m b hm=>by
   simp only[bX];rw[if_neg]
   ·exact hm
   rintro rfl
   have:=hr.next _ _ hm
   omega
  have bf:∀(a7 ay:List (Name×aL)) (Q C:List Nat),bh o'=true->aj L S N a7 Q->aj L S (outs N) ay C->(∀c∈Q++C,c < w.heap.size)->(bsM++(tV nm++(l++(Q++(C++z))))).Nodup->
    s'=({s1 with locs:=a7,heap:=(.out s1.next,o')::ay,next:=s1.next+1 }:aa).put o.dst (.win (.out s1.next) sz 0 bl)->
    ∃v L,Stepped P G w R N bt z o s' s.next v L:=by
   intro a7 ay Q C ae hL hH bw cp c5;have cq:ai L S (bX N (.out s.next) b') (.win (.out s.next) sz 0 bl) (.slice (some ⟨b',0,none⟩) bl b6) []:=by
    simp only[ai];exact⟨trivial,b',b6,by simp[bX],rfl,bu,b5,ci,by rw[Nat.zero_add];exact b4⟩
   have cb:aI L S (outs (bX N (.out s.next) b')) o' b' t:=(X.ext hN).yi ae (fun _=>rfl);have bm:aj L S (outs (bX N (.out s.next) b')) ay C:=hH.ext (fun m b hm=>by
    cases m with
    | loc i=>simp[outs] at hm
    | out k=>simp only[outs] at hm ⊢;exact hN _ _ hm)
   -- nodup
   have ck:((bsM++tV nm)++(l++(Q++(C++z)))).Nodup:=by simpa only[List.append_assoc] using cp
   have cl:((b'::t)++(l++(Q++(C++z)))).Nodup:=by
    refine fO (w:=w) ck ?_ hf;intro c T
    rcases List.mem_append.1 T with h|h
    ·exact ag c h
    rcases List.mem_append.1 h with h|h
    ·exact bw c (List.mem_append_left _ h)
    rcases List.mem_append.1 h with h|h
    ·exact bw c (List.mem_append_right _ h)
    exact bg c h
   have cm:([]++(l++(Q++((b'::(t++C))++z)))).Nodup:=by
    have hp:([]++(l++(Q++((b'::(t++C))++z)))).Perm ((b'::t)++(l++(Q++(C++z)))):=by rw[List.perm_iff_count];intro q;simp only[List.count_append,List.count_cons,List.count_nil];omega
    exact hp.nodup_iff.2 cl
   obtain⟨I,az,a0⟩:=fW o.dst (br.ext hN) cq cm;subst c5;have e0:(({s1 with locs:=a7,heap:=(.out s1.next,o')::ay,next:=s1.next+1 }:aa).put o.dst (.win (.out s1.next) sz 0 bl)).tmps=(s1.put o.dst (.win (.out s.next) sz 0 bl)).tmps:=by rw[←Y];cases o.dst <;> rfl
   obtain⟨q1,q2,q3⟩:=dB ({s1 with locs:=a7,heap:=(.out s1.next,o')::ay,next:=s1.next+1 }:aa) o.dst (.win (.out s1.next) sz 0 bl);refine⟨_,L,a6,⟨S,bX N (.out s.next) b',I,Q,b'::(t++C),⟨aJ _,?_,?_,?_,by simpa using a0,?_,ar,ab⟩,bn,fun k b hk=>hN _ _ hk,fun i _=>by simp[bX]⟩,?_⟩
   ·rw[bb,e0];exact az
   ·rw[q1];exact hL.ext hN
   ·rw[q2];dsimp only;rw[Y];exact⟨b',t,C,rfl,by simp[outs,bX],cb,bm⟩
   ·rw[q3];dsimp only;rw[Y];intro k b hk;simp only[bX] at hk
    split at hk
    ·rename_i he;simp at he;omega
    have:=hr.next k b hk;omega
   rw[q3];dsimp only;rw[Y];omega
  simp only[bc] at h
  rcases am with⟨c2,e⟩|⟨i,b0,p,x,j,B,a,h2,f,h4,h5,h6,⟨ax,g1,g2⟩,h7⟩|⟨k,b0,p,x,j,B,a,h2,f,h4,h5,h6,bs,⟨ax,g1,g2⟩,h7⟩
  ·subst c2;subst e;have kL:bp w R L S U:=u.sub (by intro b y;simp[y]);have kH:bp w R L S H:=u.sub (by intro b y;simp[y])
   split at h
   ·rename_i k hk
    split at h
    ·rename_i ae;simp only[Option.some.injEq] at h;obtain⟨ax,g1,g2⟩:=aj.qK (.loc k) (hr.locs.keep kL);refine bf (iY (.loc k) s.locs) s.heap ax H ae g1 (hr.heap.keep kH) ?_ ?_ (by rw[←h,a3])
     ·intro c T
      rcases List.mem_append.1 T with h|h
      ·exact ao c (g2.mem h)
      exact an c h
     refine List.Nodup.sublist ?_ a2;exact List.Sublist.append (.refl _) (List.Sublist.append (.refl _) (List.Sublist.append (.refl _) (List.Sublist.append g2 (.refl _))))
    simp at h
   ·rename_i k hk
    split at h
    ·rename_i ae;simp only[Option.some.injEq] at h;obtain⟨ax,g1,g2⟩:=aj.qK (.out k) (hr.heap.keep kH);refine bf s.locs (iY (.out k) s.heap) U ax ae (hr.locs.keep kL) g1 ?_ ?_ (by rw[←h,←a3])
     ·intro c T
      rcases List.mem_append.1 T with h|h
      ·exact ao c h
      exact an c (g2.mem h)
     refine List.Nodup.sublist ?_ a2;exact List.Sublist.append (.refl _) (List.Sublist.append (.refl _) (List.Sublist.append (.refl _) (List.Sublist.append (.refl _) (List.Sublist.append g2 (.refl _)))))
    simp at h
   split at h
   ·rename_i ae;simp only[Option.some.injEq] at h;refine bf s.locs s.heap U H ae (hr.locs.keep kL) (hr.heap.keep kH) ?_ a2 (by rw[←h,←a3]);intro c T
    rcases List.mem_append.1 T with h|h
    ·exact ao c h
    exact an c h
   simp at h
  ·rw[a] at h;dsimp only at h
   split at h
   ·rename_i ae;simp only[Option.some.injEq] at h;subst h5;subst f;have bx:∀c∈x++j,c∈U:=fun c T=>by rw[h4];simp at T ⊢;rcases T with h|h <;> simp[h]
    refine bf (iY (.loc i) s.locs) s.heap ax H ae (g1.keep (u.sub (fun b y=>?_))) (hr.heap.keep (u.sub (by intro b y;simp[y]))) ?_ ?_ (by rw[←h,a3])
    ·have:=g2.mem y
     simp at this ⊢;rcases this with h|h <;> simp[h]
    ·intro c T
     rcases List.mem_append.1 T with h|h
     ·exact ao c (bx c (g2.mem h))
     exact an c h
    refine List.Nodup.sublist ?_ a2;exact List.Sublist.append (.refl _) (List.Sublist.append (.refl _) (List.Sublist.append (.refl _) (List.Sublist.append g2 (.refl _))))
   simp at h
  rw[a] at h;dsimp only at h
  split at h
  ·rename_i ae;simp only[Option.some.injEq] at h;subst h5;subst f;have bx:∀c∈x++j,c∈H:=fun c T=>by rw[h4];simp at T ⊢;rcases T with h|h <;> simp[h]
   refine bf s.locs (iY (.out k) s.heap) U ax ae (hr.locs.keep (u.sub (by intro b y;simp[y]))) (g1.keep (u.sub (fun b y=>?_))) ?_ ?_ (by rw[←h,←a3])
   ·have:=g2.mem y
    simp at this ⊢;rcases this with h|h <;> simp[h]
   ·intro c T
    rcases List.mem_append.1 T with h|h
    ·exact ao c h
    exact an c (bx c (g2.mem h))
   refine List.Nodup.sublist ?_ a2;exact List.Sublist.append (.refl _) (List.Sublist.append (.refl _) (List.Sublist.append (.refl _) (List.Sublist.append (.refl _) (List.Sublist.append g2 (.refl _)))))
  simp at h
 | fresh o'=>
  rw[a9] at h ad;obtain⟨al,t,X,hf,ce,bv⟩:=ad;simp only at h
  split at h
  ·rename_i ae;simp only[Option.some.injEq] at h;subst h;have be:aj L S N s.locs U/\aj L S (outs N) s.heap H:=by
    rcases am with⟨_,e⟩|⟨i,b,r,x,j,B,a,h2,f,h4,h5,h6,_,h7⟩|⟨k,b,r,x,j,B,a,h2,f,h4,h5,h6,bs,_,h7⟩
    ·subst e;exact⟨hr.locs.keep (u.sub (by intro b y;simp[y])),hr.heap.keep (u.sub (by intro b y;simp[y]))⟩
    ·rw[al] at f;simp at f
    rw[al] at f;simp at f
   obtain⟨hL,hH⟩:=be;have hN:∀m b,N m=some b->bX N (.out s.next) w.heap.size m=some b:=fun m b hm=>by
    simp only[bX];rw[if_neg]
    ·exact hm
    rintro rfl
    have:=hr.next _ _ hm
    omega
   have b3:ai L S (bX N (.out s.next) w.heap.size) (sI s.next o') v []:=by
    subst bv
    cases o' <;> simp[ai,bX,sI]
   have cb:aI L S (outs (bX N (.out s.next) w.heap.size)) o' w.heap.size t:=(X.ext hN).yi ae (fun _=>rfl);have bm:aj L S (outs (bX N (.out s.next) w.heap.size)) s.heap H:=hH.ext (fun m b hm=>by
    cases m with
    | loc i=>simp[outs] at hm
    | out k=>simp only[outs] at hm ⊢;exact hN _ _ hm)
   have av:(t++(l++(U++(H++z)))).Nodup:=by
    refine fO (w:=w) bo ?_ ⟨hf.1,fun b y=>.inl (hf.2 b y)⟩;intro b y
    rcases List.mem_append.1 y with h|h
    ·exact ag b h
    exact a1 b h
   have bi:w.heap.size∉t++(l++(U++(H++z))):=by
    intro T
    rcases List.mem_append.1 T with h|h
    ·have:=A.lt _ (hf.2 _ h);omega
    rcases List.mem_append.1 h with h|h
    ·have:=ag _ h;omega
    have:=a1 _ h;omega
   have aw:([]++(l++(U++((w.heap.size::(t++H))++z)))).Nodup:=by
    have a:(w.heap.size::(t++(l++(U++(H++z))))).Nodup:=List.nodup_cons.2 ⟨bi,av⟩;have hp:([]++(l++(U++((w.heap.size::(t++H))++z)))).Perm (w.heap.size::(t++(l++(U++(H++z))))):=by rw[List.perm_iff_count];intro q;simp only[List.count_append,List.count_cons,List.count_nil];omega
    exact hp.nodup_iff.2 a
   obtain⟨I,az,a0⟩:=fW o.dst (br.ext hN) b3 aw;have e0:(({s1 with heap:=(.out s1.next,o')::s1.heap,next:=s1.next+1 }:aa).put o.dst (sI s1.next o')).tmps=(s1.put o.dst (sI s.next o')).tmps:=by rw[←Y];cases o.dst <;> rfl
   obtain⟨q1,q2,q3⟩:=dB ({s1 with heap:=(.out s1.next,o')::s1.heap,next:=s1.next+1 }:aa) o.dst (sI s1.next o');refine⟨v,L,a6,⟨S,bX N (.out s.next) w.heap.size,I,U,w.heap.size::(t++H),⟨aJ _,?_,?_,?_,by simpa using a0,?_,ar,ab⟩,bn,fun k b hk=>hN _ _ hk,fun i _=>by simp[bX]⟩,?_⟩
   ·rw[bb,e0];exact az
   ·rw[q1];dsimp only;rw[a3];exact hL.ext hN
   ·rw[q2];dsimp only;rw[bc,Y];exact⟨w.heap.size,t,H,rfl,by simp[outs,bX],cb,bm⟩
   ·rw[q3];dsimp only;rw[Y];intro k b hk;simp only[bX] at hk
    split at hk
    ·rename_i he;simp at he;omega
    have:=hr.next k b hk;omega
   rw[q3];dsimp only;rw[Y];omega
  simp at h
 | row o' sz bl=>
  rw[a9] at h ad;obtain⟨al,t,X,hf,ce,b6,bv,bu,b5,b4⟩:=ad;simp only at h
  split at h
  ·rename_i d D
   split at h
   ·rename_i ba;simp only[Option.some.injEq] at h;subst h
    -- nothing is looked at by such an operation: whichever it was, all stays
    have be:aj L S N s.locs U/\aj L S (outs N) s.heap H:=by
     rcases am with⟨_,e⟩|⟨i,b,r,x,j,B,a,h2,f,h4,h5,h6,_,h7⟩|⟨k,b,r,x,j,B,a,h2,f,h4,h5,h6,bs,_,h7⟩
     ·subst e;exact⟨hr.locs.keep (u.sub (by intro b y;simp[y])),hr.heap.keep (u.sub (by intro b y;simp[y]))⟩
     ·rw[al] at f;simp at f
     rw[al] at f;simp at f
    obtain⟨hL,hH⟩:=be;have hN:∀m,m≠Name.loc d->bX N (.loc d) w.heap.size m=N m:=fun m hm=>by simp[bX,hm]
    obtain⟨a4,t1,t2⟩:=ah.pZ hN br;obtain⟨af,l1,l2⟩:=aj.pZ hN hL;have b2:aI L S (bX N (.loc d) w.heap.size) o' w.heap.size t:=nU X (fun cs b8=>by subst b8;simpa [nu] using ba);have bm:aj L S (outs (bX N (.loc d) w.heap.size)) s.heap H:=hH.tO (fun k=>by simp[bX]);have b3:ai L S (bX N (.loc d) w.heap.size) (.win (.loc d) sz 0 bl) v []:=by
     subst bv;simp only[ai];exact⟨trivial,w.heap.size,b6,by simp[bX],rfl,bu,b5,ce,by rw[Nat.zero_add];exact b4⟩
    have av:(t++(l++(U++(H++z)))).Nodup:=by
     refine fO (w:=w) bo ?_ ⟨hf.1,fun b y=>.inl (hf.2 b y)⟩;intro b y
     rcases List.mem_append.1 y with h|h
     ·exact ag b h
     exact a1 b h
    have bi:w.heap.size∉t++(l++(U++(H++z))):=by
     intro T
     rcases List.mem_append.1 T with h|h
     ·have:=A.lt _ (hf.2 _ h);omega
     rcases List.mem_append.1 h with h|h
     ·have:=ag _ h;omega
     have:=a1 _ h;omega
    have aw:([]++(a4++((w.heap.size::(t++af))++(H++z)))).Nodup:=by
     have a:(w.heap.size::(t++(l++(U++(H++z))))).Nodup:=List.nodup_cons.2 ⟨bi,av⟩;have hp:([]++(a4++((w.heap.size::(t++af))++(H++z)))).Perm (w.heap.size::(t++(a4++(af++(H++z))))):=by rw[List.perm_iff_count];intro q;simp only[List.count_append,List.count_cons,List.count_nil];omega
     refine hp.nodup_iff.2 (List.Nodup.sublist ?_ a);exact (List.Sublist.append (.refl _) (List.Sublist.append t2 (List.Sublist.append l2 (.refl _)))).cons_cons _
    obtain⟨I,az,a0⟩:=ng d t1 b3 aw;rw[D] at bb;refine⟨v,L,a6,⟨S,bX N (.loc d) w.heap.size,I,w.heap.size::(t++af),H,⟨aJ _,?_,?_,?_,by simpa using a0,?_,ar,ab⟩,bn,fun k b hk=>by simpa [bX] using hk,fun i hi=>by
     have:Name.loc i≠Name.loc d:=fun e=>hi (by rw[D];simp at e;rw[e])
     simp[bX,this]⟩,?_⟩
    ·rw[D,bb];exact az
    ·simp only[om];rw[a3];exact⟨w.heap.size,t,af,rfl,by simp[bX],b2,l1⟩
    ·simp only[om];rw[bc];exact bm
    ·intro k b hk;simp[bX] at hk;simp only[om];rw[Y];exact hr.next k b hk
    ·simp only[om];exact Nat.le_of_eq Y.symm
   simp at h
  simp at h
 | new o'=>
  rw[a9] at h ad;obtain⟨al,t,X,hf,ce,bv⟩:=ad;simp only at h
  split at h
  ·rename_i d D
   split at h
   ·rename_i ba;simp only[Option.some.injEq] at h;subst h
    -- nothing is looked at by such an operation: whichever it was, all stays
    have be:aj L S N s.locs U/\aj L S (outs N) s.heap H:=by
     rcases am with⟨_,e⟩|⟨i,b,r,x,j,B,a,h2,f,h4,h5,h6,_,h7⟩|⟨k,b,r,x,j,B,a,h2,f,h4,h5,h6,bs,_,h7⟩
     ·subst e;exact⟨hr.locs.keep (u.sub (by intro b y;simp[y])),hr.heap.keep (u.sub (by intro b y;simp[y]))⟩
     ·rw[al] at f;simp at f
     rw[al] at f;simp at f
    obtain⟨hL,hH⟩:=be;have hN:∀m,m≠Name.loc d->bX N (.loc d) w.heap.size m=N m:=fun m hm=>by simp[bX,hm]
    obtain⟨a4,t1,t2⟩:=ah.pZ hN br;obtain⟨af,l1,l2⟩:=aj.pZ hN hL;have b2:aI L S (bX N (.loc d) w.heap.size) o' w.heap.size t:=nU X (fun cs b8=>by subst b8;simpa [nu] using ba);have bm:aj L S (outs (bX N (.loc d) w.heap.size)) s.heap H:=hH.tO (fun k=>by simp[bX]);have b3:ai L S (bX N (.loc d) w.heap.size) (As d o') v []:=by
     subst bv
     cases o' <;> simp[ai,bX,As]
    have av:(t++(l++(U++(H++z)))).Nodup:=by
     refine fO (w:=w) bo ?_ ⟨hf.1,fun b y=>.inl (hf.2 b y)⟩;intro b y
     rcases List.mem_append.1 y with h|h
     ·exact ag b h
     exact a1 b h
    have bi:w.heap.size∉t++(l++(U++(H++z))):=by
     intro T
     rcases List.mem_append.1 T with h|h
     ·have:=A.lt _ (hf.2 _ h);omega
     rcases List.mem_append.1 h with h|h
     ·have:=ag _ h;omega
     have:=a1 _ h;omega
    have aw:([]++(a4++((w.heap.size::(t++af))++(H++z)))).Nodup:=by
     have a:(w.heap.size::(t++(l++(U++(H++z))))).Nodup:=List.nodup_cons.2 ⟨bi,av⟩;have hp:([]++(a4++((w.heap.size::(t++af))++(H++z)))).Perm (w.heap.size::(t++(a4++(af++(H++z))))):=by rw[List.perm_iff_count];intro q;simp only[List.count_append,List.count_cons,List.count_nil];omega
     refine hp.nodup_iff.2 (List.Nodup.sublist ?_ a);exact (List.Sublist.append (.refl _) (List.Sublist.append t2 (List.Sublist.append l2 (.refl _)))).cons_cons _
    obtain⟨I,az,a0⟩:=ng d t1 b3 aw;rw[D] at bb;refine⟨v,L,a6,⟨S,bX N (.loc d) w.heap.size,I,w.heap.size::(t++af),H,⟨aJ _,?_,?_,?_,by simpa using a0,?_,ar,ab⟩,bn,fun k b hk=>by simpa [bX] using hk,fun i hi=>by
     have:Name.loc i≠Name.loc d:=fun e=>hi (by rw[D];simp at e;rw[e])
     simp[bX,this]⟩,?_⟩
    ·rw[D,bb];exact az
    ·simp only[newObj];rw[a3];exact⟨w.heap.size,t,af,rfl,by simp[bX],b2,l1⟩
    ·simp only[newObj];rw[bc];exact bm
    ·intro k b hk;simp[bX] at hk;simp only[newObj];rw[Y];exact hr.next k b hk
    ·simp only[newObj];exact Nat.le_of_eq Y.symm
   simp at h
  simp at h
end
end Go.Tp
namespace Go.Tp
def ay (P:Program) (G:bA) (f:FuncId) (j:List ac) (m:List (Name×aL)) (n:Nat) (Q:ac->List (Name×aL)->Nat->Prop):Prop:=
 ∀(w:World) (R:Own) (N:Name->Option Nat) (a:List Value) (k H z:List Nat),
  ah w R (outs N) j a k->aj w R (outs N) m H->(k++(H++z)).Nodup->(∀o b,N (.out o)=some b->o < n)->
  (∀g c,G g=some c->aed w R g c)->(∀b∈z,b < w.heap.size)->
  Calls P f a.toArray w fun e r=>∃v s d h q p l i,e=.returned s/\Q v d h/\ai r q (outs p) v s l/\aj r q (outs p) d i ∧
   (l++(i++z)).Nodup/\(∀o b,p (.out o)=some b->o < h)/\bp w R r q z/\(∀o b,N (.out o)=some b->p (.out o)=some b)
theorem ay.mono {P:Program} {G:bA} {f:FuncId} {c:List ac} {d:List (Name×aL)} {e:Nat} {Q Q':ac->List (Name×aL)->Nat->Prop} (h:ay P G f c d e Q)
  (o:∀v h n,Q v h n->Q' v h n):ay P G f c d e Q':=by
 intro w R N i j H z a b k g l m;refine (h w R N i j H z a b k g l m).mono ?_;grind
def cR (G:bA):aa->List Operand->List ac×aa
 | s,[]=>([],s)
 | s,x::r=>
  match cR G (bF s (some 0) [x]) r with
  |(b,a)=>(fm G s x::b,a)
mutual
def yb (n:Name) (S:List ak):ac->ac
 | .ptr m d=>if m=n then .ref (S.drop d) else .ptr m d
 | .win m s d g=>if m=n then .undef else .win m s d g
 | .fn f e b=>.fn f (aiZ n S e) (aiZ n S b)
 | .agg c=>.agg (aiZ n S c)
 | .tup c=>.tup (aiZ n S c)
 | a=>a
def aiZ (n:Name) (S:List ak):List ac->List ac
 | []=>[]
 | a::r=>yb n S a::aiZ n S r
end
def sM (f:List ac->List ac):List (Name×aL)->List (Name×aL)
 | []=>[]
 |(m,.cells c)::r=>(m,.cells (f c))::sM f r
 |(m,.map a)::r=>(m,.map a)::sM f r
mutual
def tH (n m:Name):ac->ac
 | .ptr k d=>if k=n then .ptr m d else .ptr k d
 | .map k=>if k=n then .map m else .map k
 | .win k s d g=>if k=n then .win m s d g else .win k s d g
 | .fn f e b=>.fn f (ff n m e) (ff n m b)
 | .agg c=>.agg (ff n m c)
 | .tup c=>.tup (ff n m c)
 | a=>a
def ff (n m:Name):List ac->List ac
 | []=>[]
 | a::r=>tH n m a::ff n m r
end
def NH (n:Name):List ac->Bool
 | []=>false
 | .fn _ b a::r=>aU n b||aU n a||NH n r
 | _::r=>NH n r
def uF (b:Bool) (n:Name) (a c:List ac):Option (List ak):=if (b&&NH n a)=true then gB (bj c) else none
def tN (d:Bool) (n:Name) (s:aa) (a:List ac):Option (aa×List ac):=
 match n,eA n s.locs with
 | .loc _,some (.cells c)=>
  match uF d n a c with
  | some S=>some ({s with tmps:=aiZ n S s.tmps,locs:=sM (aiZ n S) (iY n s.locs)},aiZ n S a)
  | none=>if aW (ff n (.out s.next) c)=true then
   some ({tmps:=ff n (.out s.next) s.tmps,locs:=sM (ff n (.out s.next)) (iY n s.locs),heap:=(.out s.next,.cells (ff n (.out s.next) c))::s.heap,next:=s.next+1 },ff n (.out s.next) a)
  else none
 | .loc _,some (.map b)=>
  some ({tmps:=ff n (.out s.next) s.tmps,locs:=sM (ff n (.out s.next)) (iY n s.locs),heap:=(.out s.next,.map b)::s.heap,next:=s.next+1 },ff n (.out s.next) a)
 | _,_=>none
def vI (c:Bool):List Name->aa->List ac->aa×List ac
 | [],s,a=>(s,a)
 | n::d,s,a=>
  match tN c n s a with
  | some (e,b)=>vI c d e b
  | none=>vI c d s a
mutual
def Qj:ac->List Name
 | .ptr (.loc i) _=>[.loc i]
 | .map (.loc i)=>[.loc i]
 | .win (.loc i) _ _ _=>[.loc i]
 | .fn _ d b=>qi d++qi b
 | .agg c=>qi c
 | .tup c=>qi c
 | _=>[]
def qi:List ac->List Name
 | []=>[]
 | a::r=>Qj a++qi r
end
def tb:List Name->List Name->List Name
 | [],l=>l
 | n::a,l=>if l.contains n then tb a l else tb a (n::l)
def Qe (a:List (Name×aL)) (n:Name):List Name:=
 match eA n a with
 | some (.cells c)=>qi c
 | _=>[]
def Bf (b:List (Name×aL)):Nat->List Name->List Name
 | 0,l=>l
 | k+1,l=>Bf b k (l.foldl (fun a n=>tb (Qe b n) a) l)
def Vh (l:List Name):List Name:=l++l
def Jf (s:aa) (a:List ac):List Name:=
 match tb (qi a) [] with
 | []=>[]
 | l=>Vh (Bf s.locs s.locs.length l)
def nq:List (Name×aL)->List Name
 | []=>[]
 |(n,_)::r=>n::nq r
structure aw where
 pre:List (Nat×Bool)
 nw:Option Nat
 tk:List Nat
 tail:List Nat
 deriving Inhabited
structure Hints where
 moves:FuncId->Bool
 ord:Nat->aw
 caps:FuncId->Bool
 rows:Bool
def Hints.at (H:Hints) (id:Nat):Hints:=⟨H.moves,H.ord,H.caps,match (H.ord id).nw with|none=>H.rows|some _=>false⟩
def rowsOf (a:FuncId->Bool) (f:FuncId):Bool:=a (1000000+f)
def GF:Op->Bool
 | .call {callee:=.builtin .append,.. }=>true
 | _=>false
def mw (E:bz) (G:bA) (H:Hints) (c:Call) (s:aa):Option (FuncId×List ac×aa):=
 match c.callee with
 | .value f=>(match fm G s f with
  | .fn (.func g) b a=>
   if E.fn g=true then
    match (if H.moves g=true then cR G s c.args.toList else (aE G s none 0 c.args.toList,s)) with
    |(h,e)=>(match vI (!H.caps g) (Jf e (b++h++a)) e (b++h++a) with
     |(i,d)=>if aW d=true then some (g,d,i) else none)
   else none
  | _=>none)
 | _=>none
def lK:Op->Option Call
 | .call c=>(match c.callee with|.builtin _=>none|_=>some c)
 | _=>none
def dI (t:Tmp):Operand->Bool
 | .tmp u=>Nat.beq u t
 | _=>false
def SS (a:FuncId->Bool) (b:List Oper) (d:Option Tmp):Bool:=
 match d with
 | none=>false
 | some t=>b.any fun o=>match o.op with
  | .call c=>(match c.callee with
   | .builtin .append=>(match c.args.toList with|.tmp u::_=>Nat.beq u t|_=>false)
   | .value (.func g)=>a g&&c.args.toList.any (dI t)
   | _=>false)
  | _=>false
def SD (a:FuncId->Bool) (b:List Oper) (d:Option Tmp):Bool:=
 match d with
 | none=>false
 | some t=>b.any fun o=>match o.op with
  | .call c=>(match c.callee with
   | .builtin .append=>(match c.args.toList with|.tmp u::_=>Nat.beq u t|_=>false)
   | .value (.func g)=>a g&&c.args.toList.any (dI t)
   | _=>false)
  | .move x=>dI t x
  | .assign x=>dI t x
  | .box _ x=>dI t x
  | .extract x _=>dI t x
  | .store _ _ x=>dI t x
  | _=>false
def SU (a:FuncId->Bool) (b:List Oper) (o:Oper):Bool:=
 match o.op with
 | .load _ _=>SS a b o.dst
 | _=>false
def appended (a:List Oper) (d:Option Tmp):Bool:=
 match d with
 | none=>false
 | some d=>a.any fun o=>match o.op with
  | .call c=>GF o.op&&(match c.args.toList with|[_,.tmp u]=>Nat.beq u d|_=>false)
  | _=>false
def lQ (H:Hints) (a:List Oper) (o:Oper):Bool:=match o.op with
 | .buildSlice _ _ _=>H.rows&&!appended a o.dst
 | .makeMap _ _=>H.rows
 | _=>(match GF o.op with|true=>H.rows|false=>SU H.moves a o)
def readOnly (a:FuncId->Bool) (b:List Oper) (o:Oper):Bool:=
 match o.op with
 | .move _=>!SD a b o.dst
 | _=>false
def dC (c:List Oper) (s:aa) (g:Option (Nat×Bool)):Option Bool:=
 match g with
 | none=>some true
 | some (j,a)=>(match c[j]? with
  | some o=>(match o.dst with
   | some t=>(match bq s.tmps t with
    | .dat (.flat (.bool b))=>some (b==a)
    | .tup []=>some false
    | _=>none)
   | none=>none)
  | none=>none)
mutual
def yd:ak->Prop
 | .flat v=>bJ v=true
 | .slice a=>a.length<=lim/\si a
 | .agg c=>si c
def si:List ak->Prop
 | []=>True
 | d::r=>yd d/\si r
end
mutual
def nH:ac->Prop
 | .dat d=>yd d
 | .own e=>e.length<=lim/\si e
 | .ref c=>si c
 | .fn _ a b=>rN a/\rN b
 | .agg c=>rN c
 | .tup c=>rN c
 | .ptr _ _=>True
 | .map _=>True
 | .win _ _ _ _=>True
 | .undef=>True
def rN:List ac->Prop
 | []=>True
 | a::r=>nH a/\rN r
end
def ZX:List (Value×ak)->Prop
 | []=>True
 |(_,d)::r=>yd d/\ZX r
def yc:List (Name×aL)->Prop
 | []=>True
 |(_,.cells c)::r=>rN c/\yc r
 |(_,.map a)::r=>ZX a/\yc r
abbrev E0:=FuncId->List ac->List (Name×aL)->Nat->(ac->List (Name×aL)->Nat->Prop)->Prop
abbrev Wa:=Code->(Exit->aa->Prop)->aa->Prop
section
variable (A:E0) (E:bz) (G:bA) (H:Hints)
def mT (a:List Oper) (o:Oper) (K:aa->Prop) (s:aa):Prop:=
 match dC a s o.guard with
 | none=>False
 | some b=>
  if b=true then
   (match lK o.op with
    | some c=>(match mw E G H c s with
     | some (f,d,e)=>A f d e.heap e.next (fun v heap n=>nH v->yc heap->K (({e with heap:=heap,next:=n }:aa).put o.dst v))
     | none=>False)
    | none=>(match aa4 E G (readOnly H.moves a o) (lQ H a o) o s with
     | some g=>K g
     | none=>False))
  else K (s.put o.dst (.tup []))
def Sa (d:Option Tmp) (K:aa->Prop) (s:aa):Prop:=
 match d with
 | none=>K s
 | some t=>(match s.tmps[t]? with
  | some (.dat (.flat (.bool b)))=>(match b with
   | true=>K {s with tmps:=s.tmps.set t (.dat (.flat (.bool true)))}
   | false=>K {s with tmps:=s.tmps.set t (.dat (.flat (.bool false)))})
  | _=>K s)
theorem zx {α:Type}:∀{l:List α} {t:Nat} {v:α},l[t]?=some v->l.set t v=l
 | [],_,_,h=>by grind
 | _::_,0,_,h=>by grind
 | _::l,t+1,v,h=>by simp at h;simp[zx h]
theorem iT (d:Option Tmp) (K:aa->Prop):Sa d K=K:=by
 funext s
 unfold Sa
 cases d with
 | none=>rfl
 | some t=>
  dsimp only
  split
  ·rename_i b h
   have:=zx h
   cases b <;> simp only[this]
  rfl
def mS (a:List Oper) (Q:aa->Prop):List Oper->aa->Prop
 | [],s=>Q s
 | o::b,s=>mT A E G H a o (Sa o.dst (mS a Q b)) s
def qk (a:Bool):Option Name->Bool
 | some (.out _)=>a
 | _=>true
def jf:Op->Bool
 |.move _|.assign _|.pick _ _ _|.binOp _ _ _ _ _|.unOp _ _ _|.convert _ _ _|.nilCheck _|.fieldAddr _ _ _|.field _ _ _|.indexAddr _ _ _|.index _ _ _|.slice _ _ _ _ _|.build _ _
 | .buildSlice _ _ _|.makeFunc _ _ _|.extract _ _|.load _ _|.lookup _ _ _ _=>true
 | .call c=>(match c.callee with|.builtin .len=>true|.builtin .max=>true|_=>false)
 | _=>false
def oE:Op->Bool
 | .alloc _=>true
 | _=>false
def eK (d:Bool) (c:List Oper) (o:Oper) (s:aa):Option ac:=
 match dC c s o.guard with
 | none=>none
 | some b=>
  if b=true then
   if oE o.op=true then (match jE E false o.op [] none with|some _=>some .undef|none=>none)
   else (match lK o.op with
    | some _=>none
    | none=>
     if (jf o.op&&qk d (looks o.op (aE G s none 0 (opsL o.op))))=true then
      (match jE E false o.op (aE G s none 0 (opsL o.op)) (aX s o.op (aE G s none 0 (opsL o.op))) with
       | some a=>(match a.eff with|.keep=>some a.val|_=>none)
       | none=>none)
     else none)
  else some (.tup [])
def dX (c:Call) (s:aa):Option (FuncId×List ac×aa):=
 match c.callee with
 | .value f=>(match fm G s f with
  | .fn (.func g) b a=>
   if E.fn g=true then
    match (if H.moves g=true then cR G s c.args.toList else (aE G s none 0 c.args.toList,s)) with
    |(d,e)=>if aW (b++d++a)=true then some (g,b++d++a,e) else none
   else none
  | _=>none)
 | _=>none
def Eh (a:Bool):Name->Bool
 | .loc _=>true
 | .out _=>a
def aa.kn (s:aa) (n:Name) (o:aL):aa:=
 match n with
 | .loc i=>{s with locs:=iX (.loc i) o s.locs }
 | .out k=>{s with heap:=iX (.out k) o s.heap }
def dM (e:Bool) (a:List Oper):List Nat->aa->Option aa
 | [],s=>some s
 | i::r,s=>
  match a[i]? with
  | some o=>(match o.op,o.dst,o.guard with
   | .load _ (.tmp u),some t,none=>(match bq s.tmps u with
    | .ptr n b=>if Eh e n=true then (match s.obj n with
     | some (.cells c)=>(match c[b]? with
      | some (.own d)=>(match bq s.tmps t with
       | .dat (.slice _)=>dM e a r (({s with tmps:=s.tmps.set t (.own d)}:aa).kn n (.cells (bI b [.dat (.slice d)] c)))
       | _=>none)
      | _=>none)
     | _=>none) else none
    | _=>none)
   | _,_,_=>none)
  | none=>none
def fk:Op->Option Tmp
 | .call c=>(match c.callee with
  | .builtin .append=>(match c.args.toList with|.tmp t::_=>some t|_=>none)
  | _=>none)
 | _=>none
def gk (a:List Oper) (t:Tmp):List Nat->List Nat
 | []=>[]
 | i::r=>match a[i]? with
  | some o=>if o.dst=some t then i::gk a t r else gk a t r
  | none=>gk a t r
def ae5 (a:List Nat) (t:Tmp) (s:aa):List Nat:=if Jw (bq s.tmps t)=true then [] else a
theorem mZ {a:List Oper} {t:Tmp} {b:List Nat} {s:aa} {k:Nat} (h:k∈gk a t (ae5 b t s)):k∈gk a t b:=by
 grind[ae5,gk]
def hO (o:Oper):Bool:=
 match o.op with
 | .call c=>(match c.callee with|.value (.func g)=>H.caps (2000000+g)|_=>false)
 | _=>false
def mK (o:Oper):Bool:=
 match o.op with
 | .call c=>(match c.callee with|.value (.func g)=>H.caps (3000000+g)|_=>false)
 | _=>false
def Sk (h b:List (Name×aL)):Prop:=∀n a,eA n h=some a->eA n b=some a
def uw (o:Oper):Bool:=
 match o.op,o.dst with
 | .move (.tmp _),some _=>true
 | _,_=>false
def iI:Op->Bool
 | .store _ _ _=>true
 | .move (.tmp _)=>true
 | .build _ _=>true
 | .buildSlice _ _ _=>true
 | _=>false
def KV (i:Bool) (k:List Nat) (d:List Oper) (o:Oper) (K:aa->Prop) (s:aa):Prop:=
 match dC d s o.guard with
 | none=>False
 | some b=>
  if b=true then
   (match lK o.op with
    | some c=>(match dX E G H c s with
     | some (f,e,g)=>(match hO H o with
      | true=>A f e [] g.next (fun v heap n=>nH v->yc heap->heap=[]/\K (({g with next:=n }:aa).put o.dst v))
      | false=>A f e g.heap g.next (fun v heap n=>nH v->yc heap->(mK H o=true->Sk g.heap heap)/\K (({g with heap:=heap,next:=n }:aa).put o.dst v)))
     | none=>False)
    | none=>(match fk o.op with
     | some t=>(match dM i d (gk d t (ae5 k t s)) s with
      | some j=>(match aa4 E G false false o j with
       | some h=>K h
       | none=>False)
      | none=>False)
     | none=>(match iI o.op with
      | true=>(match aa4 E G (readOnly H.moves d o) (lQ H d o) o s with
       | some h=>K h
       | none=>False)
      | false=>(match eK E G i d o s with
       | some a=>K (s.put o.dst a)
       | none=>False))))
  else K (s.put o.dst (.tup []))
def aK (a:List Oper):List (Nat×Bool)->Bool
 | []=>true
 |(i,l)::r=>(!l||(match a[i]? with|some o=>(lK o.op).isNone||hO H o|none=>true))&&aK a r
def reach (a:List Oper):Nat->Nat->Nat->Bool
 | 0,_,_=>false
 | f+1,i,j=>match a[i]? with
  | some o=>o.after.toList.any fun e=>Region.binds .any e&&(Nat.beq e.on j||reach a f e.on j)
  | none=>false
def quietAt (a:List Oper) (b:List (Nat×Bool)) (i:Nat):Bool:=
 b.all fun p=>!p.2||(match a[p.1]? with|some o=>(lK o.op).isNone||hO H o||mK H o|none=>true)||reach a 6 i p.1||reach a 6 p.1 i
def mu (e:List Nat) (c:Bool) (d:Nat->Bool) (b:List Oper) (T:aa->Prop):List (Nat×Bool)->aa->Prop
 | [],s=>T s
 |(i,lone)::r,s=>
  match b[i]? with
  | none=>False
  | some o=>
   if lone=true then KV A E G H c e b o (Sa o.dst (mu e c d b T r)) s
   else (match eK E G (c||d i) b o s with
    | some a=>Sa o.dst (mu e c d b T r) (s.put o.dst a)
    | none=>False)
def iA (a:List Oper) (c:Option Nat) (s:aa):Option aa:=
 match c with
 | none=>some s
 | some i=>(match a[i]? with
  | some o=>(match o.op,o.dst,o.guard with
   | .alloc t,some d,none=>(match E.ty t with
    | some b=>if dU (aY (bE b.zero))=true/\aU (.loc d) (aY (bE b.zero))=false/\d < s.tmps.length/\aU (.loc d) s.tmps=false then some (newObj s d (.cells (aY (bE b.zero)))) else none
    | none=>none)
   | _,_,_=>none)
  | none=>none)
def dZ (a:List Oper):List Nat->List Oper
 | []=>[]
 | i::r=>match a[i]? with|some o=>o::dZ a r|none=>dZ a r
def bK (l:Array Bool) (i:Nat):Array Bool:=l.setIfInBounds i true
def Vd (k:Nat) (g s:aa):Prop:=
 ∀(w:World) (R:Own) (N:Name->Option Nat) (a:List Value) (Z U H z:List Nat),dw G w R N a s undef .undef [] Z U H z->
  ∃f e d c,dw G w R f a g undef .undef [] e d c z/\∀o b,o < k->N (.out o)=some b->f (.out o)=some b
def afz (b:List Oper) (Q:aa->Prop):Nat->Array Bool->aa->Prop
 | 0,a,s=>Region.ready .any b.toArray a=[]/\Q s
 | m+1,a,s=>(Region.ready .any b.toArray a=[]/\Q s) ∨
  (Region.ready .any b.toArray a≠[]/\∀i∈Region.ready .any b.toArray a,∃o,b[i]?=some o/\mT A E G H b o (afz b Q m (bK a i)) s)
def gz (h:aw):Bool:=match h.tail with|[k]=>Nat.beq k 1000000|_=>false
def eR:List (Nat×Bool)->Array Bool->Array Bool
 | [],l=>l
 |(i,_)::r,l=>eR r (bK l i)
def lA:List (Nat×Bool)->List (Nat×Bool)
 |(i,false)::r=>(i,false)::lA r
 | _=>[]
def gP (h:aw):Bool:=match h.tail with|k::_=>Nat.beq k 2000000|[]=>false
def aar (h:aw):aw:=⟨h.pre,h.nw,h.tk,h.tail.drop 1⟩
def wI (h:aw) (b:List Oper) (p:Array Bool) (K:aa->Prop):Nat->Array Bool->aa->Prop
 | 0,a,s=>a=p/\K s
 | m+1,a,s=>a≠p/\Region.ready .any b.toArray a≠[] ∧
  ∀i∈Region.ready .any b.toArray a,(i,true)∈h.pre/\∃o,b[i]?=some o/\KV A E G H (aK H b h.pre) h.tk b o (wI h b p K m (bK a i)) s
def By (a:List Oper) (h:aw) (Q:aa->Prop) (s:aa):Prop:=
 mu A E G H h.tk (aK H a h.pre) (quietAt H a h.pre) a
  (wI A E G H h a (eR h.pre (Array.replicate a.length false)) (fun b=>match iA E a h.nw b with
   | some c=>mS A E G H a Q (dZ a h.tail) c
   | none=>False) (h.pre.length - (lA h.pre).length) (eR (lA h.pre) (Array.replicate a.length false))) (lA h.pre) s
def Bz (a:List Oper) (h:aw) (Q:aa->Prop) (s:aa):Prop:=
 if gz h=true then afz A E G H a (fun c=>∃b,Q b/\Vd G s.next b c) a.length (Array.replicate a.length false) s else
 if gP h=true then By A E G H a (aar h) Q s else
 mu A E G H h.tk (aK H a h.pre) (quietAt H a h.pre) a (fun d=>match iA E a h.nw d with
  | some e=>mS A E G H a Q (dZ a h.tail) e
  | none=>False) h.pre s
def oU (a:Array Oper):List (Nat×Bool)->Array Bool->Bool
 | [],_=>true
 |(i,lone)::r,l=>(if lone=true then Region.ready .any a l==[i] else (Region.ready .any a l).contains i&&Region.free .any a l i)&&oU a r (bK l i)
def waited (a:Array Oper) (p:Array Bool) (i:Nat):Bool:=
 (List.range a.size).any fun d=>d != i&&p.getD d false&&(match a[d]? with|some o=>o.after.any (fun e=>Region.binds .any e&&e.on==i)|none=>false)
def isApp:Op->Bool
 | .call {callee:=.builtin .append,.. }=>true
 | _=>false
def ju (o p:Oper):Bool:=
 o.guard.isNone&&p.guard.isNone&&(p.dst.isNone||isApp p.op)&&(lK p.op).isNone&&(match o.op,o.dst with
  | .extract (.tmp x) _,some d=>!(opsL p.op).any (dI x)&&!(opsL p.op).any (dI d)&&p.dst != some x&&p.dst != some d
  | .move (.tmp x),some d=>!(opsL p.op).any (dI x)&&!(opsL p.op).any (dI d)&&p.dst != some x&&p.dst != some d
  | _,_=>false)
def Bs (o p:Oper):Bool:=
 o.guard.isNone&&p.guard.isNone&&(p.dst.isNone||isApp p.op)&&(lK p.op).isNone&&(match o.op,o.dst with
  | .load _ (.global _),some d=>!(opsL p.op).any (dI d)&&p.dst != some d
  | _,_=>false)
def Vy (a:Array Oper) (i j:Nat) (l:Array Bool):Bool:=
 (Region.ready .any a l==[i,j]||Region.ready .any a l==[j,i])&&Region.ready .any a (bK l i)==[j]&&Region.ready .any a (bK l j)==[i] &&
 (match a[i]?,a[j]? with|some o,some p=>ju o p|_,_=>false)
def iR (a:Array Oper):List Nat->Array Bool->Bool
 | [],l=>Region.ready .any a l==[]
 | [i],l=>Region.ready .any a l==[i]&&Region.ready .any a (bK l i)==[]
 | i::j::r,l=>(Region.ready .any a l==[i]&&iR a (j::r) (bK l i))||(Vy a i j l&&iR a r (bK (bK l i) j))
def qf (a:Array Oper) (b:Option Nat):Option Tmp:=match b with|some k=>(match a[k]? with|some q=>q.dst|none=>none)|none=>none
def oB (a:Array Oper) (h:aw) (p:Array Bool) (i:Nat):Bool:=
 match h.tail with
 | []=>false
 | j::r=>(Region.ready .any a (p.setIfInBounds i false)==[i,j]||Region.ready .any a (p.setIfInBounds i false)==[j,i])&&Region.ready .any a (bK (p.setIfInBounds i false) j)==[i] &&
  Region.ready .any a p==[j]&&iR a r (bK p j)&&h.pre.all (fun x=>x.1==i||(waited a (p.setIfInBounds i false) x.1||!(Region.ready .any a ((p.setIfInBounds i false).setIfInBounds x.1 false)).contains j)) &&
  !(h.nw.toList.contains i)&&!(h.tk.contains i) &&
  (match a[i]?,a[j]? with
   | some o,some q=>ju o q&&(opsL o.op).all (fun x=>!(o.dst.any fun d=>dI d x)&&!((qf a h.nw).any fun d=>dI d x))&&qf a h.nw != o.dst
   | _,_=>false)
def kE (a:Array Oper) (h:aw) (p:Array Bool):List (Nat×Bool)->Bool
 | []=>true
 |(i,lone)::r=>(lone||(waited a p i||Region.ready .any a (p.setIfInBounds i false)==[i])||oB a h p i)&&kE a h p r
def ew (a:Array Oper) (h:aw):Bool:=
 (h.nw.toList++h.tk).all fun i=>h.pre.contains (i,false)&&(match a[i]? with
  | some o=>(match o.op with|.load _ (.tmp u)=>o.dst != some u|_=>true)&&h.pre.all fun p=>p.1==i||(match a[p.1]? with
   | some q=>(match o.dst with|some d=>q.dst != some d&&(p.2||!(q.looksAt a).contains d)|none=>false)&&(match o.op with|.load _ (.tmp u)=>q.dst != some u||o.after.any (fun e=>Region.binds .any e&&e.on==p.1)|_=>true)
   | none=>false)
  | none=>false)
def oV (a:Array Oper) (h:aw):Bool:=
 h.pre.all fun p=>match a[p.1]? with
  | some o=>(match fk o.op with
   | some t=>(gk a.toList t h.tk).all fun i=>o.after.any fun e=>Region.binds .any e&&e.on==i
   | none=>true)
  | none=>true
def gJ (a:Array Oper) (h:aw):Bool:=
 h.pre.all fun p=>!p.2||(match a[p.1]? with
  | some o=>!iI o.op||(h.nw.isNone&&h.tk.isEmpty&&o.guard.isNone&&h.pre.all fun q=>q.2||(match a[q.1]? with
   | some b=>uw o||(ju b o||Bs b o)||reach a.toList 12 q.1 p.1||reach a.toList 12 p.1 q.1
   | none=>true))
  | none=>true)
def Je (a:Array Oper) (h:aw):Bool:=h.pre.isEmpty&&(match h.nw with|some k=>(a[k]?).isNone|none=>false)
def RN (a:Array Oper) (h:aw):Bool:=
 oU a (lA h.pre) (Array.replicate a.size false)&&kE a h (eR h.pre (Array.replicate a.size false)) h.pre &&
 iR a h.tail (eR h.pre (Array.replicate a.size false))&&ew a h&&oV a h&&gJ a h&&decide (h.pre.length+h.tail.length<=a.size)&&h.pre.all (fun x=>decide (x.1 < a.size))
def ZI (a:Array Oper) (h:aw):Bool:=
 Region.noSelect a&&oU a h.pre (Array.replicate a.size false)&&kE a h (eR h.pre (Array.replicate a.size false)) h.pre &&
 iR a h.tail (eR h.pre (Array.replicate a.size false))&&ew a h&&oV a h&&gJ a h&&decide (h.pre.length+h.tail.length<=a.size)
end
abbrev rdF (a:Option Nat):Fence:={Fence.wide with round:=a }
end Go.Tp
namespace Go
def Code.wpR (P:Program) (c:Code) (Q:Exit->Act->World->Prop) (a:Act) (w:World):Prop:=∀b,c.wpIn (Tp.rdF b) 1 P Q a w
end Go
namespace Go.Tp
def aqo:Op->Bool
 | .defer _=>true
 | _=>false
section
variable {P:Program} {Q:Exit->Act->World->Prop} {a:Act} {w:World}
variable {c:Code}
theorem apK (h:c.wpR P Q a w):c.wp P Q a w:=wpIn_wide.1 (h none)
theorem lp {b:Exit->Act->World->Prop} (h:c.wpR P Q a w) (d:∀e a w,Q e a w->b e a w):c.wpR P b a w:=fun f=>wpIn_mono (h f) d
theorem amX (h:Q .normal a w):Code.skip.wpR P Q a w:=fun _=>wpIn_skip h
theorem aq0 {l:Nat} (h:Q .normal a w):(Code.label l).wpR P Q a w:=fun _=>wpIn_label h
theorem aon {id:Nat} (h:Q (.exit id) a w):(Code.exit id).wpR P Q a w:=fun _=>wpIn_exit h
theorem aqk (h:Q .ret a w):Code.ret.wpR P Q a w:=fun _=>wpIn_ret h
theorem aqj {x y:Code} (h:x.wpR P (Exit.then (y.wpR P Q) Q) a w):(Code.seq x y).wpR P Q a w:=fun c=>
 wpIn_seq (wpIn_mono (h c) (fun e a w b=>by cases e <;> first|exact b c|exact b))
theorem aoo {c:Operand} {x y:Code} {t:Bool} (b:a.eval c=.bool t) (h:(if t then x else y).wpR P Q a w):(Code.cond c x y).wpR P Q a w:=fun d=>wpIn_cond b (h d)
theorem amW {id:Nat} (h:c.wpR P (Exit.inBlock id Q) a w):(Code.block id c).wpR P Q a w:=fun b=>wpIn_block (h b)
theorem auk {b:Option Nat} {n:Nat} {f:FuncId} {a:Array Value} {R:Ending->World->Prop} (h:Calls P f a w R):CallsIn (rdF b) n P f a w R:=callsIn_wide (n:=n).2 h
theorem auF {e:Option Nat} {n:Nat} {b:String} {a:Array Value} {R:Value->World->Prop} (h:Rows P b a w R):RowsIn (rdF e) n P b a w R:=fun c d _=>
 let ⟨v,f,r,s⟩:=h c d;⟨v,f,r,stepsIn_wide.2 s⟩
theorem aql {o:Oper} {K:Act->World->Prop} (D:aqo o.op=false) (b:Option Nat) (h:o.wp P a w K Q):o.wpIn (rdF b) 1 P a w K Q:=by
 refine⟨fun _ _=>trivial,?_⟩;have c:o.semAt b a.eval=execOp a.eval o:=by
  unfold Oper.semAt
  grind[aqo]
 rw[c];unfold Oper.wp at h;generalize (execOp a.eval o).run P w=r at h ⊢
 cases r with
 | ok x d=>
  cases x <;> simp only[Oper.upon,Oper.uponIn] at h ⊢ <;>
   first
    |grind
    | exact⟨fun X=>by grind,auk h⟩
    | grind[auF]
    |exact h.elim
 | halt x d=>cases x <;> simp only[Oper.upon,Oper.uponIn] at h ⊢ <;> exact h
theorem aov {id:Nat} {b:Array Oper} (h:∀c,wpOpsIn (rdF c) 1 P b Q (List.range b.size) a w):(Code.region id b false).wpR P Q a w:=fun c=>wpIn_region (h c)
theorem anm {id:Nat} {b:Array Oper} (d:P.follows .mixedOrders=true) (h:∀c,wpAnyIn (rdF c) 1 P .any b Q b.size (Array.replicate b.size false) a {w with drawn:=w.drawn+1 }) :
  (Code.region id b true).wpR P Q a w:=fun c=>wpIn_region_any d (h c)
theorem S6 (I:Nat->Act->World->Prop) {n0:Nat} (o:I n0 a w)
  (i:∀n a w,I n a w->c.wpR P (Exit.then (fun j p=>∃r,r < n/\I r j p) Q) a w):(Code.loop c).wpR P Q a w:=by
 intro B b k s z d y;have A:∀n a w,I n a w->∃e j p,Q e j p/\ArrivesIn (Machine.fenced P (rdF B)) P (lone (b.atR a (.code c::.inLoop c::k)) s w) b k s e j p:=by
  intro n
  induction n using Nat.strongRecOn with
  | _ n E=>
   intro a w D;obtain⟨e,m,q,g,f⟩:=i n a w D B b (.inLoop c::k) s z d y
   cases e with
   | normal=>
    obtain⟨r,u,t⟩:=g;obtain⟨F,C,G,v,h⟩:=E r u m q t;exact⟨F,C,G,v,.of_steps (StepsIn.trans f (.one (fenced_calm d y rfl) stepR_inLoop)) h⟩
   | exit id=>exact⟨_,m,q,g,.pass (x:=.inLoop c) rfl (fun _ _=>.inl (by simp)) f⟩
   | goto l=>exact⟨_,m,q,g,.pass (x:=.inLoop c) rfl (fun _ _=>.inl (by simp)) f⟩
   | ret=>exact⟨_,m,q,g,.pass (x:=.inLoop c) rfl (fun _ _=>.inl (by simp)) f⟩
   | panic H=>exact⟨_,m,q,g,.pass (x:=.inLoop c) rfl (fun _ _=>.inl (by simp)) f⟩
   | outgrown=>exact⟨_,m,q,g,.pass (x:=.inLoop c) rfl (fun _ _=>.inl (by simp)) f⟩
 obtain⟨e,j,p,g,f⟩:=A n0 a w o;exact⟨e,j,p,g,.of_steps (.one (fenced_calm d y rfl) stepR_loop) f⟩
theorem arM {b:Frame} {k:List Item} {d:List Frame}:step P (lone (b.atR a (.code (.scope c)::k)) d w)=.next (lone (b.atR a (.code c::.inScope c::k)) d w):=
 step_lone_go (by simp[stepG,stepG.exec,Frame.atR])
theorem aqY {b:Frame} {k:List Item} {d:List Frame}:step P (lone (b.atR a (.inScope c::k)) d w)=.next (lone (b.atR a k) d w):=
 step_lone_go (by simp[stepG,stepG.exec,Frame.atR])
theorem ank (h:c.wpR P (Exit.noGoto Q) a w):(Code.scope c).wpR P Q a w:=by
 intro r b k n p d o;obtain⟨e,j,m,g,f⟩:=h r b (.inScope c::k) n p d o;have i:StepsIn (Machine.fenced P (rdF r)) P (lone (b.atR a (.code (.scope c)::k)) n w) (lone (b.atR a (.code c::.inScope c::k)) n w):=.one (fenced_calm d o rfl) arM
 cases e with
 | normal=>exact⟨.normal,j,m,g,StepsIn.trans i (StepsIn.trans f (.one (fenced_calm d o rfl) aqY))⟩
 | exit id=>exact⟨.exit id,j,m,g,fun v q=>StepsIn.trans i (f.1 v (by simp[exitTo,q])),fun s t=>by
   obtain⟨x,q,u⟩:=f.2 s (by simpa [exitTo] using t);exact⟨x,by grind,StepsIn.trans i u⟩⟩
 | goto l=>exact g.elim
 | ret=>exact⟨_,j,m,g,.of_steps i f⟩
 | panic y=>exact⟨_,j,m,g,.of_steps i f⟩
 | outgrown=>exact⟨_,j,m,g,.of_steps i f⟩
end
section
variable (P:Program) (A:E0) (C:Wa) (E:bz) (G:bA) (H:Hints)
def Sm (D:List Deferred) (K:aa->Prop) (w:World) (R:Own) (N:Name->Option Nat) (z:List Nat) (a:Act) (f:World):Prop:=
 ∃e d c Z U H,K e/\dw G f d c a.tmps.toList e undef .undef [] Z U H z/\a.defers=D/\bp w R f d z/\(∀o b,N (.out o)=some b->c (.out o)=some b)
def Dx (D:List Deferred) (Q:Exit->aa->Prop) (w:World) (R:Own) (N:Name->Option Nat) (z:List Nat):Exit->Act->World->Prop:=fun e a g=>
 ∃f d c Z U H,Q e f/\dw G g d c a.tmps.toList f undef .undef [] Z U H z/\a.defers=D/\bp w R g d z/\(∀o b,N (.out o)=some b->c (.out o)=some b)
def cL (c:Code) (Q:Exit->aa->Prop) (s:aa):Prop:=
 ∀(w:World) (R:Own) (N:Name->Option Nat) (a:Act) (Z U H z:List Nat),dw G w R N a.tmps.toList s undef .undef [] Z U H z->∀{D:List Deferred},a.defers=D->
  c.wpR P (Dx G D Q w R N z) a w
def xU (K:aa->Prop) (Q:Exit->aa->Prop) (e:Exit) (s:aa):Prop:=
 match e with
 | .normal=>K s
 | e=>Q e s
def dh:Code->Bool
 | .region id a b=>!b||(gz (H.ord id)||(if gP (H.ord id)=true then RN a (aar (H.ord id)) else (ZI a (H.ord id)||Je a (H.ord id))))
 | .seq x y=>dh x&&dh y
 | .cond _ x y=>dh x&&dh y
 | .block _ c=>dh c
 | .loop c=>dh c
 | .scope c=>dh c
 | _=>true
end
def tidy:ac->ac
 | .agg c=>de (.agg c)
 | a=>a
def jF:List ac->List ac
 | []=>[]
 | a::r=>tidy a::jF r
def yC (E:bz) (s:aa) (a:Tmp) (t:TypeId):Option ac:=
 match bq s.tmps a with
 | .ptr n b=>(match s.obj n,E.ty t with
  | some (.cells c),some i=>loadCells i b c
  | _,_=>none)
 | _=>none
def gU (E:bz):aa->List ResultVar->Option (List ac)
 | _,[]=>some []
 | s,.tmp t::r=>(match gU E (bF s (some 0) [.tmp t]) r with|some b=>some (bq s.tmps t::b)|none=>none)
 | s,.cell a t::r=>(match yC E s a t,gU E s r with|some v,some b=>some (v::b)|_,_=>none)
def pack:List ac->ac
 | [v]=>v
 | a=>.tup a
def jL (n:Name):List (Name×aL)->Bool
 | []=>false
 |(_,.cells c)::r=>aU n c||jL n r
 |(_,.map _)::r=>jL n r
def aei:List Name->aa->List ac->aa×List ac
 | [],s,a=>(s,a)
 | n::c,s,a=>
  if (aU n a||jL n s.locs)=true then
   match tN true n s a with
   | some (d,b)=>aei c d b
   | none=>aei c s a
  else aei c s a
def repeatL:Nat->List Name->List Name
 | 0,_=>[]
 | k+1,l=>l++repeatL k l
def ye (E:bz) (d:List ResultVar) (Q:ac->List (Name×aL)->Nat->Prop) (s:aa):Prop:=
 match gU E s d with
 | none=>False
 | some b=>
  if aW (jF b)=true then Q (pack (jF b)) s.heap s.next
  else match aei (repeatL s.locs.length (nq s.locs)) s (jF b) with
   |(c,a)=>if aW a=true then Q (pack a) c.heap c.next else False
def adO (E:bz) (a:List ResultVar) (Q:ac->List (Name×aL)->Nat->Prop):Exit->aa->Prop
 | .ret,s=>ye E a Q s
 | .normal,s=>ye E a Q s
 | _,_=>False
def enter (b:Nat) (a:List ac) (c:List (Name×aL)) (d:Nat):aa:=⟨a++List.replicate (b - a.length) .undef,[],c,d⟩
def as3 (b:List Nat):Nat->List ac->List ac
 | _,[]=>[]
 | k,a::r=>(if b.contains k=true then a else .undef)::as3 b (k+1) r
def arf (e:List Nat):List (Name×aL)->List (Name×aL)
 | []=>[]
 |(.loc i,o)::r=>if e.contains i=true then (.loc i,o)::arf e r else arf e r
 |(.out _,_)::r=>arf e r
def aa.keep (s:aa) (a e:List Nat):aa:={s with tmps:=as3 a 0 s.tmps,locs:=arf e s.locs }
theorem eM {m c:FuncId->Bool} {o:Nat->aw} {r a:Bool}:∀x:Code,dh ⟨m,o,c,r⟩ x=dh ⟨m,o,c,a⟩ x
 | .region _ _ _=>rfl
 | .seq x y=>by simp only[dh];rw[eM x,eM y]
 | .cond _ x y=>by simp only[dh];rw[eM x,eM y]
 | .block _ x=>by simp only[dh];rw[eM x]
 | .loop x=>by simp only[dh];rw[eM x]
 | .scope x=>by simp only[dh];rw[eM x]
 | .skip|.exit _|.ret|.label ..|.goto ..|.refuse ..|.rangeFunc ..=>rfl
end Go.Tp
namespace Go.Tp
section
variable {P:Program} {E:bz} {G:bA} {w:World} {R:Own} {N N':Name->Option Nat}
theorem aj.remove:∀{i:List (Name×aL)} {B:List Nat} {n:Name} {o:aL},aj w R N i B->eA n i=some o->
  ∃g b r f d,B=g++(b::r)++f/\N n=some b/\aI w R N o b r/\aj w R N (iY n i) d/\d.Sublist (g++f)
 | [],_,_,_,_,h=>by grind[eA]
 |(m,x)::i,_,n,o,⟨b,r,Q,e,l,a,k⟩,J=>by
  subst e;simp only[eA] at J;simp only[iY]
  split at J
  ·rename_i j;subst j;simp at J;subst J;obtain⟨d,y,z⟩:=aj.qK m k;exact⟨[],b,r,Q,d,by simp,l,a,by grind,by grind⟩
  rename_i j;rw[if_neg j];obtain⟨g,c,p,f,d,u,q,s,t,v⟩:=aj.remove k J;refine⟨b::(r++g),c,p,f,b::(r++d),by grind,q,s,⟨b,r,d,rfl,l,a,t⟩,?_⟩;grind
theorem xq (n:Name) (S:List ak):∀(l m:List ac),aiZ n S (l++m)=aiZ n S l++aiZ n S m
 | [],m=>by simp[aiZ]
 | a::l,m=>by simp[aiZ,xq n S l m]
theorem Q8 (n:Name) (S:List ak) (c:List ac) (k:Nat):aiZ n S (c++List.replicate k .undef)=aiZ n S c++List.replicate k .undef:=by
 rw[xq];congr 1
 induction k <;> grind[aiZ,yb]
theorem xc (n m:Name):∀(l k:List ac),ff n m (l++k)=ff n m l++ff n m k
 | [],k=>by simp[ff]
 | a::l,k=>by simp[ff,xc n m l k]
theorem zO (n m:Name) (c:List ac) (k:Nat):ff n m (c++List.replicate k .undef)=ff n m c++List.replicate k .undef:=by
 rw[xc];congr 1
 induction k <;> grind[ff,tH]
theorem Um {n:Name} {S:List ak} {a:ac} (h:yw (yb n S a)=true):yw a=true:=by
 cases a <;> grind[yb,yw]
theorem Uk {n:Name} {S:List ak} {a:ac} (h:isS (yb n S a)=true):isS a=true:=by
 cases a <;> grind[yb,isS]
theorem Ns {n:Name} {S:List ak} {c:List ac} (h:cd (aiZ n S c)=true):cd c=true:=by
 obtain⟨p,q,e,w,d⟩:=gK.1 h
 match c with
 | []=>grind[aiZ]
 | [a]=>grind[aiZ]
 | [a,b]=>
  grind[aiZ,gK,Um,Uk]
 | _::_::_::_=>grind[aiZ]
theorem Ul {n m:Name} {a:ac} (h:yw (tH n m a)=true):yw a=true:=by
 cases a <;> grind[tH,yw]
theorem Uj {n m:Name} {a:ac} (h:isS (tH n m a)=true):isS a=true:=by
 cases a <;> grind[tH,isS]
theorem wD {n m:Name} {c:List ac} (h:cd (ff n m c)=true):cd c=true:=by
 obtain⟨p,q,e,w,d⟩:=gK.1 h
 match c with
 | []=>grind[ff]
 | [a]=>grind[ff]
 | [a,b]=>
  grind[ff,gK,Ul,Uj]
 | _::_::_::_=>grind[ff]
theorem aj.sM {f:List ac->List ac} (i:∀c,cd (f c)=true->cd c=true) (g:∀c k,f (c++List.replicate k .undef)=f c++List.replicate k .undef) (s:∀c l B,ah w R N c l B->ah w R N' (f c) l B) (j:∀m b,N m=some b->N' m=some b) :
  ∀{t:List (Name×aL)} {B:List Nat},aj w R N t B->aj w R N' (Tp.sM f t) B
 | [],_,h=>h
 |(_,.cells _)::_,_,⟨b,r,Q,e,o,⟨l,u,v,d,x,q⟩,n⟩=>⟨b,r,Q,e,j _ _ o,⟨l,u,v,d,by grind,q.1,fun h=>q.2 (i _ h)⟩,aj.sM i g s j n⟩
 |(_,.map _)::_,_,⟨b,r,Q,e,o,a,n⟩=>⟨b,r,Q,e,j _ _ o,a,aj.sM i g s j n⟩
mutual
theorem UC {n:Name} {S:List ak} {b:Nat} (g:N n=some b) (d:eN w R b 0 S):∀{a:ac} {v:Value} {B:List Nat},ai w R N a v B->ai w R N (yb n S a) v B
 | .dat _,_,_,h=>by exact h
 | .own _,_,_,h=>by exact h
 | .ref _,_,_,h=>by exact h
 | .ptr m k,_,_,h=>by
  simp only[yb]
  split
  ·rename_i p;subst p;obtain⟨l,u,j,f⟩:=h;rw[g] at j;simp at j;subst j;exact⟨l,b,k,f,by simpa using afP k d⟩
  grind
 | .map _,_,_,h=>by exact h
 | .win m s k q,_,_,h=>by
  grind[yb,ai]
 | .fn _ x y,_,_,h=>by
  obtain⟨l,i,t,e,j,f⟩:=h;exact⟨l,i,t,e,jO g d (as:=x) j,jO g d (as:=y) f⟩
 | .agg c,_,_,h=>by obtain⟨i,e,h⟩:=h;exact⟨i,e,jO g d (as:=c) h⟩
 | .tup c,_,_,h=>by obtain⟨i,e,h⟩:=h;exact⟨i,e,jO g d (as:=c) h⟩
 | .undef,_,_,h=>by exact h
theorem jO {n:Name} {C:List ak} {b:Nat} (D:N n=some b) (o:eN w R b 0 C):∀{as:List ac} {G:List Value} {A:List Nat},ah w R N as G A->ah w R N (aiZ n C as) G A
 | [],_,_,h=>by exact h
 | a::as,_,_,h=>by
  obtain⟨v,z,r,Q,E,F,H,I⟩:=h;exact⟨v,z,r,Q,E,F,UC D o (a:=a) H,jO D o (as:=as) I⟩
end
mutual
theorem Tf {n m:Name} {b:Nat} (i:N n=some b) (g:N m=some b):∀{a:ac} {v:Value} {B:List Nat},ai w R N a v B->ai w R N (tH n m a) v B
 | .dat _,_,_,h=>by exact h
 | .own _,_,_,h=>by exact h
 | .ref _,_,_,h=>by exact h
 | .ptr k p,_,_,h=>by
  grind[tH,ai]
 | .map k,_,_,h=>by
  grind[tH,ai]
 | .win k _ _ _,_,_,h=>by
  grind[tH,ai]
 | .fn _ x y,_,_,h=>by
  obtain⟨j,d,q,e,l,f⟩:=h;exact⟨j,d,q,e,lh i g (as:=x) l,lh i g (as:=y) f⟩
 | .agg c,_,_,h=>by obtain⟨d,e,h⟩:=h;exact⟨d,e,lh i g (as:=c) h⟩
 | .tup c,_,_,h=>by obtain⟨d,e,h⟩:=h;exact⟨d,e,lh i g (as:=c) h⟩
 | .undef,_,_,h=>by exact h
theorem lh {n m:Name} {b:Nat} (i:N n=some b) (g:N m=some b):∀{as:List ac} {d:List Value} {B:List Nat},ah w R N as d B->ah w R N (ff n m as) d B
 | [],_,_,h=>by exact h
 | a::as,_,_,h=>by
  obtain⟨v,o,r,Q,E,F,j,l⟩:=h;exact⟨v,o,r,Q,E,F,Tf i g (a:=a) j,lh i g (as:=as) l⟩
end
theorem pY {b:Nat} {c:Array Value} {l:TypeId} (n:w.heap[b]?=some (.cells c l (0,0))) {f:Own} (m:∀x,¬f b x):∀{S:List ak} {g:List Value} (k:Nat),∀(a:List Value),dz w f g S->c.toList.drop k=g++a->eN w f b k S
 | [],_,_,_,_,_=>trivial
 | d::S,[],_,_,h,_=>h.elim
 | d::S,u::g,k,a,h,e=>by
  have o:c.toList[k]?=some u:=by
   have:=List.getElem?_drop (xs:=c.toList) (i:=k) (j:=0)
   grind
  refine⟨⟨u,?_,m k,h.1⟩,pY n m (k+1) a h.2 ?_⟩
  ·rw[cell_of_row w b k c l (0,0) n];grind
  rw[←List.drop_drop,e];rfl
theorem xf {fz:Bool} {n:Name} {s s':aa} {ab Q:List ac} (h:tN fz n s ab=some (s',Q)) {ae:List Value} {v:List Value} {t Z U H z:List Nat}
  (u:dw G w R N ae s (.tuple v.toArray) (.tup ab) t Z U H z) :
  ∃R' l av ar aq ao,dw G w R' l ae s' (.tuple v.toArray) (.tup Q) av ar aq ao z/\bp w R w R' z/\(∀o b,N (.out o)=some b->l (.out o)=some b)/\(∀i,l (.loc i)=N (.loc i)):=by
 have V:=u.val;obtain⟨a6,ec,I⟩:=V;simp at ec;subst ec;unfold tN at h
 split at h
 ·rename_i i P J;obtain⟨F,b,r,f,T,E,hN,M,K,D⟩:=aj.remove u.locs J;have Y:=u.nodup;subst E
  split at h
  ·
   ·rename_i S L;have a1:gB (bj P)=some S:=by
     simp_all[uF]
    simp at h;obtain⟨rfl,rfl⟩:=h;obtain⟨vs,el,sp,W,am,hR⟩:=M;obtain⟨a7,a4,p,c2,a3,a5,ax,_⟩:=eL am
    let R':Own:=fun c x=>R c x/\c≠b
    have an:Step w R w R':=⟨rfl,rfl,rfl,Nat.le_refl _,fun c _ A=>⟨rfl,fun x h'=>A x h'.1⟩,fun c x _ A=>⟨fun h'=>A h'.1,rfl⟩,fun _ _=>rfl⟩;have hk:∀B:List Nat,b∉B->bp w R w R' B:=fun B d=>⟨an,fun c A _=>⟨rfl,fun x X=>⟨X,fun e=>d (e ▸ A)⟩⟩⟩
    have az:b∉t/\b∉Z/\b∉F++f/\b∉H/\b∉z:=by
     have A:(t++(Z++((F++(b::r)++f)++(H++z)))).Perm (b::(t++(Z++(F++f++(r++(H++z)))))):=by
      rw[List.perm_iff_count];intro q;simp only[List.count_append,List.count_cons];omega
     have:=(List.nodup_cons.1 (A.nodup_iff.1 Y)).1
     simp at this ⊢;simp[this]
    obtain⟨n1,n2,n3,n4,n5⟩:=az;have a0:=(iQ (iZ ax) a1).1;have af:eN w R' b 0 S:=pY W (fun x h'=>h'.2 rfl) 0 a4 (a0.step an) (by simpa using a3);refine⟨R',N,t,Z,T,H,⟨?_,?_,?_,?_,?_,u.next,fun g P J=>(u.glob g P J).step an,u.frame⟩,hk z n5,fun _ _ h=>h,fun _=>rfl⟩
    ·simp only[ai];exact⟨v,rfl,jO hN af (I.keep (hk t n1))⟩
    ·exact jO hN af (u.tmps.keep (hk Z n2))
    ·exact aj.sM (fun _=>Ns) (Q8 _ _) (fun P vs B u=>jO hN af u) (fun _ _ h=>h) (K.keep (hk T (fun A=>n3 (D.subset A))))
    ·exact u.heap.keep (hk H n4)
    refine List.Nodup.sublist ?_ Y;refine List.Sublist.append (.refl _) (List.Sublist.append (.refl _) (List.Sublist.append (D.trans ?_) (.refl _)));rw[List.append_assoc];exact List.Sublist.append (.refl _) (List.sublist_append_right _ _)
  -- handed over
  split at h
  ·rename_i a2;simp at h;obtain⟨rfl,rfl⟩:=h;have y:N (.out s.next)=none:=by
    cases hn:N (.out s.next) with
    | none=>rfl
    | some c=>have:=u.next _ _ hn;omega
   let l:Name->Option Nat:=bX N (.out s.next) b
   have a:∀m c,N m=some c->l m=some c:=fun m c O=>by
    simp only[l,bX];split
    ·rename_i e;rw[e,y] at O;simp at O
    exact O
   have ag:l (.loc i)=some b:=a _ _ hN;have al:l (.out s.next)=some b:=by simp[l,bX]
   have C:∀P vs B,ah w R N P vs B->ah w R l (ff (.loc i) (.out s.next) P) vs B:=fun P vs B h=>lh ag al (h.ext a)
   refine⟨R,l,t,Z,T,b::(r++H),⟨?_,C _ _ _ u.tmps,aj.sM (fun _=>wD) (zO _ _) C a K,?_,?_,?_,u.glob,u.frame⟩,aZ _,fun o c h=>a _ _ h,fun i=>by simp[l,bX]⟩
   ·simp only[ai];exact⟨v,rfl,C _ _ _ I⟩
   ·refine⟨b,r,H,rfl,by simp[outs,l,bX],?_,u.heap.ext (fun m c O=>?_)⟩
    ·obtain⟨vs,el,sp,W,am,hR⟩:=M;have ad:=C _ _ _ am;rw[zO] at ad;exact⟨vs,el,sp,W,ad.yi (by rw[ji];exact a2) (fun _=>rfl),hR.1,fun d=>hR.2 (wD d)⟩
    cases m with
    | loc j=>simp[outs] at O
    | out k=>exact a _ _ O
   ·have hp:(t++(Z++((F++f)++((b::(r++H))++z)))).Perm (t++(Z++((F++(b::r)++f)++(H++z)))):=by
     rw[List.perm_iff_count];intro q;simp only[List.count_append,List.count_cons];omega
    refine List.Nodup.sublist ?_ (hp.nodup_iff.2 Y);exact List.Sublist.append (.refl _) (List.Sublist.append (.refl _) (List.Sublist.append D (.refl _)))
   intro o c A;simp only[l,bX] at A
   split at A
   ·rename_i e;simp at e;subst e;simp
   have:=u.next o c A;simp;omega
  simp at h
 ·rename_i i es J;obtain⟨F,b,r,f,T,E,hN,M,K,D⟩:=aj.remove u.locs J;have Y:=u.nodup;subst E;simp at h;obtain⟨rfl,rfl⟩:=h;have y:N (.out s.next)=none:=by
   cases hn:N (.out s.next) with
   | none=>rfl
   | some c=>have:=u.next _ _ hn;omega
  let l:Name->Option Nat:=bX N (.out s.next) b
  have a:∀m c,N m=some c->l m=some c:=fun m c O=>by
   simp only[l,bX];split
   ·rename_i e;rw[e,y] at O;simp at O
   exact O
  have ag:l (.loc i)=some b:=a _ _ hN;have al:l (.out s.next)=some b:=by simp[l,bX]
  have C:∀P vs B,ah w R N P vs B->ah w R l (ff (.loc i) (.out s.next) P) vs B:=fun P vs B h=>lh ag al (h.ext a)
  refine⟨R,l,t,Z,T,b::(r++H),⟨?_,C _ _ _ u.tmps,aj.sM (fun _=>wD) (zO _ _) C a K,?_,?_,?_,u.glob,u.frame⟩,aZ _,fun o c h=>a _ _ h,fun i=>by simp[l,bX]⟩
  ·simp only[ai];exact⟨v,rfl,C _ _ _ I⟩
  ·refine⟨b,r,H,rfl,by simp[outs,l,bX],M,u.heap.ext (fun m c O=>?_)⟩
   cases m with
   | loc j=>simp[outs] at O
   | out k=>exact a _ _ O
  ·have hp:(t++(Z++((F++f)++((b::(r++H))++z)))).Perm (t++(Z++((F++(b::r)++f)++(H++z)))):=by
    rw[List.perm_iff_count];intro q;simp only[List.count_append,List.count_cons];omega
   refine List.Nodup.sublist ?_ (hp.nodup_iff.2 Y);exact List.Sublist.append (.refl _) (List.Sublist.append (.refl _) (List.Sublist.append D (.refl _)))
  intro o c A;simp only[l,bX] at A
  split at A
  ·rename_i e;simp at e;subst e;simp
  have:=u.next o c A;simp;omega
 simp at h
end
end Go.Tp
namespace Go.Tp
section
variable {P:Program} {E:bz} {G:bA} {H:Hints} {w:World} {R:Own} {N:Name->Option Nat}
theorem nX {O:Bool}:∀{K:List Name} {s v:aa} {f c:List ac} {R:Own} {N:Name->Option Nat},vI O K s f=(v,c)->∀{g:List Value} {e:List Value} {j Z U H z:List Nat},
  dw G w R N g s (.tuple e.toArray) (.tup f) j Z U H z->
  ∃J x p m l k,dw G w J x g v (.tuple e.toArray) (.tup c) p m l k z/\bp w R w J z/\(∀o b,N (.out o)=some b->x (.out o)=some b)/\(∀i,x (.loc i)=N (.loc i))
 | [],s,v,f,c,R,N,h,g,e,j,Z,U,H,z,E=>by
  grind[vI,aZ]
 | n::K,s,v,f,c,R,N,h,g,e,j,Z,U,H,z,E=>by
  simp only[vI] at h
  split at h
  ·rename_i s1 y a;obtain⟨W,V,v1,t1,Y,X,F,q,C,A⟩:=xf a E;obtain⟨M,L,T,S,Q,P,I,r,D,B⟩:=nX h F;exact⟨M,L,T,S,Q,P,I,⟨q.step.trans r.step,fun b d t=>⟨rfl,fun u h=>(r.same b d t).2 u ((q.same b d t).2 u h)⟩⟩,fun o b h=>D o b (C o b h),fun i=>(B i).trans (A i)⟩
  exact nX h E
theorem gl (G:bA):∀(c:List Operand) (s:aa),(cR G s c).2.locs=s.locs/\(cR G s c).2.heap=s.heap/\(cR G s c).2.next=s.next
 | [],s=>⟨rfl,rfl,rfl⟩
 | x::r,s=>by
  obtain⟨a,b,f⟩:=gl G r (bF s (some 0) [x]);obtain⟨d,K,M⟩:=ry s (some 0) [x];exact⟨a.trans d,b.trans K,f.trans M⟩
theorem kX {h:Act} (J:∀g c,G g=some c->aed w R g c):∀(u:List Operand) {s:aa} {Z d:List Nat},ah w R N s.tmps h.tmps.toList Z->(Z++d).Nodup->
  ∃m e,ah w R N (cR G s u).1 (u.map h.eval) m/\ah w R N (cR G s u).2.tmps h.tmps.toList e/\(m++(e++d)).Nodup
 | [],s,Z,d,T,k=>⟨[],Z,by grind[cR,aP],T,by grind⟩
 | x::r,s,Z,d,T,k=>by
  obtain⟨l,o,a,b,f,_⟩:=rB T J (some 0) [x] d k;obtain⟨z,v,p⟩:=dO a;simp only[aE,if_true,List.cons.injEq,and_true] at v;subst v;have n:(o++(l++d)).Nodup:=by
   grind
  obtain⟨i,j,y,K,M⟩:=kX J r b n;refine⟨l++i,j,aD p y,K,?_⟩;have t:((l++i)++(j++d)).Perm (i++(j++(l++d))):=by
   rw[List.perm_iff_count];grind
  grind
theorem agJ (W:E.Ok P) {c:Call} {s s2:aa} {f:FuncId} {p:List ac} (h:mw E G H c s=some (f,p,s2)) {k:Act} {Z U r z:List Nat}
  (n:dw G w R N k.tmps.toList s undef .undef [] Z U r z) (o:Oper) (O:o.op=.call c) :
  ∃q:List Value,(execOp k.eval o).run P w=.ok (.enter f q.toArray) w/\∃R' X ab j J I,dw G w R' X k.tmps.toList s2 (.tuple q.toArray) (.tup p) ab j J I z ∧
   bp w R w R' z/\(∀o b,N (.out o)=some b->X (.out o)=some b)/\aW p=true/\(∀i,X (.loc i)=N (.loc i)):=by
 obtain⟨t,a,F⟩:=c
 cases t with
 | builtin _=>grind[mw]
 | invoke _ _=>grind[mw]
 | value fo=>
  simp only[mw] at h;obtain⟨bf,A⟩:=qw n.tmps n.glob fo;generalize a1:fm G s fo=af at h A
  split at h
  ·rename_i g l e;obtain⟨_,vf,uf,ef,u,Q⟩:=A
   split at h
   ·rename_i an;obtain⟨V,al,a2,am⟩:=W.fn g an
    -- the operands
    have x:(Z++(U++(r++z))).Nodup:=by simpa using n.nodup
    have T:∃(D:List ac) (v:aa) (m j:List Nat),(if H.moves g=true then cR G s a.toList else (aE G s none 0 a.toList,s))=(D,v) ∧
      ah w R N D (a.toList.map k.eval) m/\ah w R N v.tmps k.tmps.toList j/\(m++(j++(U++(r++z)))).Nodup/\v.locs=s.locs/\v.heap=s.heap/\v.next=s.next:=by
     split
     ·obtain⟨m,j,k1,K,M⟩:=kX n.glob a.toList n.tmps x;obtain⟨q1,q2,q3⟩:=gl G a.toList s;exact⟨_,_,m,j,rfl,k1,K,M,q1,q2,q3⟩
     exact⟨_,_,[],Z,rfl,kU n.tmps n.glob none 0 _ (by simp),n.tmps,by simpa using x,rfl,rfl,rfl⟩
    obtain⟨D,v,m,j,B,a0,az,S,q1,q2,q3⟩:=T;rw[B] at h;simp only at h;generalize C:vI (!H.caps g) (Jf v (l++D++e)) v (l++D++e)=pr at h;obtain⟨s3,Y⟩:=pr
    ·simp only at h
     split at h
     ·rename_i ar;simp only[Option.some.injEq,Prod.mk.injEq] at h;obtain⟨rfl,rfl,rfl⟩:=h;have L:ah w R N (l++D++e) (vf++a.toList.map k.eval++uf) m:=by
       have:=ct (ct u a0) Q
       simpa using this
      have av:dw G w R N k.tmps.toList v (.tuple (vf++a.toList.map k.eval++uf).toArray) (.tup (l++D++e)) m j U r z:=
       ⟨by simp only[ai];exact⟨_,rfl,L⟩,az,by rw[q1];exact n.locs,by rw[q2];exact n.heap,S,by rw[q3];exact n.next,n.glob,n.frame⟩
      obtain⟨R2,N2,v2,t2,l2,g2,ax,ao,ae,ad⟩:=nX C av;refine⟨vf++a.toList.map k.eval++uf,?_,R2,N2,v2,t2,l2,g2,ax,ao,ae,ar,ad⟩;have y:V.body.isNone=false:=by cases d:V.body <;> simp_all
      have ag:¬V.body=none:=by intro d;simp[d] at y
      have aq:¬V.name= "runtime.NumGoroutine":=by simpa using am
      simp[execOp,O,resolve,ef,Deferred.ofValue,invoke,callFunc,al,aq,ag]
     simp at h
   simp at h
  simp at h
end
end Go.Tp
namespace Go.Tp
section
variable {P:Program} {E:bz} {G:bA} {H:Hints}
theorem aeS:∀(l:List ac),bj (bj l)=bj l
 | []=>rfl
 | a::r=>by cases a <;> simp[bj,aeS r]
variable {a:List ac} {b:Bool} {c:Call} {n:Name} {o:Oper} {s:aa} {t:Tmp} {v:ac} {x:Operand}
theorem jK (c:List ac):(∃S,lm c=.dat (.agg S))∨lm c=.agg c:=by
 grind[lm]
theorem wR (c:List ac):de (lm (bj c))=lm (bj c):=by
 rcases jK (bj c) with⟨S,h⟩|h
 ·rw[h];rfl
 rw[h];show lm (bj (bj c))=_;rw[aeS,h]
theorem lM:∀(l:List ac),gi (gi l)=gi l
 | []=>rfl
 | a::r=>by
  cases a with
  | agg c=>
   simp only[gi]
   rcases jK (bj c) with⟨S,h⟩|h
   ·rw[h];simp[gi,lM r]
   have:=wR c
   rw[h] at this ⊢;simp only[gi,lM r];rw[aeS,h]
  | _=>simp[gi,lM r]
theorem HS (a:ac):de (de a)=de a:=by
 cases a <;> grind[wR,de,lM]
def B4 (x y:Option aL):Prop:=y=x∨∃c a,x=some (.cells c)/\y=some (.cells a)/\bj a=bj c
theorem B4.refl (x:Option aL):B4 x x:=.inl rfl
theorem B4.trans {x y z:Option aL} (h:B4 x y) (k:B4 y z):B4 x z:=by
 rcases h with rfl|⟨c,a,rfl,rfl,h⟩
 ·grind
 rcases k with rfl|⟨S,b,E,rfl,k⟩
 ·exact .inr ⟨c,a,rfl,rfl,h⟩
 simp at E;subst E;exact .inr ⟨c,b,rfl,rfl,k.trans h⟩
theorem wS:∀(n:Nat) (l:List ac),bj (fb n l)=fb n (bj l)
 | 0,l=>by simp[fb,bj]
 | n+1,[]=>by simp[fb,bj]
 | n+1,a::l=>by cases a <;> simp[fb,bj,wS n l]
theorem wT:∀(n:Nat) (l:List ac),bj (jQ n l)=jQ n (bj l)
 | 0,l=>by simp[jQ]
 | n+1,[]=>by simp[jQ,bj]
 | n+1,a::l=>by cases a <;> simp[jQ,bj,wT n l]
theorem rO:∀(l:List ac),(bj l).length=l.length
 | []=>rfl
 | a::l=>by cases a <;> simp[bj,rO l]
theorem yJ:∀(l:List ac) (k:Nat),(bj l)[k]?=(l[k]?).map (fun a=>match a with|.own b=>.dat (.slice b)|.agg _=>.undef|.tup _=>.undef|a=>a)
 | [],_=>by simp[bj]
 | a::l,0=>by grind[bj]
 | a::l,k+1=>by cases a <;> simp[bj,yJ l k]
theorem ql (i:TI) (a:Nat) (c:List ac):loadCells i a (bj c)=loadCells i a c:=by
 grind[loadCells,wT,wS,aeS,rO,yJ]
theorem BW {i:TI} {b:Nat} {c:List ac} (h:bj a=bj c):loadCells i b a=loadCells i b c:=by
 rw[←ql i b a,h,ql]
theorem U6 {b:Op} (d:jf b=true) (a:List ac) {x y:Option aL} (h:B4 x y):jE E false b a y=jE E false b a x:=by
 rcases h with rfl|⟨f,e,rfl,rfl,h⟩
 ·rfl
 cases b <;> simp only[jf,Bool.false_eq_true] at d <;> simp only[jE]
 ·
  rename_i t _;unfold eB
  grind[BW]
 ·
  simp only[uZ,mapEntries]
 rename_i c
 split at d <;> simp at d
 all_goals simp_all[lG,kb]
def Bn:ac->Option (Option Bool)
 | .dat (.flat (.bool b))=>some (some b)
 | .tup []=>some none
 | _=>none
theorem uU (a:ac):Bn (de a)=Bn a:=by
 cases a with
 | agg c=>
  show Bn (lm (bj c))=none
  rcases jK (bj c) with⟨S,h⟩|h <;> rw[h] <;> rfl
 | tup c=>cases c with
  | nil=>rfl
  | cons x r=>cases x <;> rfl
 | _=>rfl
theorem yG (b:List Oper) (s:aa) (g:Option (Nat×Bool)) :
  dC b s g=(match g with
   | none=>some true
   | some (j,a)=>(match b[j]? with
    | some o=>(match o.dst with
     | some t=>(Bn (bq s.tmps t)).map (·==some a)
     | none=>none)
    | none=>none)):=by
 unfold dC
 cases g with
 | none=>rfl
 | some c=>
  obtain⟨j,a⟩:=c;dsimp only
  cases b[j]? with
  | none=>rfl
  | some o=>
   dsimp only
   cases o.dst with
   | none=>rfl
   | some t=>
    dsimp only;unfold Bn
    split <;> simp_all
def te (o:Oper) (a:List Oper) (s b:aa):Prop:=∀t∈o.looksAt a.toArray,de (bq b.tmps t)=de (bq s.tmps t)
theorem pI {b:List Oper} {c:aa} (h:te o b s c):dC b c o.guard=dC b s o.guard:=by
 rw[yG,yG]
 cases J:o.guard with
 | none=>rfl
 | some f=>
  obtain⟨j,d⟩:=f;dsimp only
  cases e:b[j]? with
  | none=>rfl
  | some g=>
   dsimp only
   cases D:g.dst with
   | none=>rfl
   | some t=>
    have:t∈o.looksAt b.toArray:=by simp[Oper.looksAt,J,e,D]
    have a:=h t this;grind[uU]
theorem Qb {o:Op} (h:x∈opsL o):x∈o.operands:=by
 cases o
 case call c=>simp[opsL,Op.operands,Call.operands] at h ⊢;grind
 case slice t x l d m=>
  simp[opsL,Op.operands] at h ⊢
  grind
 all_goals (simp[opsL,Op.operands] at h ⊢ <;> exact h)
theorem Nw {a:aa} (h:∀t,x=.tmp t->de (bq a.tmps t)=de (bq s.tmps t)):de (fm G a x)=de (fm G s x):=by
 cases x with
 | tmp t=>exact h t rfl
 | const v=>rfl
 | global g=>rfl
 | func f=>rfl
theorem oP {s s':aa}:∀(a:List Operand) (k:Nat),(∀t,Operand.tmp t∈a->de (bq s'.tmps t)=de (bq s.tmps t))->aE G s' none k a=aE G s none k a
 | [],_,_=>rfl
 | x::r,k,h=>by
  simp only[aE,reduceCtorEq,if_false];rw[Nw (fun t T=>h t (by grind)),oP r (k+1) (fun t T=>h t (by grind))]
theorem iH {all:List Oper} (h:Operand.tmp t∈opsL o.op):t∈o.looksAt all.toArray:=by
 have:=Qb h
 refine List.mem_append_left _ (List.mem_filterMap.2 ⟨.tmp t,by grind,rfl⟩)
def yf (a:Bool) (s b:aa):Prop:=∀n,Eh a n=true->B4 (s.obj n) (b.obj n)
theorem yf.of_eq {a:aa} (h:a.locs=s.locs) (c:b=true->a.heap=s.heap):yf b s a:=fun n N=>by
 cases n with
 | loc i=>simp only[aa.obj,h];exact .refl _
 | out k=>simp only[aa.obj,c N];exact .refl _
theorem yf.trans {s' a:aa} (h:yf b s s') (k:yf b s' a):yf b s a:=fun n N=>(h n N).trans (k n N)
theorem Ej {c:aa} {o:Op} (l:yf b s c) (w:qk b (looks o a)=true):B4 (aX s o a) (aX c o a):=by
 unfold aX
 cases N:looks o a with
 | none=>exact .refl _
 | some n=>
  refine l n ?_;cases n <;> grind[qk,Eh]
theorem gG {a:List Oper} {s':aa} (h:te o a s s') (l:yf b s s'):eK E G b a o s'=eK E G b a o s:=by
 unfold eK;rw[pI h,oP (s:=s) (s':=s') (opsL o.op) 0 (fun t T=>h t (iH T))]
 grind[U6,Ej]
theorem Sg {b:Op} (c:jf b=true) (N:looks b a=some n):jE E false b a none=none:=by
 unfold looks at N
 split at N <;> simp[jf] at c N
 ·simp[jE,eB]
 ·simp only[jE,uZ]
  grind[mapEntries]
 have e:∀t,kb E t [.map n] none=none:=by
  simp_all[kb]
 simp only[jE,lG]
 split
 ·rfl
 exact e _
theorem H9 {k:Bool} {f:List Oper} {s':aa} {a:ac} (h:te o f s s') (l:∀n j,s.obj n=some j->s'.obj n=some j) (c:eK E G k f o s=some a):eK E G k f o s'=some a:=by
 unfold eK at c ⊢;rw[pI h,oP (s:=s) (s':=s') (opsL o.op) 0 (fun t T=>h t (iH T))]
 cases p:dC f s o.guard with
 | none=>grind
 | some b=>
  rw[p] at c;dsimp only at c ⊢
  split
  ·rename_i d;rw[if_pos d] at c
   split
   ·rename_i A;rw[if_pos A] at c;exact c
   rename_i A;rw[if_neg A] at c
   cases m:lK o.op with
   | some _=>rw[m] at c;exact c
   | none=>
    rw[m] at c;dsimp only at c ⊢
    split
    ·rename_i w;rw[if_pos w] at c;simp only[Bool.and_eq_true] at w;have e:aX s' o.op (aE G s none 0 (opsL o.op))=aX s o.op (aE G s none 0 (opsL o.op)):=by
      unfold aX at c ⊢
      cases g:looks o.op (aE G s none 0 (opsL o.op)) with
      | none=>rfl
      | some n=>
       rw[g] at c;dsimp only at c ⊢
       cases i:s.obj n with
       | some j=>exact l n j i
       | none=>rw[i,Sg w.1 g] at c;simp at c
     rw[e];exact c
    rename_i w;rw[if_neg w] at c;exact c
  rename_i d;rw[if_neg d] at c;exact c
theorem bG {l:List ac} {d t:Nat} (h:d≠t):bq (l.set d v) t=bq l t:=by
 grind[bq]
theorem dm {a:Option Tmp} {t:Nat} (h:a≠some t):bq (s.put a v).tmps t=bq s.tmps t:=by
 cases a with
 | none=>rfl
 | some d=>exact bG (fun e=>h (by rw[e]))
theorem put_comm {c f:Option Tmp} {i j:ac} (h:∀d,c=some d->f≠some d):(s.put c i).put f j=(s.put f j).put c i:=by
 cases c with
 | none=>rfl
 | some a=>
  cases f with
  | none=>rfl
  | some b=>
   have g:a≠b:=fun e=>h a rfl (by rw[e])
   simp only[aa.put];rw[List.set_comm _ _ g]
theorem Pj {a:Option Tmp} {h:List (Name×aL)} {n:Nat}:({s.put a v with heap:=h,next:=n }:aa)=({s with heap:=h,next:=n }:aa).put a v:=by
 cases a <;> rfl
theorem FC {a:List Oper} {b:Option Tmp} (h:∀d,b=some d->d∉o.looksAt a.toArray):te o a s (s.put b v):=by
 intro t T;grind[dm]
theorem te.trans {a:List Oper} {s' b:aa} (h:te o a s s') (k:te o a s' b):te o a s b:=fun t T=>(k t T).trans (h t T)
theorem rD {a:Option Tmp} (h:∀d,a=some d->x≠.tmp d):fm G (s.put a v) x=fm G s x:=by
 cases x with
 | tmp t=>exact dm (fun e=>h t e rfl)
 | _=>rfl
theorem Hk {a:Option Tmp} (h:∀d,a=some d->x≠.tmp d):bF (s.put a v) (some 0) [x]=(bF s (some 0) [x]).put a v:=by
 cases x with
 | tmp t=>
  cases a with
  | none=>rfl
  | some d=>
   have b:d≠t:=fun e=>h d rfl (by rw[e])
   simp only[bF,List.getElem?_cons_zero,aa.put];rw[bG b,List.set_comm _ _ b]
 | _=>simp[bF]
theorem tu {a:Option Tmp} {v:ac}:∀(b:List Operand) (s:aa),(∀d,a=some d->Operand.tmp d∉b)->cR G (s.put a v) b=((cR G s b).1,(cR G s b).2.put a v)
 | [],s,_=>rfl
 | x::r,s,h=>by
  have X:∀d,a=some d->x≠.tmp d:=fun d D e=>h d D (by grind)
  simp only[cR];rw[Hk X,tu r _ (fun d D c=>h d D (by grind)),rD X]
theorem uN {a:Option Tmp} {v:ac}:∀(b:List Operand) (k:Nat) (s:aa),(∀d,a=some d->Operand.tmp d∉b)->aE G (s.put a v) none k b=aE G s none k b
 | [],_,_,_=>rfl
 | x::r,k,s,h=>by
  simp only[aE,reduceCtorEq,if_false];rw[rD (fun d D e=>h d D (by grind)),uN r (k+1) s (fun d D c=>h d D (by grind))]
theorem EZ {a:Option Tmp} (h:∀d,a=some d->Operand.tmp d∉c.operands) :
  dX E G H c (s.put a v)=(dX E G H c s).map fun x=>(x.1,x.2.1,x.2.2.put a v):=by
 obtain⟨b,i,g⟩:=c
 cases b with
 | builtin _=>rfl
 | invoke _ _=>rfl
 | value f=>
  have k:∀d,a=some d->f≠.tmp d:=fun d D e=>h d D (by simp[Call.operands,e])
  have A:∀d,a=some d->Operand.tmp d∉i.toList:=fun d D j=>h d D (by simp at j;simp[Call.operands,j])
  simp only[dX];rw[rD k]
  split
  all_goals grind[tu,uN]
theorem kC (t:Nat):de (bq (bF s (some 0) [x]).tmps t)=de (bq s.tmps t):=by
 grind[bF,bq,HS]
theorem rP:∀(a:List Operand) (s:aa) (t:Nat),de (bq (cR G s a).2.tmps t)=de (bq s.tmps t)
 | [],_,_=>rfl
 | x::r,s,t=>by
  exact (rP r _ t).trans (kC t)
theorem mV {b:aa} {f:FuncId} (h:dX E G H c s=some (f,a,b)):(∀t,de (bq b.tmps t)=de (bq s.tmps t))/\b.locs=s.locs:=by
 grind[dX,rP,gl]
theorem mW {b:aa} {f:FuncId} (h:dX E G H c s=some (f,a,b)):b.heap=s.heap:=by
 grind[dX,gl]
theorem EY {d:aa} {f:FuncId} (h:dX E G H c s=some (f,a,d)) (o:Oper) (b:List Oper):te o b s d/\d.locs=s.locs:=
 ⟨fun t _=>(mV h).1 t,(mV h).2⟩
theorem pc {o:Op} (h:fk o=some t):∃c r,o=.call c/\c.callee=.builtin .append/\c.args.toList=.tmp t::r:=by
 unfold fk at h
 grind
theorem CU {c:Array Operand} {d:Array TypeId} {b:List ac} {e:List ak} {x:ac} (h:Kb b=[.own e,x]):looks (.call ⟨.builtin .append,c,d⟩) b=none:=by
 match b,h with
 | [a,y],h=>cases a <;> first|rfl|grind[Kb,D1]
 | [],h=>grind[Kb]
 | [_],h=>grind[Kb]
 | _::_::_::_,h=>grind[Kb]
theorem qH {o:Op} (h:fk o=some t) {g:Option aL} {b:Out} (O:jE E false o a g=some b):b.eff=.keep/\looks o a=none:=by
 obtain⟨c,r,rfl,e,_⟩:=pc h;obtain⟨d,f,i⟩:=c;subst e;simp only[jE,lG] at O
 split at O
 ·grind
 split at O
 ·split at O
  ·unfold bB at O
   grind[CU]
  unfold fS at O
  grind[CU]
 grind
theorem tY {o:Op} (h:fk o=some t):kp false o=some 0/\∃r,opsL o=.tmp t::r:=by
 obtain⟨c,r,rfl,e,A⟩:=pc h;obtain⟨a,b,d⟩:=c;subst e;exact⟨rfl,r,by grind[opsL]⟩
theorem mM {a:Option Tmp} {v:ac} (b:Option Nat):∀(c:List Operand) (k:Nat) (s:aa),(∀d,a=some d->Operand.tmp d∉c)->aE G (s.put a v) b k c=aE G s b k c
 | [],_,_,_=>rfl
 | x::r,k,s,h=>by
  simp only[aE];rw[rD (fun d D e=>h d D (by grind)),mM b r (k+1) s (fun d D f=>h d D (by grind))]
theorem uW (h:fk o.op=some t) {j:aa} (g:aa4 E G false false o s=some j):∃v,j=({s with tmps:=s.tmps.set t (de (bq s.tmps t))}:aa).put o.dst v ∧
  ∀(c:Option Tmp) (u:ac),(∀d,c=some d->Operand.tmp d∉opsL o.op)->(∀d,c=some d->o.dst≠some d)->aa4 E G false false o (s.put c u)=some (j.put c u):=by
 obtain⟨x,r,f⟩:=tY h;unfold aa4 at g
 split at g
 ·grind
 rename_i q i;obtain⟨w,l⟩:=qH h i;unfold dW at g;rw[w] at g;simp at g;have D:bF s (kp false o.op) (opsL o.op)={s with tmps:=s.tmps.set t (de (bq s.tmps t))}:=by
  grind[bF]
 rw[D] at g;refine⟨q.val,g.symm,?_⟩;intro c u a b;have m:∀d,c=some d->d≠t:=fun d n e=>a d n (by rw[f,e];simp)
 have p:bF (s.put c u) (kp false o.op) (opsL o.op)=({s with tmps:=s.tmps.set t (de (bq s.tmps t))}:aa).put c u:=by
  rw[x,f];simp only[bF,List.getElem?_cons_zero]
  cases c with
  | none=>rfl
  | some d=>
   simp only[aa.put];rw[bG (m d rfl),List.set_comm _ _ (m d rfl)]
 have k:∀j:aa,aX j o.op (aE G s (kp false o.op) 0 (opsL o.op))=none:=fun j=>by unfold aX;rw[l]
 unfold aa4;rw[mM _ _ _ _ a,k,←k s,i];simp only[dW,w,p,Option.some.injEq];rw[←g];exact put_comm b
theorem arX {a:Option Tmp} {o:aL}:(s.put a v).kn n o=(s.kn n o).put a v:=by
 cases n <;> cases a <;> rfl
theorem CE {o:aL}:(s.kn n o).tmps=s.tmps:=by cases n <;> rfl
theorem CG {o:aL}:(s.kn n o).next=s.next:=by cases n <;> rfl
theorem afo {a:Option Tmp}:(s.put a v).obj n=s.obj n:=by
 cases n <;> cases a <;> rfl
theorem aef {f:Bool} {a:List Oper} {i:Nat} {r:List Nat} {g:aa} (h:dM f a (i::r) s=some g):∃o T u t n b c d e,a[i]?=some o/\o.op=.load T (.tmp u)/\o.dst=some t/\o.guard=none/\bq s.tmps u=.ptr n b ∧
  Eh f n=true/\s.obj n=some (.cells c)/\c[b]?=some (.own d)/\bq s.tmps t=.dat (.slice e) ∧
  dM f a r (({s with tmps:=s.tmps.set t (.own d)}:aa).kn n (.cells (bI b [.dat (.slice d)] c)))=some g:=by
 simp only[dM] at h
 split at h
 ·rename_i o O
  split at h
  all_goals grind
 grind
theorem zq {A:Bool} {f:List Oper} {dst:Option Tmp} {v:ac}:∀(m:List Nat) (s l:aa),(∀i∈m,∀o,f[i]?=some o->o.dst≠none->dst≠o.dst)->(∀i∈m,∀o T u,f[i]?=some o->o.op=.load T (.tmp u)->dst≠some u)->
  dM A f m s=some l->dM A f m (s.put dst v)=some (l.put dst v)
 | [],s,l,_,_,h=>by grind[dM]
 | i::r,s,l,a,b,h=>by
  obtain⟨o,T,u,t,n,G,c,H,B,O,k,D,J,E,z,y,q,C,g⟩:=aef h;have j:dst≠some t:=by grind
  have p:=b i (by simp) o T u O k;have F:=zq (v:=v) r _ _ (fun i w=>a i (by grind)) (fun i w=>b i (by grind)) g;simp only[dM,O,k,D,J];rw[dm p,E];dsimp only;rw[if_pos z,afo,y];dsimp only;rw[q];dsimp only;rw[dm j,C];dsimp only;rw[←F];congr 1;rw[←arX];congr 1
  cases dst with
  | none=>rfl
  | some d=>
   have x:d≠t:=fun e=>j (by rw[e])
   simp only[aa.put];rw[List.set_comm _ _ x]
theorem CH:∀(b:Nat) (c:List ac) (d:List ak),c[b]?=some (.own d)->bj (bI b [.dat (.slice d)] c)=bj c
 | _,[],_,h=>by grind
 | 0,a::c,d,h=>by grind[bI,bj]
 | b+1,a::c,d,h=>by
  have:=CH b c d h
  cases a <;> simp[bI,bj,this]
theorem mU:∀{b:List (Name×aL)} {n:Name} {c a:List ac},eA n b=some (.cells c)->bj a=bj c->∀m,B4 (eA m b) (eA m (iX n (.cells a) b))
 | [],_,_,_,h,_,_=>by grind[eA]
 |(k,x)::b,n,c,a,h,e,m=>by
  simp only[eA] at h;simp only[iX]
  split
  ·rename_i d;rw[if_pos d] at h;simp at h;subst h;simp only[eA]
   split
   ·exact .inr ⟨c,a,rfl,rfl,e⟩
   exact .refl _
  rename_i d;rw[if_neg d] at h;simp only[eA]
  split
  ·exact .refl _
  exact mU h e m
theorem Pk {d:Bool} {tmps:List ac} {c:List ac} (h:s.obj n=some (.cells c)) (b:bj a=bj c):yf d s (({s with tmps:=tmps }:aa).kn n (.cells a)):=by
 intro m _
 cases n with
 | loc i=>
  cases m with
  | loc j=>exact mU h b _
  | out j=>exact .refl _
 | out i=>
  cases m with
  | loc j=>exact .refl _
  | out j=>exact mU h b _
theorem zp {w j:Bool} {e:List Oper}:∀(p:List Nat) (s d:aa),dM w e p s=some d->yf j s d/\d.next=s.next/\∀t,(∀i∈p,∀o,e[i]?=some o->o.dst≠some t)->bq d.tmps t=bq s.tmps t
 | [],s,d,h=>by simp[dM] at h;subst h;exact⟨.of_eq rfl (fun _=>rfl),rfl,fun _ _=>rfl⟩
 | i::r,s,d,h=>by
  obtain⟨o,T,u,t,n,m,c,q,v,O,y,D,J,B,x,l,k,A,b⟩:=aef h;obtain⟨a,f,g⟩:=zp r _ _ b;refine⟨yf.trans (Pk l (CH m c q k)) a,by rw[f,CG],fun C z=>?_⟩;grind[CE,bG]
theorem kI {c:List Oper} {t:Tmp}:∀{d:List Nat} {i:Nat},i∈gk c t d->i∈d/\∃o,c[i]?=some o/\o.dst=some t
 | [],_,h=>by grind[gk]
 | j::r,i,h=>by
  simp only[gk] at h
  split at h
  ·rename_i o O
   split at h
   ·rename_i D
    rcases List.mem_cons.1 h with rfl|h
    ·grind
    obtain⟨a,b⟩:=kI h;grind
   obtain⟨a,b⟩:=kI h;grind
  obtain⟨a,b⟩:=kI h;grind
theorem mO {c:Array Oper} {h:aw} (m:ew c h=true) {i:Nat} (n:i∈h.nw.toList++h.tk) (O:c[i]?=some o):∀{j:Nat} {l:Bool} {q:Oper},(j,l)∈h.pre->j≠i->c[j]?=some q->
  (∃d,o.dst=some d/\q.dst≠some d/\(l=false->d∉q.looksAt c))/\∀T u,o.op=.load T (.tmp u)->q.dst≠some u∨∃e∈o.after,Region.binds .any e=true/\e.on=j:=by
 intro j l q p k r;have a:=List.all_eq_true.1 m i n;rw[O] at a;simp only[Bool.and_eq_true] at a;have b:=List.all_eq_true.1 a.2.2 (j,l) p;simp only[Bool.or_eq_true,beq_iff_eq,k,false_or,r,Bool.and_eq_true] at b;obtain⟨f,g⟩:=b
 constructor
 ·grind
 grind
theorem vW {o:Op} (h:lK o=some c):o=.call c:=by
 unfold lK at h
 grind
end
end Go.Tp
