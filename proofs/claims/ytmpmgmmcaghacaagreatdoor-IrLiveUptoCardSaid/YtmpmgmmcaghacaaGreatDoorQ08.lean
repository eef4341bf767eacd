/- Part 8 of what the last text proves. -/
import Derived.Shelf.SlGeneric
import Derived.Ground.GgzProg
import Derived.Ground.SlgmProg
import Derived.Shelf.SlIter.Nil
import Derived.Shelf.SlIterI.Sorted
import Derived.Shelf.SortM.Plain
import Derived.Shelf.SortM.SortNone
import Derived.Test.YtmpmgmmcaghacaaGreatDoorProg
import Derived.Test.YtmpmgmmcaghacaaGreatDoorQ07
set_option linter.unusedVariables false
set_option linter.unusedSimpArgs false
open Int (ofNat)
set_option maxRecDepth 100000
set_option maxHeartbeats 4000000
namespace Go.Proofs.YtmpmgmmcaghacaaGreatDoor
open Go.Tp
noncomputable abbrev gn:=Tryz.f21.ntmps
noncomputable abbrev bc:=Tryz.f68.ntmps
noncomputable abbrev nk:=Tryz.f61.ntmps
def lC (a:Nat->Nat) (n:Nat):List ac:=(List.range n).map fun k=>.map (.out (a k))
def lvM (a:Nat):List (List Int)->Heap
 | []=>[]
 | e::b=>(.out a,.map (hY e))::lvM (a+1) b
theorem asW {α:Type} (ρ:Nat->Nat) (f:α->ac):∀l:List α,il ρ (l.map f)=l.map (fun x=>fx ρ (f x))
 | []=>rfl
 | a::r=>by show fx ρ (f a)::il ρ (r.map f)=_;rw[asW ρ f r];rfl
theorem auG (ρ a:Nat->Nat) (n:Nat):il ρ (lC a n)=lC (fun k=>ρ (a k)) n:=by
 unfold lC;rw[asW];rfl
theorem asc {f g:Nat->Nat} {n:Nat} (h:∀k,k < n->f k=g k):lC f n=lC g n:=by
 simp_all[lC]
theorem aug {k:Nat} {l:List ac} (h:∀a∈l,Sw k a=false):BI k l=false:=by
 induction l with
 | nil=>rfl
 | cons a r b=>
  show (Sw k a||BI k r)=false;grind
theorem aqp {b:Nat->Nat} {n m:Nat} (h:∀k,k < n->b k < m):BI m (lC b n)=false:=by
 refine aug ?_;intro a A;obtain⟨k,c,rfl⟩:=List.mem_map.1 A
 have:=h k (List.mem_range.1 c)
 show Nat.ble m (b k)=false
 cases e:Nat.ble m (b k) with
 | true=>have:=fD e;omega
 | false=>rfl
theorem apw {a:Nat->Nat} {n k:Nat} (h:k < n):(lC a n)[k]?=some (.map (.out (a k))):=by
 grind[lC]
theorem as0:∀{es:List (List Int)} {a k:Nat},k < es.length->hasName (a+k) (lvM a es)=true
 | [],_,_,h=>by grind
 | e::es,a,0,_=>by simp[lvM,hasName]
 | e::es,a,k+1,h=>by
  have:=as0 (es:=es) (a:=a+1) (k:=k) (by grind)
  simp only[lvM,hasName];grind
def auL (a:Nat) (h:Heap):Prop:=∀p∈h,∃o,p.1=.out o/\a<=o
theorem at2:∀(c:List (List Int)) (a:Nat),auL a (lvM a c)
 | [],_,p,w=>by grind[lvM]
 | e::c,a,p,w=>by
  simp only[lvM,List.mem_cons] at w
  rcases w with rfl|w
  ·grind
  obtain⟨o,d,b⟩:=at2 c (a+1) p w;grind
theorem asC:∀(c:List (List Int)) (a:Nat),((lvM a c).map (·.1)).Nodup
 | [],_=>List.nodup_nil
 | e::c,a=>by
  refine List.nodup_cons.2 ⟨?_,asC c (a+1)⟩;intro h;obtain⟨p,w,e⟩:=List.mem_map.1 h;obtain⟨o,d,b⟩:=at2 c (a+1) p w;grind
theorem art:∀{es:List (List Int)} {a k:Nat} {e:List Int},es[k]?=some e->eA (.out (a+k)) (lvM a es)=some (.map (hY e))
 | [],_,_,_,h=>by grind
 | b::es,a,0,e,h=>by simp at h;subst h;simp[lvM,eA]
 | b::es,a,k+1,e,h=>by
  simp only[lvM,eA];rw[if_neg (by simp)]
  have:=art (es:=es) (a:=a+1) (k:=k) (by simpa using h)
  grind
theorem apA:∀{es:List (List Int)} {a k:Nat} {e:List Int},lvM a (es.set k e)=iX (.out (a+k)) (.map (hY e)) (lvM a es)
 | [],_,_,_=>rfl
 | b::es,a,0,e=>by simp[lvM,iX]
 | b::es,a,k+1,e=>by
  simp only[List.set_cons_succ,lvM,iX];rw[if_neg (by simp),apA (es:=es),show a+(k+1)=a+1+k by omega]
theorem apY {n:Name} {o:aL}:∀{h:Heap},iY n (iX n o h)=iY n h
 | []=>rfl
 |(m,x)::r=>by
  by_cases a:m=n
  ·simp[iX,iY,a]
  simp[iX,iY,a,apY (h:=r)]
theorem arm {n:Name}:∀{h:Heap},n∉h.map (·.1)->iY n h=h
 | [],_=>rfl
 |(m,x)::r,h=>by
  simp only[List.map_cons,List.mem_cons,not_or] at h;simp only[iY];rw[if_neg (fun e=>h.1 e.symm),arm h.2]
theorem apR {n:Name} {o:aL}:∀{h:Heap},(h.map (·.1)).Nodup->eA n h=some o->h.Perm ((n,o)::iY n h)
 | [],_,h=>by simp[eA] at h
 |(m,x)::r,d,h=>by
  obtain⟨a,b⟩:=List.nodup_cons.1 d;simp only[eA] at h
  by_cases c:m=n
  ·subst c;simp at h;subst h;simp only[iY,if_true];rw[arm a]
  rw[if_neg c] at h;simp only[iY,if_neg c];exact ((apR b h).cons _).trans (List.Perm.swap _ _ _)
theorem arE {n:Name}:∀{h:Heap},(h.map (·.1)).Nodup->((iY n h).map (·.1)).Nodup
 | [],h=>h
 |(m,x)::r,c=>by
  obtain⟨g,d⟩:=List.nodup_cons.1 c
  by_cases f:m=n
  ·simp only[iY,f,if_true];exact arE d
  simp only[iY,if_neg f,List.map_cons];refine List.nodup_cons.2 ⟨fun i=>g ?_,arE d⟩;obtain⟨p,w,e⟩:=List.mem_map.1 i;have j:∀{h:Heap},p∈iY n h->p∈h:=by
   intro h
   induction h with
   | nil=>intro h;exact h
   | cons q l k=>
    obtain⟨a,b⟩:=q;simp only[iY]
    grind
  grind
theorem aqU {n m:Name} (a:n≠m):∀{h:Heap},eA m (iY n h)=eA m h
 | []=>rfl
 |(k,x)::r=>by
  by_cases b:k=n
  ·subst b;simp only[iY,if_true,eA,if_neg a];exact aqU a
  simp only[iY,if_neg b,eA]
  split
  ·rfl
  exact aqU a
theorem ao4 {b:List (List Int)} {a i:Nat} {e:List Int} (h:b[i]?=some e):(lvM a b).Perm ((.out (a+i),.map (hY e))::iY (.out (a+i)) (lvM a b)):=apR (asC b a) (art h)
theorem ar3 {b:List (List Int)} {a i j:Nat} {e f:List Int} (c:i≠j) (h:b[i]?=some e) (k:b[j]?=some f) :
  (lvM a b).Perm ((.out (a+i),.map (hY e))::(.out (a+j),.map (hY f))::iY (.out (a+j)) (iY (.out (a+i)) (lvM a b))):=by
 have d:Name.out (a+i)≠.out (a+j):=by grind
 exact (ao4 h).trans ((apR (arE (asC b a)) (by grind[aqU,art])).cons _)
section
def IT (n:Nat) (p s:Int) (a b:ak) (q:Nat) (d c:List ac):Heap:=[(.out q,.cells d),(.out 2,.cells [.win (.out 0) 1 0 n]),(.out 1,.cells (cC p s a b)),(.out 0,.cells c)]
def lvB (n:Nat) (p s:Int) (b c:ak) (q:Nat) (a:Bool) (d:List ac):Heap:=IT n p s b c q [bv a] d
def aqd (n:Nat) (p s:Int) (a b:ak) (d:List ac) (c:List (List Int)):Heap:=IT n p s a b (3+n) d (lC (fun k=>3+k) n)++lvM 3 c
def lvH (n:Nat) (p s:Int) (b c:ak) (a:Bool) (d:List (List Int)):Heap:=aqd n p s b c [bv a] d
end
noncomputable abbrev tmL (sl:Sl):List ac:=((⟨sl,[],[],0⟩:ab).al gn).tmps
structure Fit (F:Nat->Nat->Sl) (L:Heap):Prop where
 rn:∀ρ:Nat->Nat,ρ 0=0->ρ 1=1->il ρ (tmL (F 2 3))=tmL (F (ρ 2) (ρ 3))
 lo:BI 4 (tmL (F 2 3))=false
 rl:∀ρ,jJ ρ L=L
 ll:∀k,GM k L=false
def ap1 (l:List ac):Prop:=∀a∈l,∃d,a=.dat d
variable {C I a b e h k m p x:Int} {F:Nat->Nat->Sl} {K l:List ac} {L:Heap} {N i:Nat} {Q:Exit->aa->Prop} {T:ej} {c n t:List UInt8} {q:Bool} {r:List ak} {s:kG} {y:ak}
theorem ap1.rn (h:ap1 l) (ρ:Nat->Nat):il ρ l=l:=by
 induction l with
 | nil=>rfl
 | cons a r e=>
  obtain⟨d,rfl⟩:=h a List.mem_cons_self;show .dat d::il ρ r=_;rw[e (fun b c=>h b (List.mem_cons_of_mem _ c))]
theorem ap1.hi (h:ap1 l) (m:Nat):BI m l=false:=by
 refine aug ?_;intro a A;obtain⟨d,rfl⟩:=h a A;rfl
theorem aqr (b:Bool):ap1 [bv b]:=by
 intro a A;grind
theorem apL {n:Nat} {s:Int} {l t:ak} {c:Code} {y:List ac} {R:List (List Int)} (ρ B:Nat->Nat) (m:Nat) (P v:Heap) (af:R.length=n)
  (Z:ρ 0=0) (r1:ρ 1=1) (r2:ρ 2=2) (r3:ρ 3=3+n) (rk:∀k,k < n->ρ (B k)=3+k/\B k < m) (g:4<=m) (hr:∀o,o < m->ρ o<=3+n)
  (az:(lvM 3 R).Perm (jJ ρ P++v)) (ar:GM m P=false) (W:Fit F L) (T:ap1 y)
  (h:KD c (fun e s1=>∃J N u D C,Fit J N/\ap1 u/\s1=(⟨J 2 3,N,IT n p s l t 3 u (lC B n)++D,m⟩:ab).al gn/\(lvM 3 C).Perm (jJ ρ D++v)/\(∀ρ',(∀o,o < m->ρ' o=ρ o)->jJ ρ' D=jJ ρ D) ∧
   Q e ((⟨J 2 (3+n),N,aqd n p s l t u C,4+n⟩:ab).al gn)) ((⟨F 2 3,L,IT n p s l t 3 y (lC B n)++P,m⟩:ab).al gn)) :
  KD c Q ((⟨F 2 (3+n),L,aqd n p s l t y R,4+n⟩:ab).al gn):=by
 have ad:∀ρ:Nat->Nat,il ρ (cC p s l t)=cC p s l t:=fun _=>rfl
 have z:∀(ρ':Nat->Nat) (y:List ac),ap1 y->ρ' 0=0->ρ' 1=1->ρ' 2=2->ρ' 3=3+n->(∀k,k < n->ρ' (B k)=3+k)->jJ ρ' (IT n p s l t 3 y (lC B n))=IT n p s l t (3+n) y (lC (fun k=>3+k) n):=by
  intro ρ' y O e0 E e2 e3 ek;simp only[IT,jJ,wX,pW,auG,ad,e0,E,e2,e3];rw[asc ek,O.rn ρ'];simp only[il,fx,e0]
 have w:∀(ρ':Nat->Nat) (a b:Heap),jJ ρ' (a++b)=jJ ρ' a++jJ ρ' b:=by
  intro ρ' a b
  induction a with
  | nil=>rfl
  | cons x r Y=>
   obtain⟨B,o⟩:=x;simp only[List.cons_append,jJ,Y]
 have V:=cL.view h ρ (4+n) (aqd n p s l t y R) v (by
  show (IT n p s l t (3+n) y (lC (fun k=>3+k) n)++lvM 3 R).Perm (jJ ρ (IT n p s l t 3 y (lC B n)++P)++v);rw[w,z ρ y T Z r1 r2 r3 (fun k I=>(rk k I).1),List.append_assoc];exact List.Perm.append_left _ az) (agm g W.lo) (W.ll _) (by
  show GM m (IT n p s l t 3 y (lC B n)++P)=false;have H:∀(a b:Heap),GM m a=false->GM m b=false->GM m (a++b)=false:=by
   intro a b A d
   induction a with
   | nil=>exact d
   | cons x r Y=>
    obtain⟨B,o⟩:=x
    cases B with
    | loc i=>
     simp only[List.cons_append,GM,Bool.or_eq_false_iff] at A ⊢;exact⟨A.1,Y A.2⟩
    | out i=>
     simp only[List.cons_append,GM,Bool.or_eq_false_iff] at A ⊢;exact⟨A.1,A.2.1,Y A.2.2⟩
  refine H _ _ ?_ ar;have d:∀q,q < 4->Nat.ble m q=false:=by
   intro q hq
   cases e:Nat.ble m q with
   | true=>have:=fD e;omega
   | false=>rfl
  simp only[IT,GM,Z5,BI,Sw,T.hi m,d 3 (by omega),d 2 (by omega),d 1 (by omega),d 0 (by omega),bv,Bool.or_false,Bool.false_or,aqp (fun k I=>(rk k I).2)];rfl) (by
  intro o O;have ag:=hr o O;show hasName (ρ o) (IT n p s l t (3+n) y (lC (fun k=>3+k) n)++lvM 3 R)=true;generalize ρ o=x at ag;have hx:x=0∨x=1∨x=2∨(∃k,k < n/\x=3+k)∨x=3+n:=by
   by_cases f:x < 3
   ·omega
   by_cases G:x < 3+n
   ·exact .inr (.inr (.inr (.inl ⟨x - 3,by omega,by omega⟩)))
   omega
  simp only[IT,List.cons_append,List.nil_append,hasName,Bool.or_eq_true,Nat.beq_eq]
  rcases hx with rfl|rfl|rfl|⟨k,I,rfl⟩|rfl
  ·exact .inr (.inr (.inr (.inl rfl)))
  ·exact .inr (.inr (.inl rfl))
  ·exact .inr (.inl rfl)
  ·exact .inr (.inr (.inr (.inr (as0 (by rw[af];exact I)))))
  exact .inl rfl)
 have E:il ρ ((⟨F 2 3,L,IT n p s l t 3 y (lC B n)++P,m⟩:ab).al gn).tmps=tmL (F 2 (3+n)):=by
  have:=W.rn ρ Z r1
  rw[r2,r3] at this;exact this
 have e2:jJ ρ ((⟨F 2 3,L,IT n p s l t 3 y (lC B n)++P,m⟩:ab).al gn).locs=L:=W.rl ρ;rw[E,e2] at V;refine cL.ab4 V ?_;rintro e s2 ⟨s1,⟨J,N,u,D,C,S,U,rfl,am,hρ',hQ⟩,rfl⟩;have j:∀o,o < m->ig ρ m (4+n) o=ρ o:=by
  intro o O;unfold ig;rw[show Nat.blt o m=true by rw[Nat.blt_eq];exact O]
 refine⟨aqd n p s l t u C,[],?_,?_⟩
 ·rw[List.append_nil];show (jJ (ig ρ m (4+n)) (IT n p s l t 3 u (lC B n)++D)++v).Perm (aqd n p s l t u C);rw[w,z _ u U (by rw[j 0 (by omega),Z]) (by rw[j 1 (by omega),r1]) (by rw[j 2 (by omega),r2]) (by rw[j 3 (by omega),r3]) (fun k I=>by rw[j _ (rk k I).2,(rk k I).1]),hρ' _ j,List.append_assoc];exact List.Perm.append_left _ am.symm
 have k1:il (ig ρ m (4+n)) (tmL (J 2 3))=tmL (J 2 (3+n)):=by
  have:=S.rn (ig ρ m (4+n)) (by rw[j 0 (by omega),Z]) (by rw[j 1 (by omega),r1])
  rw[j 2 (by omega),j 3 (by omega),r2,r3] at this;exact this
 have K:jJ (ig ρ m (4+n)) N=N:=S.rl _;have M:(4+n)+(m - m)=4+n:=by omega
 show Q e (⟨il (ig ρ m (4+n)) (tmL (J 2 3)),jJ (ig ρ m (4+n)) N,aqd n p s l t u C,(4+n)+(m - m)⟩:aa);rw[k1,K,M];exact hQ
def nm1 (i k:Nat):Nat:=if k=i then 4 else 5+k
def ρ1 (n i:Nat):Nat->Nat
 | 0=>0
 | 1=>1
 | 2=>2
 | 3=>3+n
 | 4=>3+i
 | o=>3+(o - 5)
def lH1 (n:Nat) (p s:Int) (b c:ak) (i:Nat) (a:Bool) (m:List Int):Heap:=lvB n p s b c 3 a (lC (nm1 i) n)++[(.out 4,.map (hY m))]
theorem au0 {n:Nat} {s:Int} {l q:ak} {c:Code} {r:Bool} {b:List (List Int)} {m:List Int} (d:b.length=n) (u:b[i]?=some m) (w:Fit F L)
  (h:KD c (fun e v=>∃g j a f,Fit g j/\v=(⟨g 2 3,j,lH1 n p s l q i a f,5+n⟩:ab).al gn/\Q e ((⟨g 2 (3+n),j,lvH n p s l q a (b.set i f),4+n⟩:ab).al gn))
   ((⟨F 2 3,L,lH1 n p s l q i r m,5+n⟩:ab).al gn)):KD c Q ((⟨F 2 (3+n),L,lvH n p s l q r b,4+n⟩:ab).al gn):=by
 have y:i < n:=by rw[←d];exact (List.getElem?_eq_some_iff.1 u).1
 refine apL (ρ1 n i) (nm1 i) (5+n) [(.out 4,.map (hY m))] (iY (.out (3+i)) (lvM 3 b)) d rfl rfl rfl rfl ?_ (by omega) ?_ (ao4 u) ?_ w (aqr r) (h.mono ?_)
 ·intro k A;unfold nm1
  split
  ·rename_i e;subst e;exact⟨rfl,by omega⟩
  refine⟨?_,by omega⟩;rw[show 5+k=k+5 by omega];show 3+(k+5 - 5)=3+k;omega
 ·intro o O
  match o,O with
  | 0,_=>exact Nat.zero_le _
  | 1,_=>show 1<=_;omega
  | 2,_=>show 2<=_;omega
  | 3,_=>exact Nat.le_refl _
  | 4,_=>show 3+i<=_;omega
  | o+5,O=>show 3+(o+5 - 5)<=_;omega
 ·show (Nat.ble (5+n) 4||(false||false))=false
  cases e:Nat.ble (5+n) 4 with
  | true=>have:=fD e;omega
  | false=>rfl
 rintro e v ⟨g,j,a,f,t,z,x⟩;refine⟨g,j,[bv a],[(.out 4,.map (hY f))],b.set i f,t,aqr _,z,?_,?_,x⟩
 ·have:=@ao4 (b.set i f) 3 i f (by rw[List.getElem?_set];simp[d,y])
  rw[apA,apY] at this;rw[apA];exact this
 intro ρ' hρ;simp only[jJ,wX,pW,hρ 4 (by omega)]
def lH3 (n:Nat) (p s:Int) (a b:ak) (i:Nat) (c:List ac) (m:List Int):Heap:=IT n p s a b 3 c (lC (nm1 i) n)++[(.out 4,.map (hY m))]
theorem av1 {n:Nat} {s:Int} {j l:ak} {c:Code} {v:List ac} {b:List (List Int)} {m:List Int} (g:b.length=n) (r:b[i]?=some m) (x:Fit F L) (u:ap1 v)
  (h:KD c (fun e w=>∃d f a,Fit d f/\ap1 a/\w=(⟨d 2 3,f,lH3 n p s j l i a m,5+n⟩:ab).al gn/\Q e ((⟨d 2 (3+n),f,aqd n p s j l a b,4+n⟩:ab).al gn))
   ((⟨F 2 3,L,lH3 n p s j l i v m,5+n⟩:ab).al gn)):KD c Q ((⟨F 2 (3+n),L,aqd n p s j l v b,4+n⟩:ab).al gn):=by
 have A:i < n:=by rw[←g];exact (List.getElem?_eq_some_iff.1 r).1
 refine apL (ρ1 n i) (nm1 i) (5+n) [(.out 4,.map (hY m))] (iY (.out (3+i)) (lvM 3 b)) g rfl rfl rfl rfl ?_ (by omega) ?_ (ao4 r) ?_ x u (h.mono ?_)
 ·intro k B;unfold nm1
  split
  ·rename_i e;subst e;exact⟨rfl,by omega⟩
  refine⟨?_,by omega⟩;rw[show 5+k=k+5 by omega];show 3+(k+5 - 5)=3+k;omega
 ·intro o O
  match o,O with
  | 0,_=>exact Nat.zero_le _
  | 1,_=>show 1<=_;omega
  | 2,_=>show 2<=_;omega
  | 3,_=>exact Nat.le_refl _
  | 4,_=>show 3+i<=_;omega
  | o+5,O=>show 3+(o+5 - 5)<=_;omega
 ·show (Nat.ble (5+n) 4||(false||false))=false
  cases e:Nat.ble (5+n) 4 with
  | true=>have:=fD e;omega
  | false=>rfl
 rintro e w ⟨d,f,a,q,t,z,y⟩;refine⟨d,f,a,[(.out 4,.map (hY m))],b,q,t,z,ao4 r,?_,y⟩;intro ρ' hρ;simp only[jJ,wX,pW,hρ 4 (by omega)]
def lR (i j k:Nat):Nat:=if k=i then 4 else if k=j then 5 else 6+k
def ρ2 (n i j:Nat):Nat->Nat
 | 0=>0
 | 1=>1
 | 2=>2
 | 3=>3+n
 | 4=>3+i
 | 5=>3+j
 | o=>3+(o - 6)
def lH2 (n:Nat) (p s:Int) (b c:ak) (i j:Nat) (a:Bool) (m e:List Int):Heap:=lvB n p s b c 3 a (lC (lR i j) n)++[(.out 4,.map (hY m)),(.out 5,.map (hY e))]
theorem av2 {n:Nat} {s:Int} {t u:ak} {c:Code} {v:Bool} {d:List (List Int)} {j:Nat} {m f:List Int} (g:i≠j) (b:d.length=n) (y:d[i]?=some m) (x:d[j]?=some f) (B:Fit F L)
  (h:KD c (fun e z=>∃q r a l,Fit q r/\z=(⟨q 2 3,r,lH2 n p s t u i j a l f,6+n⟩:ab).al gn/\Q e ((⟨q 2 (3+n),r,lvH n p s t u a (d.set i l),4+n⟩:ab).al gn))
   ((⟨F 2 3,L,lH2 n p s t u i j v m f,6+n⟩:ab).al gn)):KD c Q ((⟨F 2 (3+n),L,lvH n p s t u v d,4+n⟩:ab).al gn):=by
 have D:i < n:=by rw[←b];exact (List.getElem?_eq_some_iff.1 y).1
 have G:j < n:=by rw[←b];exact (List.getElem?_eq_some_iff.1 x).1
 refine apL (ρ2 n i j) (lR i j) (6+n) [(.out 4,.map (hY m)),(.out 5,.map (hY f))] (iY (.out (3+j)) (iY (.out (3+i)) (lvM 3 d))) b rfl rfl rfl rfl ?_ (by omega) ?_ (ar3 g y x) ?_ B (aqr v) (h.mono ?_)
 ·intro k H;unfold lR
  split
  ·rename_i e;subst e;exact⟨rfl,by omega⟩
  split
  ·rename_i e;subst e;exact⟨rfl,by omega⟩
  refine⟨?_,by omega⟩;rw[show 6+k=k+6 by omega];show 3+(k+6 - 6)=3+k;omega
 ·intro o O
  match o,O with
  | 0,_=>exact Nat.zero_le _
  | 1,_=>show 1<=_;omega
  | 2,_=>show 2<=_;omega
  | 3,_=>exact Nat.le_refl _
  | 4,_=>show 3+i<=_;omega
  | 5,_=>show 3+j<=_;omega
  | o+6,O=>show 3+(o+6 - 6)<=_;omega
 ·show (Nat.ble (6+n) 4||(false||(Nat.ble (6+n) 5||(false||false))))=false
  cases e:Nat.ble (6+n) 4 with
  | true=>have:=fD e;omega
  | false=>
   cases A:Nat.ble (6+n) 5 with
   | true=>have:=fD A;omega
   | false=>rfl
 rintro e z ⟨q,r,a,l,w,E,C⟩;refine⟨q,r,[bv a],[(.out 4,.map (hY l)),(.out 5,.map (hY f))],d.set i l,w,aqr _,E,?_,?_,C⟩
 ·have:=@ar3 (d.set i l) 3 i j l f g (by rw[List.getElem?_set];simp[b,D]) (by rw[List.getElem?_set,if_neg g];exact x)
  rw[apA,apY] at this;rw[apA];exact this
 intro ρ' hρ;simp only[jJ,wX,pW,hρ 4 (by omega),hρ 5 (by omega)]
noncomputable def hFC:Hints:=⟨bV,KQ,bi,rowsOf bi 68⟩
def pM (m:Nat) (p K b:List ac) (a:Nat) (start n:Int) (N:Nat):ab:=⟨[(18,iv start),(17,iv n),(5,.win (.out m) 2 0 a),(3,.win (.out 0) 1 0 N),(1,.ptr (.loc 1) 0)],[(.loc 1,.cells p)],[(.out m,.cells K),(.out 0,.cells b)],m+1⟩
def Fu (m:Nat) (p K a:List ac) (start n:Int) (N:Nat):ab:=⟨[(26,bv false),(18,iv start),(17,iv n),(5,.win (.out m) 2 0 0),(3,.win (.out 0) 1 0 N),(1,.ptr (.loc 1) 0)],[(.loc 1,.cells p)],[(.out m,.cells K),(.out 0,.cells a)],m+1⟩
def Cq (m:Nat) (p K b:List ac) (a:Nat) (start n:Int) (N:Nat) (c:Int):ab:=⟨[(128,bv false),(10,iv c),(18,iv start),(17,iv n),(5,.win (.out m) 2 0 a),(3,.win (.out 0) 1 0 N),(1,.ptr (.loc 1) 0)],[(.loc 1,.cells p)],[(.out m,.cells K),(.out 0,.cells b)],m+1⟩
def Oi (K a:List ac):ab:=⟨[(2,bv true)],[],[(.out 1,.cells K),(.out 0,.cells a)],2⟩
theorem Rh {sl:Int} {b:List ak} {a:ak} {c:List ac} {start n:Int} (e:T (.exit 2) ((Fu 1 (cC p sl (.slice b) a) K c start n N).al bc)) :
  KD (roundOf Tryz.f68 1) T ((pM 1 (cC p sl (.slice b) a) K c 0 start n N).al bc):=by
 refine aq [] [] (H:=hFC) (live:=sQ) ?_;exact oe e
theorem Hd {sl:Int} {h:List ak} {j:ak} (g2:dj j) {B K3 ss v s2 s3:List ac} {k o Z tof:Nat} {start n vi D sv ll to tv:Int} {l:List ak} {ok i cl A Y:Bool} {op ad:Int} {nm:List UInt8} {dx:ak} {xk:Int}
  (z:kb ba 146 [.win (.out 1) 2 0 (k+1)] none=some ⟨iv (ofNat (k+1)),.keep⟩) (f2:aF 0 (ofNat (k+1))=true)
  (f3:ap ba 146 [.win (.out 1) 2 0 (k+1),iv (an .i64 (ofNat (k+1) - 1))]=some ⟨.ptr (.out 1) o,.keep⟩)
  (d:eB ba false 3 [.ptr (.out 1) o] (some (.cells K))=some ⟨iv vi,.keep⟩)
  (f5:ap ba 23 [.dat (.slice h),iv vi]=some ⟨.ref [i64 op,i64 ad,i64 a,i64 b,i64 m,sb nm,dx,i64 xk,sb t,i64 x,y,i64 C,i64 I,sb c,nl],.keep⟩)
  (f6:ae 58 [iv op] (.tup [.dat s.enc,bv ok]))
  (r:eB ba false 3 [.ptr (.out 1) (o+1)] (some (.cells K))=some ⟨iv D,.keep⟩) (f8:aB D 0=i)
  (u:ap ba 22 [.win (.out 0) 1 0 N,iv vi]=some ⟨.ptr (.out 0) Z,.keep⟩)
  (af:eB ba false 3 [.ptr (.out 0) Z] (some (.cells ss))=some ⟨iv sv,.keep⟩) (ag:aB sv 2=q)
  (G:cG ba 3 [.ptr (.out 0) Z,iv 2] (some (.cells ss))=some ⟨.undef,.set (.cells s2)⟩)
  (e:fF ba 146 none (some (.tmp 73)) none [.win (.out 1) 2 0 (k+1),iv (an .i64 (ofNat (k+1) - 1))]=some ⟨.win (.out 1) 2 0 k,.keep⟩)
  (am:fF ba 146 none (some (.tmp 103)) none [.win (.out 1) 2 0 (k+1),iv (an .i64 (ofNat (k+1) - 1))]=some ⟨.win (.out 1) 2 0 k,.keep⟩)
  (J:cG ba 3 [.ptr (.out 0) Z,iv 1] (some (.cells ss))=some ⟨.undef,.set (.cells v)⟩)
  (L:ae 40 [.dat (aN p sl (.slice h) j),iv vi] (.dat (.slice l)))
  (M:kb ba 22 [.dat (.slice l)] none=some ⟨iv ll,.keep⟩) (O:aB D ll=cl)
  (P:cG ba 3 [.ptr (.out 0) Z,iv 2] (some (.cells v))=some ⟨.undef,.set (.cells s3)⟩)
  (Q:cl=false->ap ba 22 [.dat (.slice l),iv D]=some ⟨.ref [iN to],.keep⟩)
  (R:cG ba 3 [.ptr (.out 1) (o+1),iv (an .i64 (D+1))] (some (.cells K))=some ⟨.undef,.set (.cells B)⟩)
  (f:cl=false->ap ba 22 [.win (.out 0) 1 0 N,iv to]=some ⟨.ptr (.out 0) tof,.keep⟩)
  (g:cl=false->eB ba false 3 [.ptr (.out 0) tof] (some (.cells v))=some ⟨iv tv,.keep⟩) (S:aB tv 1=A) (U:aB tv 2=Y)
  (V:cl=false->bB ba true 146 [.win (.out 1) 2 0 (k+1),.dat (.slice [.agg [iN to,iN 0]])] (some (.cells B))=some ⟨.undef,.grow (.cells K3) 2 (k+2)⟩) (W:cl=false->bh (.cells K3)=true)
  (n1:bh (.cells v)=true) (n2:bh (.cells s2)=true) (n3:bh (.cells s3)=true) (n4:bh (.cells B)=true)
  (E:(i&&(q||s.call))=true->T .normal ((pM 1 (cC p sl (.slice h) j) K s2 k start n N).al bc))
  (F:(i&&(q||s.call))=false->cl=true->T .normal ((pM 1 (cC p sl (.slice h) j) K s3 k start n N).al bc))
  (e3:(i&&(q||s.call))=false->cl=false->A=true->T .ret ((Oi B v).al bc))
  (e4:(i&&(q||s.call))=false->cl=false->A=false->Y=true->T .normal ((Cq 1 (cC p sl (.slice h) j) B v (k+1) start n N to).al bc))
  (e5:(i&&(q||s.call))=false->cl=false->A=false->Y=false->T .normal ((pM 2 (cC p sl (.slice h) j) K3 v (k+2) start n N).al bc)) :
  KD (roundOf Tryz.f68 1) T ((pM 1 (cC p sl (.slice h) j) K ss (k+1) start n N).al bc):=by
 have q3:=@aO false 1 p sl (.slice h) _ (.inr ⟨_,rfl⟩) g2;clear g2;obtain⟨w,y1,y2,y3,y4,y5,y6,y7,y8,y9,ar,az⟩:=s;refine aq [49,58,600069,600080,93,600099,600118,123,128,500133] [25,29,31,38,39,48,55,56,57,68,69,100069,72,74,79,80,100080,81,85,90,92,98,99,100099,102,104,109,110,115,100118,121,122,126,127,133] (H:=hFC) (live:=sQ) (oo z (oo z (oo f3 (oo d (oo f5 (on f6 (oo r (ob f8 ?_))))))))
 cases i
 ·refine oo d (oo u (oo J (ob n1 (oo q3 (oo d (on L (oo r (oo M (ob O ?_)))))))))
  cases cl
  ·refine oo r (oo (Q rfl) (oo r (oo R (ob n4 (oo (f rfl) (oo (g rfl) (ob S ?_)))))))
   cases A
   ·refine oo (f rfl) (oo (g rfl) (ox U ?_))
    cases Y
    ·exact oo (V rfl) (ob (W rfl) (oe (e5 rfl rfl rfl rfl)))
    exact oe (e4 rfl rfl rfl rfl)
   exact oe (e3 rfl rfl rfl)
  exact oo d (oo u (oo P (ob n3 (oo z (oo e (oe (F rfl rfl)))))))
 refine oo d (oo u (oo af (ob ag ?_)))
 cases q
 ·cases y9
  ·refine oo d (oo u (oo J (ob n1 (oo q3 (oo d (on L (oo r (oo M (ob O ?_)))))))))
   cases cl
   ·refine oo r (oo (Q rfl) (oo r (oo R (ob n4 (oo (f rfl) (oo (g rfl) (ob S ?_)))))))
    cases A
    ·refine oo (f rfl) (oo (g rfl) (ox U ?_))
     cases Y
     ·exact oo (V rfl) (ob (W rfl) (oe (e5 rfl rfl rfl rfl)))
     exact oe (e4 rfl rfl rfl rfl)
    exact oe (e3 rfl rfl rfl)
   exact oo d (oo u (oo P (ob n3 (oo z (oo e (oe (F rfl rfl)))))))
  exact oo d (oo u (oo G (ob n2 (oo z (oo e (oe (E rfl)))))))
 exact oo d (oo u (oo G (ob n2 (oo z (oo e (oe (E rfl)))))))
theorem M7 {sl:Int} {f:List ak} {g:ak} (O:dj g) {ss G J L:List ac} {k o l:Nat} {start n r sv:Int} {ok:Bool} {Q u:Int} {nm:List UInt8} {R:ak} {xk:Int}
  (h:kb ba 146 [.win (.out 1) 2 0 (k+1)] none=some ⟨iv (ofNat (k+1)),.keep⟩) (f2:aF 0 (ofNat (k+1))=true)
  (U:ap ba 146 [.win (.out 1) 2 0 (k+1),iv (an .i64 (ofNat (k+1) - 1))]=some ⟨.ptr (.out 1) o,.keep⟩)
  (e:eB ba false 3 [.ptr (.out 1) o] (some (.cells K))=some ⟨iv r,.keep⟩)
  (V:ap ba 23 [.dat (.slice f),iv r]=some ⟨.ref [i64 Q,i64 u,i64 a,i64 b,i64 m,sb nm,R,i64 xk,sb t,i64 x,y,i64 C,i64 I,sb c,nl],.keep⟩)
  (W:ae 58 [iv Q] (.tup [.dat s.enc,bv ok]))
  (M:eB ba false 3 [.ptr (.out 1) (o+1)] (some (.cells K))=some ⟨iv 0,.keep⟩)
  (j:ap ba 22 [.win (.out 0) 1 0 N,iv r]=some ⟨.ptr (.out 0) l,.keep⟩)
  (v:eB ba false 3 [.ptr (.out 0) l] (some (.cells ss))=some ⟨iv sv,.keep⟩) (z:aB sv 2=q)
  (i:cG ba 3 [.ptr (.out 0) l,iv 2] (some (.cells ss))=some ⟨.undef,.set (.cells J)⟩)
  (d:fF ba 146 none (some (.tmp 73)) none [.win (.out 1) 2 0 (k+1),iv (an .i64 (ofNat (k+1) - 1))]=some ⟨.win (.out 1) 2 0 k,.keep⟩)
  (S:fF ba 146 none (some (.tmp 103)) none [.win (.out 1) 2 0 (k+1),iv (an .i64 (ofNat (k+1) - 1))]=some ⟨.win (.out 1) 2 0 k,.keep⟩)
  (A:cG ba 3 [.ptr (.out 0) l,iv 1] (some (.cells ss))=some ⟨.undef,.set (.cells G)⟩)
  (B:ae 40 [.dat (aN p sl (.slice f) g),iv r] (.dat nl))
  (D:cG ba 3 [.ptr (.out 0) l,iv 2] (some (.cells G))=some ⟨.undef,.set (.cells L)⟩)
  (Y:bh (.cells G)=true) (P:bh (.cells J)=true) (Z:bh (.cells L)=true) 
  (E:(q||s.call)=true->T .normal ((pM 1 (cC p sl (.slice f) g) K J k start n N).al bc))
  (F:(q||s.call)=false->T .normal ((pM 1 (cC p sl (.slice f) g) K L k start n N).al bc)) :
  KD (roundOf Tryz.f68 1) T ((pM 1 (cC p sl (.slice f) g) K ss (k+1) start n N).al bc):=by
 have q3:=@aO false 1 p sl (.slice f) _ (.inr ⟨_,rfl⟩) O;obtain⟨w,y1,y2,y3,y4,y5,y6,y7,y8,y9,ad,af⟩:=s;refine aq [58,600069,600080,600099] [25,29,31,38,39,48,55,56,57,68,69,100069,72,74,79,80,100080,81,85,90,98,99,100099,102,104] (H:=hFC) (live:=sQ) (oo h (oo h (oo U (oo e (oo V (on W (oo M (oo e (oo j (oo v (ob z ?_)))))))))))
 cases q
 ·cases y9
  ·exact oo e (oo j (oo A (ob Y (oo q3 (oo e (on B (oo M (oo e (oo j (oo D (ob Z (oo h (oo d (oe (F rfl)))))))))))))))
  exact oo e (oo j (oo i (ob P (oo h (oo d (oe (E rfl)))))))
 exact oo e (oo j (oo i (ob P (oo h (oo d (oe (E rfl)))))))
noncomputable def VZ:Hints:=⟨bV,Gd,bi,rowsOf bi 61⟩
theorem sS {c:List ak} {x y:Int} {i:Nat} {p q:Bool} (a:aF (ofNat i) (ofNat c.length)=p) (b:p=true->ap ba 22 [.dat (.slice c),.dat (.flat (.int .i64 (ofNat i)))]=some ⟨.ref [iN y],.keep⟩) (f:aF y x=q) {T:ej}
  (E:(p&&q)=true->T .normal ((Sp c x (an .i64 (ofNat i+1))).al nk)) (F:(p&&q)=false->T (.exit 0) ((Md c x (ofNat i)).al nk)) :
  KD (roundOf Tryz.f61 0) T ((Sp c x (ofNat i)).al nk):=by
 refine aq [9,16] [13] (H:=VZ) (live:=Az) (ob a ?_)
 cases p
 ·exact oe (F rfl)
 refine oo (b rfl) (ob f ?_)
 cases q
 ·exact oe (F rfl)
 exact oe (E rfl)
theorem GG (F:T (.exit 0) ((Kq x (ofNat 0)).al nk)) :
  KD (roundOf Tryz.f61 0) T ((Mc x (ofNat 0)).al nk):=by
 refine aq [] [] (H:=VZ) (live:=Az) ?_;exact oe F
theorem GH (a:bB ba false 22 [.own [],.dat (.slice [iN x])] none=some ⟨.own [iN x],.keep⟩):ae 61 [.dat nl,iv x] (.own [iN x]):=by
 have l:KD (.loop (roundOf Tryz.f61 0)) (fun e s=>e=.exit 0/\s=(Kq x (ofNat 0)).al nk) ((Mc x (ofNat 0)).al nk):=
  cA (St:=fun _=>(Mc x (ofNat 0)).al nk) 0 (fun i b=>absurd b (Nat.not_lt_zero i)) (GG ⟨rfl,rfl⟩) (i:=0) (Nat.le_refl _)
 refine co [] [40,44] (x:=.of Tryz.f61 Gd Az) ?_;refine lo l ?_;rintro c s ⟨rfl,rfl⟩;refine⟨_,rfl,?_⟩;exact oo a (oo a fi)
theorem GI {c:ak} {d p q:List ak} {x y:Int} {i:Nat} {g h:Bool} (a:aF (ofNat i) (ofNat (c::d).length)=g) (b:g=true->ap ba 22 [.dat (.slice (c::d)),.dat (.flat (.int .i64 (ofNat i)))]=some ⟨.ref [iN y],.keep⟩) (f:aB y x=h)
  (l:KD (.loop (roundOf Tryz.f61 0)) (fun e s=>e=.exit 0/\s=(Md (c::d) x (ofNat i)).al nk) ((Sp (c::d) x (ofNat 0)).al nk))
  (n:fF ba 22 none (some (.tmp 35)) none [.dat (.slice (c::d)),iv (ofNat i)]=some ⟨.dat (.slice p),.keep⟩)
  (o:fF ba 22 (some (.tmp 42)) none none [.dat (.slice (c::d)),iv (ofNat i)]=some ⟨.dat (.slice q),.keep⟩)
  (j:bB ba false 22 [.own [],.dat (.slice p)] none=some ⟨.own p,.keep⟩)
  (k:bB ba false 22 [.own p,.dat (.slice [iN x])] none=some ⟨.own (p++[iN x]),.keep⟩)
  (m:bB ba false 22 [.own (p++[iN x]),.dat (.slice q)] none=some ⟨.own (p++[iN x]++q),.keep⟩) :
  ae 61 [.dat (.slice (c::d)),iv x] (match g&&h with|true=>.dat (.slice (c::d))|false=>.own (p++[iN x]++q)):=by
 refine co [23,30] [27,36,43,37,40,44] (x:=.of Tryz.f61 Gd Az) ?_;refine lo l ?_;rintro r s ⟨rfl,rfl⟩;refine⟨_,rfl,?_⟩;refine ob a ?_
 cases g
 ·exact oo n (oo o (oo j (oo k (oo m fi))))
 refine oo (b rfl) (ob f ?_)
 cases h
 ·exact oo n (oo o (oo j (oo k (oo m fi))))
 exact fi
theorem Xy {l:List Int} (N:l.length < 100000000):ae 61 [.dat (sl (l.map iN)),iv x] (.dat (sl ((Eu l x).map iN))):=by
 cases l with
 | nil=>exact ko (GH (fE (a:=[]) (b:=[x]) (by simp)))
 | cons v r=>
  obtain⟨l,u⟩:∃l,l=v::r:=⟨_,rfl⟩;have f:(l.map iN)=iN v::r.map iN:=by rw[u];rfl
  have m:sl (l.map iN)=.slice (l.map iN):=by rw[f];rfl
  rw[←u] at N ⊢;have k:=QP (l:=l) (x:=x);have d:KD (.loop (roundOf Tryz.f61 0)) (fun e s=>e=.exit 0/\s=(Md (l.map iN) x (ofNat (kW l x))).al nk) ((Sp (l.map iN) x (ofNat 0)).al nk):=by
   refine cA (St:=fun i=>(Sp (l.map iN) x (ofNat i)).al nk) (kW l x) ?_ ?_ (i:=0) (Nat.zero_le _)
   ·intro i w;have g:i < l.length:=by omega
    have J:l[i]?=some l[i]:=List.getElem?_eq_getElem g;refine @sS _ _ (l[i]) _ true true (br (by simpa using g)) (fun _=>wb J) (QO w J) _ (fun _=>?_) (fun h=>by simp at h);rw[bb (by omega)];rfl
   cases J:l[kW l x]? with
   | none=>
    have:l.length<=kW l x:=by simpa using J
    exact @sS _ _ 0 _ false (aF 0 x) (cj (by simp;omega)) (fun h=>by simp at h) rfl _ (fun h=>by simp at h) (fun _=>⟨rfl,rfl⟩)
   | some y=>
    have g:=(List.getElem?_eq_some_iff.1 J).1;exact @sS _ _ y _ true false (br (by simpa using g)) (fun _=>wb J) (QQ J) _ (fun h=>by simp at h) (fun _=>⟨rfl,rfl⟩)
  have o:=FB (l:=l) k (.tmp 35);have p:=zl (l:=l) k (.tmp 42);have q:=fE (a:=[]) (b:=l.take (kW l x)) (by simp;omega);have t:=fE (a:=l.take (kW l x)) (b:=[x]) (by simp;omega);have n:=fE (a:=l.take (kW l x)++[x]) (b:=l.drop (kW l x)) (by simp;omega);rw[List.map_append] at n;have j:sl ((fw l (kW l x) x).map iN)=.slice ((l.take (kW l x)).map iN++[x].map iN++(l.drop (kW l x)).map iN):=by
   have:(fw l (kW l x) x).map iN=(l.take (kW l x)).map iN++[x].map iN++(l.drop (kW l x)).map iN:=by simp[fw]
   rw[←this]
   cases h:(fw l (kW l x) x).map iN with
   | nil=>simp[fw] at h
   | cons _ _=>rfl
  rw[f] at o p d m;rw[f,m];unfold Eu
  cases J:l[kW l x]? with
  | none=>
   have:l.length<=kW l x:=by simpa using J
   have h:=@GI _ _ _ _ _ 0 _ false (aB 0 x) (cj (by rw[←f];simp;omega)) (fun h=>by simp at h) rfl d o p q t n;dsimp only;rw[j];exact ko h
  | some y=>
   have g:=(List.getElem?_eq_some_iff.1 J).1;have h:=@GI _ _ _ _ _ y _ true (aB y x) (br (by rw[←f];simpa using g)) (fun _=>by rw[←f];exact wb J) rfl d o p q t n;dsimp only;generalize aB y x=c at h
   cases c
   ·dsimp only;rw[j];exact ko h
   dsimp only;rw[f];exact h
def csD (a c d b e:Bool) (m j:Int) (f:List ak):ak:=
 if a=true then .slice [iN m] else if (c||d)=true then nl else if b=true then (if e=true then .slice f else .slice [iN m]) else if e=true then .slice [iN j] else nl
theorem ZD {s:Int} {es:List ak} {A:ak} {i:Int} (F:dj A) {op j:Int} {B:ak} {z:Int} (D:dj B) (g:dj y)
  (o:aF i 0=false) (G:aF i (ofNat es.length)=true)
  (H:ap ba 23 [.dat (.slice es),.dat (.flat (.int .i64 i))]=some ⟨.ref [i64 op,i64 j,i64 a,i64 b,i64 m,sb n,B,i64 k,sb t,i64 z,y,i64 C,i64 I,sb c,nl],.keep⟩) {d f h e:Bool} (r:aB op 12=d) (v:aB op 16=f) (w:aB op 19=h) (u:aB op 13=e) (l:aF (an .i64 (i+1)) (ofNat es.length)=q) {E:List ak}
  (J:ae 61 [.dat nl,iv m] (.dat (.slice [iN m]))) (K:ae 61 [.dat nl,iv (an .i64 (i+1))] (.dat (.slice [iN (an .i64 (i+1))]))) (M:ae 61 [.dat (.slice [iN m]),iv (an .i64 (i+1))] (.dat (.slice E))) :
  ae 29 [.dat (aN p s (.slice es) A),iv i] (match d with|true=>.own [iN m]|false=>.dat (csD d f h e q m (an .i64 (i+1)) E)):=by
 have L:=@aS p s (.slice es) _ (.inr ⟨_,rfl⟩) F;have N:=@yv false op j a b m n _ k t z _ C I c D g;have O:=@Ic 6 op j a b m n _ k t z _ C I c D g;refine co [8,14,24,29,30,32,42] [2,19,20,100006] (x:=.of Tryz.f29 P8 QD) ?_;refine oo L (ob o (ox G (oo H (oo N (oo O (ob r ?_))))))
 cases d
 ·refine ob v ?_
  cases f
  ·refine ob w ?_
   cases h
   ·refine ob u ?_
    cases e
    ·refine ob l ?_
     cases q
     ·exact fi
     exact on K fi
    refine on J (ob l ?_)
    cases q
    ·exact fi
    exact on M fi
   exact fi
  exact fi
 exact fi
theorem Ks {c:Int} (a:c≠12) (b:c≠16) (f:c≠19):(lU (eO c)).fin=false:=by
 cases h:eO c with
 | none=>rfl
 | some s=>
  obtain⟨n,rfl,g,G,d⟩:=pT h;have e:n=1∨n=2∨n=3∨n=4∨n=5∨n=6∨n=7∨n=8∨n=9∨n=10∨n=11∨n=12∨n=13∨n=14∨n=15∨n=16∨n=17∨n=18∨n=19∨n=20∨n=21∨n=22:=by omega
  rcases e with rfl|rfl|rfl|rfl|rfl|rfl|rfl|rfl|rfl|rfl|rfl|rfl|rfl|rfl|rfl|rfl|rfl|rfl|rfl|rfl|rfl|rfl <;> first
   |(cases d;rfl)
   |grind
   |exact absurd rfl b
   |exact absurd rfl f
theorem FD (a:b≠13):(lU (eO b)).cond=false:=by
 cases e:eO b with
 | none=>rfl
 | some s=>
  obtain⟨n,rfl,g,G,c⟩:=pT e;have d:n=1∨n=2∨n=3∨n=4∨n=5∨n=6∨n=7∨n=8∨n=9∨n=10∨n=11∨n=12∨n=13∨n=14∨n=15∨n=16∨n=17∨n=18∨n=19∨n=20∨n=21∨n=22:=by omega
  rcases d with rfl|rfl|rfl|rfl|rfl|rfl|rfl|rfl|rfl|rfl|rfl|rfl|rfl|rfl|rfl|rfl|rfl|rfl|rfl|rfl|rfl|rfl <;> first
   |(cases c;rfl)
   |grind
theorem QU (a x:Int):Eu [a] x=rF x a:=by
 unfold Eu rF
 by_cases h:a < x
 ·rw[if_pos h];have e:kW [a] x=1:=by simp[kW,dA,h]
  rw[e];rfl
 rw[if_neg h];have e:kW [a] x=0:=by simp[kW,dA,h]
 rw[e];show (match aB a x with|true=>[a]|false=>fw [a] 0 x)=_
 by_cases b:x=a
 ·grind[eu]
 rw[if_neg b]
 have:aB a x=false:=by rw[cN];grind
 rw[this];rfl
theorem dL (h:a≠b):aB a b=false:=by rw[cN];grind
theorem Xx {s:Int} {e:List Ins} {z:ak} {x:Ins} (H:dj z) (A:e[i]?=some x) (N:e.length < 1000000000) :
  ae 29 [.dat (aN p s (.slice (encI e)) z),iv (ofNat i)] (.dat (sl ((afn e.length x.op x.im i).map iN))):=by
 have J:=xn A;obtain⟨op,G,a,b,m,n,D,u,⟨k,t,L,K⟩,C,I,c⟩:=x;have v:i < e.length:=(List.getElem?_eq_some_iff.1 A).1;have q:an .i64 (ofNat i+1)=ofNat (i+1):=bb (by omega);have w:aF (an .i64 (ofNat i+1)) (ofNat (encI e).length)=decide (i+1 < e.length):=by
  rw[q,bH,gv]
 have B:=fun y=>ko (GH (x:=y) (fE (a:=[]) (b:=[y]) (by simp)))
 have M:ae 61 [.dat (.slice [iN m]),iv (an .i64 (ofNat i+1))] (.dat (.slice ((rF (ofNat (i+1)) m).map iN))):=by
  have h:=Xy (l:=[m]) (x:=an .i64 (ofNat i+1)) (by simp);rw[QU,q] at h
  have:=DM (ofNat (i+1)) m
  rw[q];generalize rF (ofNat (i+1)) m=l at *
  cases l with
  | nil=>exact absurd rfl this
  | cons a r=>exact h
 have h:=ZD (p:=p) (s:=s) (es:=encI e) (i:=ofNat i) H (dq D (u.map iN)) (dr (ax K)) (by rw[dA];simp) (by rw[bH,gv,decide_eq_true v]) J (op:=op) rfl rfl rfl rfl w (B m) (B _) M;rw[q] at h;show ae 29 _ (.dat (sl ((afn e.length op m i).map iN)))
 by_cases f:op=12
 ·subst f;exact ko h
 rw[dL f] at h;refine Eq.mp (congrArg (fun d=>ae 29 _ (.dat d)) ?_) h
 by_cases j:op=16
 ·subst j;rfl
 by_cases o:op=19
 ·subst o;rfl
 rw[dL j,dL o];unfold afn csD;rw[Ks f j o,dL f]
 by_cases g:op=13
 ·subst g;have E:(lU (eO 13)).cond=true:=rfl;have F:aB 13 13=true:=rfl;rw[E,F]
  cases decide (i+1 < e.length) with
  | true=>
   simp only[Bool.false_eq_true,if_false,Bool.or_self,if_true,Bool.not_false,Bool.true_and,Bool.or_false]
   have:=DM (ofNat (i+1)) m
   generalize rF (ofNat (i+1)) m=l at *
   cases l with
   | nil=>exact absurd rfl this
   | cons a r=>rfl
  | false=>rfl
 rw[FD g,dL g]
 cases decide (i+1 < e.length) <;> rfl
def na (a:List Ins) (i:Nat):List Nat:=((match a[i]? with|some x=>afn a.length x.op x.im i|none=>[]).map Int.toNat).filter (fun j=>decide (j < a.length))
def Bi (a:List Ins) (i:Nat):Bool:=match a[i]? with|some x=>(lU (eO x.op)).call|none=>false
def eh (a:List Ins):Gr:=⟨a.length,na a,Bi a,fun i _ j b=>by
 unfold na at b
 have:=(List.mem_filter.1 b).2
 simpa using this⟩
def tR (a:List Ins):Prop:=∀(i:Nat) (x:Ins),a[i]?=some x->∀j∈afn a.length x.op x.im i,0<=j/\j < ofNat a.length
theorem Fj {b:List Ins} (h:tR b) {x:Ins} (d:b[i]?=some x):(na b i).map ofNat=afn b.length x.op x.im i:=by
 have c:=h i x d;unfold na;rw[d];dsimp only;generalize afn b.length x.op x.im i=l at c
 induction l with
 | nil=>rfl
 | cons a r e=>
  have A:=c a List.mem_cons_self;have e:=e (fun j f=>c j (List.mem_cons_of_mem _ f));have g:a.toNat < b.length:=by grind
  grind
theorem Ma (n:Nat) (a m:Int) (i:Nat):(afn n a m i).length<=2:=by
 grind[afn,rF]
theorem vm (a:List Ins) (i:Nat):(na a i).length<=2:=by
 grind[na,Ma]
theorem Gk {q sl:Int} {c:List Ins} (h:c.all (fun x=>iJ (ofNat c.length) q sl x)=true):tR c:=by
 intro i x o j g;have p:x∈c:=List.mem_of_getElem? o;have r:=(List.getElem?_eq_some_iff.1 o).1;have V:=List.all_eq_true.1 h x p;have l:(x.op=12∨x.op=13)->0<=x.im/\x.im < ofNat c.length:=by
  intro O;unfold iJ at V
  split at V
  ·simp at V
  simp only[Bool.and_eq_true] at V;have d:=V.2.1;unfold GL at d
  have:(aB x.op 12||aB x.op 13)=true:=by
   rcases O with h|h <;> rw[h] <;> rfl
  rw[if_pos this] at d;simp only[Bool.and_eq_true,Bool.not_eq_true',dA,decide_eq_false_iff_not,decide_eq_true_eq] at d;omega
 have e:(lU (eO x.op)).cond=true∨aB x.op 12=true->x.op=12∨x.op=13:=by
  rintro (h|h)
  ·by_cases k:x.op=13
   ·exact .inr k
   exfalso
   rw[FD k] at h;simp at h
  rw[cN] at h;exact .inl (by simpa using h)
 have n:∀{a b j:Int},j∈rF a b->j=a∨j=b:=by
  intro a b j h;unfold rF at h
  split at h
  ·simp at h;rcases h with h|h
   ·exact .inr h
   exact .inl h
  split at h
  ·simp at h;exact .inl h
  simp at h;exact h
 unfold afn at g
 split at g
 ·rename_i m d;simp only[Bool.and_eq_true,decide_eq_true_eq] at m;simp only[Bool.or_eq_true] at d;have f:=l (e d)
  rcases n g with h|h
  ·subst h;simp only[Int.ofNat_eq_natCast];omega
  subst h;exact f
 ·rename_i m d;simp only[Bool.and_eq_true,decide_eq_true_eq] at m;simp at g;subst g;simp only[Int.ofNat_eq_natCast];omega
 ·rename_i m d;simp only[Bool.or_eq_true] at d;simp at g;subst g;exact l (e d)
 simp at g
open Classical in
noncomputable def lO (ins:List Ins):Bool:=decide (eh ins).yN
theorem yM {a:List Ins} (h:(eh a).yN):lO a=true:=by grind[lO]
theorem E8 {a:List Ins} (h:(eh a).cover):lO a=false:=by unfold lO;simpa using Gr.JW h
theorem ap9 (a:List Ins) (b:List Nat):∀k,fresh (eh a) b k<=8*k
 | 0=>Nat.le_refl _
 | k+1=>by
  have c:=ap9 a b k;have h:((eh a).succ k).length<=2:=vm a k;simp only[fresh]
  grind
theorem Ia (G:Gr) (c:List Nat) (b:List (Nat×Nat)):b.length<=rI G c b:=by
 unfold rI
 have:b.length<=(b.map (fun x=>LZ x.2 (G.succ x.1).length)).sum:=by
  induction b with
  | nil=>simp
  | cons a r d=>
   simp
   have:1<=LZ a.2 (G.succ a.1).length:=by unfold LZ;grind
   omega
 omega
theorem Jh (a:List Ins) (b:List Nat) (i:Nat):rI (eh a) b [(i,0)]<=8*a.length+1:=by
 have:=ap9 a b a.length
 show fresh (eh a) b a.length+_<=_;simp only[List.map_cons,List.map_nil,List.sum_cons,List.sum_nil,LZ,if_true];omega
noncomputable def NT:TI:=match Go.Tp.elemOf ba 146 with|some t=>t|none=>default
theorem Wy:Go.Tp.elemOf ba 146=some NT:=by kernel_rfl
theorem yO:NT.size=2:=by kernel_rfl
theorem XW {m:Name} {n:Nat} (h:n < 1000000000):kb ba 146 [.win m 2 0 n] none=some ⟨iv (ofNat n),.keep⟩:=by
 have e:kb ba 146 [.win m 2 0 n] none=if Nat.ble n lim=true then some ⟨iv (ofNat n),.keep⟩ else none:=by kernel_rfl
 rw[e,if_pos];rw[Nat.ble_eq];simp only[lim];omega
theorem ab6 {m:Name} {n k:Nat} (h:k < n):ap ba 146 [.win m 2 0 n,iv (ofNat k)]=some ⟨.ptr m (k*2),.keep⟩:=by
 have:=Go.Tp.uA (m:=m) (off:=0) (s:=2) Wy yO.symm h
 grind
theorem Vw {m:Name} {k:Nat} (x:Operand):fF ba 146 none (some x) none [.win m 2 0 (k+1),iv (ofNat k)]=some ⟨.win m 2 0 k,.keep⟩:=by
 have e:fF ba 146 none (some x) none [.win m 2 0 (k+1),iv (ofNat k)]=if (Nat.ble 0 k&&Nat.ble k (k+1)&&Nat.beq 2 NT.size)=true then some ⟨.win m 2 0 k,.keep⟩ else none:=by kernel_rfl
 simp_all[yO]
theorem Ch:∀(l:List Int) (k:Nat),fb k (cH l)=cH (l.take k)
 | l,0=>by simp[fb,cH]
 | [],k+1=>by simp[fb,cH]
 | a::r,k+1=>by
  have:=Ch r k
  simp only[cH,List.map_cons,fb,List.take_succ_cons] at this ⊢;grind
theorem ad1 {m:Name} {l:List Int} {k:Nat} (x:Int) (a:k < 100000000) (b:2*k<=l.length) :
  bB ba true 146 [.win m 2 0 k,.dat (.slice [.agg [iN x,iN 0]])] (some (.cells (cH l)))=some ⟨.undef,.grow (.cells (cH (l.take (2*k)++[x,0]))) 2 (k+1)⟩:=by
 have e:bB ba true 146 [.win m 2 0 k,.dat (.slice [.agg [iN x,iN 0]])] (some (.cells (cH l))) =
   if (Nat.ble ((k+1)*NT.bytes) 140737488355328&&Nat.ble (k+1) lim&&Nat.ble (k*NT.size) (cH l).length&&!cd (fb (k*NT.size) (cH l)++[iv x,iv 0]))=true
   then some ⟨.undef,.grow (.cells (fb (k*NT.size) (cH l)++[iv x,iv 0])) NT.size (k+1)⟩ else none:=by kernel_rfl
 have F:fb (k*2) (cH l)++[iv x,iv 0]=cH (l.take (2*k)++[x,0]):=by
  rw[Ch,Nat.mul_comm];simp[cH]
 rw[e,yO,F,wE];have d:NT.bytes<=1000:=fD (by kernel_rfl);have f:Nat.ble ((k+1)*NT.bytes) 140737488355328=true:=by
  rw[Nat.ble_eq]
  calc (k+1)*NT.bytes<=100000000*1000:=Nat.mul_le_mul (by omega) d
   _<=140737488355328:=by decide
 have g:Nat.ble (k+1) lim=true:=by rw[Nat.ble_eq];simp only[lim];omega
 have G:Nat.ble (k*2) (cH l).length=true:=by rw[Nat.ble_eq,show (cH l).length=l.length from List.length_map _];omega
 grind
theorem AZ (a b:Nat):aB (ofNat a) (ofNat b)=decide (a=b):=by
 rw[cN]
 grind
theorem Ib {st:List Nat} (m:Name) (v:Nat) (h:i < st.length):cG ba 3 [.ptr m i,iv (ofNat v)] (some (.cells (cH (st.map ofNat))))=some ⟨.undef,.set (.cells (cH ((st.set i v).map ofNat)))⟩:=by
 simp_all[N5]
theorem R9 {st:List Nat} (h:i < st.length):(st.map ofNat)[i]?=some (ofNat (gg st i)):=by
 rw[List.getElem?_map,List.getElem?_eq_getElem h];unfold gg;grind
def tw (a:List (Nat×Nat)):List Int:=a.reverse.flatMap (fun x=>[ofNat x.1,ofNat x.2])
theorem nb (i e:Nat) (r:List (Nat×Nat)):tw ((i,e)::r)=tw r++[ofNat i,ofNat e]:=by simp[tw]
theorem lS:∀a:List (Nat×Nat),(tw a).length=2*a.length
 | []=>rfl
 |(i,e)::r=>by rw[nb,List.length_append,lS r];grind
theorem Kj {b:List Int} {e:Nat} {r:List (Nat×Nat)} (h:b.take (2*(r.length+1))=tw ((i,e)::r)):b[r.length*2]?=some (ofNat i)/\b[r.length*2+1]?=some (ofNat e)/\b.take (2*r.length)=tw r/\2*(r.length+1)<=b.length:=by
 rw[nb] at h;have l:=lS r;have c:2*(r.length+1)<=b.length:=by
  have:=congrArg List.length h
  grind
 have a:∀j,j < 2*(r.length+1)->b[j]?=(tw r++[ofNat i,ofNat e])[j]?:=by
  grind
 refine⟨?_,?_,?_,c⟩
 ·rw[a _ (by omega),List.getElem?_append_right (by omega),l,show r.length*2 - 2*r.length=0 by omega];rfl
 ·rw[a _ (by omega),List.getElem?_append_right (by omega),l,show r.length*2+1 - 2*r.length=1 by omega];rfl
 have:=congrArg (List.take (2*r.length)) h
 grind
theorem SO {a:List Int} {e:Nat} {r:List (Nat×Nat)} (h:a.take (2*(r.length+1))=tw ((i,e)::r)):(a.set (r.length*2+1) (ofNat (e+1))).take (2*(r.length+1))=tw ((i,e+1)::r):=by
 have l:=lS r;rw[List.take_set,h,nb,nb,List.set_append_right _ _ (by omega),l,show r.length*2+1 - 2*r.length=1 by omega];rfl
noncomputable abbrev NE (p sl:Int) (a:List Ins) (c:ak) (m:Nat) (d:List Int) (e:List Nat) (b:Nat) (start:Nat):aa:=(pM m (cC p sl (.slice (encI a)) c) (cH d) (cH (e.map ofNat)) b (ofNat start) (ofNat a.length) a.length).al bc
theorem MY {b:List ac} {sl:Int} {f g:ak} (i:b=cC p sl f g) {c:List ac} {a:Nat} {start n d:Int}:gF cM ((Cq 1 b K c a start n N d).al bc) ((pM 1 b K c a start n N).al bc):=by
 have h:=me (G:=cM) (n:=bc) (Cq 1 b K c a start n N d) (2 ^ 18+2 ^ 17+2 ^ 5+2 ^ 3+2 ^ 1);have e:((iL (Cq 1 b K c a start n N d) (fun l=>eE l (2 ^ 18+2 ^ 17+2 ^ 5+2 ^ 3+2 ^ 1))).al bc)=((pM 1 b K c a start n N).al bc):=by kernel_rfl
 grind
theorem UJ {sl:Int} {f:List Ins} {z:ak} (g2:dj z) (V:tR f) (N:f.length < 1000000) {st:List Nat} {e start:Nat} {r:List (Nat×Nat)} {w:List Int} (hI:(eh f).Inv st ((i,e)::r)) (hk:w.take (2*(r.length+1))=tw ((i,e)::r)) (d:r.length+1 < 10000000)
  (q1:(gg st i=2∨(eh f).call i=true∨e=((eh f).succ i).length)->Q .normal (NE p sl f z 1 w (st.set i 2) r.length start))
  (q2:∀j,((eh f).succ i)[e]?=some j->gg (st.set i 1) j=1->(e=0->gg st i≠2)->(e=0->(eh f).call i=false)->∀E,Q .ret ((Oi (cH E) (cH ((st.set i 1).map ofNat))).al bc))
  (q3:∀j E,((eh f).succ i)[e]?=some j->gg (st.set i 1) j=2->(e=0->gg st i≠2)->(e=0->(eh f).call i=false)->E.take (2*(r.length+1))=tw ((i,e+1)::r)->Q .normal (NE p sl f z 1 E (st.set i 1) (r.length+1) start))
  (q4:∀j a0,((eh f).succ i)[e]?=some j->gg (st.set i 1) j≠1->gg (st.set i 1) j≠2->(e=0->gg st i≠2)->(e=0->(eh f).call i=false)->a0.take (2*(r.length+2))=tw ((j,0)::(i,e+1)::r)->Q .normal (NE p sl f z 2 a0 (st.set i 1) (r.length+2) start)) :
  KD (roundOf Tryz.f68 1) Q (NE p sl f z 1 w st (r.length+1) start):=by
 obtain⟨k1,k2,M,k4⟩:=Kj hk;obtain⟨t1,t2,t3,t4,t5,t6⟩:=hI.top;have a3:i < f.length:=t1;have b0:st.length=f.length:=hI.len;have hx:f[i]?=some f[i]:=List.getElem?_eq_getElem a3;generalize f[i]=x at hx;have c:(eh f).call i=(lU (eO x.op)).call:=by show Bi f i=_;unfold Bi;rw[hx]
 have q:=Fj V hx;have bx:((eh f).succ i).length=(afn f.length x.op x.im i).length:=by rw[←q,List.length_map];rfl
 have hw:an .i64 (ofNat (r.length+1) - 1)=ofNat r.length:=by
  rw[cQ,show ofNat (r.length+1) - 1=ofNat r.length by simp];exact wrap_i64 (by show _<=(r.length:Int);omega) (by show (r.length:Int)<=_;omega)
 have f1:=XW (m:=.out 1) (n:=r.length+1) (by omega);have f2:aF 0 (ofNat (r.length+1))=true:=br (i:=0) (L:=r.length+1) (by omega);have f3:=@ab6 (.out 1) (r.length+1) r.length (by omega);rw[←hw] at f3;have f4:=Er (.out 1) k1;have f5:=xn hx;have f6:=uT x.op;have f7:=Er (.out 1) k2;have f9:=GB (m:=.out 0) (n:=f.length) a3;have F:=Er (.out 0) (R9 (st:=st) (i:=i) (by omega));have G:=Ib (st:=st) (i:=i) (.out 0) 2 (by omega);have H:=Ib (st:=st) (i:=i) (.out 0) 1 (by omega);have D:=Ib (st:=st.set i 1) (i:=i) (.out 0) 2 (by rw[List.length_set];omega);rw[List.set_set] at D;have A:=Vw (m:=.out 1) (k:=r.length) (.tmp 73);have B:=Vw (m:=.out 1) (k:=r.length) (.tmp 103);rw[←hw] at A B;have v:=ZR (p:=p) (sl:=sl) g2 hx (by omega);have ag:aB (ofNat e) 0=decide (e=0):=AZ e 0;have R:aB (ofNat (gg st i)) 2=decide (gg st i=2):=AZ (gg st i) 2
 -- what the two first tests say
 have T:(decide (e=0)&&(decide (gg st i=2)||(lU (eO x.op)).call))=false->(e=0->gg st i≠2)/\(e=0->(eh f).call i=false):=by
  intro h;rw[c]
  constructor
  ·intro o P;rw[decide_eq_true o,decide_eq_true P] at h;simp at h
  intro o;rw[decide_eq_true o] at h;simp only[Bool.true_and,Bool.or_eq_false_iff] at h;exact h.2
 have y:(decide (e=0)&&(decide (gg st i=2)||(lU (eO x.op)).call))=true->gg st i=2∨(eh f).call i=true∨e=((eh f).succ i).length:=by
  intro h;simp only[Bool.and_eq_true,Bool.or_eq_true,decide_eq_true_eq] at h;rw[c]
  rcases h.2 with h|h
  ·exact .inl h
  exact .inr (.inl h)
 rw[←q] at v;generalize hl:(eh f).succ i=l at *;have S:na f i=l:=hl;rw[S] at v q;obtain⟨op,bt,a,b,im,nm,az,u,⟨xk,t,ix,la⟩,C,I,cs⟩:=x
 cases l with
 | nil=>
  have he:e=0:=by simp at t2;exact t2
  subst he;refine M7 (K:=cH w) (ss:=cH (st.map ofNat)) g2 f1 f2 f3 f4 f5 f6 f7 f9 F R G A B H v D (lB _) (lB _) (lB _) ?_ ?_
  ·intro h;exact q1 (y (by simpa using h))
  intro h;exact q1 (.inr (.inr rfl))
 | cons j0 l0=>
  generalize bm:j0::l0=l at *;have bd:Go.Proofs.YtmpmgmmcaghacaaGreatDoor.sl ((l.map ofNat).map iN)=.slice ((l.map ofNat).map iN):=by rw[←bm];rfl
  rw[bd] at v;have ad:kb ba 22 [.dat (.slice ((l.map ofNat).map iN))] none=some ⟨iv (ofNat l.length),.keep⟩:=by
   have:kb ba 22 [.dat (.slice ((l.map ofNat).map iN))] none=some ⟨iv (ofNat ((l.map ofNat).map iN).length),.keep⟩:=by kernel_rfl
   rw[this,List.length_map,List.length_map]
  have af:aB (ofNat e) (ofNat l.length)=decide (e=l.length):=AZ _ _;have am:an .i64 (ofNat e+1)=ofNat (e+1):=bb (by
   have:l.length<=2:=by rw[←S];exact vm f i
   omega)
  have O:=N5 (l:=w) (i:=r.length*2+1) (.out 1) (ofNat (e+1)) (by omega);rw[←am] at O
  by_cases bo:e < l.length
  ·have J:l[e]?=some l[e]:=List.getElem?_eq_getElem bo;generalize l[e]=j at J;have bf:j < f.length:=by
    have hm:j∈na f i:=by rw[S];exact List.mem_of_getElem? J
    exact (eh f).lt i t1 j hm
   have be:(l.map ofNat)[e]?=some (ofNat j):=by rw[List.getElem?_map,J];rfl
   have a4:=wb be;have a5:=GB (m:=.out 0) (n:=f.length) bf;have a6:=Er (.out 0) (R9 (st:=st.set i 1) (i:=j) (by rw[List.length_set];omega));have a7:aB (ofNat (gg (st.set i 1) j)) 1=decide (gg (st.set i 1) j=1):=AZ _ 1;have a8:aB (ofNat (gg (st.set i 1) j)) 2=decide (gg (st.set i 1) j=2):=AZ _ 2;have a9:=@ad1 (.out 1) (w.set (r.length*2+1) (an .i64 (ofNat e+1))) (r.length+1) (ofNat j) (by omega) (by rw[List.length_set];omega);have U:=SO hk;rw[←am] at U;have bk:((w.set (r.length*2+1) (an .i64 (ofNat e+1))).take (2*(r.length+1))++[ofNat j,0]).take (2*(r.length+2))=tw ((j,0)::(i,e+1)::r):=by
    rw[U,nb j 0,List.take_of_length_le]
    ·rfl
    have:=lS ((i,e+1)::r)
    rw[List.length_append,this];simp;omega
   have bs:∀Q0:Exit->aa->Prop,(∀W s,Q W s->Q0 W s)->((decide (e=0)&&(decide (gg st i=2)||(lU (eO op)).call))=false->decide (gg (st.set i 1) j=1)=false->decide (gg (st.set i 1) j=2)=true->Q0 .normal ((Cq 1 (cC p sl (.slice (encI f)) z) (cH (w.set (r.length*2+1) (an .i64 (ofNat e+1)))) (cH ((st.set i 1).map ofNat)) (r.length+1) (ofNat start) (ofNat f.length) f.length (ofNat j)).al bc))->
     KD (roundOf Tryz.f68 1) Q0 (NE p sl f z 1 w st (r.length+1) start):=by
    intro Q0 hQ g;refine Hd (K:=cH w) (ss:=cH (st.map ofNat)) (cl:=false) g2 f1 f2 f3 f4 f5 f6 f7 ag f9 F R G A B H v ad (af.trans (decide_eq_false (by omega))) D (fun _=>a4) O (fun _=>a5) (fun _=>a6) a7 a8 (fun _=>a9) (fun _=>lB _) (lB _) (lB _) (lB _) (lB _) ?_ ?_ ?_ ?_ ?_
    ·intro h;exact hQ _ _ (q1 (y h))
    ·intro _ h;simp at h
    ·intro h _ Y;obtain⟨Z,a2⟩:=T h;exact hQ _ _ (q2 j J (of_decide_eq_true Y) Z a2 _)
    ·intro h _ Y P;exact g h Y P
    intro h _ Y P;obtain⟨Z,a2⟩:=T h;exact hQ _ _ (q4 j _ J (of_decide_eq_false Y) (of_decide_eq_false P) Z a2 bk)
   refine iU (bs (fun W s=>Q W s∨(W=.normal/\Q .normal (NE p sl f z 1 (w.set (r.length*2+1) (an .i64 (ofNat e+1))) (st.set i 1) (r.length+1) start)/\s=((Cq 1 (cC p sl (.slice (encI f)) z) (cH (w.set (r.length*2+1) (an .i64 (ofNat e+1)))) (cH ((st.set i 1).map ofNat)) (r.length+1) (ofNat start) (ofNat f.length) f.length (ofNat j)).al bc))) (fun _ _ h=>.inl h) ?_) ?_
   ·intro h Y P;obtain⟨Z,a2⟩:=T h;exact .inr ⟨rfl,q3 j _ J (of_decide_eq_true P) Z a2 U,rfl⟩
   rintro W s1 (h|⟨rfl,h,rfl⟩)
   ·exact⟨s1,gF.refl _ _,h⟩
   exact⟨_,MY rfl,h⟩
  have he:e=l.length:=by omega
  refine Hd (K:=cH w) (K3:=[]) (ss:=cH (st.map ofNat)) (cl:=true) (to:=0) (tv:=0) (tof:=0) g2 f1 f2 f3 f4 f5 f6 f7 ag f9 F R G A B H v ad (af.trans (decide_eq_true he)) D (fun h=>by simp at h) O (fun h=>by simp at h) (fun h=>by simp at h) rfl rfl (fun h=>by simp at h) (fun h=>by simp at h) (lB _) (lB _) (lB _) (lB _) ?_ ?_ ?_ ?_ ?_
  ·intro h;exact q1 (y h)
  ·intro h _;exact q1 (.inr (.inr he))
  ·intro _ h;simp at h
  ·intro _ h;simp at h
  intro _ h;simp at h
theorem Ev (k:Nat):∀l:List Int,BI k (cH l)=false
 | []=>rfl
 | a::r=>by show (Sw k (iv a)||BI k (cH r))=_;rw[Ev k r];rfl
def Ft (x y:Nat) (p:List ac) (a:Nat) (start n:Int) (N:Nat):ab:=⟨[(18,iv start),(17,iv n),(5,.win (.out x) 2 0 a),(3,.win (.out y) 1 0 N),(1,.ptr (.loc 1) 0)],[(.loc 1,.cells p)],[],0⟩
def Il (x y:Nat) (p:List ac) (start n:Int) (N:Nat):ab:=⟨[(26,bv false),(18,iv start),(17,iv n),(5,.win (.out x) 2 0 0),(3,.win (.out y) 1 0 N),(1,.ptr (.loc 1) 0)],[(.loc 1,.cells p)],[],0⟩
theorem Ku {p sl:Int} {c d:ak} {a m:Nat} {ρ:Nat->Nat} (o:ρ 0=0) (A:ρ a=m) {e f:List Int} {b N:Nat} {start n:Int} :
  Sq ρ (m+1) ((pM a (cC p sl c d) (cH e) (cH f) b start n N).al bc)=(pM m (cC p sl c d) (cH e) (cH f) b start n N).al bc:=by
 have E:il ρ ((Ft a 0 (cC p sl c d) b start n N).al bc).tmps=((Ft (ρ a) (ρ 0) (cC p sl c d) b start n N).al bc).tmps:=by kernel_rfl
 rw[o,A] at E;have F:jJ ρ [(.loc 1,.cells (cC p sl c d))]=[(.loc 1,.cells (cC p sl c d))]:=by kernel_rfl
 have g:jJ ρ [(.out a,.cells (cH e)),(.out 0,.cells (cH f))]=[(.out m,.cells (cH e)),(.out 0,.cells (cH f))]:=by simp only[jJ,wX,pW,fJ,o,A]
 show (⟨il ρ ((Ft a 0 (cC p sl c d) b start n N).al bc).tmps,jJ ρ [(.loc 1,.cells (cC p sl c d))],jJ ρ [(.out a,.cells (cH e)),(.out 0,.cells (cH f))],m+1⟩:aa)=_;rw[E,F,g];rfl
theorem Xq {sl:Int} {b c:ak} {a m:Nat} {ρ:Nat->Nat} (o:ρ 0=0) (A:ρ a=m) {d e:List Int} {start n:Int} :
  Sq ρ (m+1) ((Fu a (cC p sl b c) (cH d) (cH e) start n N).al bc)=(Fu m (cC p sl b c) (cH d) (cH e) start n N).al bc:=by
 have E:il ρ ((Il a 0 (cC p sl b c) start n N).al bc).tmps=((Il (ρ a) (ρ 0) (cC p sl b c) start n N).al bc).tmps:=by kernel_rfl
 rw[o,A] at E;have F:jJ ρ [(.loc 1,.cells (cC p sl b c))]=[(.loc 1,.cells (cC p sl b c))]:=by kernel_rfl
 have f:jJ ρ [(.out a,.cells (cH d)),(.out 0,.cells (cH e))]=[(.out m,.cells (cH d)),(.out 0,.cells (cH e))]:=by simp only[jJ,wX,pW,fJ,o,A]
 show (⟨il ρ ((Il a 0 (cC p sl b c) start n N).al bc).tmps,jJ ρ [(.loc 1,.cells (cC p sl b c))],jJ ρ [(.out a,.cells (cH d)),(.out 0,.cells (cH e))],m+1⟩:aa)=_;rw[E,F,f];rfl
def kY (m:Nat):ab:=⟨[(2,bv true)],[],[],m⟩
theorem Xr {a m:Nat} {ρ:Nat->Nat} {b:List ac} {h:Heap}:∃H,Sq ρ m ((Oi K b).al bc)=⟨((kY m).al bc).tmps,[],H,m⟩:=by
 have E:il ρ ((kY m).al bc).tmps=((kY m).al bc).tmps:=by kernel_rfl
 refine⟨jJ ρ [(.out 1,.cells K),(.out 0,.cells b)],?_⟩;show (⟨il ρ ((kY m).al bc).tmps,[],jJ ρ [(.out 1,.cells K),(.out 0,.cells b)],m⟩:aa)=_;rw[E]
theorem Zu {sl:Int} {b c:ak} {d e:List Int} {a:Nat} {start n:Int}:UH ((pM 1 (cC p sl b c) (cH d) (cH e) a start n N).al bc)=true:=by
 have E:BI 2 ((Ft 1 0 (cC p sl b c) a start n N).al bc).tmps=false:=by kernel_rfl
 have F:GM 2 [(.loc 1,.cells (cC p sl b c))]=false:=by kernel_rfl
 have f:GM 2 [(.out 1,.cells (cH d)),(.out 0,.cells (cH e))]=false:=by
  simp only[GM,Z5,Ev];rfl
 show (!BI 2 ((Ft 1 0 (cC p sl b c) a start n N).al bc).tmps&&(!GM 2 [(.loc 1,.cells (cC p sl b c))]&&(!GM 2 [(.out 1,.cells (cH d)),(.out 0,.cells (cH e))]&&aeQ [(.out 1,.cells (cH d)),(.out 0,.cells (cH e))] 2)))=true;rw[E,F,f];rfl
theorem UL {sl:Int} {c d:ak} {f g:List Int} {a:Nat} {start n:Int} {m:Nat}
  (h:KD (roundOf Tryz.f68 1) (fun e s=>T e (Sq (ig (DW [0,m]) 2 (m+1)) (m+1+(s.next - 2)) s)) ((pM 1 (cC p sl c d) (cH f) (cH g) a start n N).al bc)) :
  KD (roundOf Tryz.f68 1) T ((pM m (cC p sl c d) (cH f) (cH g) a start n N).al bc):=by
 have b:=cL.rn h (DW [0,m]) (m+1) Zu;rw[Ku (m:=m) rfl rfl] at b;refine b.mono ?_;rintro e s ⟨j,i,rfl⟩;exact i
def Vs (m:Nat) (p a:List ac) (start n:Int) (N:Nat):ab:=⟨[(26,bv false),(18,iv start),(17,iv n),(5,.win (.out m) 2 0 0),(3,.win (.out 0) 1 0 N),(1,.ptr (.loc 1) 0)],[(.loc 1,.cells p)],[(.out 0,.cells a)],m+1⟩
theorem UK {sl:Int} {c:List Ins} (g2:dj y) (V:tR c) (N:c.length < 1000000) {L:List Nat} {start:Nat} (hs:start < c.length) (hI:(eh c).Inv L []) (D:∀j,j < start->gg L j=2) :
  KD (.loop (roundOf Tryz.f68 1)) (fun e s=>(e=.exit 2/\∃m g,(eh c).Inv g []/\(∀j,j < start+1->gg g j=2)/\s=(Vs m (cC p sl (.slice (encI c)) y) (cH (g.map ofNat)) (ofNat start) (ofNat c.length) c.length).al bc)∨(e=.ret/\(eh c).yN/\∃m,s=(kY m).al bc))
   (NE p sl c y 1 [ofNat start,0] L 1 start):=by
 have af:KD (.loop (roundOf Tryz.f68 1)) (fun e s=>(e=.exit 2/\∃m g x,(eh c).Inv g []/\(∀j,j < start+1->gg g j=2)/\s=(Fu m (cC p sl (.slice (encI c)) y) (cH x) (cH (g.map ofNat)) (ofNat start) (ofNat c.length) c.length).al bc)∨(e=.ret/\(eh c).yN/\∃m H,s=⟨((kY m).al bc).tmps,[],H,m⟩))
   (NE p sl c y 1 [ofNat start,0] L 1 start):=by
  refine CS (I:=fun μ s=>∃m d l x,(eh c).Inv d l/\(∀j,j < start->gg d j=2)/\(gg d start=2∨start∈l.map Prod.fst)/\x.take (2*l.length)=tw l/\rI (eh c) d l=μ/\μ<=8*c.length+1/\s=NE p sl c y m x d l.length start) ?_ (m:=rI (eh c) L [(start,0)]) ⟨1,L,[(start,0)],[ofNat start,0],hI.start hs,D,.inr (by simp),rfl,rfl,Jh c L start,rfl⟩;rintro μ s ⟨m,d,l,x,z,E,C,k,hμ,hμb,rfl⟩;have M:=Ia (eh c) d l;refine UL ?_
  cases l with
  | nil=>
   refine Rh ?_;rw[show m+1+(((Fu 1 (cC p sl (.slice (encI c)) y) (cH x) (cH (d.map ofNat)) (ofNat start) (ofNat c.length) c.length).al bc).next - 2)=m+1 from rfl,Xq (m:=m) rfl rfl];refine .inl ⟨rfl,m,d,x,z,?_,rfl⟩;intro j w
   by_cases h:j < start
   ·exact E j h
   have:j=start:=by omega
   subst this
   rcases C with h|h
   ·exact h
   simp at h
  | cons t r=>
   obtain⟨i,e⟩:=t;obtain⟨t1,t2,t3,t4,t5,t6⟩:=z.top;have u:i < d.length:=by rw[z.len];exact t1
   have W:r.length+1<=rI (eh c) d ((i,e)::r):=M
   -- what is done stays so
   have n:∀v,(∀j,gg d j=2->j=i->v=2)->(∀j,j < start->gg (d.set i v) j=2):=by
    intro v ad j w;rw[ee u]
    split
    ·rename_i h;exact ad j (E j w) h
    exact E j w
   have B:(e=0->gg d i≠2)->∀j,gg d j=2->j≠i:=by
    intro h j w S;subst S
    by_cases o:e=0
    ·exact h o w
    have:=(t3 (by omega)).1;omega
   refine UJ g2 V N z k (by omega) ?_ ?_ ?_ ?_
   ·intro R;show ∃μ',μ' < μ/\_;rw[show m+1+((NE p sl c y 1 x (d.set i 2) r.length start).next - 2)=m+1 from rfl,Ku (m:=m) rfl rfl];refine⟨_,?_,m,d.set i 2,r,x,z.pop R,n 2 (fun _ _ _=>rfl),?_,(Kj k).2.2.1,rfl,?_,rfl⟩
    ·rw[←hμ];exact Gq u (by decide)
    ·rw[ee u]
     rcases C with h|h
     ·left;split
      ·rfl
      exact h
     rw[List.map_cons,List.mem_cons] at h
     rcases h with h|h
     ·left;rw[if_pos h]
     exact .inr h
    have:=Gq (G:=eh c) (e:=e) (r:=r) u (v:=2) (by decide)
    omega
   ·intro j w A b f K;refine .inr ⟨rfl,z.yN b f w A,m+1+(2 - 2),?_⟩;exact Xr (a:=0) (h:=[])
   ·intro j K w A b f T;have F:e < ((eh c).succ i).length:=(List.getElem?_eq_some_iff.1 w).1;show ∃μ',μ' < μ/\_;rw[show m+1+((NE p sl c y 1 K (d.set i 1) (r.length+1) start).next - 2)=m+1 from rfl,Ku (m:=m) rfl rfl];have O:=CR z b F (.inl rfl:([]:List (Nat×Nat))=[]∨_);refine⟨_,?_,m,d.set i 1,(i,e+1)::r,K,z.skip b f w A,n 1 (fun q Z J=>absurd J (B b q Z)),?_,T,rfl,?_,rfl⟩
    ·rw[←hμ];exact O
    ·rcases C with h|h
     ·left;rw[ee u,if_neg (B b _ h)];exact h
     right;simpa using h
    have Y:rI (eh c) (d.set i 1) ((i,e+1)::r) < rI (eh c) d ((i,e)::r):=O;omega
   intro j P w A Q b f U;have F:e < ((eh c).succ i).length:=(List.getElem?_eq_some_iff.1 w).1;show ∃μ',μ' < μ/\_;rw[show m+1+((NE p sl c y 2 P (d.set i 1) (r.length+2) start).next - 2)=m+1+1 from rfl,@Ku _ _ _ _ 2 (m+1) (ig (DW [0,m]) 2 (m+1)) rfl rfl];have O:=CR z b F (.inr ⟨j,rfl⟩);refine⟨_,?_,m+1,d.set i 1,(j,0)::(i,e+1)::r,P,z.push b f w A Q,n 1 (fun q Z J=>absurd J (B b q Z)),?_,U,rfl,?_,rfl⟩
   ·rw[←hμ];exact O
   ·rcases C with h|h
    ·left;rw[ee u,if_neg (B b _ h)];exact h
    right;rw[List.map_cons,List.mem_cons] at h;simp only[List.map_cons,List.mem_cons]
    rcases h with h|h
    ·exact .inr (.inl h)
    exact .inr (.inr h)
   have Y:rI (eh c) (d.set i 1) ((j,0)::(i,e+1)::r) < rI (eh c) d ((i,e)::r):=O;omega
 refine af.ab4 ?_;rintro e s (⟨rfl,m,g,x,A,b,rfl⟩|⟨rfl,A,m,H,rfl⟩)
 ·exact⟨[(.out 0,.cells (cH (g.map ofNat)))],[(.out m,.cells (cH x))],List.Perm.swap _ _ _,.inl ⟨rfl,m,g,A,b,rfl⟩⟩
 exact⟨[],H,List.Perm.refl _,.inr ⟨rfl,A,m,rfl⟩⟩
theorem aqR:∀x:List Int,((x.map iN).flatMap ak.cells).map ac.dat=cH x
 | []=>rfl
 | a::r=>by
  have:=aqR r
  simp only[List.map_cons,List.flatMap_cons,List.map_append,this];rfl
theorem avV {E:bz} {i:TI} {S:List ak} {k:Nat} (w:E.pr=bW.nA) (c:i.size=k+1) (D:sizedB (k+1) S=true) (d:Nat.blt 0 i.bytes=true) (l:(0+S.length)*i.bytes<=140737488355328) (b:0+S.length<=lim) :
  gS E.pr i [] (.dat (.slice S))=some S:=by
 have a:sizedB (k+1) ([]:List ak)=true:=rfl;simp only[gS,w,c,bW.nA,D,a,d,List.length_nil,gC l,gC b,List.nil_append]
theorem aog {m:Name} {l:List Int} {k:Nat} (x:List Int) (a:k+x.length < 100000000) (b:k<=l.length) :
  bB ba true 22 [.win m 1 0 k,.dat (.slice (x.map iN))] (some (.cells (cH l)))=some ⟨.undef,.grow (.cells (cH (l.take k++x))) 1 (k+x.length)⟩:=by
 have d:DE.bytes<=1000:=fD (by kernel_rfl);have c:Nat.blt 0 DE.bytes=true:=by kernel_rfl
 have e:(0+(x.map iN).length)*DE.bytes<=140737488355328:=by
  rw[List.length_map]
  calc (0+x.length)*DE.bytes<=100000000*1000:=Nat.mul_le_mul (by omega) d
   _<=140737488355328:=by decide
 have h:0+(x.map iN).length<=lim:=by rw[List.length_map];simp only[lim];omega
 have j:gS ba.pr DE [] (.dat (.slice (x.map iN)))=some (x.map iN):=avV (k:=0) rfl kV (zn x) c e h;have F:fb (k*DE.size) (cH l)++((x.map iN).flatMap ak.cells).map ac.dat=cH (l.take k++x):=by
  rw[kV,Nat.mul_one,Ch,aqR];simp[cH]
 have f:Nat.ble ((k+(x.map iN).length)*DE.bytes) 140737488355328=true:=by
  rw[Nat.ble_eq,List.length_map]
  calc (k+x.length)*DE.bytes<=100000000*1000:=Nat.mul_le_mul (by omega) d
   _<=140737488355328:=by decide
 have g:Nat.ble (k+(x.map iN).length) lim=true:=by rw[Nat.ble_eq,List.length_map];simp only[lim];omega
 have G:Nat.ble (k*DE.size) (cH l).length=true:=by rw[kV,Nat.ble_eq,show (cH l).length=l.length from List.length_map _];omega
 have n:Nat.beq 1 DE.size=true:=by rw[kV];rfl
 have o:Nat.beq 0 0=true:=rfl;have i:bB ba true 22 [.win m 1 0 k,.dat (.slice (x.map iN))] (some (.cells (cH l)))=jB ba DE k (cH l) (.dat (.slice (x.map iN))):=by
  simp only[bB,HU,n,o,Bool.and_self,if_true]
 rw[i];unfold jB;rw[j];dsimp only;rw[F,f,g,G,wE,kV,List.length_map];rfl
def dvB (b:Bool) (d:Int):Int:=match b with|true=>d|false=>0
theorem avS {d:Int} {f:ak} (i:dj f) (g:dj y) {l:Bool} (j:ae 58 [iv e] (.tup [.dat s.enc,bv l])):ae 22 [.dat (eH e d a b m n f k t h y C I c)] (.tup [iv (dvB s.dst d),bv s.dst]):=by
 have o:=@bw e d a b m n _ k t h _ C I c i g;obtain⟨w,p,u,v,z,A,B,D,E,F,q,r⟩:=s;refine co [] [1] (x:=.of Tryz.f22 P8 at7) ?_;refine oo o (on j ?_)
 cases p <;>
 ·exact fi
theorem atA {j:List ak} {q:Int} (g:dj y) {D:Bool} (p:ae 58 [iv h] (.tup [.dat s.enc,bv D])) (A:s.a=true) (d:s.b=true/\(aB h 3=false∨(aB h 3=true/\aB m 5=false)))
  (o:bB ba true 22 [.win (.out 1) 1 0 2,.dat (.slice j)] (some (.cells [iv a,iv b]))=some ⟨.undef,.grow (.cells K) 1 i⟩) (z:bh (.cells K)=true)
  (u:KC 59 [.win (.out 2) 1 0 i] [(.out 2,.cells K)] 3 (XQ ⟨.tup [],[(.out 2,.cells l)],3⟩)) (v:KC 60 [.win (.out 2) 1 0 i] [(.out 2,.cells l)] 3 (XQ ⟨.dat (.slice r),[],3⟩)):ae 24 [.dat (eH h e a b m n (.slice j) k t q y C I c)] (.dat (.slice r)):=by
 have B:=@bw h e a b m n _ k t q _ C I c (.inr ⟨j,rfl⟩) g;obtain⟨w,H,J,L,M,N,O,P,Q,R,E,F⟩:=s
 cases A
 obtain⟨d,f|⟨f,G⟩⟩:=d
 ·cases d
  refine co [24,500040] [1,40] (x:=.of Tryz.f24 P8 B2) ?_;exact oo B (on p (ob f (oo o (ob z (oh u (oh v fi))))))
 cases d
 refine co [24,28,500040] [1,40] (x:=.of Tryz.f24 P8 B2) ?_;exact oo B (on p (ob f (ob G (oo o (ob z (oh u (oh v fi)))))))
theorem avj {l:Int} (g:dj y) {u:Bool} (j:ae 58 [iv h] (.tup [.dat s.enc,bv u])) (A:s.a=true) (d:s.b=true/\(aB h 3=false∨(aB h 3=true/\aB m 5=false))) {i:List ac}
  (o:KC 59 [.win (.out 2) 1 0 2] [(.out 2,.cells [iv a,iv b])] 3 (XQ ⟨.tup [],[(.out 2,.cells i)],3⟩)) (p:KC 60 [.win (.out 2) 1 0 2] [(.out 2,.cells i)] 3 (XQ ⟨.dat (.slice r),[],3⟩)):ae 24 [.dat (eH h e a b m n (nl) k t l y C I c)] (.dat (.slice r)):=by
 have q:=@bw h e a b m n _ k t l _ C I c (.inl rfl) g;obtain⟨w,B,D,E,F,H,J,K,L,M,v,z⟩:=s
 cases A
 obtain⟨d,f|⟨f,G⟩⟩:=d
 ·cases d
  refine co [24] [1] (x:=.of Tryz.f24 P8 B2) ?_;exact oo q (on j (ob f (oh o (oh p fi))))
 cases d
 refine co [24,28] [1] (x:=.of Tryz.f24 P8 B2) ?_;exact oo q (on j (ob f (ob G (oh o (oh p fi)))))
theorem atB {j:List ak} {q:Int} (g:dj y) {D:Bool} (p:ae 58 [iv h] (.tup [.dat s.enc,bv D])) (A:s.a=true) (d:s.b=false∨(s.b=true/\aB h 3=true/\aB m 5=true))
  (o:bB ba true 22 [.win (.out 0) 1 0 1,.dat (.slice j)] (some (.cells [iv a]))=some ⟨.undef,.grow (.cells K) 1 i⟩) (z:bh (.cells K)=true)
  (u:KC 59 [.win (.out 1) 1 0 i] [(.out 1,.cells K)] 2 (XQ ⟨.tup [],[(.out 1,.cells l)],2⟩)) (v:KC 60 [.win (.out 1) 1 0 i] [(.out 1,.cells l)] 2 (XQ ⟨.dat (.slice r),[],2⟩)):ae 24 [.dat (eH h e a b m n (.slice j) k t q y C I c)] (.dat (.slice r)):=by
 have B:=@bw h e a b m n _ k t q _ C I c (.inr ⟨j,rfl⟩) g;obtain⟨w,H,J,L,M,N,O,P,Q,R,E,F⟩:=s
 cases A
 rcases d with d|⟨d,f,G⟩
 ·cases d
  refine co [500040] [1,40] (x:=.of Tryz.f24 P8 B2) ?_;exact oo B (on p (oo o (ob z (oh u (oh v fi)))))
 cases d
 refine co [24,28,500040] [1,40] (x:=.of Tryz.f24 P8 B2) ?_;exact oo B (on p (ob f (ob G (oo o (ob z (oh u (oh v fi)))))))
theorem avk {l:Int} (g:dj y) {u:Bool} (j:ae 58 [iv h] (.tup [.dat s.enc,bv u])) (A:s.a=true) (d:s.b=false∨(s.b=true/\aB h 3=true/\aB m 5=true)) {i:List ac}
  (o:KC 59 [.win (.out 1) 1 0 1] [(.out 1,.cells [iv a])] 2 (XQ ⟨.tup [],[(.out 1,.cells i)],2⟩)) (p:KC 60 [.win (.out 1) 1 0 1] [(.out 1,.cells i)] 2 (XQ ⟨.dat (.slice r),[],2⟩)):ae 24 [.dat (eH h e a b m n (nl) k t l y C I c)] (.dat (.slice r)):=by
 have q:=@bw h e a b m n _ k t l _ C I c (.inl rfl) g;obtain⟨w,B,D,E,F,H,J,K,L,M,v,z⟩:=s
 cases A
 rcases d with d|⟨d,f,G⟩
 ·cases d
  refine co [] [1] (x:=.of Tryz.f24 P8 B2) ?_;exact oo q (on j (oh o (oh p fi)))
 cases d
 refine co [24,28] [1] (x:=.of Tryz.f24 P8 B2) ?_;exact oo q (on j (ob f (ob G (oh o (oh p fi)))))
theorem atC {j:List ak} {q:Int} (g:dj y) {D:Bool} (p:ae 58 [iv h] (.tup [.dat s.enc,bv D])) (A:s.a=false) (d:s.b=true/\(aB h 3=false∨(aB h 3=true/\aB m 5=false)))
  (o:bB ba true 22 [.win (.out 0) 1 0 1,.dat (.slice j)] (some (.cells [iv b]))=some ⟨.undef,.grow (.cells K) 1 i⟩) (z:bh (.cells K)=true)
  (u:KC 59 [.win (.out 1) 1 0 i] [(.out 1,.cells K)] 2 (XQ ⟨.tup [],[(.out 1,.cells l)],2⟩)) (v:KC 60 [.win (.out 1) 1 0 i] [(.out 1,.cells l)] 2 (XQ ⟨.dat (.slice r),[],2⟩)):ae 24 [.dat (eH h e a b m n (.slice j) k t q y C I c)] (.dat (.slice r)):=by
 have B:=@bw h e a b m n _ k t q _ C I c (.inr ⟨j,rfl⟩) g;obtain⟨w,H,J,L,M,N,O,P,Q,R,E,F⟩:=s
 cases A
 obtain⟨d,f|⟨f,G⟩⟩:=d
 ·cases d
  refine co [24,500040] [1,40] (x:=.of Tryz.f24 P8 B2) ?_;exact oo B (on p (ob f (oo o (ob z (oh u (oh v fi))))))
 cases d
 refine co [24,28,500040] [1,40] (x:=.of Tryz.f24 P8 B2) ?_;exact oo B (on p (ob f (ob G (oo o (ob z (oh u (oh v fi)))))))
theorem avl {l:Int} (g:dj y) {u:Bool} (j:ae 58 [iv h] (.tup [.dat s.enc,bv u])) (A:s.a=false) (d:s.b=true/\(aB h 3=false∨(aB h 3=true/\aB m 5=false))) {i:List ac}
  (o:KC 59 [.win (.out 1) 1 0 1] [(.out 1,.cells [iv b])] 2 (XQ ⟨.tup [],[(.out 1,.cells i)],2⟩)) (p:KC 60 [.win (.out 1) 1 0 1] [(.out 1,.cells i)] 2 (XQ ⟨.dat (.slice r),[],2⟩)):ae 24 [.dat (eH h e a b m n (nl) k t l y C I c)] (.dat (.slice r)):=by
 have q:=@bw h e a b m n _ k t l _ C I c (.inl rfl) g;obtain⟨w,B,D,E,F,H,J,K,L,M,v,z⟩:=s
 cases A
 obtain⟨d,f|⟨f,G⟩⟩:=d
 ·cases d
  refine co [24] [1] (x:=.of Tryz.f24 P8 B2) ?_;exact oo q (on j (ob f (oh o (oh p fi))))
 cases d
 refine co [24,28] [1] (x:=.of Tryz.f24 P8 B2) ?_;exact oo q (on j (ob f (ob G (oh o (oh p fi)))))
theorem avm {j:ak} {l:List ak} {u:Int} (g:dj y) {E:Bool} (q:ae 58 [iv h] (.tup [.dat s.enc,bv E])) (A:s.a=false) (d:s.b=false∨(s.b=true/\aB h 3=true/\aB m 5=true)) {o:List ac}
  (p:bB ba true 22 [.own [],.dat (.slice (j::l))] none=some ⟨.undef,.grow (.cells K) 1 i⟩) (B:bh (.cells K)=true)
  (v:KC 59 [.win (.out 0) 1 0 i] [(.out 0,.cells K)] 1 (XQ ⟨.tup [],[(.out 0,.cells o)],1⟩)) (z:KC 60 [.win (.out 0) 1 0 i] [(.out 0,.cells o)] 1 (XQ ⟨.dat (.slice r),[],1⟩)):ae 24 [.dat (eH h e a b m n (.slice (j::l)) k t u y C I c)] (.dat (.slice r)):=by
 have D:=@bw h e a b m n _ k t u _ C I c (.inr ⟨j::l,rfl⟩) g;obtain⟨w,J,L,M,N,O,P,Q,R,S,F,H⟩:=s
 cases A
 rcases d with d|⟨d,f,G⟩
 ·cases d
  refine co [500040] [1,40] (x:=.of Tryz.f24 P8 B2) ?_;exact oo D (on q (oo p (ob B (oh v (oh z fi)))))
 cases d
 refine co [24,28,500040] [1,40] (x:=.of Tryz.f24 P8 B2) ?_;exact oo D (on q (ob f (ob G (oo p (ob B (oh v (oh z fi)))))))
theorem avn {j:Int} (g:dj y) (i:ae 58 [iv h] (.tup [.dat s.enc,bv q])) (A:s.a=false) (d:s.b=false∨(s.b=true/\aB h 3=true/\aB m 5=true))
  (l:KC 59 [.dat (.slice [])] [] 0 (XQ ⟨.tup [],[],0⟩)) (o:ae 60 [.dat (.slice [])] (.dat (.slice []))):ae 24 [.dat (eH h e a b m n (nl) k t j y C I c)] (.dat (.slice [])):=by
 have p:=@bw h e a b m n _ k t j _ C I c (.inl rfl) g;obtain⟨w,v,z,B,D,E,F,H,J,K,r,u⟩:=s
 cases A
 rcases d with d|⟨d,f,G⟩
 ·cases d
  refine co [] [1] (x:=.of Tryz.f24 P8 B2) ?_;exact oo p (on i (on l (on o fi)))
 cases d
 refine co [24,28] [1] (x:=.of Tryz.f24 P8 B2) ?_;exact oo p (on i (ob f (ob G (on l (on o fi)))))
theorem avo {j:Int} (g:dj y) (i:ae 58 [iv h] (.tup [.dat s.enc,bv q])) (A:s.a=false) (d:s.b=false∨(s.b=true/\aB h 3=true/\aB m 5=true))
  (l:KC 59 [.dat (.slice [])] [] 0 (XQ ⟨.tup [],[],0⟩)) (o:ae 60 [.dat (.slice [])] (.dat (.slice []))):ae 24 [.dat (eH h e a b m n (.slice []) k t j y C I c)] (.dat (.slice [])):=by
 have p:=@bw h e a b m n _ k t j _ C I c (.inr ⟨[],rfl⟩) g;obtain⟨w,v,z,B,D,E,F,H,J,K,r,u⟩:=s
 cases A
 rcases d with d|⟨d,f,G⟩
 ·cases d
  refine co [] [1] (x:=.of Tryz.f24 P8 B2) ?_;exact oo p (on i (on l (on o fi)))
 cases d
 refine co [24,28] [1] (x:=.of Tryz.f24 P8 B2) ?_;exact oo p (on i (ob f (ob G (on l (on o fi)))))
theorem aqS:ae 60 [.dat (.slice [])] (.dat (.slice [])):=by
 refine co [] [] (x:=.of Tryz.f60 Py Qz) ?_;exact fi
theorem as7:KC 59 [.dat (.slice [])] [] 0 (XQ ⟨.tup [],[],0⟩):=by
 intro w R N i q H z f g k l j u;obtain⟨p,v,s,E,rfl,rfl,o,m⟩:=au f;obtain⟨rfl,rfl⟩:=aM m;simp only[ai] at o;obtain⟨rfl,o⟩:=o;have o:eU w R p (.slice []):=o;obtain⟨n,c,rfl⟩:∃n c,p=.slice n 0 c:=by
  generalize D:ak.slice []=d at o
  cases o with
  | flat _=>simp at D
  | nil a c=>exact⟨a,c,rfl⟩
  | slice b r c _ t _ _ _ _ _ _ _=>simp at D;subst D;exact⟨_,c,rfl⟩
 refine (AnyM.slices_Sort_int_none Tryz.gO n c w).mono ?_;rintro e x ⟨rfl,rfl⟩;exact⟨_,_,_,0,R,N,[],H,rfl,⟨rfl,rfl,rfl⟩,by simp only[ai];exact⟨[],rfl,aP⟩,g,by simpa using k,l,⟨Step.refl _ _,fun _ _ _=>⟨rfl,fun _ h=>h⟩⟩,fun _ _ h=>h⟩
def usC (l:List Int):List Int:=Go.Lib.compactUpTo (gO l).toArray (gO l).length
theorem aus (y:Int) (b:List Int) (a:b.length < 10000000) :
  bB ba true 22 [.own [],.dat (.slice ((y::b).map iN))] none=some ⟨.undef,.grow (.cells (cH (y::b))) 1 (y::b).length⟩:=by
 have h:=@aog (.out 0) [] 0 (y::b) (by grind) (Nat.le_refl _);have E:bB ba true 22 [.win (.out 0) 1 0 0,.dat (.slice ((y::b).map iN))] (some (.cells (cH [])))=jB ba DE 0 (cH []) (.dat (.slice ((y::b).map iN))):=by
  have c:Nat.beq 1 DE.size=true:=by rfl
  have d:Nat.beq 0 0=true:=rfl;simp only[bB,HU,c,d,Bool.and_self,if_true]
 have F:bB ba true 22 [.own [],.dat (.slice ((y::b).map iN))] none=jB ba DE 0 [] (.dat (.slice ((y::b).map iN))):=by
  rfl
 rw[F];rw[E] at h;have e:cH []=[]:=rfl;grind
def usB (x:Ins):Bool:=(lU (eO x.op)).b&&!(aB x.op 3&&aB x.im 5)
def usP (x:Ins):List Int:=(if (lU (eO x.op)).a then [x.a] else [])++((if usB x then [x.b] else [])++x.ar)
def usI (x:Ins):List Int:=usC (usP x)
def dfI (x:Ins):Option Int:=if (lU (eO x.op)).dst then some x.dst else none
theorem ave (x:Ins):ae 22 [.dat x.enc] (.tup [iv (dvB (lU (eO x.op)).dst x.dst),bv (lU (eO x.op)).dst]):=by
 obtain⟨f,dst,a,b,m,n,d,u,⟨k,t,g,e⟩,C,I,c⟩:=x;exact avS (dq d (u.map iN)) (dr (ax e)) (uT f)
theorem aum (x:Ins) (N:x.ar.length < 1000000):ae 24 [.dat x.enc] (.dat (.slice ((usI x).map iN))):=by
 obtain⟨p,E,a,b,m,n,F,u,⟨k,t,L,J⟩,K,I,c⟩:=x;have D:=uT p;have g:=dr (ax J);have N:u.length < 1000000:=N;have S:∀(o:Nat) (l:List Int),l≠[]->l.length < 100000000->KC 59 [.win (.out o) 1 0 l.length] [(.out o,.cells (cH l))] (o+1) (XQ ⟨.tup [],[(.out o,.cells (cH (gO l)))],o+1⟩):=
  fun o l G H=>Kr o G (by omega)
 have C:∀(o:Nat) (l:List Int),l≠[]->l.length < 100000000->KC 60 [.win (.out o) 1 0 l.length] [(.out o,.cells (cH (gO l)))] (o+1) (XQ ⟨.dat (.slice ((usC l).map iN)),[],o+1⟩):=by
  intro o l G H;have v:=iw l;have M:1<=(gO l).length:=by
   rw[v]
   cases l with
   | nil=>exact absurd rfl G
   | cons _ _=>simp
  have:=LO (l:=gO l) o M (by rw[v];omega) (r:=usC l) rfl
  rw[v] at this;exact this
 have hB:usB ⟨p,E,a,b,m,n,F,u,⟨k,t,L,J⟩,K,I,c⟩=((lU (eO p)).b&&!(aB p 3&&aB m 5)):=rfl;have hP:∀A B,(lU (eO p)).a=A->((lU (eO p)).b&&!(aB p 3&&aB m 5))=B->usI ⟨p,E,a,b,m,n,F,u,⟨k,t,L,J⟩,K,I,c⟩=usC ((if A then [a] else [])++((if B then [b] else [])++u)):=by
  intro A B G H;subst G;subst H;rfl
 generalize lU (eO p)=s at D hP;clear hB;have z:(s.b&&!(aB p 3&&aB m 5))=true->s.b=true/\(aB p 3=false∨(aB p 3=true/\aB m 5=false)):=by
  intro h
  cases G:s.b <;> cases H:aB p 3 <;> cases M:aB m 5 <;> simp_all
 have w:(s.b&&!(aB p 3&&aB m 5))=false->s.b=false∨(s.b=true/\aB p 3=true/\aB m 5=true):=by
  intro h
  cases G:s.b <;> cases H:aB p 3 <;> cases M:aB m 5 <;> simp_all
 have O:∀(d:ak),(⟨p,E,a,b,m,n,F,u,⟨k,t,L,J⟩,K,I,c⟩:Ins).enc=eH p E a b m n (sx F (u.map iN)) k t L (sl (ax J)) K I c:=fun _=>rfl
 rw[O nl]
 cases q:s.a with
 | true=>
  cases i:(s.b&&!(aB p 3&&aB m 5)) with
  | true=>
   rw[hP _ _ q i];simp only[if_true]
   cases u with
   | nil=>
    cases F with
    | false=>exact avj g D q (z i) (S 2 [a,b] (by simp) (by simp)) (C 2 [a,b] (by simp) (by simp))
    | true=>exact atA g D q (z i) (@aog (.out 1) [a,b] 2 [] (by simp) (by simp)) (lB _) (S 2 [a,b] (by simp) (by simp)) (C 2 [a,b] (by simp) (by simp))
   | cons y j=>
    have v:(a::b::y::j).length < 100000000:=by simp only[List.length_cons] at N ⊢;omega
    have e:2+(y::j).length=(a::b::y::j).length:=by simp only[List.length_cons];omega
    have f:=@aog (.out 1) [a,b] 2 (y::j) (by simp only[List.length_cons] at N ⊢;omega) (by simp);rw[e] at f;exact atA g D q (z i) f (lB _) (S 2 (a::b::y::j) (by simp) v) (C 2 (a::b::y::j) (by simp) v)
  | false=>
   rw[hP _ _ q i];simp only[if_true,Bool.false_eq_true,if_false,List.nil_append]
   cases u with
   | nil=>
    cases F with
    | false=>exact avk g D q (w i) (S 1 [a] (by simp) (by simp)) (C 1 [a] (by simp) (by simp))
    | true=>exact atB g D q (w i) (@aog (.out 0) [a] 1 [] (by simp) (by simp)) (lB _) (S 1 [a] (by simp) (by simp)) (C 1 [a] (by simp) (by simp))
   | cons y j=>
    have v:(a::y::j).length < 100000000:=by simp only[List.length_cons] at N ⊢;omega
    have e:1+(y::j).length=(a::y::j).length:=by simp only[List.length_cons];omega
    have f:=@aog (.out 0) [a] 1 (y::j) (by simp only[List.length_cons] at N ⊢;omega) (by simp);rw[e] at f;exact atB g D q (w i) f (lB _) (S 1 (a::y::j) (by simp) v) (C 1 (a::y::j) (by simp) v)
 | false=>
  cases i:(s.b&&!(aB p 3&&aB m 5)) with
  | true=>
   rw[hP _ _ q i];simp only[if_true,Bool.false_eq_true,if_false,List.nil_append]
   cases u with
   | nil=>
    cases F with
    | false=>exact avl g D q (z i) (S 1 [b] (by simp) (by simp)) (C 1 [b] (by simp) (by simp))
    | true=>exact atC g D q (z i) (@aog (.out 0) [b] 1 [] (by simp) (by simp)) (lB _) (S 1 [b] (by simp) (by simp)) (C 1 [b] (by simp) (by simp))
   | cons y j=>
    have v:(b::y::j).length < 100000000:=by simp only[List.length_cons] at N ⊢;omega
    have e:1+(y::j).length=(b::y::j).length:=by simp only[List.length_cons];omega
    have f:=@aog (.out 0) [b] 1 (y::j) (by simp only[List.length_cons] at N ⊢;omega) (by simp);rw[e] at f;exact atC g D q (z i) f (lB _) (S 1 (b::y::j) (by simp) v) (C 1 (b::y::j) (by simp) v)
  | false=>
   rw[hP _ _ q i];simp only[Bool.false_eq_true,if_false,List.nil_append]
   cases u with
   | nil=>
    have P:usC []=[]:=by simp[usC,gO,Go.Lib.compactUpTo]
    rw[P]
    cases F with
    | false=>exact avn g D q (w i) as7 aqS
    | true=>exact avo g D q (w i) as7 aqS
   | cons y j=>
    have v:(y::j).length < 100000000:=by simp only[List.length_cons] at N ⊢;omega
    exact avm g D q (w i) (aus y j (by simp only[List.length_cons] at N;omega)) (lB _) (S 0 (y::j) (by simp) v) (C 0 (y::j) (by simp) v)
theorem ar6 {l:List Int} {s:Int}:s∈Go.Lib.compactUpTo l.toArray l.length↔s∈l:=by
 have c:∀j,j < l.length->∃h:j < l.length,l.toArray[j]! = l[j]:=fun j h=>⟨h,by rw[getElem!_pos l.toArray j (by simpa using h)];simp⟩
 unfold Go.Lib.compactUpTo;rw[List.mem_map]
 constructor
 ·rintro⟨j,d,rfl⟩;obtain⟨d,_⟩:=List.mem_filter.1 d;obtain⟨h,e⟩:=c j (List.mem_range.1 d);rw[e];exact List.getElem_mem h
 intro m;obtain⟨j,d,e⟩:=List.getElem_of_mem m;have g:∀j,j < l.length->l.toArray[j]! = s->∃i,i < l.length/\Go.Lib.keeps l.toArray i=true/\l.toArray[i]! = s:=by
  intro j
  induction j with
  | zero=>intro h e;exact⟨0,h,by simp[Go.Lib.keeps],e⟩
  | succ j n=>
   intro h e
   by_cases k:l.toArray[j+1]! = l.toArray[j]!
   ·exact n (by omega) (k.symm.trans e)
   refine⟨j+1,h,?_,e⟩;simp only[Go.Lib.keeps,decide_eq_true_eq];exact .inr k
 obtain⟨_,F⟩:=c j d;obtain⟨i,a,b,f⟩:=g j d (F.trans e);exact⟨i,List.mem_filter.2 ⟨List.mem_range.2 a,b⟩,f⟩
theorem auO {x:Ins} {s:Int}:s∈usI x↔s∈usP x:=by
 unfold usI usC;rw[ar6];exact (zj _).mem_iff
noncomputable def aqb:TI:=match Go.Tp.elemOf ba 91 with|some t=>t|none=>default
theorem auz:Go.Tp.elemOf ba 91=some aqb:=by kernel_rfl
theorem aq1:aqb.size=1:=by kernel_rfl
noncomputable def tiM:TI:=match ba.ty 92 with|some t=>t|none=>default
theorem atE:ba.ty 92=some tiM:=by kernel_rfl
theorem auA:tiM.isAgg=false:=by kernel_rfl
theorem atD:tiM.size=1:=by kernel_rfl
theorem aor {m:Name} {n k:Nat} (h:k < n):ap ba 91 [.win m 1 0 n,iv (ofNat k)]=some ⟨.ptr m k,.keep⟩:=by
 have:=Go.Tp.uA (m:=m) (off:=0) (s:=1) auz aq1.symm h
 grind
theorem aqI {c:List ac} {k:Nat} {x m:Name} (h:c[k]?=some (.map x)):eB ba false 92 [.ptr m k] (some (.cells c))=some ⟨.map x,.keep⟩:=by
 simp[eB,atE,Go.Tp.loadCells,auA,h,Go.Tp.xj]
theorem arx {x:Name} {m:List Int} (h:m.length<=lim):kb ba 92 [.map x] (some (.map (hY m)))=some ⟨iv (ofNat m.length),.keep⟩:=by
 have e:kb ba 92 [.map x] (some (.map (hY m)))=if (hY m).length<=lim then some ⟨aeR (.int .i64 (hY m).length),.keep⟩ else none:=by kernel_rfl
 have l:(hY m).length=m.length:=List.length_map _;rw[e,l,if_pos h];rfl
noncomputable def tdI:TypeDesc:=match ba.key 3 with|some t=>t|none=>.bool
theorem avq:tdI=.int .i64:=by kernel_rfl
theorem atN (x y:Int):OB tdI (.int .i64 x) (.int .i64 y)=some (aB x y):=by
 rw[avq,OA,cN];simp[Instr.sameNow]
theorem asp (x:Int):∀(m:List Int) (i:Nat),(x∉m->findF tdI (.int .i64 x) (hY m) i=some none)/\(x∈m->∃j,findF tdI (.int .i64 x) (hY m) i=some (some (i+j,.flat (.bool true)))/\j < m.length)
 | [],i=>⟨fun _=>rfl,fun h=>by grind⟩
 | y::r,i=>by
  have e:findF tdI (.int .i64 x) (hY (y::r)) i=(match OB tdI (.int .i64 x) (.int .i64 y) with|some true=>some (some (i,.flat (.bool true)))|some false=>findF tdI (.int .i64 x) (hY r) (i+1)|none=>none):=rfl;rw[e,atN];obtain⟨a,b⟩:=asp x r (i+1)
  by_cases c:x=y
  ·simp_all[eu]
  rw[dL c];refine⟨fun h=>a (fun d=>h (List.mem_cons_of_mem _ d)),fun h=>?_⟩
  rcases List.mem_cons.1 h with h|h
  ·grind
  obtain⟨j,f,g⟩:=b h;exact⟨j+1,by grind,by grind⟩
theorem aq5:∀(m:List Int) (j:Nat),setAt j (.flat (.bool true)) (hY m)=hY m
 | [],j=>by cases j <;> simp[hY,setAt]
 | y::r,0=>rfl
 | y::r,j+1=>by show _::setAt j _ (hY r)=_;rw[aq5 r j];rfl
theorem atL (m:List Int) (x:Int):hY m++[(.int .i64 x,.flat (.bool true))]=hY (m++[x]):=by simp[hY]
theorem arn (z:Name) (m:List Int) (x:Int):gE ba 92 [.map z,iv x,bv true] (some (.map (hY m)))=some ⟨.undef,.set (.map (hY (aqV m x)))⟩:=by
 have e:gE ba 92 [.map z,iv x,bv true] (some (.map (hY m)))=(match findF tdI (.int .i64 x) (hY m) 0 with
   | some (some (i,_))=>some ⟨.undef,.set (.map (setAt i (.flat (.bool true)) (hY m)))⟩
   | some none=>some ⟨.undef,.set (.map (hY m++[(.int .i64 x,.flat (.bool true))]))⟩
   | none=>none):=by kernel_rfl
 grind[asp,aqV,aq5,atL]
theorem ase (o:Nat) {s:Int} {c d:ak} (a:dj c) (b:dj d):eB ba false 26 [.ptr (.out o) 0] (some (.cells (cC p s c d)))=some ⟨.dat (aN p s c d),.keep⟩:=by
 rcases a with rfl|⟨E,rfl⟩ <;> rcases b with rfl|⟨F,rfl⟩ <;> kernel_rfl
noncomputable def hLv:Hints:=⟨bV,P8,bi,rowsOf bi 21⟩
noncomputable def aqe:Code:=tC (apP Tryz.f21)
abbrev LvC (c:Code) (T:Exit->aa->Prop) (s:ab):Prop:=KD c T (s.al gn)
abbrev LvT (T:Exit->aa->Prop) (s:ab):Prop:=T .normal (s.al gn)
def auh (a:List ak):ac:=.fn (.func 89) [] [.ref [.slice a]]
def F00 (c:List ak) (i:Int) (d:ak) (a b:Nat):Sl:=[(41,.dat d),(40,iv i),(39,auh c),(5,.ptr (.out b) 0),(3,.ptr (.out a) 0),(1,.ptr (.out 1) 0)]
def F0g (i:Int) (c a b:Nat):Sl:=[(7,.ptr (.loc 7) 0),(6,iv i),(5,.ptr (.out b) 0),(3,.ptr (.out a) 0),(1,.ptr (.out c) 0)]
abbrev F0 (i:Int) (a b:Nat):Sl:=F0g i 1 a b
def F1 (i c:Int) (a b:Nat):Sl:=(8,iv c)::F0 i a b
def F2 (i c e:Int) (d:Bool) (a b:Nat):Sl:=(10,bv d)::(9,iv e)::F1 i c a b
def F3 (i c e:Int) (d:Bool) (l:ak) (f k:Int) (a b:Nat):Sl:=[(56,iv k),(55,iv f),(54,.dat l),(10,bv d),(9,iv e),(8,iv c),(7,.ptr (.loc 7) 0),(6,iv i),(5,.ptr (.out b) 0),(3,.ptr (.out a) 0)]
section
variable {C I d f g i j k m p r s u v x:Int} {E:List (Go.Value×ak)} {T:ej} {a b:Nat} {c n t:List UInt8} {l y:ak} {o:Bool} {w:Heap}
theorem avD {l o:Int} {f:ak} {h:Int} (r:dj f) (g:dj y) {q:List ak} {p:Nat} (e:LvT T ⟨F0 i a b,[(.loc 7,.cells (cX j d l o m n f k t h y C I c))],w,p⟩) :
  LvC (asX Tryz.f21) T ⟨F00 q i (eH j d l o m n f k t h y C I c) a b,[],w,p⟩:=by
 have s:=@Ic 7 j d l o m n _ k t h _ C I c r g;exact aq [] [100007] (H:=hLv) (live:=lP) (oo s (oe e))
theorem awB {a w l:Int} {r:List UInt8} {j:ak} {q:Int} {n m:Nat} {g h:ak} {f:Bool} {b:List ac} {o:Nat}
  (x:ap ba 91 [.win (.out 0) 1 0 n,iv i]=some ⟨.ptr (.out 0) o,.keep⟩) (z:eB ba false 92 [.ptr (.out 0) o] (some (.cells b))=some ⟨.map (.out 4),.keep⟩)
  (A:kb ba 92 [.map (.out 4)] (some (.map E))=some ⟨iv d,.keep⟩)
  (e:LvT T ⟨F1 i d 2 3,[(.loc 7,.cells (cX u a v w l r j k t q y C I c))],lvB n p s g h 3 f b++[(.out 4,.map E)],m⟩) :
  LvC (WS aqe) T ⟨F0 i 2 3,[(.loc 7,.cells (cX u a v w l r j k t q y C I c))],lvB n p s g h 3 f b++[(.out 4,.map E)],m⟩:=by
 exact aq [] [44,45,46] (H:=hLv) (live:=lP) (oo x (oo z (oo A (oe e))))
theorem awA {l o:Int} {f:ak} {h:Int} (u:dj f) (g:dj y) {q:Bool} {s:Nat}
  (D:ae 22 [.dat (eH j d l o m n f k t h y C I c)] (.tup [iv r,bv q]))
  (e:LvT T ⟨F2 i p r q a b,[(.loc 7,.cells (cX j d l o m n f k t h y C I c))],w,s⟩) :
  LvC (WS (WR aqe)) T ⟨F1 i p a b,[(.loc 7,.cells (cX j d l o m n f k t h y C I c))],w,s⟩:=by
 have v:=@QJ false 7 j d l o m n _ k t h _ C I c u g;exact aq [] [48] (H:=hLv) (live:=lP) (oo v (on D (oe e)))
theorem avE {z B E:Int} {x:List UInt8} {r:ak} {w:Int} {n m:Nat} {f g:ak} (a:dj f) (b:dj g) {l:Bool} {u:List ac} {A:Heap} {q:Int} {h:List ak}
  (D:ae 40 [.dat (aN p s f g),iv i] (.dat (.slice h)))
  (e:LvT T ⟨F3 i j q o (.slice h) (ofNat h.length) 0 2 3,[(.loc 7,.cells (cX z d B E v x r k t w y C I c))],lvB n p s f g 3 l u++A,m⟩) :
  LvC (WS (WS (WR (WR aqe)))) T ⟨F2 i j q o 2 3,[(.loc 7,.cells (cX z d B E v x r k t w y C I c))],lvB n p s f g 3 l u++A,m⟩:=by
 have F:=ase 1 (p:=p) (s:=s) a b;exact aq [] [52] (H:=hLv) (live:=lP) (oo F (on D (oe e)))
theorem avF {A B:Int} {w:List UInt8} {q:ak} {n m:Nat} {f g:ak} (a:dj f) (b:dj g) {j:Bool} {r:List ac} {z:Heap} {h o:Int} {l:Bool}
  (D:ae 40 [.dat (aN p s f g),iv i] (.dat nl))
  (e:LvT T ⟨F3 i h o l nl 0 0 2 3,[(.loc 7,.cells (cX x d A B u w q k t v y C I c))],lvB n p s f g 3 j r++z,m⟩) :
  LvC (WS (WS (WR (WR aqe)))) T ⟨F2 i h o l 2 3,[(.loc 7,.cells (cX x d A B u w q k t v y C I c))],lvB n p s f g 3 j r++z,m⟩:=by
 have E:=ase 1 (p:=p) (s:=s) a b;exact aq [] [52] (H:=hLv) (live:=lP) (oo E (on D (oe e)))
theorem awq {q:ak} {s:Nat} (h:aF f g=false)
  (e:T (.exit 6) ((⟨(57,bv false)::F3 i j p o l g f a b,[(.loc 7,.cells (cX u d v x m n q k t r y C I c))],w,s⟩:ab).al gn)) :
  LvC (anr Tryz.f21 0) T ⟨F3 i j p o l g f a b,[(.loc 7,.cells (cX u d v x m n q k t r y C I c))],w,s⟩:=by
 exact aq [57] [] (H:=hLv) (live:=lP) (ob h (oe e))
theorem awz {q:ak} {s:Nat} (h:aF f g=true)
  (e:LvT T ⟨(57,bv true)::F3 i j p o l g f a b,[(.loc 7,.cells (cX u d v x m n q k t r y C I c))],w,s⟩) :
  LvC (WS (anr Tryz.f21 0)) T ⟨F3 i j p o l g f a b,[(.loc 7,.cells (cX u d v x m n q k t r y C I c))],w,s⟩:=by
 exact aq [57] [] (H:=hLv) (live:=lP) (ob h (oe e))
def F4 (i c e:Int) (d:Bool) (l:ak) (g f j:Int) (a b:Nat):Sl:=(12,iv j)::F3 i c e d l g f a b
theorem awy {z:Int} {q:ak} {l:Int} {g:List ak} {u:Nat} (h:ap ba 22 [.dat (.slice g),iv f]=some ⟨.ref [iN j],.keep⟩)
  (e:LvT T ⟨F4 i l p o (.slice g) s f j a b,[(.loc 7,.cells (cX v d x z m n q k t r y C I c))],w,u⟩) :
  LvC (WS (tC (WS (WR (WR (anr Tryz.f21 0)))))) T ⟨(57,bv true)::F3 i l p o (.slice g) s f a b,[(.loc 7,.cells (cX v d x z m n q k t r y C I c))],w,u⟩:=by
 exact aq [] [58] (H:=hLv) (live:=lP) (oo h (oe e))
theorem awv {o:ak} {h:Bool} {q:Int} {r:Nat}
  (e:LvT T ⟨F3 i g j h l q (an .i64 (f+1)) a b,[(.loc 7,.cells (cX s d u v m n o k t p y C I c))],w,r⟩) :
  LvC (WR (WR (WR (anr Tryz.f21 0)))) T ⟨F3 i g j h l q f a b,[(.loc 7,.cells (cX s d u v m n o k t p y C I c))],w,r⟩:=by
 refine aq [] [] (H:=hLv) (live:=lP) ?_;exact oe e
def F5 (i d:Int) (c:List ak) (f:Int) (a b:Nat):Sl:=[(85,iv f),(84,iv (ofNat c.length)),(83,.dat (.slice c)),(8,iv d),(6,iv i),(5,.ptr (.out b) 0),(3,.ptr (.out a) 0)]
theorem awu {o q:Int} {h:ak} (z:dj h) (g:dj y) {v:Bool} {B:Int} {s:Nat} {u:List ak}
  (A:ae 24 [.dat (eH o d p q m n h k t j y C I c)] (.dat (.slice u)))
  (e:LvT T ⟨F5 i r u 0 a b,[],w,s⟩) :
  LvC (WS (WS (WR (WR (WR aqe))))) T ⟨(57,bv false)::F3 i r x v l B f a b,[(.loc 7,.cells (cX o d p q m n h k t j y C I c))],w,s⟩:=by
 have D:=@QJ false 7 o d p q m n _ k t j _ C I c z g;exact aq [] [82] (H:=hLv) (live:=lP) (oo D (on A (oe e)))
theorem avH {c:List ak} {g:Nat} (h:aF f (ofNat c.length)=false)
  (e:T (.exit 10) ((⟨(86,bv false)::F5 i d c f a b,[],w,g⟩:ab).al gn)) :
  LvC (anr Tryz.f21 2) T ⟨F5 i d c f a b,[],w,g⟩:=by
 exact aq [86] [] (H:=hLv) (live:=lP) (ob h (oe e))
theorem awD {n m:Nat} {k:ak} {j:Bool} {c:List ac} {d:List (Go.Value×ak)} {a:List ak} {o:Nat} (h:aF f (ofNat a.length)=true)
  (v:ap ba 22 [.dat (.slice a),iv f]=some ⟨.ref [iN u],.keep⟩)
  (q:ap ba 91 [.win (.out 0) 1 0 n,iv i]=some ⟨.ptr (.out 0) o,.keep⟩) (r:eB ba false 92 [.ptr (.out 0) o] (some (.cells c))=some ⟨.map (.out 4),.keep⟩)
  (t:gE ba 92 [.map (.out 4),iv u,bv true] (some (.map E))=some ⟨.undef,.set (.map d)⟩)
  (e:LvT T ⟨F5 i g a (an .i64 (f+1)) 2 3,[],lvB n p s k l 3 j c++[(.out 4,.map d)],m⟩) :
  LvC (anr Tryz.f21 2) T ⟨F5 i g a f 2 3,[],lvB n p s k l 3 j c++[(.out 4,.map E)],m⟩:=by
 refine aq [86] [87,91,92,100092] (H:=hLv) (live:=lP) (ob h (oo v (oo q (oo r (oo t ?_)))));refine bn (b:=true) rfl (by kernel_rfl) ?_;exact oe e
theorem ava {n m:Nat} {d e:ak} {a:Bool} {b:List ac} {t:List ak} {o:Nat} {c:Bool}
  (l:ap ba 91 [.win (.out 0) 1 0 n,iv i]=some ⟨.ptr (.out 0) o,.keep⟩) (q:eB ba false 92 [.ptr (.out 0) o] (some (.cells b))=some ⟨.map (.out 4),.keep⟩)
  (r:kb ba 92 [.map (.out 4)] (some (.map E))=some ⟨iv j,.keep⟩) (h:aB j g=c)
  (k:a=true->LvT T ⟨[],[],lvB n p s d e 3 true b++[(.out 4,.map E)],m⟩)
  (F:a=false->LvT T ⟨[],[],lvB n p s d e 3 (!c) b++[(.out 4,.map E)],m⟩) :
  LvC (WR (WR (WR (WR aqe)))) T ⟨(86,bv false)::F5 i g t f 2 3,[],lvB n p s d e 3 a b++[(.out 4,.map E)],m⟩:=by
 refine aq [103] [99,100,101] (H:=hLv) (live:=lP) ?_
 cases a
 ·refine oo l (oo q (oo r (ox h ?_)))
  cases c <;>
  ·exact oe (F rfl)
 exact oe (k rfl)
end
noncomputable def aru:Code:=anr Tryz.f21 1
noncomputable def arb:Code:=WR (tC (WS (WR (WR (anr Tryz.f21 0)))))
def F6 (N:Nat) (i c e:Int) (d:Bool) (l:ak) (g f:Int) (a b:Nat):Sl:=(64,.ptr (.out N) 0)::F3 i c e d l g f a b
section
theorem aww {v d x z m:Int} {n:List UInt8} {p:ak} {k:Int} {t:List UInt8} {q:Int} {y:ak} {C I:Int} {o:List UInt8} {N:Nat} {w:Heap} {i j g:Int} {e:Bool} {l:ak} {r f u:Int} {a b s:Nat} {c:Bool} {T:ej} (h:aB u g=c)
  (E:e=false->LvT T ⟨(75,bv true)::(13,iv u)::F6 N i j g false l r f a b,[(.loc 7,.cells (cX v d x z m n p k t q y C I o))],w,s⟩)
  (F:e=true->LvT T ⟨(75,bv (!c))::(13,iv u)::F6 N i j g true l r f a b,[(.loc 7,.cells (cX v d x z m n p k t q y C I o))],w,s⟩) :
  LvC (WS (WR (tC (WR (WR aru))))) T ⟨(13,iv u)::F6 N i j g e l r f a b,[(.loc 7,.cells (cX v d x z m n p k t q y C I o))],w,s⟩:=by
 refine aq [74] [] (H:=hLv) (live:=lP) ?_
 cases e
 ·exact oe (E rfl)
 refine ox h ?_
 cases c <;>
 ·exact oe (F rfl)
theorem avb {F a G J z:Int} {D:List UInt8} {x:ak} {k:Int} {t:List UInt8} {A:Int} {y:ak} {C I:Int} {c:List UInt8} {N n m:Nat} {p s:Int} {q r:ak} {j:Bool} {d:List ac} {E g:List (Go.Value×ak)} {i h w:Int} {v:Bool} {l:ak} {B f u:Int} {o:Nat} {T:ej}
  (K:ap ba 91 [.win (.out 0) 1 0 n,iv i]=some ⟨.ptr (.out 0) o,.keep⟩) (L:eB ba false 92 [.ptr (.out 0) o] (some (.cells d))=some ⟨.map (.out 4),.keep⟩)
  (M:gE ba 92 [.map (.out 4),iv u,bv true] (some (.map E))=some ⟨.undef,.set (.map g)⟩)
  (e:LvT T ⟨F6 N i h w v l B f 2 3,[(.loc 7,.cells (cX F a G J z D x k t A y C I c))],lvB n p s q r 3 j d++[(.out 4,.map g)],m⟩) :
  LvC (apn (WR (WR (tC (WR (WR aru)))))) T ⟨(75,bv true)::(13,iv u)::F6 N i h w v l B f 2 3,[(.loc 7,.cells (cX F a G J z D x k t A y C I c))],lvB n p s q r 3 j d++[(.out 4,.map E)],m⟩:=by
 refine aq [] [78,79,100079] (H:=hLv) (live:=lP) (oo K (oo L (oo M ?_)));refine bn (b:=true) rfl (by kernel_rfl) ?_;exact oe e
noncomputable def apl:List Oper:=akR (WS arb)
noncomputable def ap8:List Oper:=akR (WS aru)
noncomputable def aqD:List Oper:=akR (WS (tC (WR (WR aru))))
def F7 (n:Nat) (i c e:Int) (d:Bool) (l:ak) (g f j:Int) (o:Nat) (a b:Nat):Sl:=(63,.map (.out 5))::(62,.ptr (.out 0) o)::(61,iv j)::(60,.win (.out 0) 1 0 n)::F4 i c e d l g f j a b
theorem auH {D a F G m:Int} {B:List UInt8} {w:ak} {k:Int} {t:List UInt8} {z:Int} {y:ak} {C I:Int} {c:List UInt8} {n N:Nat} {p s:Int} {q r:ak} {g:Bool} {b:List ac} {E d:List (Go.Value×ak)} {i e v:Int} {u:Bool} {l:ak} {A f j:Int} {o:Nat}
  (H:ap ba 91 [.win (.out 0) 1 0 n,iv j]=some ⟨.ptr (.out 0) o,.keep⟩) (J:eB ba false 92 [.ptr (.out 0) o] (some (.cells b))=some ⟨.map (.out 5),.keep⟩) {T:aa->Prop}
  (h:T ((⟨F7 n i e v u l A f j o 2 3,[(.loc 7,.cells (cX D a F G m B w k t z y C I c))],lvB n p s q r 3 g b++[(.out 4,.map E),(.out 5,.map d)],N⟩:ab).al gn)) :
  (O9 (Sv []) (Sv [62,63]) ba cM (hLv.at 20) gn apl (apl.take 4) ⟨F4 i e v u l A f j 2 3,[(.loc 7,.cells (cX D a F G m B w k t z y C I c))],lvB n p s q r 3 g b++[(.out 4,.map E),(.out 5,.map d)],N⟩ (fun x=>Qy.fin x)).Ok Tryz.prog cM (fun x=>T (x.al gn)):=by
 refine oo H (oo J ?_);exact apc (⟨F7 n i e v u l A f j o 2 3,[(.loc 7,.cells (cX D a F G m B w k t z y C I c))],lvB n p s q r 3 g b++[(.out 4,.map E),(.out 5,.map d)],N⟩) (by kernel_rfl) (by kernel_rfl) h
theorem aw5 (a:Heap) (x y:Name×aL):a++[x,y]=(a++[x])++[y]:=by simp
theorem atK {f:List Int} {i:Nat} (h:i < f.length):(hY f)[i]?=some (.int .i64 (f.getD i 0),.flat (.bool true)):=by
 unfold hY;grind
theorem hi2 {n m:Nat} {p s:Int} {g h:ak} {f:Bool} {c:List ac} {a b:List (Go.Value×ak)} (j:6<=m) (i:BI m c=false):GM m (lvB n p s g h 3 f c++[(.out 4,.map a),(.out 5,.map b)])=false:=by
 have d:∀q,q < 6->Nat.ble m q=false:=by
  intro q k
  cases e:Nat.ble m q with
  | true=>have:=fD e;omega
  | false=>rfl
 simp only[lvB,IT,List.cons_append,List.nil_append,GM,Z5,BI,Sw,d 5 (by omega),d 4 (by omega),d 3 (by omega),d 2 (by omega),d 1 (by omega),d 0 (by omega),i,Bool.or_false,Bool.false_or];rfl
def dfO (a:Bool) (b:Int):Option Int:=if a then some b else none
theorem awx {op dst xa xb im:Int} {nm:List UInt8} {dx:ak} {k:Int} {tn:List UInt8} {ix:Int} {dt:ak} {ck ci:Int} {cs:List UInt8} {n N:Nat} {p s:Int} {d1 d2:ak} {ch:Bool} {fs:List ac} {m f:List Int} {i be dv:Int} {db:Bool} {l:ak} {ln kk j:Int} {oi oj:Nat} {T:ej} (h6:6<=N) (hfs:BI N fs=false) (hfl:∀x∈f,aqg x)
  (fj1:ap ba 91 [.win (.out 0) 1 0 n,iv j]=some ⟨.ptr (.out 0) oj,.keep⟩) (fj2:eB ba false 92 [.ptr (.out 0) oj] (some (.cells fs))=some ⟨.map (.out 5),.keep⟩)
  (fi1:ap ba 91 [.win (.out 0) 1 0 n,iv i]=some ⟨.ptr (.out 0) oi,.keep⟩) (fi2:eB ba false 92 [.ptr (.out 0) oi] (some (.cells fs))=some ⟨.map (.out 4),.keep⟩)
  (e:∀S:List Nat,(∀i,i < f.length->i∈S)->(∀i∈S,i < f.length)->LvT T ⟨F3 i be dv db l ln kk 2 3,[(.loc 7,.cells (cX op dst xa xb im nm dx k tn ix dt ck ci cs))],lvB n p s d1 d2 3 ch fs++[(.out 4,.map (hY (vk (dfO db dv) m f S))),(.out 5,.map (hY f))],N⟩) :
  LvC arb T ⟨F4 i be dv db l ln kk j 2 3,[(.loc 7,.cells (cX op dst xa xb im nm dx k tn ix dt ck ci cs))],lvB n p s d1 d2 3 ch fs++[(.out 4,.map (hY m)),(.out 5,.map (hY f))],N⟩:=by
 have key:LvC arb (fun e q=>e=.normal/\∃S:List Nat,(∀i,i < f.length->i∈S)/\(∀i∈S,i < f.length)/\q=(⟨(66,bv false)::(65,.tup [bv false])::F6 N i be dv db l ln kk 2 3,[(.loc 7,.cells (cX op dst xa xb im nm dx k tn ix dt ck ci cs))],lvB n p s d1 d2 3 ch fs++[(.out 4,.map (hY (vk (dfO db dv) m f S))),(.out 5,.map (hY f))],N+1⟩:ab).al gn)
   ⟨F4 i be dv db l ln kk j 2 3,[(.loc 7,.cells (cX op dst xa xb im nm dx k tn ix dt ck ci cs))],lvB n p s d1 d2 3 ch fs++[(.out 4,.map (hY m)),(.out 5,.map (hY f))],N⟩:=by
  refine aqh (H:=hLv.at 20) JS (by kernel_rfl) (by kernel_rfl) ?_;have h4:apl.drop 4=aqc apl 4::apl.drop 5:=apj (by kernel_rfl);have h5:apl.drop 5=[]:=by kernel_rfl
  have hr:=atO (T:=fun q=>q=(⟨F7 n i be dv db l ln kk j oj 2 3,[(.loc 7,.cells (cX op dst xa xb im nm dx k tn ix dt ck ci cs))],lvB n p s d1 d2 3 ch fs++[(.out 4,.map (hY m)),(.out 5,.map (hY f))],N⟩:ab).al gn)
   (all:=apl) (pre:=apl.take 4) (rest:=apl.drop 4) (by rw[h4];simp) (K:=apZ Tryz.prog cM apl (WR arb) (fun e q=>e=.normal/\∃S:List Nat,(∀i,i < f.length->i∈S)/\(∀i∈S,i < f.length)/\q=(⟨(66,bv false)::(65,.tup [bv false])::F6 N i be dv db l ln kk 2 3,[(.loc 7,.cells (cX op dst xa xb im nm dx k tn ix dt ck ci cs))],lvB n p s d1 d2 3 ch fs++[(.out 4,.map (hY (vk (dfO db dv) m f S))),(.out 5,.map (hY f))],N+1⟩:ab).al gn)) (auH (T:=fun q=>q=(⟨F7 n i be dv db l ln kk j oj 2 3,[(.loc 7,.cells (cX op dst xa xb im nm dx k tn ix dt ck ci cs))],lvB n p s d1 d2 3 ch fs++[(.out 4,.map (hY m)),(.out 5,.map (hY f))],N⟩:ab).al gn) fj1 fj2 rfl) ?_
  ·rw[List.take_append_drop] at hr;exact hr
  ·rintro q rfl;rw[h4,h5];show apZ _ _ _ _ _ _ _;refine⟨63,92,3,4,5,hY f,lvB n p s d1 d2 3 ch fs++[(.out 4,.map (hY m))],by kernel_rfl,by kernel_rfl,by kernel_rfl,by kernel_rfl,?_,?_⟩
   ·have e1:=aw5 (lvB n p s d1 d2 3 ch fs) (.out 4,.map (hY m)) (.out 5,.map (hY f));show (_++[_,_]:Heap).Perm _;rw[e1];exact List.perm_append_comm
   show vw Tryz.prog cM (MIt 5 N (hY f)) (WR arb) _ _ [];refine apE 8 (by kernel_rfl) ?_;refine asl (J:=MIt 5 N (hY f)) (α:=List Nat) (by kernel_rfl) [3,5,6,7,8,9,10,54,55,56,64] [7] (fun S=>(⟨F6 N i be dv db l ln kk 2 3,[(.loc 7,.cells (cX op dst xa xb im nm dx k tn ix dt ck ci cs))],lvB n p s d1 d2 3 ch fs++[(.out 4,.map (hY (vk (dfO db dv) m f S)))],N+1⟩:ab).al gn)
    (fun S=>S) (fun S=>S.Nodup/\∀i∈S,i < f.length) (fun S=>f.length - S.length) [] ⟨List.nodup_nil,by simp⟩ (by kernel_rfl) rfl ?_
   rintro S ⟨hnd,hlt⟩;have e8:inLoop (tC (WR arb))=aru:=by kernel_rfl
   rw[e8];dsimp only;have h0:ap8=aqc ap8 0::ap8.drop 1:=apj (k:=0) (by kernel_rfl);have h0':aqD=aqc aqD 0::aqD.drop 1:=apj (k:=0) (by kernel_rfl);refine anH (by kernel_rfl) (aqN (H:=hLv.at 21) JS (by kernel_rfl) ?_)
   suffices hg:∀Q:aa->List Nat->Prop,((∀i,i < f.length->i∈S)->Q ((⟨(66,bv false)::(65,.tup [bv false])::F6 N i be dv db l ln kk 2 3,[(.loc 7,.cells (cX op dst xa xb im nm dx k tn ix dt ck ci cs))],lvB n p s d1 d2 3 ch fs++[(.out 4,.map (hY (vk (dfO db dv) m f S)))],N+1⟩:ab).al gn) S)->
     (∀x,x < f.length->x∉S->Q ((⟨(66,bv true)::(65,.tup [bv true,.undef,.undef])::F6 N i be dv db l ln kk 2 3,[(.loc 7,.cells (cX op dst xa xb im nm dx k tn ix dt ck ci cs))],lvB n p s d1 d2 3 ch fs++[(.out 4,.map (hY (vk (dfO db dv) m f S)))],N+1⟩:ab).al gn) (x::S))->
     ao0 Tryz.prog ba cM (hLv.at 21) N (hY f) ap8 Q (aqc ap8 0::ap8.drop 1) ((⟨F6 N i be dv db l ln kk 2 3,[(.loc 7,.cells (cX op dst xa xb im nm dx k tn ix dt ck ci cs))],lvB n p s d1 d2 3 ch fs++[(.out 4,.map (hY (vk (dfO db dv) m f S)))],N+1⟩:ab).al gn) S by
    rw[←h0] at hg;refine hg _ ?_ ?_
    ·intro hall;dsimp only;refine anH (by kernel_rfl) (amI (t:=66) (by kernel_rfl) (b:=false) (by kernel_rfl) ?_);have e9:apo (WS (WR aru))=.exit 8:=by kernel_rfl
     simp only[Bool.false_eq_true,if_false];rw[e9];refine asL (@aiy 5 N (hY f)) ?_;dsimp only;rw[if_pos rfl];refine⟨lvB n p s d1 d2 3 ch fs++[(.out 4,.map (hY (vk (dfO db dv) m f S))),(.out 5,.map (hY f))],?_,trivial,S,hall,hlt,rfl⟩;rw[aw5];exact List.perm_append_comm (l₁:=[_])
    intro x hx hxS;dsimp only;refine anH (by kernel_rfl) (amI (t:=66) (by kernel_rfl) (b:=true) (by kernel_rfl) ?_);have e9:apn (WS (WR aru))=.skip:=by kernel_rfl
    simp only[if_true];rw[e9];refine aqM (@aiy 5 N (hY f)) ?_;dsimp only;refine apE 9 (by kernel_rfl) (anH (by kernel_rfl) ?_);refine apD [3,5,6,7,8,9,10,54,55,56,64] [7] ?_;have e10:((⟨(66,bv true)::(65,.tup [bv true,.undef,.undef])::F6 N i be dv db l ln kk 2 3,[(.loc 7,.cells (cX op dst xa xb im nm dx k tn ix dt ck ci cs))],lvB n p s d1 d2 3 ch fs++[(.out 4,.map (hY (vk (dfO db dv) m f S)))],N+1⟩:ab).al gn).keep [3,5,6,7,8,9,10,54,55,56,64] [7]=(⟨F6 N i be dv db l ln kk 2 3,[(.loc 7,.cells (cX op dst xa xb im nm dx k tn ix dt ck ci cs))],lvB n p s d1 d2 3 ch fs++[(.out 4,.map (hY (vk (dfO db dv) m f S)))],N+1⟩:ab).al gn:=by kernel_rfl
    rw[e10];refine aqN (H:=hLv.at 22) JS (by kernel_rfl) ?_;generalize hu:f.getD x 0=u;have hux:aqg u:=by
     rw[←hu,List.getD_eq_getElem?_getD,List.getElem?_eq_getElem hx];exact hfl _ (List.getElem_mem hx)
    suffices hg2:∀Q:aa->List Nat->Prop,Q ((⟨(13,iv u)::(68,iv u)::(67,.tup [iv u,.undef])::F6 N i be dv db l ln kk 2 3,[(.loc 7,.cells (cX op dst xa xb im nm dx k tn ix dt ck ci cs))],lvB n p s d1 d2 3 ch fs++[(.out 4,.map (hY (vk (dfO db dv) m f S)))],N+1⟩:ab).al gn) (x::S)->
      ao0 Tryz.prog ba cM (hLv.at 22) N (hY f) aqD Q (aqc aqD 0::aqD.drop 1) ((⟨F6 N i be dv db l ln kk 2 3,[(.loc 7,.cells (cX op dst xa xb im nm dx k tn ix dt ck ci cs))],lvB n p s d1 d2 3 ch fs++[(.out 4,.map (hY (vk (dfO db dv) m f S)))],N+1⟩:ab).al gn) (x::S) by
     rw[←h0'] at hg2;refine hg2 _ ?_;dsimp only;refine anH (by kernel_rfl) ?_;refine apD [3,5,6,7,8,9,10,13,54,55,56,64] [7] ?_;have e11:((⟨(13,iv u)::(68,iv u)::(67,.tup [iv u,.undef])::F6 N i be dv db l ln kk 2 3,[(.loc 7,.cells (cX op dst xa xb im nm dx k tn ix dt ck ci cs))],lvB n p s d1 d2 3 ch fs++[(.out 4,.map (hY (vk (dfO db dv) m f S)))],N+1⟩:ab).al gn).keep [3,5,6,7,8,9,10,13,54,55,56,64] [7]=(⟨(13,iv u)::F6 N i be dv db l ln kk 2 3,[(.loc 7,.cells (cX op dst xa xb im nm dx k tn ix dt ck ci cs))],lvB n p s d1 d2 3 ch fs++[(.out 4,.map (hY (vk (dfO db dv) m f S)))],N+1⟩:ab).al gn:=by kernel_rfl
     rw[e11];have hok:(x::S).Nodup/\∀y∈x::S,y < f.length:=⟨List.nodup_cons.2 ⟨hxS,hnd⟩,by
      intro y hy
      rcases List.mem_cons.1 hy with rfl|hy
      ·exact hx
      exact hlt y hy⟩
     have hμ:f.length - (x::S).length < f.length - S.length:=by
      have:=List.Nodup.length_le_of_subset hok.1 (l₂:=List.range f.length) (fun y hy=>List.mem_range.2 (hok.2 y hy))
      simp only[List.length_cons,List.length_range] at this ⊢;omega
     have fin:∀(m2:List Int) (sl:Sl),vk (dfO db dv) m f (x::S)=m2->((⟨sl,[(.loc 7,.cells (cX op dst xa xb im nm dx k tn ix dt ck ci cs))],lvB n p s d1 d2 3 ch fs++[(.out 4,.map (hY m2))],N+1⟩:ab).al gn).keep [3,5,6,7,8,9,10,54,55,56,64] [7]=(⟨F6 N i be dv db l ln kk 2 3,[(.loc 7,.cells (cX op dst xa xb im nm dx k tn ix dt ck ci cs))],lvB n p s d1 d2 3 ch fs++[(.out 4,.map (hY m2))],N+1⟩:ab).al gn->
       ∃x':List Nat,(x'.Nodup/\∀i∈x',i < f.length)/\f.length - x'.length < f.length - S.length/\((⟨sl,[(.loc 7,.cells (cX op dst xa xb im nm dx k tn ix dt ck ci cs))],lvB n p s d1 d2 3 ch fs++[(.out 4,.map (hY m2))],N+1⟩:ab).al gn).keep [3,5,6,7,8,9,10,54,55,56,64] [7]=(⟨F6 N i be dv db l ln kk 2 3,[(.loc 7,.cells (cX op dst xa xb im nm dx k tn ix dt ck ci cs))],lvB n p s d1 d2 3 ch fs++[(.out 4,.map (hY (vk (dfO db dv) m f x')))],N+1⟩:ab).al gn/\x::S=x':=by
      intro m2 sl h1 h2;exact⟨x::S,hok,hμ,by rw[h1];exact h2,rfl⟩
     have hv:vk (dfO db dv) m f (x::S)=visit (dfO db dv) (vk (dfO db dv) m f S) u:=by
      show visit _ _ (f.getD x 0)=_;rw[hu]
     generalize vk (dfO db dv) m f S=m1 at *;have ec:∀b:Bool,an5 75 (WR (WR (tC (WR (WR aru)))))=true:=fun _=>by kernel_rfl
     have ecF:apo (WR (WR (tC (WR (WR aru)))))=.skip:=by kernel_rfl
     refine afA (@aiy 5 N (hY f)) (aww rfl ?_ ?_)
     ·intro hdb;subst hdb;refine amI (t:=75) (ec true) (b:=true) (by kernel_rfl) ?_;simp only[if_true];refine afA (@aiy 5 N (hY f)) (avb fi1 fi2 (arn _ _ _) ?_);refine fin _ _ ?_ (by kernel_rfl);rw[hv];rfl
     intro hdb;subst hdb
     cases huv:aB u dv with
     | true=>
      refine amI (t:=75) (ec true) (b:=false) (by kernel_rfl) ?_;simp only[Bool.false_eq_true,if_false];rw[ecF];refine aqM (@aiy 5 N (hY f)) ?_;dsimp only;refine fin _ _ ?_ (by kernel_rfl);rw[hv]
      have:u=dv:=by rw[cN] at huv;simpa using huv
      subst this;simp[visit,dfO]
     | false=>
      refine amI (t:=75) (ec true) (b:=true) (by kernel_rfl) ?_;simp only[if_true];refine afA (@aiy 5 N (hY f)) (avb fi1 fi2 (arn _ _ _) ?_);refine fin _ _ ?_ (by kernel_rfl);rw[hv]
      have:dv≠u:=by
       intro e;subst e;rw[eu] at huv;simp at huv
      simp[visit,dfO,this]
    intro Q hQ;refine asJ 64 x (k:=.int .i64 u) (d:=.flat (.bool true)) (by kernel_rfl) (by kernel_rfl) (by kernel_rfl) (by rw[atK hx,hu]) (apV hux) ?_;have e12:(((⟨F6 N i be dv db l ln kk 2 3,[(.loc 7,.cells (cX op dst xa xb im nm dx k tn ix dt ck ci cs))],lvB n p s d1 d2 3 ch fs++[(.out 4,.map (hY (vk (dfO db dv) m f S)))],N+1⟩:ab).al gn).put (aqc aqD 0).dst (.tup [.dat (.flat (.int .i64 u)),.undef]))=(⟨(67,.tup [iv u,.undef])::F6 N i be dv db l ln kk 2 3,[(.loc 7,.cells (cX op dst xa xb im nm dx k tn ix dt ck ci cs))],lvB n p s d1 d2 3 ch fs++[(.out 4,.map (hY (vk (dfO db dv) m f S)))],N+1⟩:ab).al gn:=by kernel_rfl
    rw[e12];refine aqL (A:=Sv []) (B:=Sv []) (T:=fun q=>q=(⟨(13,iv u)::(68,iv u)::(67,.tup [iv u,.undef])::F6 N i be dv db l ln kk 2 3,[(.loc 7,.cells (cX op dst xa xb im nm dx k tn ix dt ck ci cs))],lvB n p s d1 d2 3 ch fs++[(.out 4,.map (hY (vk (dfO db dv) m f S)))],N+1⟩:ab).al gn) (apc (T:=fun q=>q=(⟨(13,iv u)::(68,iv u)::(67,.tup [iv u,.undef])::F6 N i be dv db l ln kk 2 3,[(.loc 7,.cells (cX op dst xa xb im nm dx k tn ix dt ck ci cs))],lvB n p s d1 d2 3 ch fs++[(.out 4,.map (hY (vk (dfO db dv) m f S)))],N+1⟩:ab).al gn) (⟨(13,iv u)::(68,iv u)::(67,.tup [iv u,.undef])::F6 N i be dv db l ln kk 2 3,[(.loc 7,.cells (cX op dst xa xb im nm dx k tn ix dt ck ci cs))],lvB n p s d1 d2 3 ch fs++[(.out 4,.map (hY (vk (dfO db dv) m f S)))],N+1⟩) (by kernel_rfl) (by kernel_rfl) rfl) ?_;rintro q rfl;exact hQ
   intro Q hQ1 hQ2;refine atq 64 (by kernel_rfl) (by kernel_rfl) (by kernel_rfl) (fun hall=>?_) (fun x hx hxS=>?_)
   ·have e13:(((⟨F6 N i be dv db l ln kk 2 3,[(.loc 7,.cells (cX op dst xa xb im nm dx k tn ix dt ck ci cs))],lvB n p s d1 d2 3 ch fs++[(.out 4,.map (hY (vk (dfO db dv) m f S)))],N+1⟩:ab).al gn).put (aqc ap8 0).dst (.tup [.dat (.flat (.bool false))]))=(⟨(65,.tup [bv false])::F6 N i be dv db l ln kk 2 3,[(.loc 7,.cells (cX op dst xa xb im nm dx k tn ix dt ck ci cs))],lvB n p s d1 d2 3 ch fs++[(.out 4,.map (hY (vk (dfO db dv) m f S)))],N+1⟩:ab).al gn:=by kernel_rfl
    rw[e13];refine aqL (A:=Sv []) (B:=Sv []) (T:=fun q=>q=(⟨(66,bv false)::(65,.tup [bv false])::F6 N i be dv db l ln kk 2 3,[(.loc 7,.cells (cX op dst xa xb im nm dx k tn ix dt ck ci cs))],lvB n p s d1 d2 3 ch fs++[(.out 4,.map (hY (vk (dfO db dv) m f S)))],N+1⟩:ab).al gn) (apc (T:=fun q=>q=(⟨(66,bv false)::(65,.tup [bv false])::F6 N i be dv db l ln kk 2 3,[(.loc 7,.cells (cX op dst xa xb im nm dx k tn ix dt ck ci cs))],lvB n p s d1 d2 3 ch fs++[(.out 4,.map (hY (vk (dfO db dv) m f S)))],N+1⟩:ab).al gn) (⟨(66,bv false)::(65,.tup [bv false])::F6 N i be dv db l ln kk 2 3,[(.loc 7,.cells (cX op dst xa xb im nm dx k tn ix dt ck ci cs))],lvB n p s d1 d2 3 ch fs++[(.out 4,.map (hY (vk (dfO db dv) m f S)))],N+1⟩) (by kernel_rfl) (by kernel_rfl) rfl) ?_;rintro q rfl;exact hQ1 (fun i hi=>hall i (by rw[show (hY f).length=f.length from List.length_map _];exact hi))
   have e13:(((⟨F6 N i be dv db l ln kk 2 3,[(.loc 7,.cells (cX op dst xa xb im nm dx k tn ix dt ck ci cs))],lvB n p s d1 d2 3 ch fs++[(.out 4,.map (hY (vk (dfO db dv) m f S)))],N+1⟩:ab).al gn).put (aqc ap8 0).dst (.tup [.dat (.flat (.bool true)),.undef,.undef]))=(⟨(65,.tup [bv true,.undef,.undef])::F6 N i be dv db l ln kk 2 3,[(.loc 7,.cells (cX op dst xa xb im nm dx k tn ix dt ck ci cs))],lvB n p s d1 d2 3 ch fs++[(.out 4,.map (hY (vk (dfO db dv) m f S)))],N+1⟩:ab).al gn:=by kernel_rfl
   rw[e13];refine aqL (A:=Sv []) (B:=Sv []) (T:=fun q=>q=(⟨(66,bv true)::(65,.tup [bv true,.undef,.undef])::F6 N i be dv db l ln kk 2 3,[(.loc 7,.cells (cX op dst xa xb im nm dx k tn ix dt ck ci cs))],lvB n p s d1 d2 3 ch fs++[(.out 4,.map (hY (vk (dfO db dv) m f S)))],N+1⟩:ab).al gn) (apc (T:=fun q=>q=(⟨(66,bv true)::(65,.tup [bv true,.undef,.undef])::F6 N i be dv db l ln kk 2 3,[(.loc 7,.cells (cX op dst xa xb im nm dx k tn ix dt ck ci cs))],lvB n p s d1 d2 3 ch fs++[(.out 4,.map (hY (vk (dfO db dv) m f S)))],N+1⟩:ab).al gn) (⟨(66,bv true)::(65,.tup [bv true,.undef,.undef])::F6 N i be dv db l ln kk 2 3,[(.loc 7,.cells (cX op dst xa xb im nm dx k tn ix dt ck ci cs))],lvB n p s d1 d2 3 ch fs++[(.out 4,.map (hY (vk (dfO db dv) m f S)))],N+1⟩) (by kernel_rfl) (by kernel_rfl) rfl) ?_;rintro q rfl;exact hQ2 x (by rw[show (hY f).length=f.length from List.length_map _] at hx;exact hx) hxS
 refine cL.low (cL.awK [3,5,6,7,8,9,10,54,55,56] [7] (Q':=fun e q=>e=.normal/\∃S:List Nat,(∀i,i < f.length->i∈S)/\(∀i∈S,i < f.length)/\q=(⟨F3 i be dv db l ln kk 2 3,[(.loc 7,.cells (cX op dst xa xb im nm dx k tn ix dt ck ci cs))],lvB n p s d1 d2 3 ch fs++[(.out 4,.map (hY (vk (dfO db dv) m f S))),(.out 5,.map (hY f))],N+1⟩:ab).al gn) key ?_) ?_
 ·rintro e q ⟨rfl,S,h1,h2,rfl⟩;exact⟨rfl,S,h1,h2,by kernel_rfl⟩
 rintro e q ⟨rfl,S,h1,h2,rfl⟩;have k1:BI 4 ((⟨F3 i be dv db l ln kk 2 3,[(.loc 7,.cells (cX op dst xa xb im nm dx k tn ix dt ck ci cs))],lvB n p s d1 d2 3 ch fs++[(.out 4,.map (hY (vk (dfO db dv) m f S))),(.out 5,.map (hY f))],N+1⟩:ab).al gn).tmps=false:=by kernel_rfl
 exact⟨agm (by show 4<=N;omega) k1,by kernel_rfl,hi2 h6 hfs,e S h1 h2⟩
end
section
variable {C I a f i k m:Int} {c n t:List UInt8} {y:ak}
theorem arB {g d h:Int} {e:ak} {F:Nat->Nat->Sl} (a:∀ρ:Nat->Nat,ρ 0=0->ρ 1=1->il ρ (tmL (F 2 3))=tmL (F (ρ 2) (ρ 3))) (b:BI 4 (tmL (F 2 3))=false):Fit F [(.loc 7,.cells (cX g d h i m n e k t f y C I c))]:=
 ⟨a,b,fun _=>rfl,fun _=>rfl⟩
theorem apF {F:Nat->Nat->Sl} (a:∀ρ:Nat->Nat,ρ 0=0->ρ 1=1->il ρ (tmL (F 2 3))=tmL (F (ρ 2) (ρ 3))) (b:BI 4 (tmL (F 2 3))=false):Fit F []:=⟨a,b,fun _=>rfl,fun _=>rfl⟩
theorem axH {g j:Int} {b:ak} {d:Int}:Fit (F0 i) [(.loc 7,.cells (cX f a g j m n b k t d y C I c))]:=arB (fun ρ _ h=>by
 have e:il ρ (tmL (F0g i 1 2 3))=tmL (F0g i (ρ 1) (ρ 2) (ρ 3)):=by kernel_rfl
 grind) (by kernel_rfl)
theorem axG {g b j l:Int} {d:ak}:Fit (F1 i a) [(.loc 7,.cells (cX g b j l m n d k t f y C I c))]:=arB (fun ρ _ h=>by
 have e:il ρ (tmL ((8,iv a)::F0g i 1 2 3))=tmL ((8,iv a)::F0g i (ρ 1) (ρ 2) (ρ 3)):=by kernel_rfl
 rw[h] at e;exact e) (by kernel_rfl)
theorem aw0 {l d o p:Int} {g:ak} {j:Int} {b:Bool}:Fit (F2 i a f b) [(.loc 7,.cells (cX l d o p m n g k t j y C I c))]:=arB (fun ρ _ h=>by
 have e:il ρ (tmL ((10,bv b)::(9,iv f)::(8,iv a)::F0g i 1 2 3))=tmL ((10,bv b)::(9,iv f)::(8,iv a)::F0g i (ρ 1) (ρ 2) (ρ 3)):=by kernel_rfl
 rw[h] at e;exact e) (by kernel_rfl)
theorem auY {o p q:Int} {g:ak} {h:Int} {b e:Int} {d:Bool} {l:ak} {j:Int}:Fit (F3 i b e d l j f) [(.loc 7,.cells (cX o a p q m n g k t h y C I c))]:=arB (fun _ _ _=>by kernel_rfl) (by kernel_rfl)
theorem awZ {b:List ak}:Fit (F5 i a b f) []:=apF (fun _ _ _=>by kernel_rfl) (by kernel_rfl)
theorem avd {c:Int} {d:List ak}:Fit (fun a b=>(86,bv false)::F5 i c d f a b) []:=apF (fun _ _ _=>by kernel_rfl) (by kernel_rfl)
theorem awY:Fit (fun _ _=>[]) []:=apF (fun _ _ _=>by kernel_rfl) (by kernel_rfl)
theorem apQ {n:Nat} {p s:Int} {a b:ak} {c:Code} {Q:Exit->aa->Prop} {F F':Nat->Nat->Sl} {L e:Heap} {f ch':Bool} {d:List (List Int)} {i:Nat} {m m':List Int} (j:d.length=n) (o:d[i]?=some m) (k:Fit F L) (g:Fit F' e)
  (h:∀T:Exit->aa->Prop,LvT T ⟨F' 2 3,e,lH1 n p s a b i ch' m',5+n⟩->LvC c T ⟨F 2 3,L,lH1 n p s a b i f m,5+n⟩)
  (l:LvT Q ⟨F' 2 (3+n),e,lvH n p s a b ch' (d.set i m'),4+n⟩):LvC c Q ⟨F 2 (3+n),L,lvH n p s a b f d,4+n⟩:=
 by grind[au0]
theorem atY {i:Nat}:nm1 i i=4:=by simp[nm1]
theorem awi {i j:Nat}:lR i j i=4:=by simp[lR]
theorem awh {i j:Nat} (h:i≠j):lR i j j=5:=by grind[lR]
theorem amH {a:List (List Int)} {i:Nat} {m:List Int} (h:a[i]?=some m):a.set i m=a:=by
 apply List.ext_getElem?
 grind
theorem asb {op z xa xb im:Int} {nm:List UInt8} {V:ak} {tn:List UInt8} {ix:Int} {U:ak} {n:Nat} {p s:Int} {R T:ak} {P:Bool} {o:List (List Int)} {i:Nat} {m:List Int} {O A:Int} {w:Bool} {d:List Nat} {Q:Exit->aa->Prop} (v:o.length=n) (hm:o[i]?=some m) (ad:∀j∈d,j < n/\i≠j) (am:d.length<=2) (W:∀j x,x∈o.getD j []->aqg x)
  {l:ak} (hl:d≠[]->l=.slice ((d.map ofNat).map iN))
  (e:∀m',Grow m m' (fun x=>∃j∈d,x∈o.getD j []/\dfO w A≠some x)->Q .normal ((⟨(57,bv false)::F3 (ofNat i) O A w l (ofNat d.length) (ofNat d.length) 2 (3+n),[(.loc 7,.cells (cX op z xa xb im nm V k tn ix U C I c))],lvH n p s R T P (o.set i m'),4+n⟩:ab).al gn)) :
  LvC (WR (WS (WR (WR aqe)))) Q ⟨F3 (ofNat i) O A w l (ofNat d.length) 0 2 (3+n),[(.loc 7,.cells (cX op z xa xb im nm V k tn ix U C I c))],lvH n p s R T P o,4+n⟩:=by
 have Z:i < n:=by rw[←v];exact (List.getElem?_eq_some_iff.1 hm).1
 refine afC 6 (by kernel_rfl) ?_;have el:inLoop (tC (WR (WS (WR (WR aqe)))))=anr Tryz.f21 0:=by kernel_rfl
 refine aok (α:=Nat×List Int) (by kernel_rfl) (fun x=>(⟨F3 (ofNat i) O A w l (ofNat d.length) (ofNat x.1) 2 (3+n),[(.loc 7,.cells (cX op z xa xb im nm V k tn ix U C I c))],lvH n p s R T P (o.set i x.2),4+n⟩:ab).al gn)
  (fun x=>x.1<=d.length/\Grow m x.2 (fun y=>∃j∈d.take x.1,y∈o.getD j []/\dfO w A≠some y)) (fun x=>d.length - x.1) (0,m) ⟨Nat.zero_le _,(apg m).congr fun y=>by simp⟩ (by rw[amH hm];rfl) ?_
 rintro⟨u,H⟩ ⟨hk,J⟩;rw[el];dsimp only at hk J ⊢
 by_cases r:u < d.length
 ·have D:d[u]?=some d[u]:=List.getElem?_eq_getElem r;have M:=List.getElem_mem r;have N:d.take (u+1)=d.take u++[d[u]]:=by rw[List.take_add_one,D];rfl
  generalize d[u]=j at D M N;obtain⟨F,E⟩:=ad j M;have ag:d≠[]:=by intro h;subst h;simp at r
  obtain rfl:=hl ag;have L:(o.set i H).length=n:=by rw[List.length_set];exact v
  have af:(o.set i H)[i]?=some H:=by rw[List.getElem?_set];simp[v,Z]
  obtain⟨f,hf⟩:∃f,o[j]?=some f:=⟨_,List.getElem?_eq_getElem (by rw[v];exact F)⟩;have B:o.getD j []=f:=by rw[List.getD_eq_getElem?_getD,hf];rfl
  have Y:(o.set i H)[j]?=some f:=by rw[List.getElem?_set,if_neg E];exact hf
  refine av2 E L af Y auY ?_;have c1:apn (WS (WR (anr Tryz.f21 0)))=.skip:=by kernel_rfl
  refine lD (by kernel_rfl) (awz (br r) ?_);refine lD (by kernel_rfl) (ao7 (t:=57) (by kernel_rfl) (b:=true) (by kernel_rfl) ?_);simp only[if_true];rw[c1];refine gD amX ?_;dsimp only;refine lD (by kernel_rfl) (afC 7 (by kernel_rfl) (lD (by kernel_rfl) (awy (j:=ofNat j) ?_ ?_)))
  ·exact wb (by rw[List.getElem?_map,D];rfl)
  dsimp only;refine awx (oi:=i) (oj:=j) (by omega) ?_ ?_ (aor F) (aqI (by rw[apw F,awh E])) (aor Z) (aqI (by rw[apw Z,awi])) ?_
  ·refine aqp ?_;intro q hq;unfold lR
   split
   ·omega
   split <;> omega
  ·intro x hx;exact W j x (by rw[B];exact hx)
  intro S a h2;refine awv ?_;have hw:an .i64 (ofNat u+1)=ofNat (u+1):=bb (by omega);rw[hw];refine⟨_,_,_,vk (dfO w A) H f S,auY,rfl,?_⟩;refine⟨(u+1,vk (dfO w A) H f S),⟨r,(J.trans (arz a h2)).congr fun y=>?_⟩,by dsimp only;omega,by rw[List.set_set]⟩;rw[N];simp only[List.mem_append,List.mem_singleton]
  constructor
  ·rintro (⟨q,K,g⟩|⟨K,g⟩)
   ·exact⟨q,.inl K,g⟩
   exact⟨j,.inr rfl,by rw[B];exact K,g⟩
  rintro⟨q,K|rfl,g,G⟩
  ·exact .inl ⟨q,K,g,G⟩
  exact .inr ⟨by rw[←B];exact g,G⟩
 have:u=d.length:=by omega
 subst this;refine awq (cj r) ?_;unfold xU;dsimp only;rw[if_pos rfl];refine e H (J.congr fun y=>?_);rw[List.take_length]
theorem atm {n:Nat} {p s:Int} {t v:ak} {r:Bool} {d:List (List Int)} {i:Nat} {m:List Int} {q:Int} {a:List Int} {Q:Exit->aa->Prop} (g:d.length=n) (B:d[i]?=some m) (E:a.length < 1000000000)
  (e:∀m',Grow m m' (fun x=>x∈a)->Q .normal ((⟨(86,bv false)::F5 (ofNat i) q (a.map iN) (ofNat a.length) 2 (3+n),[],lvH n p s t v r (d.set i m'),4+n⟩:ab).al gn)) :
  LvC (WR (WS (WR (WR (WR aqe))))) Q ⟨F5 (ofNat i) q (a.map iN) 0 2 (3+n),[],lvH n p s t v r d,4+n⟩:=by
 have w:i < n:=by rw[←g];exact (List.getElem?_eq_some_iff.1 B).1
 refine afC 10 (by kernel_rfl) ?_;have C:inLoop (tC (WR (WS (WR (WR (WR aqe))))))=anr Tryz.f21 2:=by kernel_rfl
 refine aok (α:=Nat×List Int) (by kernel_rfl) (fun x=>(⟨F5 (ofNat i) q (a.map iN) (ofNat x.1) 2 (3+n),[],lvH n p s t v r (d.set i x.2),4+n⟩:ab).al gn)
  (fun x=>x.1<=a.length/\Grow m x.2 (fun y=>y∈a.take x.1)) (fun x=>a.length - x.1) (0,m) ⟨Nat.zero_le _,(apg m).congr fun y=>by simp⟩ (by rw[amH B];rfl) ?_
 rintro⟨f,j⟩ ⟨D,J⟩;rw[C];dsimp only at D J ⊢;have c:(a.map iN).length=a.length:=List.length_map _
 by_cases b:f < a.length
 ·have h:a[f]?=some a[f]:=List.getElem?_eq_getElem b;have l:a.take (f+1)=a.take f++[a[f]]:=by rw[List.take_add_one,h];rfl
  generalize a[f]=u at h l;have k:(d.set i j).length=n:=by rw[List.length_set];exact g
  have z:(d.set i j)[i]?=some j:=by rw[List.getElem?_set];simp[g,w]
  refine apQ (ch':=r) (m':=aqV j u) k z awZ (F':=F5 (ofNat i) q (a.map iN) (ofNat (f+1))) awZ (fun T A=>?_) ?_
  ·have F:an .i64 (ofNat f+1)=ofNat (f+1):=bb (by omega);rw[←F] at A;exact awD (o:=i) (br (by rw[c];exact b)) (wb h) (aor w) (aqI (by rw[apw w,atY])) (arn _ _ _) A
  refine⟨(f+1,aqV j u),⟨b,(J.trans (apW j u)).congr fun y=>?_⟩,by dsimp only;omega,by rw[List.set_set]⟩;rw[l];simp
 have:f=a.length:=by omega
 subst this;refine avH (cj (by rw[c];exact b)) ?_;unfold xU;dsimp only;rw[if_pos rfl];refine e j (J.congr fun y=>?_);rw[List.take_length]
end
def suL (a:List Ins) (i:Nat):List Nat:=na a i
def usL (a:List Ins) (i:Nat):List Int:=match a[i]? with|some x=>usI x|none=>[]
def dfL (a:List Ins) (i:Nat):Option Int:=match a[i]? with|some x=>dfI x|none=>none
structure aqX (ins:List Ins):Prop where
 ok:tR ins
 pos:ins≠[]
 len:ins.length < 1000000
 args:∀x∈ins,x.ar.length < 1000000
 abh:∀i,i < ins.length->i∉na ins i
 u64:∀x∈aow ins.length (usL ins),aqg x
 ulen:(aow ins.length (usL ins)).length < 1000000000
abbrev LvS (a:List Ins) (b:List (List Int)):Prop:=LOk a.length (suL a) (usL a) (dfL a) b
theorem avR {m m':List Int} {a:Int} (h:a=ofNat m.length):(!aB (ofNat m'.length) a)=decide (m'.length≠m.length):=by
 subst h;rw[A0]
 grind
theorem apN {ins:List Ins}:∀i,i < ins.length->∀j∈suL ins i,j < ins.length:=fun i a j b=>(eh ins).lt i a j b
theorem arK {us:Nat->List Int} {n i:Nat} (h:i < n):(us i).length<=(aow n us).length:=by
 induction n with
 | zero=>omega
 | succ n a=>
  unfold aow at a ⊢;rw[List.range_succ,List.flatMap_append,List.length_append]
  grind
theorem auR {d:List Ins} {p s:Int} {d2:ak} (g2:dj d2) (U:aqX d) {ch:Bool} {o:List (List Int)} (S:LvS d o) {i:Nat} {q dst G H B:Int} {n:List UInt8} {v:Bool} {u:List Int} {k:Int} {t:List UInt8} {D:Int} {w:List Ty} {C I:Int} {c:List UInt8} (hx:d[i]?=some ⟨q,dst,G,H,B,n,v,u,⟨k,t,D,w⟩,C,I,c⟩)
  {Q:Exit->aa->Prop} (hQ:∀m',Grow (o.getD i []) m' (ap0 (suL d) (usL d) (dfL d) o i)->LvT Q ⟨[],[],lvH d.length p s (.slice (encI d)) d2 (ch||decide (m'.length≠(o.getD i []).length)) (o.set i m'),4+d.length⟩) :
  LvC (apP Tryz.f21) Q ⟨F0 (ofNat i) 2 (3+d.length),[(.loc 7,.cells (cX q dst G H B n (sx v (u.map iN)) k t D (sl (ax w)) C I c))],lvH d.length p s (.slice (encI d)) d2 ch o,4+d.length⟩:=by
 have g3:=dq v (u.map iN);have g:=dr (ax w);have L:i < d.length:=(List.getElem?_eq_some_iff.1 hx).1;have a4:(⟨q,dst,G,H,B,n,v,u,⟨k,t,D,w⟩,C,I,c⟩:Ins)∈d:=List.mem_of_getElem? hx;have f:=S.len;obtain⟨m,N⟩:∃m,o[i]?=some m:=⟨_,List.getElem?_eq_getElem (by rw[f];exact L)⟩;have af:o.getD i []=m:=by rw[List.getD_eq_getElem?_getD,N];rfl
 rw[af] at hQ;have a9:m.length<=lim:=by
  have h1:=S.aqH i;have h2:=U.ulen;rw[af] at h1;simp only[lim];omega
 have y:=@aor (.out 0) _ _ L;have z:eB ba false _ [.ptr (.out 0) i] (some (.cells (lC (nm1 i) d.length)))=some ⟨.map (.out 4),.keep⟩:=aqI (by rw[apw L,atY]);have al:ae 22 [.dat (eH q dst G H B n (sx v (u.map iN)) k t D (sl (ax w)) C I c)] (.tup [iv (dvB (lU (eO q)).dst dst),bv (lU (eO q)).dst]):=ave ⟨q,dst,G,H,B,n,v,u,⟨k,t,D,w⟩,C,I,c⟩;have A:=aum ⟨q,dst,G,H,B,n,v,u,⟨k,t,D,w⟩,C,I,c⟩ (U.args _ a4);have R:=ZR (p:=p) (sl:=s) g2 hx (by have:=U.len;omega);rw[←Fj U.ok hx] at R;have Z:usL d i=usI ⟨q,dst,G,H,B,n,v,u,⟨k,t,D,w⟩,C,I,c⟩:=by unfold usL;rw[hx]
 have am:dfL d i=dfO (lU (eO q)).dst (dvB (lU (eO q)).dst dst):=by
  unfold dfL;rw[hx];show dfI _=_;unfold dfI dfO
  cases h:(lU (eO q)).dst with
  | true=>simp[h,dvB]
  | false=>simp[h]
 have a1:=vm d i;have a2:∀j∈na d i,j < d.length/\i≠j:=fun j hj=>⟨(eh d).lt i L j hj,fun e=>U.abh i L (e ▸ hj)⟩
 have ag:∀j x,x∈o.getD j []->aqg x:=fun j x hx=>U.u64 x (S.sub j x hx)
 have be:(usI ⟨q,dst,G,H,B,n,v,u,⟨k,t,D,w⟩,C,I,c⟩).length < 1000000000:=by
  refine Nat.lt_of_le_of_lt ?_ U.ulen;rw[←Z];exact arK L
 generalize bm:usI ⟨q,dst,G,H,B,n,v,u,⟨k,t,D,w⟩,C,I,c⟩=us at *;generalize bf:(lU (eO q)).dst=db at *;generalize bk:dvB db dst=dv at *;have A:ae 24 [.dat (eH q dst G H B n (sx v (u.map iN)) k t D (sl (ax w)) C I c)] (.dat (.slice (us.map iN))):=A;refine afC 5 (by kernel_rfl) ?_;show LvC aqe _ _;refine lD (by kernel_rfl) (apQ (ch':=ch) (m':=m) (F':=F1 (ofNat i) (ofNat m.length)) f N axH axG (fun T K=>awB y z (arx a9) K) ?_);rw[amH N];refine lD (by kernel_rfl) (awA g3 g al ?_);refine lD (by kernel_rfl) ?_;have ad:∀(l:ak) (M:List Int),Grow m M (fun x=>∃j∈na d i,x∈o.getD j []/\dfO db dv≠some x)->
   LvC (WR (WR (WR aqe))) (fun e s'=>match e with|.normal=>Q .normal s'|.exit i=>if i=5 then Q .normal s' else Q (.exit i) s'|e=>Q e s') ⟨(57,bv false)::F3 (ofNat i) (ofNat m.length) dv db l (ofNat (na d i).length) (ofNat (na d i).length) 2 (3+d.length),[(.loc 7,.cells (cX q dst G H B n (sx v (u.map iN)) k t D (sl (ax w)) C I c))],lvH d.length p s (.slice (encI d)) d2 ch (o.set i M),4+d.length⟩:=by
  intro l M a6;have a0:(o.set i M).length=d.length:=by rw[List.length_set];exact f
  have a8:(o.set i M)[i]?=some M:=by rw[List.getElem?_set];simp[f,L]
  refine lD (by kernel_rfl) (lD (by kernel_rfl) (awu g3 g A ?_));refine atm a0 a8 be ?_;intro E a7;dsimp only;rw[List.set_set];have J:Grow m E (ap0 (suL d) (usL d) (dfL d) o i):=(a6.trans a7).congr fun x=>by
   unfold ap0;rw[Z,am]
   constructor
   ·rintro (h|h)
    ·exact .inr h
    exact .inl h
   rintro (h|h)
   ·exact .inr h
   exact .inl h
  have a5:LvS d (o.set i E):=S.set apN L (by rw[af];exact J);have W:E.length<=lim:=by
   have h1:=a5.aqH i;have h2:=U.ulen;rw[anG (by rw[f];exact L),if_pos rfl] at h1;simp only[lim];omega
  have V:(o.set i E).length=d.length:=by rw[List.length_set];exact f
  have O:(o.set i E)[i]?=some E:=by rw[List.getElem?_set];simp[f,L]
  have hq:=hQ E J;rw[←avR (m:=m) (m':=E) rfl] at hq
  cases ch
  ·refine apQ (ch':=!aB (ofNat E.length) (ofNat m.length)) (m':=E) (F:=fun a b=>(86,bv false)::F5 (ofNat i) (ofNat m.length) (us.map iN) (ofNat us.length) a b) (F':=fun _ _=>[]) V O avd awY (fun T K=>ava y z (arx W) rfl (fun h=>by simp at h) (fun _=>K)) ?_;rw[amH O];exact hq
  refine @apQ _ _ _ _ _ _ _ (fun a b=>(86,bv false)::F5 (ofNat i) (ofNat m.length) (us.map iN) (ofNat us.length) a b) (fun _ _=>[]) _ _ _ true _ _ _ E V O avd awY (fun T K=>ava y z (arx W) rfl (fun _=>K) (fun h=>by simp at h)) ?_;rw[amH O];exact hq
 by_cases P:na d i=[]
 ·have e0:ofNat (na d i).length=0:=by rw[P];rfl
  have Y:=R;rw[P] at Y;refine lD (by kernel_rfl) (apQ (ch':=ch) (m':=m) (F':=F3 (ofNat i) (ofNat m.length) dv db nl (ofNat (na d i).length) 0) f N aw0 auY (fun T K=>by
   rw[e0] at K;exact avF (.inr ⟨_,rfl⟩) g2 Y K) ?_)
  rw[amH N];exact asb f N a2 a1 ag (fun h=>absurd P h) (fun M h1=>ad nl M h1)
 have bd:sl (((na d i).map ofNat).map iN)=.slice (((na d i).map ofNat).map iN):=by
  cases hq:na d i with
  | nil=>exact absurd hq P
  | cons a r=>rfl
 rw[bd] at R;have a3:(((na d i).map ofNat).map iN).length=(na d i).length:=by simp
 refine lD (by kernel_rfl) (apQ (ch':=ch) (m':=m) (F':=F3 (ofNat i) (ofNat m.length) dv db (.slice (((na d i).map ofNat).map iN)) (ofNat (((na d i).map ofNat).map iN).length) 0) f N aw0 auY (fun T K=>avE (.inr ⟨_,rfl⟩) g2 R K) ?_);rw[amH N,a3];exact asb f N a2 a1 ag (fun _=>rfl) (fun M h1=>ad _ M h1)
def FR (c:List ak) (a b:Nat):Sl:=[(39,auh c),(5,.ptr (.out b) 0),(3,.ptr (.out a) 0),(1,.ptr (.out 1) 0)]
theorem at1 {a:List Ins} {p s:Int} {o:ak} (A:dj o) (D:aqX a) {f:List (List Int)} {hp0:Heap} {nx0:Nat} {k:Nat} (E:k < a.length) {x:Ins} (F:a[k]?=some x) {w:Heap} {l:Nat}
  (h:∃e d,w=lvH a.length p s (.slice (encI a)) o d e/\l=4+a.length/\aol a.length (suL a) (usL a) (dfL a) f e (k+1) d) :
  Round Tryz.prog cM [40,41] (asX Tryz.f21) (apP Tryz.f21) (arN ((⟨FR (encI a) 2 (3+a.length),[],hp0,nx0⟩:ab).al gn).tmps) [iv (ofNat k),.dat x.enc] w l
   (fun w l=>∃e d,w=lvH a.length p s (.slice (encI a)) o d e/\l=4+a.length/\aol a.length (suL a) (usL a) (dfL a) f e k d):=by
 obtain⟨e,d,rfl,rfl,hP⟩:=h;obtain⟨r,b,v,y,m,n,i,u,⟨z,t,q,j⟩,C,I,c⟩:=x;have B:=dq i (u.map iN);have g:=dr (ax j);have G:ap2 [40,41] [iv (ofNat k),.dat (eH r b v y m n (sx i (u.map iN)) z t q (sl (ax j)) C I c)] (arN ((⟨FR (encI a) 2 (3+a.length),[],hp0,nx0⟩:ab).al gn).tmps)=tmL (F00 (encI a) (ofNat k) (eH r b v y m n (sx i (u.map iN)) z t q (sl (ax j)) C I c) 2 (3+a.length)):=by kernel_rfl
 show cL _ _ _ _ (⟨ap2 [40,41] [iv (ofNat k),.dat (eH r b v y m n (sx i (u.map iN)) z t q (sl (ax j)) C I c)] _,[],_,_⟩:aa);refine avD B g ?_;refine⟨rfl,auR A D hP.ok F ?_⟩;intro H J;exact⟨rfl,_,_,rfl,rfl,hP.round apN E J⟩
theorem as5 {d:List Ins} {k:Nat} {x:Ins} (g:d[k]?=some x):∃c,ap ba 23 [.dat (.slice (encI d)),iv (ofNat k)]=some ⟨.ref c,.keep⟩/\eB ba false 45 [.ref c] none=some ⟨.dat x.enc,.keep⟩:=by
 have h:=xn g;obtain⟨l,f,a,b,m,n,e,u,⟨o,t,j,i⟩,C,I,c⟩:=x;exact⟨_,h,yv false (dq e (u.map iN)) (dr (ax i))⟩
theorem auP {d:List Ins} {p s:Int} {m:ak} (u:dj m) (t:aqX d) {j:List (List Int)} (q:LvS d j) {L:Heap} {Q:Exit->aa->Prop}
  (v:∀h e,aol d.length (suL d) (usL d) (dfL d) j h 0 e->LvT Q ⟨FR (encI d) 2 (3+d.length),L,lvH d.length p s (.slice (encI d)) m e h,4+d.length⟩) :
  sD Tryz.prog cM (.rangeFunc (.tmp 39) #[40,41] (asX Tryz.f21) (apP Tryz.f21)) Q ((⟨FR (encI d) 2 (3+d.length),L,lvH d.length p s (.slice (encI d)) m false j,4+d.length⟩:ab).al gn):=by
 refine ar7 (gf:=89) (captured:=[.ref [.slice (encI d)]]) JS (K:=fun w n=>∃h e,w=lvH d.length p s (.slice (encI d)) m e h/\n=4+d.length/\aol d.length (suL d) (usL d) (dfL d) j h 0 e)
  Tryz.func89 (ci:=ZW Tryz.f89) (by kernel_rfl) (by kernel_rfl) (by kernel_rfl) (by kernel_rfl) ?_ ?_
 ·intro l B a b f g G;have i:(encI d).length=d.length:=bH d;refine asQ (fun k w n=>∃h e,w=lvH d.length p s (.slice (encI d)) m e h/\n=4+d.length/\aol d.length (suL d) (usL d) (dfL d) j h k e) a b (by rw[f];rfl) (by rw[i];have:=t.len;omega) ?_ ?_
  ·intro k o;rw[i] at o;have r:d[k]?=some d[k]:=List.getElem?_eq_getElem o;generalize d[k]=x at r;obtain⟨c,z,A⟩:=as5 r;refine⟨c,x.enc,z,A,?_⟩;intro w n y;rw[f,g,G];exact at1 (hp0:=lvH d.length p s (.slice (encI d)) m false j) (nx0:=4+d.length) u t o r y
  rw[i];exact⟨j,false,rfl,rfl,asd q⟩
 ·rintro w n ⟨h,e,rfl,rfl,hP⟩;exact v h e hP
theorem awn {p s v:Int} {a b:ak} (c:dj a) (d:dj b) (o:ae 13 [.dat (aN p s a b)] (iv v)) (h:aB v 0=false):ae 21 [.dat (aN p s a b)] (.dat nl):=by
 have e:=aS (p:=p) (s:=s) c d;have f:=aO false 1 (p:=p) (s:=s) c d;refine co [21] [1,19] (x:=.of Tryz.f21 P8 lP) ?_;exact oo e (oo f (on o (ox h fi)))
section
variable {T:ej} {a n:Nat} {f p s:Int} {w:Heap}
theorem awm {a b:ak} (c:dj a) (d:dj b) (e:LvT T ⟨[(1,.ptr (.loc 1) 0)],[(.loc 1,.cells (cC p s a b))],[],0⟩) :
  LvC (du Tryz.f21 0) T ⟨rG 0 [.dat (aN p s a b)],[],[],0⟩:=by
 have f:=aS (p:=p) (s:=s) c d;exact aq [] [1] (H:=hLv) (live:=lP) (oo f (oe e))
theorem awl {a b:ak} (c:dj a) (d:dj b) (o:ae 13 [.dat (aN p s a b)] (iv 0)) (e:LvT T ⟨[(21,bv false),(1,.ptr (.loc 1) 0)],[(.loc 1,.cells (cC p s a b))],[],0⟩) :
  LvC (du Tryz.f21 1) T ⟨[(1,.ptr (.loc 1) 0)],[(.loc 1,.cells (cC p s a b))],[],0⟩:=by
 have f:=aO false 1 (p:=p) (s:=s) c d;exact aq [] [19] (H:=hLv) (live:=lP) (oo f (on o (oe e)))
theorem awk {d:ak} {c:List ak} {fs0:List ac} (a:fR ba 91 [iv (ofNat c.length),iv (ofNat c.length)]=some ⟨.undef,.grow (.cells fs0) 1 n⟩) (b:bh (.cells fs0)=true)
  (e:LvT T ⟨[(3,.ptr (.loc 3) 0),(1,.ptr (.loc 1) 0)],[(.loc 3,.cells [.win (.out 0) 1 0 n]),(.loc 1,.cells (cC p s (.slice c) d))],[(.out 0,.cells fs0)],1⟩) :
  LvC (du Tryz.f21 2) T ⟨[(21,bv false),(1,.ptr (.loc 1) 0)],[(.loc 1,.cells (cC p s (.slice c) d))],[],0⟩:=by
 exact aq [500025] [25] (H:=hLv) (live:=lP) (oo a (ob b (oe e)))
def lvA (n:Nat) (p s:Int) (a b:ak) (c:List ac):Heap:=[(.out 2,.cells [.win (.out 0) 1 0 n]),(.out 1,.cells (cC p s a b)),(.out 0,.cells c)]
def FM (n:Nat) (k:Int):Sl:=[(28,iv k),(27,iv (ofNat n)),(3,.ptr (.out 2) 0),(1,.ptr (.out 1) 0)]
theorem awj {b c:ak} {a:List ac} (d:kb ba 91 [.win (.out 0) 1 0 n] none=some ⟨iv (ofNat n),.keep⟩)
  (e:LvT T ⟨FM n 0,[],lvA n p s b c a,3⟩) :
  LvC (WS (du Tryz.f21 3)) T ⟨[(3,.ptr (.loc 3) 0),(1,.ptr (.loc 1) 0)],[(.loc 3,.cells [.win (.out 0) 1 0 n]),(.loc 1,.cells (cC p s b c))],[(.out 0,.cells a)],1⟩:=by
 exact aq [] [27] (H:=hLv) (live:=lP) (oo d (oe e))
theorem awo {n:Nat} {p s:Int} {c d:ak} {T:ej} {m:Nat} {g a:List ac} {f:Int} {o:Nat} (h:aF f (ofNat n)=true)
  (i:ap ba 91 [.win (.out 0) 1 0 n,iv f]=some ⟨.ptr (.out 0) o,.keep⟩) (j:cG ba 92 [.ptr (.out 0) o,.map (.out (m+3))] (some (.cells g))=some ⟨.undef,.set (.cells a)⟩) (b:bh (.cells a)=true)
  (e:LvT T ⟨FM n (an .i64 (f+1)),[],(.out (m+3),.map [])::lvA n p s c d a,m+3+1⟩) :
  LvC (roundOf Tryz.f21 0) T ⟨FM n f,[],lvA n p s c d g,m+3⟩:=by
 exact aq [29,600034] [34,100034] (H:=hLv) (live:=lP) (ob h (oo i (oo j (ob b (oe e)))))
theorem avC (h:aF f (ofNat n)=false)
  (e:T (.exit 0) ((⟨(29,bv false)::FM n f,[],w,a⟩:ab).al gn)) :
  LvC (roundOf Tryz.f21 0) T ⟨FM n f,[],w,a⟩:=by
 exact aq [29] [] (H:=hLv) (live:=lP) (ob h (oe e))
def Fsl:Sl:=[(5,.ptr (.loc 5) 0),(3,.ptr (.out 2) 0),(1,.ptr (.out 1) 0)]
theorem axp (e:LvT T ⟨Fsl,[(.loc 5,.cells [bv true])],w,a⟩) :
  LvC (WS (du Tryz.f21 4)) T ⟨(29,bv false)::FM n f,[],w,a⟩:=by
 refine aq [] [] (H:=hLv) (live:=lP) ?_;exact oe e
theorem avB {b:Nat} {a:Bool} (e:LvT T ⟨(36,bv a)::Fsl,[(.loc 5,.cells [bv a])],w,b⟩) :
  LvC (WS (WS (roundOf Tryz.f21 1))) T ⟨Fsl,[(.loc 5,.cells [bv a])],w,b⟩:=by
 refine aq [] [] (H:=hLv) (live:=lP) ?_;exact oe e
theorem avA {b:Bool} (e:LvT T ⟨Fsl,[(.loc 5,.cells [bv false])],w,a⟩) :
  LvC (WS (tC (WS (WR (roundOf Tryz.f21 1))))) T ⟨(36,bv true)::Fsl,[(.loc 5,.cells [bv b])],w,a⟩:=by
 refine aq [] [] (H:=hLv) (live:=lP) ?_;exact oe e
theorem avz {c:ak} {a:List ak} {f:List ac} {g:Heap} {b:Nat} (d:ae 55 [.dat (.slice a)] (auh a))
  (e:LvT T ⟨FR a 2 b,[],lvB n p s (.slice a) c b false f++g,b+1⟩) :
  LvC (WS (WR (tC (WS (WR (roundOf Tryz.f21 1)))))) T ⟨Fsl,[(.loc 5,.cells [bv false])],lvA n p s (.slice a) c f++g,b⟩:=by
 exact aq [] [] (H:=hLv) (live:=lP) (on d (oe e))
theorem avy {c:ak} {b:List ak} {d:List ac} {a:Bool} {g:Heap} {f:Nat} (e:LvT T ⟨Fsl,[(.loc 5,.cells [bv a])],lvB n p s (.slice b) c 3 a d++g,f⟩) :
  LvC (WR (WR (roundOf Tryz.f21 1))) T ⟨FR b 2 3,[],lvB n p s (.slice b) c 3 a d++g,f⟩:=by
 refine aq [] [] (H:=hLv) (live:=lP) ?_;exact oe e
theorem awt {d f:ak} {g oc:List ac} {h:Heap} {c:Nat} (i:kb ba 91 [.win (.out 0) 1 0 n] none=some ⟨iv (ofNat n),.keep⟩) (a:fR ba 55 [iv (ofNat n),iv (ofNat n)]=some ⟨.undef,.grow (.cells oc) 1 n⟩) (b:bh (.cells oc)=true)
  (e:LvT T ⟨[(16,.win (.out c) 1 0 n),(3,.ptr (.out 2) 0)],[],IT n p s d f c oc g++h,c+1⟩) :
  LvC (du Tryz.f21 5) T ⟨(36,bv false)::Fsl,[(.loc 5,.cells [bv false])],lvA n p s d f g++h,c⟩:=by
 exact aq [500108] [107,108] (H:=hLv) (live:=lP) (oo i (oo a (ob b (oe e))))
def FO (n:Nat) (k:Int) (_a b:Nat):Sl:=[(111,iv k),(110,iv (ofNat n)),(109,.win (.out 0) 1 0 n),(16,.win (.out b) 1 0 n)]
theorem aws {a b:ak} {c f:List ac} {g:Heap} {q d:Nat} (h:kb ba 91 [.win (.out 0) 1 0 n] none=some ⟨iv (ofNat n),.keep⟩)
  (e:LvT T ⟨FO n 0 2 (q+3),[],IT n p s a b (q+3) f c++g,d⟩) :
  LvC (WS (du Tryz.f21 6)) T ⟨[(16,.win (.out (q+3)) 1 0 n),(3,.ptr (.out 2) 0)],[],IT n p s a b (q+3) f c++g,d⟩:=by
 exact aq [] [110] (H:=hLv) (live:=lP) (oo h (oe e))
theorem avG {b c:Nat} (h:aF f (ofNat n)=false)
  (e:T (.exit 12) ((⟨(112,bv false)::FO n f a b,[],w,c⟩:ab).al gn)) :
  LvC (roundOf Tryz.f21 2) T ⟨FO n f a b,[],w,c⟩:=by
 exact aq [112] [] (H:=hLv) (live:=lP) (ob h (oe e))
theorem awC {d1 d2:ak} {N:Nat} {a g c:List ac} {E:List (Go.Value×ak)} {o:Nat} {d:ak} (h:aF f (ofNat n)=true)
  (i:ap ba 91 [.win (.out 0) 1 0 n,iv f]=some ⟨.ptr (.out 0) o,.keep⟩) (j:eB ba false 92 [.ptr (.out 0) o] (some (.cells a))=some ⟨.map (.out 4),.keep⟩)
  (m:KC 57 [.map (.out 4)] (IT n p s d1 d2 3 g a++[(.out 4,.map E)]) (N+5) (XQ ⟨.fn (.func 91) [] [.ptr (.out (N+5)) 0],(.out (N+5),.cells [.map (.out 4)])::(.out 4,.map E)::IT n p s d1 d2 3 g a,N+5+1⟩))
  (hS:KC 56 [.fn (.func 91) [] [.ptr (.out (N+5)) 0]] ((.out (N+5),.cells [.map (.out 4)])::(.out 4,.map E)::IT n p s d1 d2 3 g a) (N+5+1) (XQ ⟨.dat d,(.out (N+5),.cells [.map (.out 4)])::(.out 4,.map E)::IT n p s d1 d2 3 g a,N+5+1⟩))
  (k:ap ba 55 [.win (.out 3) 1 0 n,iv f]=some ⟨.ptr (.out 3) o,.keep⟩) (l:cG ba 22 [.ptr (.out 3) o,.dat d] (some (.cells g))=some ⟨.undef,.set (.cells c)⟩) (b:bh (.cells c)=true)
  (e:LvT T ⟨FO n (an .i64 (f+1)) 2 3,[],(.out (N+5),.cells [.map (.out 4)])::(.out 4,.map E)::IT n p s d1 d2 3 c a,N+5+1⟩) :
  LvC (roundOf Tryz.f21 2) T ⟨FO n f 2 3,[],IT n p s d1 d2 3 g a++[(.out 4,.map E)],N+5⟩:=by
 exact aq [112,600121] [114,115,121,100121] (H:=hLv) (live:=lP) (ob h (oo i (oo j (oh m (oh hS (oo k (oo l (ob b (oe e)))))))))
theorem awr {b c:Nat} (e:LvT T ⟨[(2,.win (.out b) 1 0 n)],[],w,c⟩) :
  LvC (du Tryz.f21 7) T ⟨(112,bv false)::FO n f a b,[],w,c⟩:=by
 refine aq [] [] (H:=hLv) (live:=lP) ?_;exact oe e
end
theorem auZ {E:List (Go.Value×ak)}:KC 57 [.map (.out 0)] [(.out 0,.map E)] 1 (XQ ⟨.fn (.func 91) [] [.ptr (.out 1) 0],[(.out 1,.cells [.map (.out 0)]),(.out 0,.map E)],2⟩):=by
 refine co [] [] (x:=.of Tryz.f57 P8 QG) ?_;exact fi
section
variable (n:Nat) (su:Nat->List Nat) (us:Nat->List Int) (df:Nat->Option Int)
def ast (a:List (List Int)):Prop:=LOk n su us df a/\∀i,i < n->∀s,s∈a.getD i []↔ap0 su us df a i s
def aw7 (X:Nat->Int->Prop):Prop:=∀i,i < n->∀s,(s∈us i∨∃j∈su i,X j s/\df i≠some s)->X i s
def Lst (i:Nat) (s:Int):Prop:=i < n/\∀X,aw7 n su us df X->X i s
open Classical in
noncomputable def arc:List (List Int):=if h:∃es,ast n su us df es then (Classical.choose h).map gO else []
variable {n su us df}
theorem as6 {d:List (List Int)} (h:ast n su us df d) {i:Nat} (c:i < n) (s:Int):s∈d.getD i []↔Lst n su us df i s:=by
 constructor
 ·intro g;exact⟨c,fun X e=>h.1.least X e i c s g⟩
 rintro⟨_,e⟩;refine e (fun i s=>s∈d.getD i []) ?_;intro i c s g;refine (h.2 i c s).2 ?_
 rcases g with a|⟨j,a,b,f⟩
 ·exact .inl a
 exact .inr ⟨j,a,b,f⟩
theorem asw {a b:List Int} (h:a.Perm b):gO a=gO b:=Go.mergeSort_of_perm_i h
theorem asN {d c:List (List Int)} (h:ast n su us df d) (e:ast n su us df c):d.map gO=c.map gO:=by
 apply List.ext_getElem (by rw[List.length_map,List.length_map,h.1.len,e.1.len])
 intro i a b;have f:i < n:=by rw[List.length_map,h.1.len] at a;grind
 have E:i < d.length:=by grind
 have F:i < c.length:=by grind
 rw[List.getElem_map,List.getElem_map];have j:d.getD i []=d[i]:=by grind
 have K:c.getD i []=c[i]:=by grind
 rw[←j,←K];refine asw ((List.perm_ext_iff_of_nodup (h.1.nd i) (e.1.nd i)).2 fun s=>?_);rw[as6 h f,as6 e f]
theorem aqE {a:List (List Int)} (h:ast n su us df a):arc n su us df=a.map gO:=by
 have e:∃a,ast n su us df a:=⟨a,h⟩;grind[arc,asN]
theorem aq7 (P:Int->Prop):∀u:List Int,∃l:List Int,l.Nodup/\∀s,s∈l↔s∈u/\P s
 | []=>⟨[],List.nodup_nil,by simp⟩
 | a::u=>by
  obtain⟨l,c,b⟩:=aq7 P u
  by_cases A:P a
  ·refine⟨aqV l a,(apW l a).2.1 c,fun s=>?_⟩;grind[asr]
  grind
theorem arv (l:∀i,i < n->∀j∈su i,j < n):aw7 n su us df (Lst n su us df):=by
 intro i d s k;refine⟨d,fun X c=>c i d s ?_⟩
 rcases k with h|⟨j,a,b,f⟩
 ·grind
 exact .inr ⟨j,a,b.2 X c,f⟩
theorem at4 (c:∀i,i < n->∀j∈su i,j < n) {i:Nat} {s:Int} (h:Lst n su us df i s):s∈us i∨∃j∈su i,Lst n su us df j s/\df i≠some s:=by
 refine h.2 (fun i s=>s∈us i∨∃j∈su i,Lst n su us df j s/\df i≠some s) ?_;intro i k s l
 rcases l with h|⟨j,a,b,f⟩
 ·grind
 exact .inr ⟨j,a,arv c j (c i k j a) s b,f⟩
theorem aui (d:∀i,i < n->∀j∈su i,j < n):∃r,ast n su us df r:=by
 have w:∀i,∃l:List Int,l.Nodup/\∀s,s∈l↔s∈aow n us/\Lst n su us df i s:=fun i=>aq7 (Lst n su us df i) (aow n us)
 let f:=fun i=>Classical.choose (w i)
 have p:∀i,(f i).Nodup:=fun i=>(Classical.choose_spec (w i)).1
 have k:∀i s,s∈f i↔s∈aow n us/\Lst n su us df i s:=fun i=>(Classical.choose_spec (w i)).2
 have t:∀i s,Lst n su us df i s->s∈aow n us:=by
  intro i s h;refine h.2 (fun _ s=>s∈aow n us) ?_;intro i c s e
  rcases e with h|⟨j,a,b,o⟩
  ·exact List.mem_flatMap.2 ⟨i,List.mem_range.2 c,h⟩
  exact b
 have J:∀i,((List.range n).map f).getD i []=if i < n then f i else []:=by
  intro i;rw[List.getD_eq_getElem?_getD,List.getElem?_map]
  by_cases c:i < n
  ·rw[List.getElem?_range c,if_pos c];rfl
  rw[List.getElem?_eq_none (by simpa using c),if_neg c];rfl
 have m:∀i,i < n->∀s,s∈((List.range n).map f).getD i []↔Lst n su us df i s:=by
  intro i c s;rw[J,if_pos c,k];exact⟨fun h=>h.2,fun h=>⟨t i s h,h⟩⟩
 have q:∀i,i < n->∀s,Lst n su us df i s↔ap0 su us df ((List.range n).map f) i s:=by
  intro i c s
  constructor
  ·intro h
   rcases at4 d h with h|⟨j,a,b,o⟩
   ·exact .inl h
   exact .inr ⟨j,a,(m j (d i c j a) s).2 b,o⟩
  rintro (h|⟨j,a,b,o⟩)
  ·exact arv d i c s (.inl h)
  exact arv d i c s (.inr ⟨j,a,(m j (d i c j a) s).1 b,o⟩)
 refine⟨(List.range n).map f,⟨by simp,fun i=>?_,fun i s e=>?_,fun i c s e=>(q i c s).1 ((m i c s).1 e),fun X u i c s e=>((m i c s).1 e).2 X u⟩,fun i c s=>?_⟩
 ·rw[J];split
  ·exact p i
  exact List.nodup_nil
 ·rw[J] at e
  split at e
  ·exact ((k i s).1 e).1
  simp at e
 rw[m i c,q i c]
theorem aqF (e:∀i,i < n->∀j∈su i,j < n):(arc n su us df).length=n/\∀i,i < n->∀s,s∈(arc n su us df).getD i []↔s∈us i∨∃j∈su i,s∈(arc n su us df).getD j []/\df i≠some s:=by
 obtain⟨d,h⟩:=aui (n:=n) (us:=us) (df:=df) e;rw[aqE h];have J:∀i,(d.map gO).getD i []=gO (d.getD i []):=by
  intro i;rw[List.getD_eq_getElem?_getD,List.getD_eq_getElem?_getD,List.getElem?_map]
  cases d[i]? with
  | none=>simp[gO]
  | some m=>rfl
 refine⟨by rw[List.length_map,h.1.len],fun i g s=>?_⟩;rw[J,(zj _).mem_iff,h.2 i g s];refine or_congr Iff.rfl ⟨?_,?_⟩
 ·rintro⟨j,a,b,f⟩;exact⟨j,a,by rw[J,(zj _).mem_iff];grind,f⟩
 rintro⟨j,a,b,f⟩;exact⟨j,a,by rw[J,(zj _).mem_iff] at b;grind,f⟩
end
variable {n:Nat}
theorem axD {g:FuncId} {l:List ac} {sz len:Nat} {u:List ak} (S:KC g l [] 0 (fun v h _=>∃k t,v=.win (.out k) sz 0 len/\eA (.out k) h=some (.cells t)/\(∀i d,u[i]?=some d->d.cells.length=sz/\∀j c,d.cells[j]?=some c->∃a,t[i*sz+j]?=some a/\dK a=some c))) (y:u.length=len) (C:len<=lim) :
  KC g l [] 0 (XQ ⟨.dat (.slice u),[],0⟩):=by
 intro w R N m s H z A U D r J P;refine (S w R N m s H z A U D r J P).mono ?_;rintro e w' ⟨v',O,h1,G,Z,Y,M,o,rfl,⟨k,t,rfl,p,n⟩,F,B,f,K,T,hN⟩;have q:o.Nodup:=(List.nodup_append.1 (List.nodup_append.1 f).2.1).1;obtain⟨b,L,I,V,m2,m3,E,m5,m6,W⟩:=SC F B p q y C n;have x:b∉z:=by
  intro Q;exact (List.nodup_append.1 (List.nodup_append.1 f).2.1).2.2 b V b Q rfl
 refine⟨_,O,_,_,L,N,[],[],rfl,⟨rfl,rfl,rfl⟩,?_,rfl,?_,r,T.trans (W z x),fun _ _ h=>h⟩
 ·simp only[ai] at E ⊢;exact E
 simpa using (List.nodup_append.1 (List.nodup_append.1 f).2.1).2.1
theorem beside {c:Code} {Q:Exit->aa->Prop} {p:aa} (M:KD c Q p) (j k:Heap) (P:j.Perm (p.heap++k)) :
  KD c (fun e s=>∃n,Q e n/\s=⟨n.tmps,n.locs,n.heap++k,n.next⟩) ⟨p.tmps,p.locs,j,p.next⟩:=by
 intro w R N q Z U H z l D O;obtain⟨J,T,K⟩:=l.heap.perm P;obtain⟨r,x,rfl,L,C⟩:=aj.append T;have A:(Z++(U++(r++(x++z)))).Nodup:=by
  have:=l.nodup
  simp only[List.nil_append] at this;have f:=(List.Perm.append_left Z (List.Perm.append_left U (List.Perm.append_right z K))).nodup_iff.1 this;simpa using f
 have B:dw cM w R N q.tmps.toList p undef .undef [] Z U r (x++z):=by
  refine⟨aJ _,l.tmps,l.locs,L,by simpa using A,l.next,l.glob,?_⟩;intro b d
  rcases List.mem_append.1 d with h|h
  ·exact C.lt b h
  exact l.frame b h
 refine lp (M w R N q Z U r (x++z) B O) ?_;rintro e a V ⟨n,I,G,v,u,t,S,g,y,F,E⟩;refine⟨_,I,G,v,u,t++x,⟨n,S,rfl⟩,⟨aJ _,g.tmps,g.locs,?_,by simpa using g.nodup,g.next,g.glob,fun b d=>g.frame b (by simp[d])⟩,y,F.sub (by intro b d;simp[d]),E⟩;refine aj.join g.heap ((C.keep (F.sub (by intro b d;simp[d]))).ext ?_);intro m b h
 cases m with
 | loc i=>simp[outs] at h
 | out o=>exact E o b h
theorem apS {m:Name} (h:n < 1000000000):kb ba 91 [.win m 1 0 n] none=some ⟨iv (ofNat n),.keep⟩:=by
 have e:kb ba 91 [.win m 1 0 n] none=if Nat.ble n lim=true then some ⟨iv (ofNat n),.keep⟩ else none:=by kernel_rfl
 rw[e,if_pos];rw[Nat.ble_eq];simp only[lim];omega
def asa:ac:=.dat (.flat (.map none))
theorem apH {l:List ac} (h:∀a∈l,yw a=false):cd l=false:=by
 match l,h with
 | [],_=>rfl
 | [_],_=>rfl
 | [a,b],h=>
  have A:=h a (by simp)
  cases b with
  | own e=>exact A
  | dat d=>cases d with
   | slice e=>exact A
   | flat v=>unfold cd;grind
   | agg f=>rfl
  | _=>rfl
 | a::b::c::t,_=>unfold cd;grind
theorem auN (h:n < 1000000):fR ba 91 [iv (ofNat n),iv (ofNat n)]=some ⟨.undef,.grow (.cells (List.replicate n asa)) 1 n⟩:=by
 have e:fR ba 91 [iv (ofNat n),iv (ofNat n)]=if (Nat.ble n n&&Nat.ble (aqb.bytes*n) 140737488355328&&Nat.ble n lim&&Nat.blt 0 aqb.size&&dU (aY (bE aqb.zero))&&!cd (po (aY (bE aqb.zero)) n))=true
    then some ⟨.undef,.grow (.cells (po (aY (bE aqb.zero)) n)) aqb.size n⟩ else none:=by kernel_rfl
 have c:aY (bE aqb.zero)=[asa]:=by kernel_rfl
 have b:aqb.bytes<=100:=fD (by kernel_rfl);have E:cd (List.replicate n asa)=false:=apH (fun a A=>by rw[List.eq_of_mem_replicate A];rfl);rw[e,c,vC,E,aq1,if_pos];have d:Nat.ble n n=true:=by simp_all
 have K:Nat.ble (aqb.bytes*n) 140737488355328=true:=by
  rw[Nat.ble_eq]
  calc aqb.bytes*n<=100*1000000:=Nat.mul_le_mul b (by omega)
   _<=140737488355328:=by decide
 have M:Nat.ble n lim=true:=by rw[Nat.ble_eq];simp only[lim];omega
 rw[d,K,M];rfl
noncomputable def aqa:TI:=match Go.Tp.elemOf ba 55 with|some t=>t|none=>default
theorem asT:Go.Tp.elemOf ba 55=some aqa:=by kernel_rfl
theorem ao9:aqa.size=1:=by kernel_rfl
theorem auM (h:n < 1000000):fR ba 55 [iv (ofNat n),iv (ofNat n)]=some ⟨.undef,.grow (.cells (List.replicate n (.dat nl))) 1 n⟩:=by
 have e:fR ba 55 [iv (ofNat n),iv (ofNat n)]=if (Nat.ble n n&&Nat.ble (aqa.bytes*n) 140737488355328&&Nat.ble n lim&&Nat.blt 0 aqa.size&&dU (aY (bE aqa.zero))&&!cd (po (aY (bE aqa.zero)) n))=true
    then some ⟨.undef,.grow (.cells (po (aY (bE aqa.zero)) n)) aqa.size n⟩ else none:=by kernel_rfl
 have c:aY (bE aqa.zero)=[.dat nl]:=by kernel_rfl
 have b:aqa.bytes<=100:=fD (by kernel_rfl);have E:cd (List.replicate n (.dat nl))=false:=apH (fun a A=>by rw[List.eq_of_mem_replicate A];rfl);rw[e,c,vC,E,ao9,if_pos];have d:Nat.ble n n=true:=by simp_all
 have K:Nat.ble (aqa.bytes*n) 140737488355328=true:=by
  rw[Nat.ble_eq]
  calc aqa.bytes*n<=100*1000000:=Nat.mul_le_mul b (by omega)
   _<=140737488355328:=by decide
 have M:Nat.ble n lim=true:=by rw[Nat.ble_eq];simp only[lim];omega
 rw[d,K,M];rfl
theorem aub {m:Name} {k:Nat} (h:k < n):ap ba 55 [.win m 1 0 n,iv (ofNat k)]=some ⟨.ptr m k,.keep⟩:=by
 have:=Go.Tp.uA (m:=m) (off:=0) (s:=1) asT ao9.symm h
 grind
theorem ao3:∀(l:List ac) (i:Nat) (a:ac),i < l.length->bI i [a] l=l.set i a
 | [],i,_,h=>absurd h (Nat.not_lt_zero i)
 | x::r,0,a,_=>by simp[bI]
 | x::r,i+1,a,h=>by
  show x::bI i [a] r=_;rw[ao3 r i a (Nat.lt_of_succ_lt_succ h)];rfl
theorem avr {c:List ac} {k:Nat} {x m:Name} (h:k < c.length) (w:∀a∈c,yw a=false):cG ba 92 [.ptr m k,.map x] (some (.cells c))=some ⟨.undef,.set (.cells (c.set k (.map x)))⟩:=by
 have e:=atD;have d:cd (bI k [.map x] c)=false:=by
  rw[ao3 _ _ _ h];refine apH ?_;intro a A
  rcases List.mem_or_eq_of_mem_set A with b|rfl
  ·grind
  rfl
 rw[←ao3 _ _ _ h];simp only[cG,atE];rw[if_pos]
 ·rfl
 refine⟨by rfl,by grind,rfl,by grind,?_⟩;show (!cd (bI k [.map x] c)||cd c)=true;grind
noncomputable def tiL:TI:=match ba.ty 22 with|some t=>t|none=>default
theorem avp:ba.ty 22=some tiL:=by kernel_rfl
theorem atF:tiL.size=1:=by kernel_rfl
theorem kg {c:List ac} {k:Nat} {m:Name} (l:List Int) (h:k < c.length) (w:∀a∈c,yw a=false):cG ba 22 [.ptr m k,.dat (nlI l)] (some (.cells c))=some ⟨.undef,.set (.cells (c.set k (.dat (nlI l))))⟩:=by
 have e:=atF;have A:aY (.dat (nlI l))=[.dat (nlI l)]:=by cases l <;> rfl
 have O:dU [.dat (nlI l)]=true:=by cases l <;> rfl
 have b:yw (.dat (nlI l))=false:=by cases l <;> rfl
 have d:cd (bI k [.dat (nlI l)] c)=false:=by
  grind[ao3,apH]
 rw[←ao3 _ _ _ h];simp only[cG,avp,A];grind
def afl (k n:Nat):List ac:=(List.range n).map fun j=>if j < k then .map (.out (3+j)) else asa
theorem aq9 {k j:Nat} (h:j < n):(afl k n)[j]?=some (if j < k then .map (.out (3+j)) else asa):=by
 grind[afl]
theorem apf (k n:Nat):(afl k n).length=n:=by simp[afl]
theorem atg {k:Nat} (h:k < n):(afl k n).set k (.map (.out (3+k)))=afl (k+1) n:=by
 apply List.ext_getElem?
 grind[aq9,apf]
theorem aqC (n:Nat):afl 0 n=List.replicate n asa:=by
 apply List.ext_getElem (by simp[afl])
 grind[afl]
theorem ati (n:Nat):afl n n=lC (fun k=>3+k) n:=by
 simp_all[afl,lC]
theorem ath (k n:Nat):∀a∈afl k n,yw a=false:=by
 intro a A;obtain⟨j,_,rfl⟩:=List.mem_map.1 A
 split <;> rfl
theorem ap7 (k n:Nat):bh (.cells (afl k n))=true:=by
 have:∀l:List ac,(∀a∈l,pB a=true)->aW l=true:=by
  intro l
  induction l with
  | nil=>intro _;rfl
  | cons a r b=>intro h;show (pB a&&aW r)=true;grind
 refine this _ ?_;intro a A;obtain⟨j,_,rfl⟩:=List.mem_map.1 A
 split <;> rfl
theorem as1:∀(b:List (List Int)) (a:Nat) (e:List Int),lvM a (b++[e])=lvM a b++[(.out (a+b.length),.map (hY e))]
 | [],_,_=>rfl
 | x::b,a,e=>by
  simp only[List.cons_append,lvM,as1 b (a+1) e,List.length_cons];grind
theorem auQ {p s:Int} {b c:ak} (N:n < 1000000) {Q:Exit->aa->Prop} (e:LvT Q ⟨(29,bv false)::FM n (ofNat n),[],lvA n p s b c (lC (fun k=>3+k) n)++lvM 3 (List.replicate n []),n+3⟩) :
  LvC (WR (du Tryz.f21 3)) Q ⟨FM n 0,[],lvA n p s b c (List.replicate n asa),3⟩:=by
 refine afC 0 (by kernel_rfl) ?_;have g:inLoop (tC (WR (du Tryz.f21 3)))=roundOf Tryz.f21 0:=by kernel_rfl
 refine aok (α:=Nat) (by kernel_rfl) (fun k=>(⟨FM n (ofNat k),[],lvA n p s b c (afl k n)++lvM 3 (List.replicate k []),k+3⟩:ab).al gn) (fun k=>k<=n) (fun k=>n - k) 0 (Nat.zero_le _) (by rw[aqC];rfl) ?_;intro k l;rw[g]
 by_cases a:k < n
 ·have i:an .i64 (ofNat k+1)=ofNat (k+1):=bb (by omega);have f:=@avr (afl k n) k (.out (k+3)) (.out 0) (by rw[apf];exact a) (ath k n);have d:(afl k n).set k (.map (.out (k+3)))=afl (k+1) n:=by rw[Nat.add_comm k 3];exact atg a
  rw[d] at f;have h:=@awo _ p s b c (fun e q=>e=.normal/\q=(⟨FM n (ofNat (k+1)),[],(.out (k+3),.map [])::lvA n p s b c (afl (k+1) n),k+3+1⟩:ab).al gn) k _ _ _ _ (br a) (aor a) f (ap7 _ _) (by rw[i];exact⟨rfl,rfl⟩);refine cL.ab4 (beside h (lvA n p s b c (afl k n)++lvM 3 (List.replicate k [])) (lvM 3 (List.replicate k [])) (List.Perm.refl _)) ?_;rintro j q ⟨m,⟨rfl,rfl⟩,rfl⟩;refine⟨lvA n p s b c (afl (k+1) n)++lvM 3 (List.replicate (k+1) []),[],?_,?_⟩
  ·rw[List.append_nil,List.replicate_succ',as1,List.length_replicate];show (((.out (k+3),.map [])::lvA n p s b c (afl (k+1) n))++lvM 3 (List.replicate k [])).Perm (lvA n p s b c (afl (k+1) n)++(lvM 3 (List.replicate k [])++[(.out (3+k),.map (hY []))]));rw[Nat.add_comm 3 k,←List.append_assoc];exact List.perm_append_comm (l₁:=[(Name.out (k+3),aL.map [])])
  exact⟨k+1,a,by omega,rfl⟩
 have:k=n:=by omega
 subst this;refine avC (cj a) ?_;unfold xU;dsimp only;rw[if_pos rfl,ati];exact e
end Go.Proofs.YtmpmgmmcaghacaaGreatDoor
namespace Go.Proofs
open Go.Shelf
def Tryz.ard:Go.Shelf.Ren:=⟨fun|7=>57|10=>91|n=>n,fun|23=>92|26=>3|3=>4|28=>98|0=>0|27=>97|33=>130|4=>4|n=>n,fun|n=>n⟩
theorem Tryz.awI:Go.Proofs.SlLaysZI.n7 Tryz.prog Tryz.ard:={
 mixed:=by kernel_rfl
 f7:=⟨Tryz.f57.name,by decide,Tryz.func57.trans (congrArg some (by kernel_rfl))⟩
 f10:=⟨Tryz.f91.name,by decide,Tryz.func91.trans (congrArg some (by kernel_rfl))⟩
 t0:=Tryz.underlying0
 a0:=Tryz.isAgg0
 z0:=Tryz.sizeOf0
 v0:=Tryz.zeroValue0
 t4:=Tryz.underlying4
 a4:=Tryz.isAgg4
 z4:=Tryz.sizeOf4
 v4:=Tryz.zeroValue4
 t23:=Tryz.underlying92
 a23:=Tryz.isAgg92
 z23:=Tryz.sizeOf92
 v23:=Tryz.zeroValue92
 t26:=Tryz.underlying3
 a26:=Tryz.isAgg3
 z26:=Tryz.sizeOf3
 v26:=Tryz.zeroValue3
 t27:=Tryz.underlying97
 a27:=Tryz.isAgg97
 z27:=Tryz.sizeOf97
 v27:=Tryz.zeroValue97
 t28:=Tryz.underlying98
 a28:=Tryz.isAgg98
 z28:=Tryz.sizeOf98
 v28:=Tryz.zeroValue98
 t33:=Tryz.underlying130
 a33:=Tryz.isAgg130
 z33:=Tryz.sizeOf130
 v33:=Tryz.zeroValue130 }
def Tryz.ao2:Go.Shelf.Ren:=⟨fun|6=>56|8=>90|9=>59|11=>125|13=>93|12=>92|23=>135|24=>136|14=>126|15=>127|16=>128|17=>129|18=>130|19=>131|20=>132|21=>133|22=>134|25=>167|26=>168|27=>169|28=>170|29=>171|30=>172|31=>191|n=>n,fun|26=>3|28=>98|24=>22|0=>0|3=>3|37=>134|48=>178|50=>162|4=>4|40=>171|39=>170|45=>57|5=>5|9=>9|51=>195|55=>199|57=>211|58=>212|33=>130|n=>n,fun|n=>n⟩
theorem Tryz.auD:Go.Proofs.SlLaysZI.n6 Tryz.prog Tryz.ao2:={
 mixed:=by kernel_rfl
 f6:=⟨Tryz.f56.name,by decide,Tryz.func56.trans (congrArg some (by kernel_rfl))⟩
 f8:=⟨Tryz.f90.name,by decide,Tryz.func90.trans (congrArg some (by kernel_rfl))⟩
 f11:=⟨Tryz.f125.name,by decide,Tryz.func125.trans (congrArg some (by kernel_rfl))⟩
 t0:=Tryz.underlying0
 a0:=Tryz.isAgg0
 z0:=Tryz.sizeOf0
 v0:=Tryz.zeroValue0
 t24:=Tryz.underlying22
 a24:=Tryz.isAgg22
 z24:=Tryz.sizeOf22
 v24:=Tryz.zeroValue22
 t26:=Tryz.underlying3
 a26:=Tryz.isAgg3
 z26:=Tryz.sizeOf3
 v26:=Tryz.zeroValue3
 t28:=Tryz.underlying98
 a28:=Tryz.isAgg98
 z28:=Tryz.sizeOf98
 v28:=Tryz.zeroValue98
 i26:=by kernel_rfl }
end Go.Proofs
namespace Go.Proofs.YtmpmgmmcaghacaaGreatDoor
open Go.Tp
theorem aud {m:Nat}:∀{es:List (List Int)} {a:Nat},a+es.length<=m->GM m (lvM a es)=false
 | [],_,_=>rfl
 | e::es,a,h=>by
  simp at h;have b:=aud (m:=m) (es:=es) (a:=a+1) (by omega);show (Nat.ble m a||(false||GM m (lvM (a+1) es)))=false;rw[b]
  cases e:Nat.ble m a with
  | true=>have:=fD e;omega
  | false=>rfl
theorem aqq {m:Nat}:∀{a b:Heap},GM m a=false->GM m b=false->GM m (a++b)=false
 | [],_,_,d=>d
 |(.loc i,o)::r,b,A,d=>by
  simp only[List.cons_append,GM,Bool.or_eq_false_iff] at A ⊢;exact⟨A.1,aqq A.2 d⟩
 |(.out i,o)::r,b,A,d=>by
  simp only[List.cons_append,GM,Bool.or_eq_false_iff] at A ⊢;exact⟨A.1,A.2.1,aqq A.2.2 d⟩
theorem avN {n m:Nat} {p s:Int} {b c:ak} {a:List ac} (f:3<=m) (g:BI m a=false):GM m (lvA n p s b c a)=false:=by
 have d:∀q,q < 3->Nat.ble m q=false:=by
  intro q h
  cases e:Nat.ble m q with
  | true=>have:=fD e;omega
  | false=>rfl
 simp only[lvA,GM,Z5,BI,Sw,d 2 (by omega),d 1 (by omega),d 0 (by omega),g,Bool.or_false,Bool.false_or];rfl
theorem axF {a:List ak}:Fit (FR a) []:=apF (fun ρ _ h=>by
 have e:il ρ (tmL [(39,auh a),(5,.ptr (.out 3) 0),(3,.ptr (.out 2) 0),(1,.ptr (.out 1) 0)])=tmL [(39,auh a),(5,.ptr (.out (ρ 3)) 0),(3,.ptr (.out (ρ 2)) 0),(1,.ptr (.out (ρ 1)) 0)]:=by kernel_rfl
 rw[h] at e;exact e) (by kernel_rfl)
def FSa (a _b:Nat):Sl:=[(5,.ptr (.loc 5) 0),(3,.ptr (.out a) 0),(1,.ptr (.out 1) 0)]
theorem awX {a:Bool}:Fit FSa [(.loc 5,.cells [bv a])]:=⟨fun ρ _ h=>by
 have e:il ρ (tmL [(5,.ptr (.loc 5) 0),(3,.ptr (.out 2) 0),(1,.ptr (.out 1) 0)])=tmL [(5,.ptr (.loc 5) 0),(3,.ptr (.out (ρ 2)) 0),(1,.ptr (.out (ρ 1)) 0)]:=by kernel_rfl
 rw[h] at e;exact e,by kernel_rfl,fun _=>rfl,fun _=>rfl⟩
theorem avQ {n:Nat} {k:Int}:Fit (FO n k) []:=apF (fun ρ o _=>by
 have e:il ρ (tmL [(111,iv k),(110,iv (ofNat n)),(109,.win (.out 0) 1 0 n),(16,.win (.out 3) 1 0 n)])=tmL [(111,iv k),(110,iv (ofNat n)),(109,.win (.out (ρ 0)) 1 0 n),(16,.win (.out (ρ 3)) 1 0 n)]:=by kernel_rfl
 rw[o] at e;exact e) (by kernel_rfl)
section
abbrev LvF (a:List Ins) (b:List (List Int)):Prop:=ast a.length (suL a) (usL a) (dfL a) b
noncomputable def stS (a:List Ins) (p s:Int) (b:ak) (x:Bool×List (List Int)):aa:=(⟨Fsl,[(.loc 5,.cells [bv x.1])],lvA a.length p s (.slice (encI a)) b (lC (fun k=>3+k) a.length)++lvM 3 x.2,a.length+3⟩:ab).al gn
theorem atk {c:List Ins} {p s:Int} {g:ak} (z:dj g) (w:aqX c) {j:List (List Int)} {l:Bool} (r:LvS c j) :
  sD Tryz.prog cM (roundOf Tryz.f21 1) (fun e q=>match e with
   | .normal=>l=true/\∃d f,aol c.length (suL c) (usL c) (dfL c) j d 0 f/\q=stS c p s g (f,d)
   | .exit i=>i=2/\l=false/\q=(⟨(36,bv false)::Fsl,[(.loc 5,.cells [bv false])],lvA c.length p s (.slice (encI c)) g (lC (fun k=>3+k) c.length)++lvM 3 j,c.length+3⟩:ab).al gn
   | _=>False) (stS c p s g (l,j)):=by
 have N:0 < c.length:=List.length_pos_iff.2 w.pos;refine atj (Q:=fun e q=>match e with
   | .normal=>l=true/\∃d f,aol c.length (suL c) (usL c) (dfL c) j d 0 f/\q=(⟨Fsl,[(.loc 5,.cells [bv f])],lvA c.length p s (.slice (encI c)) g (lC (fun k=>3+k) c.length)++lvM 3 d,4+c.length⟩:ab).al gn
   | .exit i=>i=2/\l=false/\q=(⟨(36,bv false)::Fsl,[(.loc 5,.cells [bv false])],lvA c.length p s (.slice (encI c)) g (lC (fun k=>3+k) c.length)++lvM 3 j,c.length+3⟩:ab).al gn
   | _=>False) (asB (Q:=fun e q=>match e with
   | .normal=>l=true/\∃d f,aol c.length (suL c) (usL c) (dfL c) j d 0 f/\q=(⟨Fsl,[(.loc 5,.cells [bv f])],lvH c.length p s (.slice (encI c)) g f d,4+c.length⟩:ab).al gn
   | .exit i=>i=2/\l=false/\q=(⟨(36,bv false)::Fsl,[(.loc 5,.cells [bv false])],lvA c.length p s (.slice (encI c)) g (lC (fun k=>3+k) c.length)++lvM 3 j,c.length+3⟩:ab).al gn
   | _=>False) ?_ ?_) ?_
 ·refine apt (by kernel_rfl) (akc (lD (by kernel_rfl) (avB ?_)));have o:an5 36 (WR (WS (roundOf Tryz.f21 1)))=true:=by kernel_rfl
  dsimp only
  cases l with
  | false=>
   refine ao7 (t:=36) o (b:=false) (by kernel_rfl) ?_;have E:apo (WR (WS (roundOf Tryz.f21 1)))=.exit 2:=by kernel_rfl
   simp only[Bool.false_eq_true,if_false];rw[E];refine gD aon ?_;refine⟨?_,?_,?_⟩ <;> first|trivial|rfl
  | true=>
   refine ao7 (t:=36) o (b:=true) (by kernel_rfl) ?_;have E:apn (WR (WS (roundOf Tryz.f21 1)))=.skip:=by kernel_rfl
   simp only[if_true];rw[E];refine gD amX ?_;dsimp only;refine apt (by kernel_rfl) (aoz 3 (by kernel_rfl) (aiz (by kernel_rfl) (avA ?_)));refine aiz (by kernel_rfl) (avz asP ?_);dsimp only;refine aoz 4 (by kernel_rfl) ?_;have y:tC (WR (WR (tC (WS (WR (roundOf Tryz.f21 1))))))=.rangeFunc (.tmp 39) #[40,41] (asX Tryz.f21) (apP Tryz.f21):=by kernel_rfl
   rw[y,Nat.add_comm c.length 3,show 3+c.length+1=4+c.length by omega];refine auP z w r (L:=[]) ?_;intro d f hP;dsimp only;obtain⟨m,x⟩:∃m,d[0]?=some m:=⟨_,List.getElem?_eq_getElem (by rw[hP.ok.len];exact N)⟩;refine akc ?_;refine au0 (F:=FR (encI c)) (L:=[]) hP.ok.len x axF (avy ?_);refine⟨FSa,[(.loc 5,.cells [bv f])],f,m,awX,rfl,?_⟩;rw[amH x];exact⟨trivial,d,f,hP,rfl⟩
 ·intro e q n
  cases e with
  | normal=>
   obtain⟨a,d,f,hP,rfl⟩:=n;refine⟨lvA c.length p s (.slice (encI c)) g (lC (fun k=>3+k) c.length)++lvM 3 d,[(.out (3+c.length),.cells [bv f])],?_,a,d,f,hP,rfl⟩;show (((Name.out (3+c.length),aL.cells [bv f])::lvA c.length p s (.slice (encI c)) g (lC (fun k=>3+k) c.length))++lvM 3 d).Perm _;exact List.perm_append_comm (l₁:=[(Name.out (3+c.length),aL.cells [bv f])])
  | exit i=>
   obtain⟨rfl,a,rfl⟩:=n;exact⟨_,[],by rw[List.append_nil];exact List.Perm.refl _,rfl,a,rfl⟩
  | _=>exact n.elim
 ·intro e q n;have u:BI (c.length+3) (lC (fun k=>3+k) c.length)=false:=aqp (fun k B=>by omega);have h:∀d:List (List Int),d.length=c.length->GM (c.length+3) (lvA c.length p s (.slice (encI c)) g (lC (fun k=>3+k) c.length)++lvM 3 d)=false:=fun d A=>aqq (avN (by omega) u) (aud (by omega))
  cases e with
  | normal=>
   obtain⟨a,d,f,hP,rfl⟩:=n;have v:BI 3 (tmL Fsl)=false:=by kernel_rfl
   exact⟨agm (by show 3<=c.length+3;omega) v,rfl,h d hP.ok.len,a,d,f,hP,rfl⟩
  | exit i=>
   obtain⟨rfl,a,rfl⟩:=n;have v:BI 3 (tmL ((36,bv false)::Fsl))=false:=by kernel_rfl
   exact⟨agm (by show 3<=c.length+3;omega) v,rfl,h j r.len,rfl,a,rfl⟩
  | _=>exact n.elim
theorem atZ {c:List Ins} {p s:Int} {g:ak} (t:dj g) (u:aqX c) {Q:Exit->aa->Prop} (v:∀j,LvF c j->Q .normal ((⟨(36,bv false)::Fsl,[(.loc 5,.cells [bv false])],lvA c.length p s (.slice (encI c)) g (lC (fun k=>3+k) c.length)++lvM 3 j,c.length+3⟩:ab).al gn)) :
  sD Tryz.prog cM (WR (du Tryz.f21 4)) Q (stS c p s g (true,List.replicate c.length [])):=by
 refine aoz 2 (by kernel_rfl) ?_;have r:inLoop (tC (WR (du Tryz.f21 4)))=roundOf Tryz.f21 1:=by kernel_rfl
 have d:∀x,(stS c p s g x).keep [1,3,5] [5]=stS c p s g x:=fun x=>by
  obtain⟨o,j⟩:=x;show ((⟨Fsl,[(.loc 5,.cells [bv o])],lvA c.length p s (.slice (encI c)) g (lC (fun k=>3+k) c.length)++lvM 3 j,c.length+3⟩:ab).al gn).keep [1,3,5] [5]=_
  kernel_rfl
 refine ar8 (α:=Bool×List (List Int)) (by kernel_rfl) [1,3,5] [5] (stS c p s g) (fun x=>LvS c x.2/\(x.1=false->LvF c x.2)) (fun x=>match x.1 with|true=>c.length*(aow c.length (usL c)).length - apM x.2+1|false=>0) (true,List.replicate c.length []) ⟨atn,fun h=>by simp at h⟩ (d _) ?_;rintro⟨o,j⟩ ⟨m,w⟩;rw[r];refine asz (atk t u m) ?_;intro e q n
 cases e with
 | normal=>
  obtain⟨rfl,l,f,hP,rfl⟩:=n;refine⟨(f,l),⟨hP.ok,?_⟩,?_,d _⟩
  ·intro h;have h:f=false:=h;subst h;exact hP.fix
  cases f with
  | false=>show 0 < _+1;omega
  | true=>
   have a:=hP.more rfl;have b:=hP.ok.aw4;show c.length*(aow c.length (usL c)).length - apM l+1 < c.length*(aow c.length (usL c)).length - apM j+1;omega
 | exit i=>
  obtain⟨rfl,rfl,rfl⟩:=n;unfold xU;dsimp only;rw[if_pos rfl];exact v j (w rfl)
 | _=>exact n.elim
def ocR (a:List (List Int)) (k n:Nat):List ac:=(List.range n).map fun j=>if j < k then .dat (nlI (gO (a.getD j []))) else .dat nl
theorem arq {a:List (List Int)} {k n j:Nat} (h:j < n):(ocR a k n)[j]?=some (if j < k then .dat (nlI (gO (a.getD j []))) else .dat nl):=by
 grind[ocR]
theorem aqm (a:List (List Int)) (k n:Nat):(ocR a k n).length=n:=by simp[ocR]
theorem apy (b:List (List Int)) (k n:Nat):ap1 (ocR b k n):=by
 intro a A;obtain⟨j,_,rfl⟩:=List.mem_map.1 A
 grind
theorem auK (l:List Int):yw (.dat (nlI l))=false:=by cases l <;> rfl
theorem auJ (b:List (List Int)) (k n:Nat):∀a∈ocR b k n,yw a=false:=by
 intro a A;obtain⟨j,_,rfl⟩:=List.mem_map.1 A
 split
 ·exact auK _
 rfl
theorem ap1.pB {l:List ac} (h:ap1 l):bh (.cells l)=true:=by
 show aW l=true
 induction l with
 | nil=>rfl
 | cons a r e=>
  obtain⟨d,rfl⟩:=h a List.mem_cons_self;show (true&&aW r)=true;rw[e (fun b c=>h b (List.mem_cons_of_mem _ c))];rfl
theorem auI {es:List (List Int)} {k n:Nat} (h:k < n):(ocR es k n).set k (.dat (nlI (gO (es.getD k []))))=ocR es (k+1) n:=by
 apply List.ext_getElem?
 grind[arq,aqm]
theorem ar5 (a:List (List Int)) (n:Nat):ocR a 0 n=List.replicate n (.dat nl):=by
 apply List.ext_getElem (by simp[ocR])
 grind[ocR]
theorem auC (m:Nat):AnyZI.SortsIn Tryz.prog Tryz.ao2 Fence.wide m:=
 ⟨fun c e a f W hH b d=>callsIn_wide.2 (AnyM.slices_Sort_int Tryz.gO c e a f W hH b d),
  fun p a W=>callsIn_wide.2 (AnyM.slices_Sort_int_none Tryz.gO p a W)⟩
theorem atu {a:Heap} {b k m:Nat} {i:List ac} {g:List Int} (c:eA (.out k) a=some (.cells (.map (.out m)::i))) (e:eA (.out m) a=some (.map (hY g))) (d:g.length<=4294967296) (f:g.Nodup) (h:∀x∈g,aqg x) :
  KC 56 [.fn (.func 91) [] [.ptr (.out k) 0]] a b (XQ ⟨.dat (nlI (gO g)),a,b⟩):=
 att (ρ:=Tryz.ao2) (ρ':=Tryz.ard) Tryz.auD {Tryz.awI with } (auC 4) (enters_of Tryz.func59 (by kernel_rfl) rfl) (enters_of Tryz.func91 (by kernel_rfl) rfl) Tryz.underlying3 c e d f h
theorem atl {p s:Int} {d2:ak} {n:Nat} {d1:ak} (H:n < 1000000) {es:List (List Int)} (g:es.length=n) (t:∀i,(es.getD i []).Nodup) (o:∀i x,x∈es.getD i []->aqg x) (j:∀i,(es.getD i []).length<=4294967296) {Q:Exit->aa->Prop}
  (e:Q .normal ((⟨(112,bv false)::FO n (ofNat n) 2 (3+n),[],aqd n p s d1 d2 (ocR es n n) es,4+n⟩:ab).al gn)) :
  LvC (WR (du Tryz.f21 6)) Q ⟨FO n 0 2 (3+n),[],aqd n p s d1 d2 (List.replicate n (.dat nl)) es,4+n⟩:=by
 refine afC 12 (by kernel_rfl) ?_;have w:inLoop (tC (WR (du Tryz.f21 6)))=roundOf Tryz.f21 2:=by kernel_rfl
 refine aok (α:=Nat) (by kernel_rfl) (fun k=>(⟨FO n (ofNat k) 2 (3+n),[],aqd n p s d1 d2 (ocR es k n) es,4+n⟩:ab).al gn) (fun k=>k<=n) (fun k=>n - k) 0 (Nat.zero_le _) (by rw[ar5];rfl) ?_;intro k G;rw[w]
 by_cases b:k < n
 ·obtain⟨m,u⟩:∃m,es[k]?=some m:=⟨_,List.getElem?_eq_getElem (by rw[g];exact b)⟩;have c:es.getD k []=m:=by rw[List.getD_eq_getElem?_getD,u];rfl
  have B:an .i64 (ofNat k+1)=ofNat (k+1):=bb (by omega);refine av1 g u avQ (apy _ _ _) ?_;have f:=auI (es:=es) b;rw[c] at f;have l:=@kg (ocR es k n) k (.out 3) (gO m) (by rw[aqm];exact b) (auJ _ _ _);rw[f] at l;have r:=ay.frame (auZ (E:=hY m)) (fun _=>4) (heap:=IT n p s d1 d2 3 (ocR es k n) (lC (nm1 k) n)++[(.out 4,.map (hY m))]) (rest:=IT n p s d1 d2 3 (ocR es k n) (lC (nm1 k) n)) (next:=n+5) (List.perm_append_comm) rfl rfl rfl rfl;have y:KC 57 [.map (.out 4)] (IT n p s d1 d2 3 (ocR es k n) (lC (nm1 k) n)++[(.out 4,.map (hY m))]) (n+5) (XQ ⟨.fn (.func 91) [] [.ptr (.out (n+5)) 0],(.out (n+5),.cells [.map (.out 4)])::(.out 4,.map (hY m))::IT n p s d1 d2 3 (ocR es k n) (lC (nm1 k) n),n+5+1⟩):=by
   refine r.mono ?_;rintro K F I ⟨L,a,J,⟨rfl,rfl,rfl⟩,rfl,rfl,rfl⟩;exact⟨rfl,rfl,rfl⟩
  have hS:=@atu ((.out (n+5),.cells [.map (.out 4)])::(.out 4,.map (hY m))::IT n p s d1 d2 3 (ocR es k n) (lC (nm1 k) n)) (n+5+1) (n+5) 4 [] m (by simp[eA]) (by
   simp only[eA];rw[if_neg (by simp)];simp) (by have:=j k;rw[c] at this;exact this) (by have:=t k;rw[c] at this;exact this) (fun x C=>o k x (by rw[c];exact C))
  have h:=awC (p:=p) (s:=s) (d1:=d1) (d2:=d2) (T:=fun e q=>e=.normal/\q=(⟨FO n (ofNat (k+1)) 2 3,[],(.out (n+5),.cells [.map (.out 4)])::(.out 4,.map (hY m))::IT n p s d1 d2 3 (ocR es (k+1) n) (lC (nm1 k) n),n+5+1⟩:ab).al gn) (N:=n) (br b) (aor b) (aqI (by rw[apw b,atY])) y hS (aub b) l (apy _ _ _).pB (by rw[B];exact⟨rfl,rfl⟩);rw[Nat.add_comm 5 n];refine cL.low (Q:=fun e q=>e=.normal/\q=(⟨FO n (ofNat (k+1)) 2 3,[],lH3 n p s d1 d2 k (ocR es (k+1) n) m,n+5+1⟩:ab).al gn) (cL.ab4 h ?_) ?_
  ·rintro v q ⟨rfl,rfl⟩;refine⟨lH3 n p s d1 d2 k (ocR es (k+1) n) m,[(.out (n+5),.cells [.map (.out 4)])],?_,rfl,rfl⟩;show ([(Name.out (n+5),aL.cells [.map (.out 4)])]++([(Name.out 4,aL.map (hY m))]++IT n p s d1 d2 3 (ocR es (k+1) n) (lC (nm1 k) n))).Perm _;refine List.perm_append_comm.trans (List.Perm.append_right _ ?_);exact List.perm_append_comm
  rintro v q ⟨rfl,rfl⟩;have D:BI 4 (tmL (FO n (ofNat (k+1)) 2 3))=false:=avQ.lo;refine⟨agm (by show 4<=n+5;omega) D,rfl,?_,FO n (ofNat (k+1)),[],ocR es (k+1) n,avQ,apy _ _ _,rfl,k+1,b,by omega,rfl⟩;show GM (n+5) (IT n p s d1 d2 3 (ocR es (k+1) n) (lC (nm1 k) n)++[(.out 4,.map (hY m))])=false;have d:∀q,q < 5->Nat.ble (n+5) q=false:=by
   intro q z
   cases e:Nat.ble (n+5) q with
   | true=>have:=fD e;omega
   | false=>rfl
  refine aqq ?_ ?_
  ·have A:BI (n+5) (lC (nm1 k) n)=false:=aqp (fun q z=>by unfold nm1;split <;> omega);simp only[IT,GM,Z5,BI,Sw,d 3 (by omega),d 2 (by omega),d 1 (by omega),d 0 (by omega),(apy es (k+1) n).hi,A,Bool.or_false,Bool.false_or];rfl
  show (Nat.ble (n+5) 4||(false||false))=false;rw[d 4 (by omega)];rfl
 have:k=n:=by omega
 subst this;refine avG (cj b) ?_;unfold xU;dsimp only;rw[if_pos rfl];exact e
theorem avx {n b a:Nat} {w:Heap} {Q:ac->Heap->Nat->Prop} (h:Q (.win (.out b) 1 0 n) w a):KD (kc Tryz.f21 8) (adO ba Tryz.f21.results.toList Q) ((⟨[(2,.win (.out b) 1 0 n)],[],w,a⟩:ab).al gn):=by
 have e:kc Tryz.f21 8=.ret:=by kernel_rfl
 refine gD aqk ?_;have c:gU ba ((⟨[(2,.win (.out b) 1 0 n)],[],w,a⟩:ab).al gn) Tryz.f21.results.toList=some [.win (.out b) 1 0 n]:=by kernel_rfl
 show ye ba Tryz.f21.results.toList Q ((⟨[(2,.win (.out b) 1 0 n)],[],w,a⟩:ab).al gn);unfold ye;rw[c];dsimp only;exact h
noncomputable def akf (a:List Ins):List (List Int):=arc a.length (suL a) (usL a) (dfL a)
theorem asO {ins:List Ins} {p s:Int} {u:ak} (v:dj u) (t:aqX ins) (o:ae 13 [.dat (aN p s (.slice (encI ins)) u)] (iv 0)):ae 21 [.dat (aN p s (.slice (encI ins)) u)] (.dat (.slice ((akf ins).map nlI))):=by
 have N:=t.len;have A:=apN (ins:=ins);have k:(akf ins).length=ins.length:=(aqF A).1;refine axD (sz:=1) (len:=ins.length) ?_ (by rw[List.length_map];exact k) (by simp only[lim];omega);refine aqi JS Tryz.func21 (c:=ZW Tryz.f21) (by kernel_rfl) ?_;intro _ _;rw[←aqP _ _ _ _ (by show 1<=gn;decide)];have B:dj (.slice (encI ins)):=.inr ⟨_,rfl⟩;have w:(encI ins).length=ins.length:=bH ins;refine aiz (c:=kc Tryz.f21 0) (by kernel_rfl) (awm B v ?_);refine aiz (c:=kc Tryz.f21 1) (by kernel_rfl) (awl B v o ?_);refine aiz (c:=kc Tryz.f21 2) (by kernel_rfl) (awk (n:=ins.length) (fs0:=List.replicate ins.length asa) (by rw[w];exact auN N) (by rw[←aqC];exact ap7 _ _) ?_);refine aiz (c:=kc Tryz.f21 3) (by kernel_rfl) (lD (c:=du Tryz.f21 3) (by kernel_rfl) (awj (apS (by omega)) (auQ N ?_)));refine apt (c:=kc Tryz.f21 4) (by kernel_rfl) (aiz (c:=du Tryz.f21 4) (by kernel_rfl) (axp ?_));refine atZ v t ?_;intro r f;refine akc ?_;have h:=f.1.len;refine lD (c:=kc Tryz.f21 5) (by kernel_rfl) (awt (n:=ins.length) (oc:=List.replicate ins.length (.dat nl)) (apS (by omega)) (auM N) (by rw[←ar5 r];exact (apy _ _ _).pB) ?_);refine lD (c:=kc Tryz.f21 6) (by kernel_rfl) (lD (c:=du Tryz.f21 6) (by kernel_rfl) (aws (q:=ins.length) (apS (by omega)) ?_));rw[Nat.add_comm ins.length 3,show 3+ins.length+1=4+ins.length by omega];refine atl N h f.1.nd (fun i x F=>t.u64 x (f.1.sub i x F)) (fun i=>by
  have a:=f.1.aqH i;have b:=t.ulen;omega) ?_
 refine lD (c:=kc Tryz.f21 7) (by kernel_rfl) (awr ?_);refine avx ?_;refine⟨3+ins.length,ocR r ins.length ins.length,rfl,?_,?_⟩
 ·show eA (.out (3+ins.length)) ((.out (3+ins.length),_)::_)=_;simp[eA]
 intro i d D;have y:akf ins=r.map gO:=aqE f;rw[y,List.map_map,List.getElem?_map] at D;obtain⟨m,E,rfl⟩:=Option.map_eq_some_iff.1 D;have C:i < ins.length:=by rw[←h];exact (List.getElem?_eq_some_iff.1 E).1
 have z:r.getD i []=m:=by rw[List.getD_eq_getElem?_getD,E];rfl
 have g:∀l:List Int,(nlI l).cells=[nlI l]:=fun l=>by cases l <;> rfl
 refine⟨by show (nlI (gO m)).cells.length=1;rw[g];rfl,?_⟩;intro j c e;have e:(nlI (gO m)).cells[j]?=some c:=e;rw[g] at e
 cases j with
 | succ j=>simp at e
 | zero=>
  simp at e;subst e;refine⟨.dat (nlI (gO m)),?_,by cases gO m <;> rfl⟩;rw[Nat.mul_one,Nat.add_zero,arq C,if_pos C,z]
end
end Go.Proofs.YtmpmgmmcaghacaaGreatDoor
