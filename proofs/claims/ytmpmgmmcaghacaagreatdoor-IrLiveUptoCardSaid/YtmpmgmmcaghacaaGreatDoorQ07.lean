/- Part 7 of what the last text proves. -/
import Derived.Shelf.SlGeneric
import Derived.Ground.SlgnProg
import Derived.Ground.SlgmProg
import Derived.Shelf.SortM.Plain
import Derived.Shelf.SortM.SortNone
import Derived.Shelf.SlLaysE
import Derived.Shelf.SlLaysE0
import Derived.Shelf.SlicesE.Compact
import Derived.Test.YtmpmgmmcaghacaaGreatDoorProg
import Derived.Shelf.SlIter.Nil
import Derived.Shelf.SlIterI.Sorted
import Derived.Test.YtmpmgmmcaghacaaGreatDoorQ06
set_option linter.unusedVariables false
set_option linter.unusedSimpArgs false
open Int (ofNat)
set_option maxRecDepth 100000
set_option maxHeartbeats 4000000
namespace Go.Proofs.YtmpmgmmcaghacaaGreatDoor
open Go.Tp
noncomputable abbrev lk:=Tryz.f178.ntmps
noncomputable abbrev od:=Tryz.f151.ntmps
noncomputable abbrev aox:=Tryz.f152.ntmps
noncomputable abbrev jV:=Tryz.f123.ntmps
noncomputable abbrev jh:=Tryz.f197.ntmps
noncomputable abbrev nY:=Tryz.f182.ntmps
noncomputable abbrev gL:=Tryz.f97.ntmps
noncomputable abbrev jX:=Tryz.f102.ntmps
noncomputable abbrev AT:=Tryz.f89.ntmps
variable {i m n u:Nat} {k x:Int} {l s:List Int}
theorem iS (e B:List Nat) {g:FuncId} {x:qS} (d:JE.find g=some x) {a:List ac} {b:Heap} {c:Nat} {r:eX} (h:(Pe (Sv e) (Sv B) ba cM bV bi x g a b c).Ok Tryz.prog cM (fun y=>y=r)) :
  KC g a b c (XQ r):=Du (Pd JS uD d (fun _ _=>h))
theorem tW (k:Nat):∀l:List Int,gZ k (cH l)=false
 | []=>rfl
 | d::r=>by show (iq k (iv d)||gZ k (cH r))=false;rw[tW k r];rfl
theorem fJ (ρ:Nat->Nat):∀l:List Int,il ρ (cH l)=cH l
 | []=>rfl
 | d::r=>by show fx ρ (iv d)::il ρ (cH r)=_;rw[fJ ρ r];rfl
theorem tQ (p:Nat->Bool):∀l:List Int,mE p (cH l)=true
 | []=>rfl
 | d::r=>by show (Nz p (iv d)&&mE p (cH r))=true;rw[tQ p r];rfl
theorem zQ {g:FuncId} {c:List ac} {d:Heap} {f:Nat} {Q y:ac->Heap->Nat->Prop} (h:KC g c d f Q) (M:∀v h m,Q v h m->∃b,h.Perm b/\y v b m):KC g c d f y:=by
 intro w R N i p H z A I s t J F;refine (h w R N i p H z A I s t J F).mono ?_;rintro e P ⟨v,E,a,j,D,C,q,B,rfl,u,V,r,l,n,k,G⟩;obtain⟨b,L,x⟩:=M _ _ _ u;obtain⟨o,O,K⟩:=r.perm L;refine⟨v,E,b,j,D,C,q,o,rfl,x,V,O,?_,n,k,G⟩;exact (List.Perm.nodup_iff (List.Perm.append_left _ (List.Perm.append_right _ K))).1 l
def sP:ac:=.ptr (.out 0) 0
def hS (r:Nat):List Int->Heap
 | []=>[(.out 0,.cells [.dat nl])]
 | x::l=>[(.out r,.cells (cH (x::l))),(.out 0,.cells [.win (.out r) 1 0 (x::l).length])]
def hR (r:Nat) (l:List Int) (n:Nat):Heap:=[(.out r,.cells (cH l)),(.out 0,.cells [.win (.out r) 1 0 n])]
theorem LH {r:Nat} (h:l≠[]):hS r l=hR r l l.length:=by cases l with|nil=>grind|cons x l=>rfl
theorem Mo (s:l.Pairwise (·<=·)) (N:l.length < 1000000000) (b:n=l.length) :
  KC 206 [.win (.out 1) 1 0 n,iv x] (hR 1 l n) 2 (XQ ⟨.tup [iv (ofNat (l.countP (· < x))),bv (l.contains x)],hR 1 l n,2⟩):=by
 subst b;have h:=ay.frame (RQ (G:=cM) Tryz.aff (x:=x) s N) (fun _=>1) (heap:=hR 1 l l.length) (rest:=[(.out 0,.cells [.win (.out 1) 1 0 l.length])]) (next:=2) (by simp[hR,jJ,pW,wX,fJ]) rfl (by simp[gH,BS,tW]) rfl rfl;refine zQ h ?_;rintro v h m ⟨d,a,c,⟨rfl,rfl,rfl⟩,rfl,rfl,rfl⟩;refine⟨hR 1 l l.length,?_,rfl,rfl,rfl⟩;simp[hR,jJ,pW,wX,fJ,ig];exact List.Perm.refl _
theorem MQ (b:i<=l.length) (N:l.length < 1000000000) (c:n=l.length) :
  KC 207 [.win (.out 1) 1 0 n,iv (ofNat i),.win (.out 2) 1 0 1] ((.out 2,.cells [iv x])::hR 1 l n) 3
   (XQ ⟨.win (.out 3) 1 0 (fw l i x).length,[(.out 3,.cells (cH (fw l i x))),(.out 2,.cells [iv x]),(.out 0,.cells [.win (.out 1) 1 0 n])],4⟩):=by
 subst c;have h:=ay.frame (RS (G:=cM) Tryz.VR (x:=x) b N) (fun o=>o+1) (heap:=(.out 2,.cells [iv x])::hR 1 l l.length) (rest:=[(.out 0,.cells [.win (.out 1) 1 0 l.length])]) (next:=3) (by simp[hR,jJ,pW,wX,fJ,il,fx];exact List.Perm.swap _ _ _) rfl (by simp[gH,BS,tW,gZ,iq]) rfl rfl;refine zQ h ?_;rintro v h m ⟨e,a,d,⟨rfl,rfl,rfl⟩,rfl,rfl,rfl⟩;refine⟨_,List.Perm.refl _,rfl,?_,rfl⟩;simp[jJ,pW,wX,fJ,il,fx,ig];exact⟨rfl,rfl⟩
theorem insert_nil :
  KC 207 [.dat nl,iv (ofNat 0),.win (.out 1) 1 0 1] [(.out 1,.cells [iv x]),(.out 0,.cells [.dat nl])] 2
   (XQ ⟨.win (.out 2) 1 0 1,[(.out 2,.cells [iv x]),(.out 1,.cells [iv x]),(.out 0,.cells [.dat nl])],3⟩):=by
 have h:=ay.frame (EU (G:=cM) Tryz.VR (x:=x)) (fun o=>o+1) (heap:=[(.out 1,.cells [iv x]),(.out 0,.cells [.dat nl])]) (rest:=[(.out 0,.cells [.dat nl])]) (next:=2) (by rfl) rfl rfl rfl rfl;refine zQ h ?_;rintro v h m ⟨c,a,b,⟨rfl,rfl,rfl⟩,rfl,rfl,rfl⟩;exact⟨_,List.Perm.refl _,rfl,rfl,rfl⟩
theorem Is:ae 206 [.dat nl,iv x] (.tup [iv (ofNat 0),bv false]):=dE _ _ _ _ _ (by kernel_rfl)
theorem U8:KC 195 [sP,iv x] [(.out 0,.cells [.dat nl])] 1 (XQ ⟨.tup [],[(.out 2,.cells [iv x]),(.out 1,.cells [iv x]),(.out 0,.cells [.win (.out 2) 1 0 1])],3⟩):=by
 have a:=Is (x:=x);have b:=insert_nil (x:=x);exact iS [] [] (x:=qS.of Tryz.f195 P8 yq) (by kernel_rfl) (on a (oh b fi))
theorem U9 {c:List Int} {d:Nat} (a:KC 206 [.win (.out 1) 1 0 n,iv x] (hR 1 l n) 2 (XQ ⟨.tup [iv (ofNat i),bv false],hR 1 l n,2⟩))
  (b:KC 207 [.win (.out 1) 1 0 n,iv (ofNat i),.win (.out 2) 1 0 1] ((.out 2,.cells [iv x])::hR 1 l n) 3
   (XQ ⟨.win (.out 3) 1 0 d,[(.out 3,.cells (cH c)),(.out 2,.cells [iv x]),(.out 0,.cells [.win (.out 1) 1 0 n])],4⟩)) :
  KC 195 [sP,iv x] (hR 1 l n) 2 (XQ ⟨.tup [],[(.out 3,.cells (cH c)),(.out 2,.cells [iv x]),(.out 0,.cells [.win (.out 3) 1 0 d])],4⟩):=by
 exact iS [] [] (x:=qS.of Tryz.f195 P8 yq) (by kernel_rfl) (oh a (oh b fi))
theorem U7 (a:KC 206 [.win (.out 1) 1 0 n,iv x] (hR 1 l n) 2 (XQ ⟨.tup [iv (ofNat i),bv true],hR 1 l n,2⟩)) :
  KC 195 [sP,iv x] (hR 1 l n) 2 (XQ ⟨.tup [],hR 1 l n,2⟩):=by
 exact iS [] [] (x:=qS.of Tryz.f195 P8 yq) (by kernel_rfl) (oh a fi)
def jc (l:List Int) (x:Int):List Int:=match l.contains x with|true=>l|false=>fw l (l.countP (· < x)) x
theorem GK:fw l i x≠[]:=by simp[fw]
theorem Va (o:l≠[]) (s:l.Pairwise (·<=·)) (N:l.length < 1000000000) :
  KC 195 [sP,iv x] (hR 1 l l.length) 2 (XQ ⟨.tup [],hR 2 (jc l x) (jc l x).length,3⟩):=by
 have a:=Mo (x:=x) s N rfl;unfold jc;generalize e:l.contains x=c at a
 cases c
 ·have b:=MQ (x:=x) (i:=l.countP (· < x)) List.countP_le_length N rfl;refine ay.rn (U9 a b) ?_;rintro v w m ⟨rfl,rfl,rfl⟩;refine⟨[3],rfl,?_,?_⟩
  ·simp[dN,Sr,VN,lr,ot,tQ];rfl
  simp[hR,dN,jJ,pW,wX,il,fx,lr,ot,BP,AI,fJ];exact⟨rfl,rfl,rfl⟩
 refine ay.rn (U7 a) ?_;rintro v w m ⟨rfl,rfl,rfl⟩;refine⟨[1],rfl,?_,?_⟩
 ·simp[hR,dN,Sr,VN,lr,ot,tQ];rfl
 simp[hR,dN,jJ,pW,wX,il,fx,lr,ot,BP,AI,fJ];exact⟨rfl,rfl,rfl⟩
theorem HK:KC 195 [sP,iv x] [(.out 0,.cells [.dat nl])] 1 (XQ ⟨.tup [],hR 1 [x] 1,2⟩):=by
 refine ay.rn (U8 (x:=x)) ?_;rintro v w m ⟨rfl,rfl,rfl⟩;exact⟨[2],rfl,rfl,rfl,rfl,rfl⟩
theorem adM (s:l.Pairwise (·<=·)) (N:l.length < 1000000000) (r m:Nat) :
  KC 195 [sP,iv x] (hS r l) m (XQ ⟨.tup [],hS m (jc l x),m+1⟩):=by
 cases l with
 | nil=>
  have h:=ay.frame (HK (x:=x)) (fun o=>o) (heap:=hS r []) (rest:=[]) (next:=m) (by rfl) rfl rfl rfl rfl;refine h.mono ?_;rintro v h c ⟨e,a,d,⟨rfl,rfl,rfl⟩,rfl,rfl,rfl⟩;refine⟨rfl,?_,rfl⟩;show _=hS m [x];simp[hS,hR,jJ,pW,wX,il,fx,fJ,ig];exact⟨rfl,rfl,rfl⟩
 | cons y l=>
  have b:jc (y::l) x≠[]:=by
   grind[jc,GK]
  rw[LH (by simp:(y::l)≠[]),LH b];have h:=ay.frame (Va (x:=x) (by simp:(y::l)≠[]) s N) (fun o=>match o with|0=>0|_=>r) (heap:=hR r (y::l) (y::l).length) (rest:=[]) (next:=m) (by simp[hR,jJ,pW,wX,fJ,il,fx]) (by rfl) (by simp[gH,hR,BS,tW,gZ,iq];rfl) (by rfl) rfl;refine h.mono ?_;rintro v h c ⟨e,a,d,⟨rfl,rfl,rfl⟩,rfl,rfl,rfl⟩;refine⟨rfl,?_,rfl⟩;simp[hR,jJ,pW,wX,il,fx,fJ,ig];exact⟨rfl,rfl,rfl⟩
noncomputable def aci:Hints:=⟨bV,vL,bi,rowsOf bi 178⟩
def WI (k:Int) (b:List UInt8) (x:Int) (a:ak) (n u:Nat) (H:Heap) (m:Nat) (i:Int):ab:=⟨[(26,iv i),(25,iv (ofNat n)),(24,.dat a),(3,.ptr (.loc 3) 0),(1,iv (ofNat u)),(2,sP)],[(.loc 3,.cells [iv k,.dat (sb b),iv x,.dat a])],H,m⟩
def S0 (k:Int) (b:List UInt8) (x:Int) (a:ak) (n u:Nat) (H:Heap) (m:Nat) (i:Int):ab:=⟨[(27,bv false),(26,iv i),(25,iv (ofNat n)),(24,.dat a),(3,.ptr (.loc 3) 0),(1,iv (ofNat u)),(2,sP)],[(.loc 3,.cells [iv k,.dat (sb b),iv x,.dat a])],H,m⟩
theorem Ni {n:List UInt8} {f:Int} {x:ak} {c:List ak} {l:List Ty} {t:Ty} {b j:Nat} {H g:Heap} (r:ax l=x::c) (q:i < (ax l).length) (s:l[i]?=some t)
  (d:ae 196 [.dat (.agg [i64 k,sb n,i64 f,.slice (x::c)]),iv (ofNat i)] (iv (ofNat b)))
  (p:KC 178 [.dat t.enc,iv (an .i64 (ofNat u+ofNat b)),sP] H m (XQ ⟨.tup [],g,j⟩)) {T:ej}
  (e:T .normal ((WI k n f (.slice (x::c)) (x::c).length u g j (an .i64 (ofNat i+1))).al lk)) :
  KD (roundOf Tryz.f178 0) T ((WI k n f (.slice (x::c)) (x::c).length u H m (ofNat i)).al lk):=by
 have a:=br q;have h:=pF s;rw[r] at a h;obtain⟨K,y,v,o⟩:=t
 rcases o with _|⟨Q,w⟩ <;>
 ·exact aq [27] [29] (H:=aci) (live:=rf) (ob a (oo h (on d (oh p (oe e)))))
theorem RK {b:List UInt8} {a:ak} {H:Heap} {T:ej} (e:T (.exit 0) ((S0 k b x a n u H m (ofNat n)).al lk)) :
  KD (roundOf Tryz.f178 0) T ((WI k b x a n u H m (ofNat n)).al lk):=by
 have c:=cj (i:=n) (L:=n) (by omega);exact aq [27] [] (H:=aci) (live:=rf) (ob c (oe e))
def eP (k x:Int) (u:Nat) (s:List Int):List Int:=match aB k 5 with|false=>s|true=>(match aF x (ofNat u) with|true=>s|false=>jc s (x - ofNat u))
mutual
def Ty.cf:Ty->Nat->List Int->List Int
 | .mk k _ x a,u,s=>se k a 0 u (eP k x u s)
def se (k:Int):List Ty->Nat->Nat->List Int->List Int
 | [],_,_,s=>s
 | t::r,j,u,s=>se k r (j+1) u (t.cf (u+ey k j) s)
end
theorem LQ {k:Int} {b:List Ty} {u:Nat}:∀{a:List Ty} {j:Nat} {s:List Int},se k (a++b) j u s=se k b (j+a.length) u (se k a j u s)
 | [],j,s=>by simp[se]
 | t::r,j,s=>by
  simp only[List.cons_append,se,List.length_cons];rw[LQ,show j+1+r.length=j+(r.length+1) by omega]
theorem Hr {l:List Ty} {t:Ty} (h:l[i]?=some t):se k (l.take (i+1)) 0 u s=t.cf (u+ey k i) (se k (l.take i) 0 u s):=by
 have a:=(List.getElem?_eq_some_iff.1 h).1;rw[List.take_add_one,h,Option.toList_some,LQ,Nat.zero_add,List.length_take,Nat.min_eq_left (by omega),se,se]
theorem Nj {n:List UInt8} {a:Int} {l:List ak} {h p:Nat} {C b:Bool} {H c i:Heap} (f:aB k 5=C) (J:aF a (ofNat u)=b)
  (A:C=true->b=false->KC 195 [sP,iv (an .i64 (a - ofNat u))] H m (XQ ⟨.tup [],c,h⟩)) (o:C=false∨b=true->c=H/\h=m)
  (g:KD (.loop (roundOf Tryz.f178 0)) (fun e s=>e=.exit 0/\s=(S0 k n a (sl l) l.length u i p (ofNat l.length)).al lk) ((WI k n a (sl l) l.length u c h (ofNat 0)).al lk)) :
  KC 178 [.dat (.agg [i64 k,sb n,i64 a,sl l]),iv (ofNat u),sP] H m (XQ ⟨.tup [],i,p⟩):=by
 cases C
 ·obtain⟨rfl,rfl⟩:=o (.inl rfl);rcases l with _|⟨x,l⟩ <;>
  ·refine iS [10] [] (x:=qS.of Tryz.f178 vL rf) (by kernel_rfl) (ob f ?_);refine lo g ?_;rintro j s ⟨rfl,rfl⟩;refine⟨_,rfl,?_⟩;exact fi
 cases b
 ·have d:=A rfl rfl;rcases l with _|⟨x,l⟩ <;>
  ·refine iS [10,15] [] (x:=qS.of Tryz.f178 vL rf) (by kernel_rfl) (ob f (ox J (oh d ?_)));refine lo g ?_;rintro j s ⟨rfl,rfl⟩;refine⟨_,rfl,?_⟩;exact fi
 obtain⟨rfl,rfl⟩:=o (.inr rfl);rcases l with _|⟨x,l⟩ <;>
 ·refine iS [10,15] [] (x:=qS.of Tryz.f178 vL rf) (by kernel_rfl) (ob f (ox J ?_));refine lo g ?_;rintro j s ⟨rfl,rfl⟩;refine⟨_,rfl,?_⟩;exact fi
def gr (b:Nat) (s:List Int):Prop:=s.Pairwise (·<=·)/\s.length<=b
theorem countP_split (s:l.Pairwise (·<=·)):(∀y∈l.take (l.countP (· < x)),y < x)/\(∀y∈l.drop (l.countP (· < x)),x<=y):=by
 induction l with
 | nil=>simp
 | cons a r e=>
  obtain⟨f,b⟩:=e (List.Pairwise.of_cons s)
  by_cases A:a < x
  ·simp_all
  have o:(a::r).countP (· < x)=0:=by
   rw[List.countP_eq_zero];intro y c;have d:a<=y:=by
    rcases List.mem_cons.1 c with rfl|c
    all_goals simp_all
   grind
  grind
theorem Mn {b:Nat} (h:gr b s):gr (b+1) (jc s x):=by
 obtain⟨a,c⟩:=h;unfold jc
 cases s.contains x with
 | true=>exact⟨a,Nat.le_succ_of_le c⟩
 | false=>
  obtain⟨p,q⟩:=countP_split (x:=x) a;refine⟨?_,?_⟩
  ·unfold fw;rw[List.pairwise_append];refine⟨a.sublist (List.take_sublist _ _),?_,?_⟩
   ·rw[List.pairwise_cons];grind
   grind
  rw[uz List.countP_le_length];omega
theorem zE {b:Nat} {k x:Int} {u:Nat} {s:List Int} (h:gr b s):gr (b+1) (eP k x u s):=by
 unfold eP
 cases aB k 5 with
 | false=>exact⟨h.1,Nat.le_succ_of_le h.2⟩
 | true=>
  cases aF x (ofNat u) with
  | true=>exact⟨h.1,Nat.le_succ_of_le h.2⟩
  | false=>exact Mn h
mutual
theorem V4:∀(t:Ty) (u:Nat) {b:Nat} {s:List Int},gr b s->gr (b+t.size) (t.cf u s)
 | .mk k n x l,u,b,s,h=>by
  rw[Ty.cf,Ty.size,show b+(aQ l+1)=b+1+aQ l by omega];exact EO l u (zE h)
theorem EO {k:Int}:∀(l:List Ty) {j:Nat} (u:Nat) {b:Nat} {s:List Int},gr b s->gr (b+aQ l) (se k l j u s)
 | [],j,u,b,s,h=>by grind[se,aQ]
 | t::r,j,u,b,s,h=>by
  rw[se,aQ,←Nat.add_assoc];exact EO r u (V4 t _ h)
end
def CF (t:Ty) (u:Nat) (s:List Int):Prop:=∀r m,0 < r->0 < m->KC 178 [.dat t.enc,iv (ofNat u),sP] (hS r s) m (XQ ⟨.tup [],hS m (t.cf u s),m+1⟩)
def FK (r m:Nat):Nat->Nat
 | 0=>r
 | i+1=>m+i
theorem FJ {r:Nat} (a:0 < r) (b:0 < m):0 < FK r m i:=by cases i <;> grind[FK]
theorem Xn {f:FuncId} {a:List ac} {o:Heap} {q mm:Nat} (g:0 < m) (i:0 < q) (h:KC f a o m (XQ ⟨.tup [],hS q s,mm⟩)):KC f a o m (XQ ⟨.tup [],hS m s,m+1⟩):=by
 refine ay.rn h ?_;rintro v w j ⟨rfl,rfl,rfl⟩;refine⟨[q],rfl,?_,?_⟩
 all_goals
  have E:ot 0 [q]=false:=by cases q with|zero=>omega|succ q=>rfl
  have F:ot q [q]=true:=by simp[ot]
  have b:lr m [q] 0=true:=by simp[lr,g]
  have c:lr m [q] q=true:=by simp[lr,F]
  have d:BP m [q] 0=0:=by simp[BP,E]
  have e:BP m [q] q=m:=by simp[BP,F,AI]
 ·cases s with
  | nil=>simp[hS,dN,Sr,VN,mE,Nz,b]
  | cons x l=>simp[hS,dN,Sr,VN,mE,Nz,b,c,tQ]
 ·cases s with
  | nil=>simp[hS,dN,jJ,pW,wX,il,fx,b,d];exact⟨rfl,rfl,rfl⟩
  | cons x l=>simp[hS,dN,jJ,pW,wX,il,fx,b,c,d,e,fJ];exact⟨rfl,rfl,rfl⟩
theorem UR {h:List UInt8} {a:Int} {l:List Ty} {b:Nat} (H:gr b s) (O:b+1+aQ l < 1000000000) (W:u < 1000000000) (g:aB k 5=true->aF a 9223372036854775808=true)
  (V:∀t∈l,∀v L,v<=u+1->gr (b+1+aQ l) L->(∃Q,gr Q L/\Q+t.size<=b+1+aQ l)->CF t v L):CF (.mk k h a l) u s:=by
 intro r m N C;have M:=gw l;obtain⟨f,c,A,y,o⟩:∃f c,0 < f/\0 < c/\((aB k 5=true->aF a (ofNat u)=false->KC 195 [sP,iv (an .i64 (a - ofNat u))] (hS r s) m (XQ ⟨.tup [],hS f (eP k a u s),c⟩))/\(aB k 5=false∨aF a (ofNat u)=true->hS f (eP k a u s)=hS r s/\c=m)):=by
  unfold eP
  cases R:aB k 5 with
  | false=>exact⟨r,m,N,C,by simp,fun _=>⟨rfl,rfl⟩⟩
  | true=>
   cases J:aF a (ofNat u) with
   | true=>exact⟨r,m,N,C,by simp,fun _=>⟨rfl,rfl⟩⟩
   | false=>
    refine⟨m,m+1,C,by omega,fun _ _=>?_,by simp⟩;have g:=g R;rw[dA] at J g;simp only[decide_eq_false_iff_not,decide_eq_true_eq] at J g;have e:an .i64 (a - ofNat u)=a - ofNat u:=by
     rw[cQ];simp only[Int.ofNat_eq_natCast] at J ⊢;exact wrap_i64 (by omega) (by omega)
    rw[e];exact adM H.1 (by have:=H.2;omega) r m
 have I:=@zE _ k a u _ H;refine Xn (q:=FK f c l.length) (mm:=c+l.length) C (FJ A y) ?_;have G:KD (.loop (roundOf Tryz.f178 0)) (fun e B=>e=.exit 0/\B=(S0 k h a (sl (ax l)) (ax l).length u (hS (FK f c l.length) (se k l 0 u (eP k a u s))) (c+l.length) (ofNat (ax l).length)).al lk)
   ((WI k h a (sl (ax l)) (ax l).length u (hS f (eP k a u s)) c (ofNat 0)).al lk):=by
  refine cA (St:=fun i=>(WI k h a (sl (ax l)) (ax l).length u (hS (FK f c i) (se k (l.take i) 0 u (eP k a u s))) (c+i) (ofNat i)).al lk) (ax l).length ?_ ?_ (i:=0) (Nat.zero_le _)
  ·intro i w;obtain⟨t,K,z⟩:=get_mem w;have F:=w;rw[aH] at F;have P:ey k i<=1:=by unfold ey;split <;> omega
   obtain⟨x,j,D⟩:∃x j,ax l=x::j:=by
    cases G:ax l with
    | nil=>rw[G] at w;simp at w
    | cons x j=>exact⟨x,j,rfl⟩
   have U:=ld K;have S:=tx (l:=l) (i+1);have d:gr (b+1+aQ (l.take i)) (se k (l.take i) 0 u (eP k a u s)):=EO _ u I;have p:=V t z (u+ey k i) (se k (l.take i) 0 u (eP k a u s)) (by omega) ⟨d.1,by have:=d.2;omega⟩ ⟨_,d,by omega⟩ (FK f c i) (c+i) (FJ A y) (by omega);rw[←wrap_add (n:=u) (m:=ey k i) (by omega)] at p;have E:=Dl k h a (.slice (x::j)) (.inr ⟨_,rfl⟩) i;have e:=Ni (T:=xU (fun B=>B=(WI k h a (sl (ax l)) (ax l).length u (hS (FK f c (i+1)) (se k (l.take (i+1)) 0 u (eP k a u s))) (c+(i+1)) (ofNat (i+1))).al lk)
    (fun e B=>e=.exit 0/\B=(S0 k h a (sl (ax l)) (ax l).length u (hS (FK f c l.length) (se k l 0 u (eP k a u s))) (c+l.length) (ofNat (ax l).length)).al lk)) D w K E p (by
     rw[D,bb (by omega),Hr K];rfl)
   rw[D];rw[D] at e;exact e
  refine RK ⟨rfl,?_⟩;rw[aH,List.take_length]
 exact Nj rfl rfl o.1 o.2 G
mutual
theorem Dk:∀(t:Ty) (u:Nat) {b:Nat} {s:List Int},gr b s->b+t.size < 1000000000->u+t.depth < 1000000000->t.fY->CF t u s
 | .mk k n x l,u,b,s,j,d,h,c=>by
  simp only[Ty.size] at d;simp only[Ty.depth] at h;exact UR j (by omega) (by omega) c.1 (Bl l u (by omega) (by omega) c.2)
theorem Bl:∀(l:List Ty) (u:Nat) {B:Nat},u+lN l+1 < 1000000000->B < 1000000000->fg l->∀t∈l,∀v e,v<=u+1->gr B e->(∃Q,gr Q e/\Q+t.size<=B)->CF t v e
 | [],u,B,o,_,i,t,T,_,_,_,_,_=>by grind
 | y::r,u,B,o,hB,i,t,T,v,e,V,a,m=>by
  simp only[lN] at o;rcases List.mem_cons.1 T with f|T
  ·obtain⟨Q,g,G⟩:=m;rw[f] at G ⊢;exact Dk y v g (by omega) (by omega) i.1
  exact Bl r u (by omega) hB i.2 t T v e V a m
end
theorem Q9 {n:List UInt8} {a:Int} {l:List ak} (h:KC 178 [.dat (.agg [i64 k,sb n,i64 a,sl l]),iv (ofNat 0),sP] [(.out 0,.cells [.dat nl])] 1 (XQ ⟨.tup [],hS 1 s,2⟩)) :
  KC 147 [.dat (.agg [i64 k,sb n,i64 a,sl l])] [] 0 (XQ (match s with|[]=>⟨.dat nl,hS 1 [],2⟩|x::r=>⟨.win (.out 1) 1 0 (x::r).length,hS 1 (x::r),2⟩)):=by
 rcases l with _|⟨y,l⟩ <;>
 ·cases s with
  | nil=>
   exact iS [] [] (x:=qS.of Tryz.f147 P8 En) (by kernel_rfl) (oh h fi)
  | cons x r=>
   exact iS [] [] (x:=qS.of Tryz.f147 P8 En) (by kernel_rfl) (oh h fi)
def iN (x:Int):ak:=.flat (.int .i64 x)
def Ty.fv (t:Ty):List Int:=t.cf 0 []
theorem X8 {t:Ty}:gr (0+t.size) t.fv:=V4 t 0 ⟨List.Pairwise.nil,Nat.le_refl _⟩
theorem J4 {t:Ty} (d:t.size < 400000000) (c:t.fY):ae 147 [.dat t.enc] (.dat (sl (t.fv.map iN))):=by
 have a:=Dk t 0 (s:=[]) ⟨List.Pairwise.nil,Nat.le_refl 0⟩ (by omega) (by grind[oS]) c 1 1 (by decide) (by decide);have b:=X8 (t:=t);unfold Ty.fv at b ⊢;generalize t.cf 0 []=s at a b;obtain⟨k,n,e,l⟩:=t;have f:=Q9 a
 cases s with
 | nil=>
  refine ay.rn f ?_;rintro v w m ⟨rfl,rfl,rfl⟩;exact⟨[],rfl,rfl,rfl,rfl,rfl⟩
 | cons x r=>exact ay.UD f (by have:=b.2;simp only[lim];omega)
def sx (z:Bool):List ak->ak
 | []=>(match z with|true=>.slice []|false=>nl)
 | d::r=>.slice (d::r)
structure Ins where
 op:Int
 dst:Int
 a:Int
 b:Int
 im:Int
 nm:List UInt8
 az:Bool
 ar:List Int
 ty:Ty
 ck:Int
 ci:Int
 cs:List UInt8
def Ins.cells (x:Ins):List ak:=[i64 x.op,i64 x.dst,i64 x.a,i64 x.b,i64 x.im,sb x.nm,sx x.az (x.ar.map iN)]++(x.ty.cells++[i64 x.ck,i64 x.ci,sb x.cs,nl])
def Ins.enc (x:Ins):ak:=.agg x.cells
def encI:List Ins->List ak
 | []=>[]
 | x::r=>x.enc::encI r
theorem gR:∀l:List Ins,encI l=l.map Ins.enc
 | []=>rfl
 | x::r=>by simp[encI,gR r]
theorem bH (l:List Ins):(encI l).length=l.length:=by simp[gR]
theorem Rr {l:List Ins} {i:Nat} {t:Ins} (h:l[i]?=some t):(encI l)[i]?=some t.enc:=by simp[gR,h]
theorem sT (x:Ins):x.cells.length=15:=by
 obtain⟨h,d,a,b,m,n,e,u,⟨k,t,f,g⟩,C,I,c⟩:=x;rfl
mutual
inductive gM where
 |mk (pa sl:Int) (iz:Bool) (ins:List Ins) (ez:Bool) (cD:List (List fG))
inductive fG where
 |mk (kind:Int) (decl:vh) (func:List UInt8) (sig:Ty) (pa:Int) (code:gM) (pkg:List UInt8)
end
mutual
def gM.cells:gM->List ak
 | .mk L s h a g b=>[i64 L,i64 s,sx h (encI a),sx g (aG b)]
def aG:List (List fG)->List ak
 | []=>[]
 | l::r=>.slice (ir l)::aG r
def ir:List fG->List ak
 | []=>[]
 | e::r=>.agg e.cells::ir r
def fG.cells:fG->List ak
 | .mk k d f j L c i=>i64 k::(d.cells++(sb f::(j.cells++(i64 L::(c.cells++[sb i])))))
end
def gM.enc (c:gM):ak:=.agg c.cells
def fG.enc (e:fG):ak:=.agg e.cells
def gM.pa:gM->Int|.mk L _ _ _ _ _=>L
def gM.sl:gM->Int|.mk _ s _ _ _ _=>s
def gM.iz:gM->Bool|.mk _ _ a _ _ _=>a
def gM.ins:gM->List Ins|.mk _ _ _ a _ _=>a
def gM.ez:gM->Bool|.mk _ _ _ _ a _=>a
def gM.cD:gM->List (List fG)|.mk _ _ _ _ _ a=>a
theorem A8:∀l:List fG,ir l=l.map fG.enc
 | []=>by simp[ir]
 | x::r=>by simp[ir,A8 r,fG.enc]
theorem nC:∀l:List (List fG),aG l=l.map (fun x=>.slice (ir x))
 | []=>by simp[aG]
 | x::r=>by simp[aG,nC r]
variable {i:Nat}
theorem xB (l:List fG):(ir l).length=l.length:=by simp[A8]
theorem dJ (l:List (List fG)):(aG l).length=l.length:=by simp[nC]
theorem Rs {l:List fG} {t:fG} (h:l[i]?=some t):(ir l)[i]?=some t.enc:=by simp[A8,h]
theorem Nc {l:List (List fG)} {t:List fG} (h:l[i]?=some t):(aG l)[i]?=some (.slice (ir t)):=by simp[nC,h]
noncomputable def rE:TI:=match Go.Tp.elemOf ba 23 with|some t=>t|none=>default
theorem DD:Go.Tp.elemOf ba 23=some rE:=by kernel_rfl
theorem kJ:rE.size=15:=by kernel_rfl
theorem xn {l:List Ins} {t:Ins} (h:l[i]?=some t):ap ba 23 [.dat (.slice (encI l)),.dat (.flat (.int .i64 (ofNat i)))]=some ⟨.ref t.cells,.keep⟩:=
 pd DD rfl (Rr h) (by exact sT t) (by decide)
theorem ZA (e:fG):e.cells.length=20:=by
 obtain⟨k,⟨i,u,⟨r,s,b,q⟩,p,l⟩,f,⟨w,t,d,v⟩,n,⟨h,c,m,a,j,g⟩,o⟩:=e;rfl
noncomputable def aaJ:TI:=match Go.Tp.elemOf ba 54 with|some t=>t|none=>default
theorem SP:Go.Tp.elemOf ba 54=some aaJ:=by kernel_rfl
theorem B9:aaJ.size=20:=by kernel_rfl
theorem VS {l:List fG} {t:fG} (h:l[i]?=some t):ap ba 54 [.dat (.slice (ir l)),.dat (.flat (.int .i64 (ofNat i)))]=some ⟨.ref t.cells,.keep⟩:=
 pd SP rfl (Rs h) (by exact ZA t) (by decide)
noncomputable def Fc:TI:=match Go.Tp.elemOf ba 24 with|some t=>t|none=>default
theorem DF:Go.Tp.elemOf ba 24=some Fc:=by kernel_rfl
theorem qU:Fc.size=1:=by kernel_rfl
theorem VT {l:List (List fG)} {t:List fG} (h:l[i]?=some t):ap ba 24 [.dat (.slice (aG l)),.dat (.flat (.int .i64 (ofNat i)))]=some ⟨.ref [.slice (ir t)],.keep⟩:=
 pd DF rfl (Nc h) (by rfl) (by decide)
structure kG where
 w:List UInt8
 dst:Bool
 a:Bool
 b:Bool
 im:Bool
 nm:Bool
 ar:Bool
 ty:Bool
 sK:Bool
 call:Bool
 cond:Bool
 fin:Bool
def kG.enc (s:kG):ak:=.agg [sb s.w,bl s.dst,bl s.a,bl s.b,bl s.im,bl s.nm,bl s.ar,bl s.ty,bl s.sK,bl s.call,bl s.cond,bl s.fin]
def kG.use (s:kG):ak:=.agg [bl s.dst,bl s.a,bl s.b,bl s.im,bl s.nm,bl s.ar,bl s.ty,bl s.sK]
def kG.zero:kG:=⟨[],false,false,false,false,false,false,false,false,false,false,false⟩
def amR:Nat->Option kG
 | 1=>some ⟨[99,111,110,115,116],true,false,false,false,false,false,false,true,false,false,false⟩
 | 2=>some ⟨[109,111,118,101],true,true,false,false,false,false,false,false,false,false,false⟩
 | 3=>some ⟨[112,114,105,109],true,true,true,true,false,false,false,false,false,false,false⟩
 | 4=>some ⟨[110,101,119],true,false,false,false,false,true,true,false,false,false,false⟩
 | 5=>some ⟨[103,101,116],true,true,false,false,true,false,false,false,false,false,false⟩
 | 6=>some ⟨[115,101,116],false,true,true,false,true,false,false,false,false,false,false⟩
 | 7=>some ⟨[116,117,112,108,101],true,false,false,false,false,true,false,false,false,false,false⟩
 | 8=>some ⟨[101,108,101,109,101,110,116],true,true,false,true,false,false,false,false,false,false,false⟩
 | 9=>some ⟨[105,115,105,110,115,116,97,110,99,101],true,true,false,false,false,false,true,false,false,false,false⟩
 | 10=>some ⟨[99,97,108,108],true,false,false,false,true,true,false,false,true,false,false⟩
 | 11=>some ⟨[108,97,116,101,115,116],true,false,false,false,true,true,false,false,true,false,false⟩
 | 12=>some ⟨[106,117,109,112],false,false,false,true,false,false,false,false,false,false,true⟩
 | 13=>some ⟨[98,114,97,110,99,104],false,true,false,true,false,false,false,false,false,true,false⟩
 | 14=>some ⟨[116,105,99,107],false,false,false,false,false,false,false,false,true,false,false⟩
 | 15=>some ⟨[111,117,116,112,117,116],false,true,false,false,false,false,false,false,false,false,false⟩
 | 16=>some ⟨[102,97,105,108],false,true,false,false,false,false,false,false,false,false,true⟩
 | 17=>some ⟨[101,100,105,116],false,false,false,true,false,false,false,false,false,false,false⟩
 | 18=>some ⟨[112,97,117,115,101],false,false,false,false,false,false,false,false,false,false,false⟩
 | 19=>some ⟨[114,101,116,117,114,110],false,true,false,false,false,false,false,false,false,false,true⟩
 | 20=>some ⟨[101,110,116,101,114],false,false,false,true,false,false,false,false,true,false,false⟩
 | 21=>some ⟨[108,101,97,118,101],false,false,false,false,false,false,false,false,false,false,false⟩
 | 22=>some ⟨[105,110,118,111,107,101],true,false,false,true,false,true,false,false,true,false,false⟩
 | _=>none
def eO (a:Int):Option kG:=match a with|.ofNat n=>amR n|_=>none
def lU (o:Option kG):kG:=match o with|some s=>s|none=>kG.zero
def shS (o:Option kG):Bool:=match o with|some _=>true|none=>false
variable {C I K a b c d k m x:Int} {T:ej} {f y:ak} {i u:Nat} {l:List ak} {n:List UInt8} {s:kG} {t:Ty}
theorem WQ:∀n:Nat,1<=n->n<=22->ae 58 [iv (ofNat n)] (.tup [.dat (lU (amR n)).enc,bv (shS (amR n))])
 | 0,h,_=>absurd h (by omega)
 | 1,_,_=>dE _ _ _ _ _ (by kernel_rfl)
 | 2,_,_=>dE _ _ _ _ _ (by kernel_rfl)
 | 3,_,_=>dE _ _ _ _ _ (by kernel_rfl)
 | 4,_,_=>dE _ _ _ _ _ (by kernel_rfl)
 | 5,_,_=>dE _ _ _ _ _ (by kernel_rfl)
 | 6,_,_=>dE _ _ _ _ _ (by kernel_rfl)
 | 7,_,_=>dE _ _ _ _ _ (by kernel_rfl)
 | 8,_,_=>dE _ _ _ _ _ (by kernel_rfl)
 | 9,_,_=>dE _ _ _ _ _ (by kernel_rfl)
 | 10,_,_=>dE _ _ _ _ _ (by kernel_rfl)
 | 11,_,_=>dE _ _ _ _ _ (by kernel_rfl)
 | 12,_,_=>dE _ _ _ _ _ (by kernel_rfl)
 | 13,_,_=>dE _ _ _ _ _ (by kernel_rfl)
 | 14,_,_=>dE _ _ _ _ _ (by kernel_rfl)
 | 15,_,_=>dE _ _ _ _ _ (by kernel_rfl)
 | 16,_,_=>dE _ _ _ _ _ (by kernel_rfl)
 | 17,_,_=>dE _ _ _ _ _ (by kernel_rfl)
 | 18,_,_=>dE _ _ _ _ _ (by kernel_rfl)
 | 19,_,_=>dE _ _ _ _ _ (by kernel_rfl)
 | 20,_,_=>dE _ _ _ _ _ (by kernel_rfl)
 | 21,_,_=>dE _ _ _ _ _ (by kernel_rfl)
 | 22,_,_=>dE _ _ _ _ _ (by kernel_rfl)
 | n+23,_,h=>absurd h (by omega)
theorem Ox (a:aF b 1=true):ae 58 [iv b] (.tup [.dat kG.zero.enc,bv false]):=by
 refine co [29] [] (x:=.of Tryz.f58 P8 Jm) ?_;exact ob a fi
theorem Oy (a:aF c 1=false) (b:aF c 23=false):ae 58 [iv c] (.tup [.dat kG.zero.enc,bv false]):=by
 refine co [29,32] [] (x:=.of Tryz.f58 P8 Jm) ?_;exact ob a (ox b fi)
theorem DQ (h:aF a 1=true):eO a=none:=by
 rw[dA] at h;simp at h;unfold eO
 split
 ·rename_i n
  have:n=0:=by grind
  subst this;rfl
 rfl
theorem S5:∀n:Nat,amR (n+23)=none:=fun n=>rfl
theorem DR (h:aF a 23=false):eO a=none:=by
 rw[dA] at h;simp only[decide_eq_false_iff_not] at h;unfold eO
 split
 ·rename_i n;obtain⟨m,rfl⟩:∃m,n=m+23:=⟨n - 23,by grind⟩;exact S5 m
 rfl
theorem zo (a:aF c 1=false) (b:aF c 23=true):∃n:Nat,c=ofNat n/\1<=n/\n<=22:=by
 rw[dA] at a b;simp only[decide_eq_false_iff_not,decide_eq_true_eq] at a b;exact⟨c.toNat,by grind,by omega,by omega⟩
theorem uT (c:Int):ae 58 [iv c] (.tup [.dat (lU (eO c)).enc,bv (shS (eO c))]):=by
 cases d:aF c 1 with
 | true=>rw[DQ d];exact Ox d
 | false=>
  cases e:aF c 23 with
  | false=>rw[DR e];exact Oy d e
  | true=>
   obtain⟨n,rfl,a,b⟩:=zo d e;exact WQ n a b
theorem sR:∀n:Nat,1<=n->n<=22->ae 62 [iv (ofNat n)] (.dat (lU (amR n)).use)
 | 0,h,_=>absurd h (by omega)
 | 1,_,_=>dE _ _ _ _ _ (by kernel_rfl)
 | 2,_,_=>dE _ _ _ _ _ (by kernel_rfl)
 | 3,_,_=>dE _ _ _ _ _ (by kernel_rfl)
 | 4,_,_=>dE _ _ _ _ _ (by kernel_rfl)
 | 5,_,_=>dE _ _ _ _ _ (by kernel_rfl)
 | 6,_,_=>dE _ _ _ _ _ (by kernel_rfl)
 | 7,_,_=>dE _ _ _ _ _ (by kernel_rfl)
 | 8,_,_=>dE _ _ _ _ _ (by kernel_rfl)
 | 9,_,_=>dE _ _ _ _ _ (by kernel_rfl)
 | 10,_,_=>dE _ _ _ _ _ (by kernel_rfl)
 | 11,_,_=>dE _ _ _ _ _ (by kernel_rfl)
 | 12,_,_=>dE _ _ _ _ _ (by kernel_rfl)
 | 13,_,_=>dE _ _ _ _ _ (by kernel_rfl)
 | 14,_,_=>dE _ _ _ _ _ (by kernel_rfl)
 | 15,_,_=>dE _ _ _ _ _ (by kernel_rfl)
 | 16,_,_=>dE _ _ _ _ _ (by kernel_rfl)
 | 17,_,_=>dE _ _ _ _ _ (by kernel_rfl)
 | 18,_,_=>dE _ _ _ _ _ (by kernel_rfl)
 | 19,_,_=>dE _ _ _ _ _ (by kernel_rfl)
 | 20,_,_=>dE _ _ _ _ _ (by kernel_rfl)
 | 21,_,_=>dE _ _ _ _ _ (by kernel_rfl)
 | 22,_,_=>dE _ _ _ _ _ (by kernel_rfl)
 | n+23,_,h=>absurd h (by omega)
theorem eV {k:Nat} (h:aF c 1=true∨aF c 23=false) (a:1<=k) (b:k<=22):aB c (ofNat k)=false:=by
 rw[cN];simp;rintro rfl
 rcases h with h|h
 ·rw[dA] at h;grind
 rw[dA] at h;grind
theorem Ki (h:aF c 1=true∨aF c 23=false):ae 62 [iv c] (.dat kG.zero.use):=by
 have a:aB c 1=false:=eV h (k:=1) (by omega) (by omega);have b:aB c 2=false:=eV h (k:=2) (by omega) (by omega);have f:aB c 3=false:=eV h (k:=3) (by omega) (by omega);have g:aB c 4=false:=eV h (k:=4) (by omega) (by omega);have G:aB c 5=false:=eV h (k:=5) (by omega) (by omega);have r:aB c 6=false:=eV h (k:=6) (by omega) (by omega);have s:aB c 7=false:=eV h (k:=7) (by omega) (by omega);have t:aB c 8=false:=eV h (k:=8) (by omega) (by omega);have u:aB c 9=false:=eV h (k:=9) (by omega) (by omega);have d:aB c 10=false:=eV h (k:=10) (by omega) (by omega);have e:aB c 11=false:=eV h (k:=11) (by omega) (by omega);have i:aB c 12=false:=eV h (k:=12) (by omega) (by omega);have j:aB c 13=false:=eV h (k:=13) (by omega) (by omega);have l:aB c 15=false:=eV h (k:=15) (by omega) (by omega);have m:aB c 16=false:=eV h (k:=16) (by omega) (by omega);have n:aB c 17=false:=eV h (k:=17) (by omega) (by omega);have o:aB c 19=false:=eV h (k:=19) (by omega) (by omega);have p:aB c 20=false:=eV h (k:=20) (by omega) (by omega);have q:aB c 22=false:=eV h (k:=22) (by omega) (by omega)
 refine co [5,8,11,14,17,20,23,26,29,32,33,36,37,38,41,44,45,46,49] [] (x:=.of Tryz.f62 P8 Qw) ?_;exact ob a (ob b (ob f (ob g (ob G (ob r (ob s (ob t (ob u (ob d (ob e (ob i (ob n (ob p (ob j (ob l (ob m (ob o (ob q fi))))))))))))))))))
def Z8.eq (f g:Z8):Bool:=jP f.nm g.nm&&NC f.ty g.ty
def aga:List Z8->List Z8->Bool
 | f::r,g::s=>f.eq g&&aga r s
 | _,_=>true
def akP (l a:List Z8):Bool:=aB (ofNat (BZ l).length) (ofNat (BZ a).length)&&aga l a
def vh.eq (a b:vh):Bool:=jP a.nm b.nm&&(aB a.ar b.ar&&((a.sK==b.sK)&&(NC a.sup b.sup&&akP a.fl b.fl)))
def ik:List Ty->Bool
 | t::_=>t.closed 0
 | []=>false
def vQ (k:Int) (n:List UInt8) (x:Int) (l:List Ty):Bool:=
 if (!aB k 2&&!jP n [])=true then false
 else if (!aB k 5&&!aB x 0)=true then false
 else if (aB k 0||aB k 1)=true then aB (ofNat (ax l).length) 0
 else if aB k 2=true then isIdent n&&(!aeh n&&(!aF 6 (ofNat (ax l).length)&&!gT l))
 else if aB k 3=true then !aF 6 (ofNat (ax l).length)
 else if aB k 4=true then !aF (ofNat (ax l).length) 2
 else if aB k 5=true then aB (ofNat (ax l).length) 0&&(!aF x 0&&!aF 200 x)
 else if aB k 6=true then aB (ofNat (ax l).length) 2&&ik l
 else false
theorem Hu {k:Int} {n:List UInt8} {h:Int} {l:List Ty} (w:∀t∈l,ae 210 [.dat t.enc] (bv t.plain)) (j:∀t∈l,ae 204 [.dat t.enc,iv (ofNat 0)] (bv (t.closed 0)))
  (R:l.length < 1000000000):ae 192 [.dat (Ty.mk k n h l).enc] (bv (vQ k n h l)):=by
 have u:=Dj n;have A:=HA n;have z:=@xE k n h _ w R;have s:∀t r,l=t::r->ae 204 [.dat t.enc,iv (ofNat 0)] (bv (ik l)):=by
  rintro t r rfl;exact j t (by simp)
 unfold vQ;generalize ik l=fc at s;generalize isIdent n=I at u;generalize aeh n=cr at A;generalize gT l=Z at z;generalize o:aB k 0=E;generalize a:aB k 1=p;generalize e:aB k 2=q;generalize f:aB k 3=O;generalize g:aB k 4=P;generalize G:aB k 5=B;generalize h6:aB k 6=Y;generalize N:jP n []=Q;generalize S:aB h 0=C;generalize y:aF 6 (ofNat (ax l).length)=D;generalize J:aF (ofNat (ax l).length) 2=T;generalize i:aB (ofNat (ax l).length) 0=H;generalize m:aB (ofNat (ax l).length) 2=F;generalize L:aF h 0=U;generalize M:aF 200 h=V;clear w j R
 rcases l with _|⟨t,r⟩ <;>
 ·refine co [5,9,14,18,24,25,31,53,59,65,81,29,46,57,63,69,73,78,85] [89] (x:=.of Tryz.f192 P8 Lh) ?_;refine bn (b:=!q) (c:=!aB k 2) (by rw[e]) (by kernel_rfl) ?_
  cases q
  ·refine bn (b:=!Q) (c:=!jP n []) (by rw[N]) (by kernel_rfl) ?_
   cases Q with
   | false=>exact fi
   | true=>
    refine bn (b:=!B) (c:=!aB k 5) (by rw[G]) (by kernel_rfl) ?_
    cases B
    ·refine bn (b:=!C) (c:=!aB h 0) (by rw[S]) (by kernel_rfl) ?_
     cases C with
     | false=>exact fi
     | true=>
      refine ob o ?_
      cases E
      ·refine ob a ?_
       cases p
       ·refine ob e (ob f ?_)
        cases O
        ·refine ob g ?_
         cases P
         ·refine ob G (ob h6 ?_)
          cases Y with
          | false=>exact fi
          | true=>
           refine ob m ?_
           cases F with
           | false=>exact fi
           | true=>
            first
            |exact absurd m (by decide)
            |have hc:=s _ _ rfl
             have v:=@pF (t::r) 0 t rfl;obtain⟨K,lR,ad,W⟩:=t
             rcases W with _|⟨b,d⟩ <;>
             ·refine oo v (on hc ?_)
              cases fc <;> exact fi
         refine bn (b:=!T) (c:=!aF _ 2) (by rw[J]) (by kernel_rfl) ?_
         cases T <;> exact fi
        refine bn (b:=!D) (c:=!aF 6 _) (by rw[y]) (by kernel_rfl) ?_
        cases D <;> exact fi
       refine ob i ?_
       cases H <;> exact fi
      refine ob i ?_
      cases H <;> exact fi
    refine ob o ?_
    cases E
    ·refine ob a ?_
     cases p
     ·refine ob e (ob f ?_)
      cases O
      ·refine ob g ?_
       cases P
       ·refine ob G (ob i ?_)
        cases H with
        | false=>exact fi
        | true=>
         refine bn (b:=!U) (c:=!aF h 0) (by rw[L]) (by kernel_rfl) ?_
         cases U
         ·refine bn (b:=!V) (c:=!aF 200 h) (by rw[M]) (by kernel_rfl) ?_
          cases V <;> exact fi
         exact fi
       exact absurd g (by rw[cN] at G ⊢;simp at G ⊢;omega)
      exact absurd f (by rw[cN] at G ⊢;simp at G ⊢;omega)
     exact absurd a (by rw[cN] at G ⊢;simp at G ⊢;omega)
    exact absurd o (by rw[cN] at G ⊢;simp at G ⊢;omega)
  refine bn (b:=!B) (c:=!aB k 5) (by rw[G]) (by kernel_rfl) ?_
  cases B
  ·refine bn (b:=!C) (c:=!aB h 0) (by rw[S]) (by kernel_rfl) ?_
   cases C with
   | false=>exact fi
   | true=>
    refine ob o ?_
    cases E
    ·refine ob a ?_
     cases p
     ·refine ob e (on u ?_)
      cases I with
      | false=>exact fi
      | true=>
       refine on A ?_
       cases cr
       ·refine bn (b:=!D) (c:=!aF 6 _) (by rw[y]) (by kernel_rfl) ?_
        cases D
        ·refine on z ?_
         cases Z <;> exact fi
        exact fi
       exact fi
     exact absurd a (by rw[cN] at e ⊢;simp at e ⊢;omega)
    exact absurd o (by rw[cN] at e ⊢;simp at e ⊢;omega)
  exact absurd G (by rw[cN] at e ⊢;simp at e ⊢;omega)
mutual
def Ty.valid:Ty->Bool
 | .mk k n x l=>vQ k n x l&&!pA l
def pA:List Ty->Bool
 | []=>false
 | t::r=>!t.valid||pA r
end
theorem Ds:∀l:List Ty,pA l=l.any (fun t=>!t.valid)
 | []=>by simp[pA]
 | t::r=>by simp[pA,Ds r]
theorem HQ {g:Int} {l:List Ty} (V:∀t∈l,ae 177 [.dat t.enc] (bv t.valid)) (o:(Ty.mk k n g l).size < 1000000000):ae 177 [.dat (Ty.mk k n g l).enc] (bv (Ty.mk k n g l).valid):=by
 have e:aQ l < 1000000000:=by simp only[Ty.size] at o;omega
 have h:l.length < 1000000000:=by have:=gw l;omega
 have i:=jR l;have a:=@Hu k n g _ (Bj l e) (wA l 0 e (by omega)) h;have j:∀t∈l,ae 194 [.dat t.enc] (bv (!t.valid)):=by
  intro t T;have m:=V t T;generalize t.valid=c at m;obtain⟨K,u,s,p⟩:=t
  rcases p with _|⟨b,d⟩ <;> cases c <;>
  ·refine co [] [] (x:=.of Tryz.f194 P8 QG) ?_;exact on m fi
 have f:=Bu j h;rw[Ty.valid,Ds];generalize l.any (fun t=>!t.valid)=q at f;generalize vQ k n g l=r at a;clear V o e h i j
 rcases l with _|⟨b,d⟩ <;>
 ·refine co [] [] (x:=.of Tryz.f177 P8 QG) ?_;refine on a ?_
  cases r with
  | false=>exact fi
  | true=>
   refine on f ?_
   cases q <;> exact fi
mutual
theorem LR:∀t:Ty,t.size < 1000000000->ae 177 [.dat t.enc] (bv t.valid)
 | .mk k n b l,h=>HQ (Hv l (by grind[Ty.size])) h
theorem Hv:∀l:List Ty,aQ l < 1000000000->∀t∈l,ae 177 [.dat t.enc] (bv t.valid)
 | [],_,t,T=>by grind
 | x::r,h,t,T=>by
  simp only[aQ] at h
  rcases List.mem_cons.1 T with a|T
  ·rw[a];exact LR x (by omega)
  exact Hv r (by omega) t T
end
def Ty.validate (t:Ty):Int:=match aF 200 (ofNat t.size)||aF 12 (ofNat t.depth) with|true=>4|false=>(match t.valid with|true=>0|false=>2)
theorem J1 (t:Ty) (h:t.size < 1000000000):ae 146 [.dat t.enc] (iv t.validate):=by
 have a:=RP t h;have e:=LV t h;have f:=LR t h;unfold Ty.validate;generalize o:t.size=n at a h;generalize t.depth=m at e;generalize t.valid=c at f;generalize N:aF 200 (ofNat n)=j;generalize k:aF 12 (ofNat m)=i;obtain⟨K,p,l,g⟩:=t
 rcases g with _|⟨b,d⟩ <;>
 ·refine co [6,10] [] (x:=.of Tryz.f146 P8 Lw) ?_;refine on a (ob N ?_)
  cases j
  ·refine on e (ob k ?_)
   cases i
   ·refine on f ?_
    cases c <;> exact fi
   exact fi
  exact fi
noncomputable def DE:TI:=match Go.Tp.elemOf ba 22 with|some t=>t|none=>default
theorem HU:Go.Tp.elemOf ba 22=some DE:=by kernel_rfl
theorem kV:DE.size=1:=by kernel_rfl
theorem wb {l:List Int} {t:Int} (h:l[i]?=some t):ap ba 22 [.dat (.slice (l.map iN)),.dat (.flat (.int .i64 (ofNat i)))]=some ⟨.ref [iN t],.keep⟩:=
 pd (d:=iN t) HU rfl (by grind) (by rfl) (by decide)
def anv (l:List ak):Bool:=match l with|[]=>false|_=>true
noncomputable def tiD:TI:=match Go.Tp.elemOf ba 112 with|some t=>t|none=>default
def cellsD (n:List UInt8) (u k:Int) (t:List UInt8) (a:Int) (b:List ak) (d:Bool) (c:List ak):List ac:=[.dat (sb n),iv u,iv k,.dat (sb t),iv a,.dat (sl b),.dat (bl d),.dat (sl c)]
theorem SV (l:Nat) (n:List UInt8) (u k:Int) (t:List UInt8) (b:Int) (a:List ak) (d:Bool) (c:List ak) :
  cG ba 51 [.ptr (.loc l) 0,.dat (ae9 n u k t b a d c)] (some (.cells (cellsD [] 0 0 [] 0 [] false [])))=some ⟨.undef,.set (.cells (cellsD n u k t b a d c))⟩:=by
 rcases a with _|⟨x,a⟩ <;> rcases c with _|⟨y,c⟩ <;> kernel_rfl
def lJ:List vh->List ak
 | []=>[]
 | d::r=>d.enc::lJ r
theorem A9:∀l:List vh,lJ l=l.map vh.enc
 | []=>by simp[lJ]
 | t::r=>by simp[lJ,A9 r]
theorem Hh (l:List vh):(lJ l).length=l.length:=by simp[A9]
theorem Rt {l:List vh} {t:vh} (h:l[i]?=some t):(lJ l)[i]?=some t.enc:=by simp[A9,h]
theorem ZB (d:vh):d.enc.cells.length=8:=by obtain⟨a,b,⟨e,f,g,h⟩,i,j⟩:=d;rfl
theorem WA:Go.Tp.elemOf ba 112=some tiD:=by kernel_rfl
theorem Fe:tiD.size=8:=by kernel_rfl
def kr (j:Nat) (k:Int) (n:List UInt8) (x:Int) (a:ak):Heap:=[(.loc j,.cells [iv k,.dat (sb n),iv x,.dat a])]
def xQ (lo:Heap) (i n:Int):ab:=⟨[(4,iv i),(3,iv n),(1,.ptr (.loc 1) 0)],lo,[],0⟩
def Co (lo:Heap) (i n:Int):ab:=⟨[(9,bv false),(4,iv i),(3,iv n),(1,.ptr (.loc 1) 0)],lo,[],0⟩
theorem nR {l:List Ty} (h:i < (ax l).length):sl (ax l)=.slice (ax l):=by cases l with|nil=>grind[ax]|cons x r=>rfl
noncomputable def hRS:Hints:=⟨bV,P8,bi,rowsOf bi 151⟩
theorem OI {k:Int} {f:List UInt8} {c n m:Int} {l:List Ty} {t:Ty} {i:Nat} (o:i < (ax l).length) (p:l[i]?=some t) (j:ae 151 [.dat t.enc] (iv m)) {T:ej}
  (e:T .normal ((xQ (kr 1 k f c (.slice (ax l))) (an .i64 (ofNat i+1)) (an .i64 (n+m))).al od)) :
  KD (roundOf Tryz.f151 0) T ((xQ (kr 1 k f c (.slice (ax l))) (ofNat i) n).al od):=by
 have a:=br o;have h:=pF p;generalize ax l=r at *;obtain⟨K,s,q,g⟩:=t
 rcases g with _|⟨b,d⟩ <;>
 ·exact aq [9] [16] (H:=hRS) (live:=ug) (ob a (oo h (on j (oe e))))
theorem S8 {c:List UInt8} {n:Int} (e:T (.exit 0) ((Co (kr 1 k c b (sl l)) (ofNat l.length) n).al od)) :
  KD (roundOf Tryz.f151 0) T ((xQ (kr 1 k c b (sl l)) (ofNat l.length) n).al od):=by
 have a:=cj (i:=l.length) (L:=l.length) (by omega)
 rcases l with _|⟨x,l⟩
 ·refine aq [] [] (H:=hRS) (live:=ug) ?_;exact oe e
 exact aq [9] [] (H:=hRS) (live:=ug) (ob a (oe e))
theorem Xl {b:List UInt8} {n:Int} (c:KD (.loop (roundOf Tryz.f151 0)) (fun e s=>e=.exit 0/\s=(Co (kr 1 k b a (sl l)) (ofNat l.length) n).al od) ((xQ (kr 1 k b a (sl l)) (ofNat 0) 1).al od)) :
  ae 151 [.dat (.agg [i64 k,sb b,i64 a,sl l])] (iv n):=by
 rcases l with _|⟨x,l⟩ <;>
 ·refine co [] [] (x:=.of Tryz.f151 P8 ug) ?_;refine lo c ?_;rintro d s ⟨rfl,rfl⟩;refine⟨_,rfl,?_⟩;exact fi
mutual
theorem O2:∀t:Ty,t.size < 1000000000->ae 151 [.dat t.enc] (iv (ofNat t.size))
 | .mk k n c l,h=>by
  simp only[Ty.size] at h;have o:=KA l (by omega);have f:=gw l;refine Xl ?_;rw[show ofNat (Ty.mk k n c l).size=ofNat (1+aQ l) by simp only[Ty.size];rw[Nat.add_comm]];refine cA (St:=fun i=>(xQ (kr 1 k n c (sl (ax l))) (ofNat i) (ofNat (1+aQ (l.take i)))).al od) (ax l).length ?_ ?_ (i:=0) (Nat.zero_le _)
  ·intro i d;obtain⟨t,T,j⟩:=get_mem d;have m:=ld T;have g:=tx (l:=l) (i+1);have b:=nR d;have e:=@OI k n c (ofNat (1+aQ (l.take i))) _ _ _ _ d T (o t j) (xU (fun s=>s=(xQ (kr 1 k n c (sl (ax l))) (ofNat (i+1)) (ofNat (1+aQ (l.take (i+1))))).al od) (fun e s=>e=.exit 0/\s=(Co (kr 1 k n c (sl (ax l))) (ofNat (ax l).length) (ofNat (1+aQ l))).al od)) (by
    rw[aH] at d;rw[bb (by omega),wrap_add (by omega),m,b,Nat.add_assoc];rfl)
   rw[b] at e ⊢;exact e
  refine S8 ⟨rfl,?_⟩;rw[aH,List.take_length]
theorem KA:∀l:List Ty,aQ l < 1000000000->∀t∈l,ae 151 [.dat t.enc] (iv (ofNat t.size))
 | [],_,t,T=>by simp at T
 | u::r,h,t,T=>by
  simp only[aQ] at h
  rcases List.mem_cons.1 T with a|T
  ·rw[a];exact O2 u (by omega)
  exact KA r (by omega) t T
end
noncomputable def hRD:Hints:=⟨bV,P8,bi,rowsOf bi 152⟩
theorem OT {k:Int} {f:List UInt8} {c:Int} {n m:Nat} {l:List Ty} {t:Ty} {i:Nat} (o:i < (ax l).length) (p:l[i]?=some t) (j:ae 152 [.dat t.enc] (iv (ofNat m))) {T:ej}
  (e:T .normal ((xQ (kr 1 k f c (.slice (ax l))) (an .i64 (ofNat i+1)) (match aF (ofNat n) (ofNat m) with|true=>ofNat m|false=>ofNat n)).al aox)) :
  KD (roundOf Tryz.f152 0) T ((xQ (kr 1 k f c (.slice (ax l))) (ofNat i) (ofNat n)).al aox):=by
 have a:=br o;have h:=pF p;generalize ax l=r at *;obtain⟨K,s,q,g⟩:=t
 rcases g with _|⟨b,d⟩ <;>
 ·exact aq [9] [16] (H:=hRD) (live:=ug) (ob a (oo h (on j (oe e))))
theorem Tj {c:List UInt8} {n:Int} (e:T (.exit 0) ((Co (kr 1 k c b (sl l)) (ofNat l.length) n).al aox)) :
  KD (roundOf Tryz.f152 0) T ((xQ (kr 1 k c b (sl l)) (ofNat l.length) n).al aox):=by
 have a:=cj (i:=l.length) (L:=l.length) (by omega)
 rcases l with _|⟨x,l⟩
 ·refine aq [] [] (H:=hRD) (live:=ug) ?_;exact oe e
 exact aq [9] [] (H:=hRD) (live:=ug) (ob a (oe e))
theorem Xt {b:List UInt8} {n:Int} (c:KD (.loop (roundOf Tryz.f152 0)) (fun e s=>e=.exit 0/\s=(Co (kr 1 k b a (sl l)) (ofNat l.length) n).al aox) ((xQ (kr 1 k b a (sl l)) (ofNat 0) 0).al aox)) :
  ae 152 [.dat (.agg [i64 k,sb b,i64 a,sl l])] (iv (an .i64 (n+1))):=by
 rcases l with _|⟨x,l⟩ <;>
 ·refine co [] [] (x:=.of Tryz.f152 P8 ug) ?_;refine lo c ?_;rintro d s ⟨rfl,rfl⟩;refine⟨_,rfl,?_⟩;exact fi
mutual
theorem KG:∀t:Ty,t.size < 1000000000->ae 152 [.dat t.enc] (iv (ofNat t.depth))
 | .mk k n d l,h=>by
  simp only[Ty.size] at h;have p:=FX l (by omega);have g:=gw l;have j:=jR l;rw[show ofNat (Ty.mk k n d l).depth=an .i64 (ofNat (lN l)+1) by rw[bb (by omega)];rfl];refine Xt ?_;refine cA (St:=fun i=>(xQ (kr 1 k n d (sl (ax l))) (ofNat i) (ofNat (lN (l.take i)))).al aox) (ax l).length ?_ ?_ (i:=0) (Nat.zero_le _)
  ·intro i f;obtain⟨t,T,m⟩:=get_mem f;have o:=xD T;have c:=nR f;have e:=@OT k n d (lN (l.take i)) _ _ _ _ f T (p t m) (xU (fun s=>s=(xQ (kr 1 k n d (sl (ax l))) (ofNat (i+1)) (ofNat (lN (l.take (i+1))))).al aox) (fun e s=>e=.exit 0/\s=(Co (kr 1 k n d (sl (ax l))) (ofNat (ax l).length) (ofNat (lN l))).al aox)) (by
    rw[aH] at f;rw[bb (by omega),o,c];have F:(match aF (ofNat (lN (l.take i))) (ofNat t.depth) with|true=>ofNat t.depth|false=>ofNat (lN (l.take i)))=ofNat (max (lN (l.take i)) t.depth):=by
     rw[gv]
     by_cases b:lN (l.take i) < t.depth
     ·rw[decide_eq_true b,Nat.max_eq_right (by omega)]
     rw[decide_eq_false b,Nat.max_eq_left (by omega)]
    rw[F];rfl)
   rw[c] at e ⊢;exact e
  refine Tj ⟨rfl,?_⟩;rw[aH,List.take_length]
theorem FX:∀l:List Ty,aQ l < 1000000000->∀t∈l,ae 152 [.dat t.enc] (iv (ofNat t.depth))
 | [],_,t,T=>by simp at T
 | u::r,h,t,T=>by
  simp only[aQ] at h
  rcases List.mem_cons.1 T with a|T
  ·rw[a];exact KG u (by omega)
  exact FX r (by omega) t T
end
def MC (c:Bool):Int:=match c with|true=>-1|false=>1
theorem KB (c:Bool):ae 166 [bv c] (iv (MC c)):=by
 cases c <;> exact dE _ _ _ _ _ (by kernel_rfl)
noncomputable def hRC:Hints:=⟨bV,qb,bi,rowsOf bi 123⟩
def TL (k:Int) (n:List UInt8) (d:Int) (a:ak) (K:Int) (e:List UInt8) (b:Int) (c:ak):Heap:=[(.loc 3,.cells [iv K,.dat (sb e),iv b,.dat c]),(.loc 2,.cells [iv k,.dat (sb n),iv d,.dat a])]
def Z1 (lo:Heap) (i:Int):ab:=⟨[(5,iv i),(3,.ptr (.loc 3) 0),(2,.ptr (.loc 2) 0)],lo,[],0⟩
def WE (lo:Heap) (i:Int):ab:=⟨[(63,bv false),(5,iv i),(3,.ptr (.loc 3) 0),(2,.ptr (.loc 2) 0)],lo,[],0⟩
def WG (c:Int):ab:=⟨[(4,iv c)],[],[],0⟩
theorem OV {p:Int} {l:List Ty} {q:List UInt8} {e:Int} {h:List Ty} {u:Ty} {g:Bool} (j:i < (ax l).length) (m:l[i]?=some t) (o:h[i]?=some u) (v:ae 123 [.dat t.enc,.dat u.enc] (iv c)) (w:aB c 0=g)
  (E:g=true->T .normal ((Z1 (TL k n p (.slice (ax l)) K q e (.slice (ax h))) (an .i64 (ofNat i+1))).al jV)) (F:g=false->T .ret ((WG c).al jV)) :
  KD (roundOf Tryz.f123 0) T ((Z1 (TL k n p (.slice (ax l)) K q e (.slice (ax h))) (ofNat i)).al jV):=by
 have a:=br j;have s:=pF m;have f:=pF o;generalize ax l=C at *;generalize ax h=r at *;clear m j o;obtain⟨D,G,y,x⟩:=t;obtain⟨I,J,A,z⟩:=u
 rcases x with _|⟨b,d⟩ <;>
 ·rcases z with _|⟨Q,B⟩ <;>
  ·refine aq [63,78] [69,74] (H:=hRC) (live:=ku) (ob a (oo s (oo f (on v (ox w ?_)))))
   cases g
   ·exact oe (F rfl)
   exact oe (E rfl)
theorem Tl {d:List UInt8} {a:List ak} (e:T (.exit 1) ((WE (TL k n c (sl l) K d b (sl a)) (ofNat l.length)).al jV)) :
  KD (roundOf Tryz.f123 0) T ((Z1 (TL k n c (sl l) K d b (sl a)) (ofNat l.length)).al jV):=by
 have f:=cj (i:=l.length) (L:=l.length) (by omega)
 rcases l with _|⟨x,l⟩
 ·refine aq [] [] (H:=hRC) (live:=ku) ?_;exact oe e
 exact aq [63] [] (H:=hRC) (live:=ku) (ob f (oe e))
def Kw (p q a b c d e f:Bool) (r:Int):Int:=match p with|false=>MC c|true=>match q with|false=>MC d|true=>match a with|false=>MC e|true=>match b with|false=>MC f|true=>r
theorem Xv {E:Int} {F:List UInt8} {h:Int} {i:List ak} {p q j m o t u B:Bool} {r:Int} (a:aB k K=p) (b:jP n F=q) (f:aB E h=j) (g:aB (ofNat l.length) (ofNat i.length)=m) (G:aF k K=o) (C:ML n F=t) (D:aF E h=u) (A:aF (ofNat l.length) (ofNat i.length)=B)
 (v:m=true->KD (.loop (roundOf Tryz.f123 0)) (fun e s=>(e=.exit 1/\r=0/\s=(WE (TL k n E (sl l) K F h (sl i)) (ofNat l.length)).al jV)∨(e=.ret/\s=(WG r).al jV)) ((Z1 (TL k n E (sl l) K F h (sl i)) (ofNat 0)).al jV)) :
 ae 123 [.dat (.agg [i64 k,sb n,i64 E,sl l]),.dat (.agg [i64 K,sb F,i64 h,sl i])] (iv (Kw p q j m o t u B r)):=by
 have c:=KB true;have d:=KB false
 rcases l with _|⟨x,l⟩
 ·rcases i with _|⟨y,i⟩
  ·have z:m=true:=g.symm;subst z;have w:=v rfl;clear v g A;refine co [12,24,36,41,29,17] [] (x:=.of Tryz.f123 qb ku) ?_;refine ox a ?_
   cases p
   ·refine ob G ?_
    cases o
    ·exact on d fi
    exact on c fi
   refine ox b ?_
   cases q
   ·refine ob C ?_
    cases t
    ·exact on d fi
    exact on c fi
   refine ox f ?_
   cases j
   ·refine ob D ?_
    cases u
    ·exact on d fi
    exact on c fi
   refine lo w ?_;rintro I s (⟨rfl,rfl,rfl⟩|⟨rfl,rfl⟩) <;>
   ·refine⟨_,rfl,?_⟩;exact fi
  have z:m=false:=g.symm;have H:B=true:=A.symm;subst z H;clear v g A;refine co [12,24,36,41,29,17] [] (x:=.of Tryz.f123 qb ku) ?_;refine ox a ?_
  cases p
  ·refine ob G ?_
   cases o
   ·exact on d fi
   exact on c fi
  refine ox b ?_
  cases q
  ·refine ob C ?_
   cases t
   ·exact on d fi
   exact on c fi
  refine ox f ?_
  cases j
  ·refine ob D ?_
   cases u
   ·exact on d fi
   exact on c fi
  exact on c fi
 rcases i with _|⟨y,i⟩
 ·have z:m=false:=g.symm;have H:B=false:=A.symm;subst z H;clear v g A;refine co [12,24,36,41,29,17] [] (x:=.of Tryz.f123 qb ku) ?_;refine ox a ?_
  cases p
  ·refine ob G ?_
   cases o
   ·exact on d fi
   exact on c fi
  refine ox b ?_
  cases q
  ·refine ob C ?_
   cases t
   ·exact on d fi
   exact on c fi
  refine ox f ?_
  cases j
  ·refine ob D ?_
   cases u
   ·exact on d fi
   exact on c fi
  exact on d fi
 cases m
 ·clear v;refine co [12,24,36,50,57,41,29,17] [] (x:=.of Tryz.f123 qb ku) ?_;refine ox a ?_
  cases p
  ·refine ob G ?_
   cases o
   ·exact on d fi
   exact on c fi
  refine ox b ?_
  cases q
  ·refine ob C ?_
   cases t
   ·exact on d fi
   exact on c fi
  refine ox f ?_
  cases j
  ·refine ob D ?_
   cases u
   ·exact on d fi
   exact on c fi
  refine ox g (ob A ?_)
  cases B
  ·exact on d fi
  exact on c fi
 have w:=v rfl;clear v;refine co [12,24,36,50,41,29,17] [] (x:=.of Tryz.f123 qb ku) ?_;refine ox a ?_
 cases p
 ·refine ob G ?_
  cases o
  ·exact on d fi
  exact on c fi
 refine ox b ?_
 cases q
 ·refine ob C ?_
  cases t
  ·exact on d fi
  exact on c fi
 refine ox f ?_
 cases j
 ·refine ob D ?_
  cases u
  ·exact on d fi
  exact on c fi
 refine ox g ?_;refine lo w ?_;rintro I s (⟨rfl,rfl,rfl⟩|⟨rfl,rfl⟩) <;>
 ·refine⟨_,rfl,?_⟩;exact fi
mutual
def Ix:Ty->Ty->Int
 | .mk k n c l,.mk K d a b=>Kw (aB k K) (jP n d) (aB c a) (aB (ofNat (ax l).length) (ofNat (ax b).length)) (aF k K) (ML n d) (aF c a) (aF (ofNat (ax l).length) (ofNat (ax b).length)) (Ky l b)
def Ky:List Ty->List Ty->Int
 | t::r,u::v=>match aB (Ix t u) 0 with|true=>Ky r v|false=>Ix t u
 | _,_=>0
end
theorem OW {l a:List Ty} {u:Ty} (T:l[i]?=some t) (b:a[i]?=some u):Ky (l.drop i) (a.drop i)=(match aB (Ix t u) 0 with|true=>Ky (l.drop (i+1)) (a.drop (i+1))|false=>Ix t u):=by simp_all[kT,Ky]
theorem Tk {v:Int} {l:List Ty} {w:List UInt8} {a:List Ty} (x:l.length=a.length) (d:l.length < 1000000000) (A:∀t∈l,∀u∈a,ae 123 [.dat t.enc,.dat u.enc] (iv (Ix t u))) :
  KD (.loop (roundOf Tryz.f123 0)) (fun e s=>(e=.exit 1/\Ky l a=0/\s=(WE (TL k n v (sl (ax l)) K w b (sl (ax a))) (ofNat (ax l).length)).al jV)∨(e=.ret/\s=(WG (Ky l a)).al jV)) ((Z1 (TL k n v (sl (ax l)) K w b (sl (ax a))) (ofNat 0)).al jV):=by
 refine cV (St:=fun i=>(Z1 (TL k n v (sl (ax l)) K w b (sl (ax a))) (ofNat i)).al jV) (fun i=>Ky l a=Ky (l.drop i) (a.drop i)) (ax l).length ?_ ?_ (i:=0) (Nat.zero_le _) rfl
 ·intro i g j;obtain⟨t,T,y⟩:=get_mem g;have m:=g;rw[aH] at m;have q:a[i]?=some a[i]:=List.getElem?_eq_getElem (by omega);have f:a[i]∈a:=List.getElem_mem _;generalize a[i]=u at q f;have h:=A t y u f;have D:=OW T q;rw[←j] at D;have z:an .i64 (ofNat i+1)=ofNat (i+1):=bb (by omega);have o:=nR g;have p:sl (ax a)=.slice (ax a):=nR (i:=i) (by rw[aH];omega);rw[o,p];generalize Ix t u=c at h D;refine OV g T q h rfl ?_ ?_
  ·intro r;rw[r] at D;rw[z];exact⟨rfl,D⟩
  intro r;rw[r] at D;dsimp only at D;exact .inr ⟨rfl,by rw[D]⟩
 intro j;refine Tl (.inl ⟨rfl,?_,rfl⟩);rw[j,aH,List.drop_length]
 cases a.drop l.length <;> rfl
mutual
theorem zS:∀(t u:Ty),t.thin->ae 123 [.dat t.enc,.dat u.enc] (iv (Ix t u))
 | .mk k n f l,.mk K i e g,h=>by
  have d:=xd l h.2;refine Xv rfl rfl rfl rfl rfl rfl rfl rfl (fun b=>?_);rw[A0,aH,aH] at b;exact Tk (by grind) h.1 (fun t c u _=>d t c u)
theorem xd:∀l:List Ty,tt l->∀t∈l,∀u,ae 123 [.dat t.enc,.dat u.enc] (iv (Ix t u))
 | [],_,t,T,_=>by grind
 | x::r,h,t,T,u=>by
  rcases List.mem_cons.1 T with a|T
  ·rw[a];exact zS x u h.1
  exact xd r h.2 t T u
end
theorem abE {r:Int} {e:List UInt8} {b:List ak} {c:Bool} (h:ae 123 [.dat (.agg [i64 k,sb n,i64 d,sl l]),.dat (.agg [i64 K,sb e,i64 a,sl b])] (iv r)) (f:aB r 0=c):ae 86 [.dat (.agg [i64 k,sb n,i64 d,sl l]),.dat (.agg [i64 K,sb e,i64 a,sl b])] (bv c):=by
 rcases l with _|⟨x,l⟩ <;>
 ·rcases b with _|⟨y,b⟩ <;>
  ·refine co [8] [] (x:=.of Tryz.f86 P8 Qs) ?_;refine on h (ob f ?_)
   cases c <;>
   ·exact fi
def reT (t u:Ty):Bool:=aB (Ix t u) 0
theorem O5 (t u:Ty) (h:t.thin):ae 86 [.dat t.enc,.dat u.enc] (bv (reT t u)):=by
 have a:=zS t u h;obtain⟨k,n,c,l⟩:=t;obtain⟨K,e,b,d⟩:=u;exact abE a rfl
theorem To (t u:Ty) (h:t.size < 1000000000):ae 86 [.dat t.enc,.dat u.enc] (bv (reT t u)):=O5 t u (DG t h)
theorem Tv (c:Bool):MC c≠0:=by cases c <;> decide
theorem Rm {a b:List UInt8} (h:jP a b=true):a=b:=by rw[wu] at h;grind
theorem wq (h:aB a b=true):a=b:=by rw[cN] at h;grind
theorem Iy {p q a b c d e f:Bool} {r:Int} (h:Kw p q a b c d e f r=0):p=true/\q=true/\a=true/\b=true/\r=0:=by
 cases p <;> cases q <;> cases a <;> cases b <;> simp[Kw,Tv] at h ⊢ <;> exact h
mutual
theorem arR:∀(t u:Ty),Ix t u=0->t=u
 | .mk k n i l,.mk K j e c,h=>by
  obtain⟨a,b,f,g,G⟩:=Iy h;rw[wq a,Rm b,wq f];rw[A0,aH,aH] at g;rw[FU l c (by grind) G]
theorem FU:∀(l c:List Ty),l.length=c.length->Ky l c=0->l=c
 | [],[],_,_=>rfl
 | [],_::_,h,_=>by grind
 | _::_,[],h,_=>by grind
 | t::r,u::v,h,b=>by
  rw[Ky] at b
  cases d:aB (Ix t u) 0 with
  | true=>
   rw[d] at b;rw[arR t u (wq d),FU r v (by grind) b]
  | false=>
   grind[eu]
end
mutual
theorem FT:∀t:Ty,Ix t t=0
 | .mk k n x l=>by rw[Ix,eu,A4,eu,eu,FV l];rfl
theorem FV:∀l:List Ty,Ky l l=0
 | []=>by simp[Ky]
 | t::r=>by rw[Ky,FT t,eu,FV r]
end
theorem Th {u:Ty}:reT t u=true↔t=u:=by
 grind[reT,arR,wq,FT,eu]
theorem wx (x:Int):fP x x=0:=by
 unfold fP;rw[show aF x x=false by rw[dA];simp]
theorem Gv:∀x:List UInt8,ML x x=false
 | []=>rfl
 | c::r=>by
  unfold ML;rw[show Nat.blt c.toNat c.toNat=false by simp[Bool.eq_false_iff],show Nat.beq c.toNat c.toNat=true by simp];exact Gv r
theorem Nl (x:List UInt8):qB x x=0:=by
 grind[qB,Gv,A4]
theorem Nk {x y:List UInt8} (h:qB x y=0):x=y:=by
 grind[qB,Rm]
mutual
theorem Dd:∀(t u:Ty),oT t u=0->t=u
 | .mk k n i l,.mk K j e d,h=>by
  rw[oT] at h
  cases c:aB (BH [fP k K,qB n j,fP i e,fP (ofNat (ax l).length) (ofNat (ax d).length)]) 0 with
  | true=>
   rw[c] at h;have O:=Aj (qy c);have a:=ww (O (fP k K) (by simp));have b:=Nk (O (qB n j) (by simp));have f:=ww (O (fP i e) (by simp));have g:=AK c;rw[a,b,f,Df l d g h]
  | false=>
   rw[c] at h;dsimp only at h;rw[h,eu] at c;simp at c
theorem Df:∀(l d:List Ty),l.length=d.length->rM l d=0->l=d
 | [],[],_,_=>rfl
 | [],_::_,h,_=>by simp at h
 | _::_,[],h,_=>by simp at h
 | t::r,u::v,h,b=>by
  rw[rM] at b
  cases c:aB (oT t u) 0 with
  | true=>
   rw[c] at b;rw[Dd t u (wq c),Df r v (by simpa using h) b]
  | false=>
   rw[c] at b;dsimp only at b;rw[b,eu] at c;simp at c
end
mutual
theorem De:∀t:Ty,oT t t=0
 | .mk k n x l=>by
  rw[oT,wx,Nl,wx,wx,Dg l];rfl
theorem Dg:∀l:List Ty,rM l l=0
 | []=>by simp[rM]
 | t::r=>by rw[rM,De t,eu,Dg r]
end
theorem UM {u:Ty}:NC t u=true↔t=u:=by
 grind[NC,Dd,wq,De,eu]
theorem Ti (t u:Ty):reT t u=NC t u:=by
 grind[Th,UM]
theorem O6 (t u:Ty) (h:t.size < 1000000000):ae 86 [.dat t.enc,.dat u.enc] (bv (NC t u)):=by
 grind[Ti,To]
noncomputable def acf:Hints:=⟨bV,Gd,bi,rowsOf bi 197⟩
def Sp (a:List ak) (x k:Int):ab:=⟨[(5,iv k),(0,.dat (.slice a)),(1,iv x)],[],[],0⟩
def Md (a:List ak) (x k:Int):ab:=⟨[(17,bv false),(5,iv k),(0,.dat (.slice a)),(1,iv x)],[],[],0⟩
theorem vY {c:List ak} {x y:Int} {i:Nat} {p q:Bool} (a:aF (ofNat i) (ofNat c.length)=p) (b:p=true->ap ba 22 [.dat (.slice c),.dat (.flat (.int .i64 (ofNat i)))]=some ⟨.ref [iN y],.keep⟩) (f:aF y x=q) {T:ej}
  (E:(p&&q)=true->T .normal ((Sp c x (an .i64 (ofNat i+1))).al jh)) (F:(p&&q)=false->T (.exit 0) ((Md c x (ofNat i)).al jh)) :
  KD (roundOf Tryz.f197 0) T ((Sp c x (ofNat i)).al jh):=by
 refine aq [9,16] [13] (H:=acf) (live:=Az) (ob a ?_)
 cases p
 ·exact oe (F rfl)
 refine oo (b rfl) (ob f ?_)
 cases q
 ·exact oe (F rfl)
 exact oe (E rfl)
theorem ko {g:FuncId} {c:List ac} {d:Heap} {f:Nat} {s:List ak} {b:Heap} {m:Nat} (h:KC g c d f (XQ ⟨.own s,b,m⟩)):KC g c d f (XQ ⟨.dat (.slice s),b,m⟩):=by
 intro w R N i n H z A E p q J C;refine (h w R N i n H z A E p q J C).mono ?_;rintro e F ⟨v,B,a,r,x,u,y,j,rfl,⟨rfl,rfl,rfl⟩,V,o,t,l,k,D⟩;refine⟨_,B,_,_,x,u,[],j,rfl,⟨rfl,rfl,rfl⟩,bQ (cy V).rep,o,?_,l,k,D⟩;grind
def Mc (x k:Int):ab:=⟨[(5,iv k),(0,.dat nl),(1,iv x)],[],[],0⟩
def Kq (x k:Int):ab:=⟨[(17,bv false),(5,iv k),(0,.dat nl),(1,iv x)],[],[],0⟩
theorem Jz (F:T (.exit 0) ((Kq x (ofNat 0)).al jh)) :
  KD (roundOf Tryz.f197 0) T ((Mc x (ofNat 0)).al jh):=by
 refine aq [] [] (H:=acf) (live:=Az) ?_;exact oe F
theorem Un (a:bB ba false 22 [.own [],.dat (.slice [iN x])] none=some ⟨.own [iN x],.keep⟩):ae 197 [.dat nl,iv x] (.own [iN x]):=by
 have l:KD (.loop (roundOf Tryz.f197 0)) (fun e s=>e=.exit 0/\s=(Kq x (ofNat 0)).al jh) ((Mc x (ofNat 0)).al jh):=
  cA (St:=fun _=>(Mc x (ofNat 0)).al jh) 0 (fun i b=>absurd b (Nat.not_lt_zero i)) (Jz ⟨rfl,rfl⟩) (i:=0) (Nat.le_refl _)
 refine co [] [40,44] (x:=.of Tryz.f197 Gd Az) ?_;refine lo l ?_;rintro c s ⟨rfl,rfl⟩;refine⟨_,rfl,?_⟩;exact oo a (oo a fi)
theorem LF {c:ak} {d p q:List ak} {x y:Int} {i:Nat} {g h:Bool} (a:aF (ofNat i) (ofNat (c::d).length)=g) (b:g=true->ap ba 22 [.dat (.slice (c::d)),.dat (.flat (.int .i64 (ofNat i)))]=some ⟨.ref [iN y],.keep⟩) (f:aB y x=h)
  (l:KD (.loop (roundOf Tryz.f197 0)) (fun e s=>e=.exit 0/\s=(Md (c::d) x (ofNat i)).al jh) ((Sp (c::d) x (ofNat 0)).al jh))
  (n:fF ba 22 none (some (.tmp 35)) none [.dat (.slice (c::d)),iv (ofNat i)]=some ⟨.dat (.slice p),.keep⟩)
  (o:fF ba 22 (some (.tmp 42)) none none [.dat (.slice (c::d)),iv (ofNat i)]=some ⟨.dat (.slice q),.keep⟩)
  (j:bB ba false 22 [.own [],.dat (.slice p)] none=some ⟨.own p,.keep⟩)
  (k:bB ba false 22 [.own p,.dat (.slice [iN x])] none=some ⟨.own (p++[iN x]),.keep⟩)
  (m:bB ba false 22 [.own (p++[iN x]),.dat (.slice q)] none=some ⟨.own (p++[iN x]++q),.keep⟩) :
  ae 197 [.dat (.slice (c::d)),iv x] (match g&&h with|true=>.dat (.slice (c::d))|false=>.own (p++[iN x]++q)):=by
 refine co [23,30] [27,36,43,37,40,44] (x:=.of Tryz.f197 Gd Az) ?_;refine lo l ?_;rintro r s ⟨rfl,rfl⟩;refine⟨_,rfl,?_⟩;refine ob a ?_
 cases g
 ·exact oo n (oo o (oo j (oo k (oo m fi))))
 refine oo (b rfl) (ob f ?_)
 cases h
 ·exact oo n (oo o (oo j (oo k (oo m fi))))
 exact fi
def kW:List Int->Int->Nat
 | [],_=>0
 | y::r,x=>match aF y x with|true=>kW r x+1|false=>0
theorem QP:∀{l:List Int} {x:Int},kW l x<=l.length
 | [],_=>Nat.le_refl _
 | y::r,x=>by
  unfold kW
  split
  ·simp only[List.length_cons];have:=QP (l:=r) (x:=x);omega
  omega
theorem QO:∀{l:List Int} {x:Int} {i:Nat} {y:Int},i < kW l x->l[i]?=some y->aF y x=true
 | [],x,i,y,h,b=>by grind
 | z::r,x,i,y,h,b=>by
  unfold kW at h
  cases a:aF z x with
  | false=>grind
  | true=>
   rw[a] at h
   cases i with
   | zero=>grind
   | succ i=>simp at b;exact QO (by grind) b
theorem QQ:∀{l:List Int} {x:Int} {y:Int},l[kW l x]?=some y->aF y x=false
 | [],x,y,h=>by grind
 | z::r,x,y,h=>by
  unfold kW at h
  cases a:aF z x with
  | false=>grind
  | true=>rw[a] at h;exact QQ h
theorem CX {l:List Int} (s:l.Pairwise (·<=·)):kW l x=l.countP (· < x):=by
 induction l with
 | nil=>rfl
 | cons y r a=>
  have a:=a (List.Pairwise.of_cons s);unfold kW
  by_cases b:y < x
  ·rw[dA,decide_eq_true b,List.countP_cons_of_pos (by grind),a]
  rw[dA,decide_eq_false b];symm;rw[List.countP_eq_zero];intro z c
  have:y<=z:=by
   rcases List.mem_cons.1 c with rfl|c
   all_goals simp_all
  grind
def Eu (l:List Int) (x:Int):List Int:=match l[kW l x]? with|some y=>(match aB y x with|true=>l|false=>fw l (kW l x) x)|none=>fw l (kW l x) x
theorem GJ {l:List Int} (s:l.Pairwise (·<=·)):Eu l x=jc l x:=by
 obtain⟨p,q⟩:=countP_split (x:=x) s;unfold Eu jc;rw[←CX s];rw[←CX s] at p q
 cases e:l.contains x with
 | true=>
  have b:x∈l:=by grind
  have D:x∈l.drop (kW l x):=by
   rcases List.mem_append.1 ((List.take_append_drop (kW l x) l).symm ▸ b) with h|h
   all_goals grind
  have a:kW l x < l.length:=by
   rcases Nat.lt_or_ge (kW l x) l.length with h|h
   ·grind
   rw[List.drop_eq_nil_of_le h] at D;grind
  have J:l[kW l x]?=some l[kW l x]:=List.getElem?_eq_getElem a;have c:x<=l[kW l x]:=q _ (by rw[List.drop_eq_getElem_cons a];grind);have d:l[kW l x]<=x:=by
   have w:(l.drop (kW l x)).Pairwise (·<=·):=s.sublist (List.drop_sublist _ _);rw[List.drop_eq_getElem_cons a] at w D
   rcases List.mem_cons.1 D with h|h
   ·omega
   exact List.rel_of_pairwise_cons w h
  grind[eu]
 | false=>
  have b:x∉l:=by grind
  cases J:l[kW l x]? with
  | none=>rfl
  | some y=>
   dsimp only
   have:aB y x=false:=by
    rw[cN]
    grind
   grind
theorem fE {a b:List Int} (h:a.length+b.length < 1000000000):bB ba false 22 [.own (a.map iN),.dat (.slice (b.map iN))] none=some ⟨.own (a.map iN++b.map iN),.keep⟩:=by
 refine uX (i:=DE) (ds:=b.map iN) (k:=0) HU rfl kV ?_ ?_ (by kernel_rfl) ?_ ?_ ?_ (by simp)
 ·exact kM (fun d D=>by obtain⟨x,_,rfl⟩:=List.mem_map.1 D;rfl)
 ·exact kM (fun d D=>by obtain⟨x,_,rfl⟩:=List.mem_map.1 D;rfl)
 ·have c:DE.bytes<=1000:=fD (by kernel_rfl);simp
  calc (a.length+b.length)*DE.bytes<=1000000000*1000:=Nat.mul_le_mul (by omega) c
   _<=140737488355328:=by decide
 ·simp[lim];omega
 have e:fy (a.map iN++b.map iN)=false:=by
  rw[←List.map_append]
  cases a++b with
  | nil=>rfl
  | cons x r=>rfl
 unfold amL;rw[e]
theorem zn (l:List Int):sizedB 1 (l.map iN)=true:=kM (fun d D=>by obtain⟨x,_,rfl⟩:=List.mem_map.1 D;rfl)
theorem FB {l:List Int} (h:i<=l.length) (x:Operand):fF ba 22 none (some x) none [.dat (.slice (l.map iN)),iv (ofNat i)]=some ⟨.dat (.slice ((l.take i).map iN)),.keep⟩:=by
 have a:bW.nA.sub DE.size (l.map iN) none (some (ofNat i))=some ((l.take i).map iN):=by
  show (match sizedB 1 (l.map iN),Nat.blt 0 1 with
   | true,true=>(match eJ (some (ofNat i)) (l.map iN).length,eJ none 0 with
    | some h,some lo=>(match Nat.ble lo h,Nat.ble h (l.map iN).length with|true,true=>some (((l.map iN).take h).drop lo)|_,_=>none)
    | _,_=>none)
   | _,_=>none)=_
  rw[zn];have E:eJ (some (ofNat i)) (l.map iN).length=some i:=rfl;have F:Nat.ble i (l.map iN).length=true:=by simp_all
  rw[E];dsimp only[eJ];rw[F];simp[Nat.ble];rfl
 have b:fF ba 22 none (some x) none [.dat (.slice (l.map iN)),iv (ofNat i)]=xj (match bW.nA.sub DE.size (l.map iN) none (some (ofNat i)) with|some r=>some (.dat (.slice r))|none=>none):=by kernel_rfl
 rw[b,a];rfl
theorem zl {l:List Int} (h:i<=l.length) (x:Operand):fF ba 22 (some x) none none [.dat (.slice (l.map iN)),iv (ofNat i)]=some ⟨.dat (.slice ((l.drop i).map iN)),.keep⟩:=by
 have a:bW.nA.sub DE.size (l.map iN) (some (ofNat i)) none=some ((l.drop i).map iN):=by
  show (match sizedB 1 (l.map iN),Nat.blt 0 1 with
   | true,true=>(match eJ none (l.map iN).length,eJ (some (ofNat i)) 0 with
    | some h,some lo=>(match Nat.ble lo h,Nat.ble h (l.map iN).length with|true,true=>some (((l.map iN).take h).drop lo)|_,_=>none)
    | _,_=>none)
   | _,_=>none)=_
  rw[zn];have E:eJ (some (ofNat i)) 0=some i:=rfl;have F:Nat.ble i (l.map iN).length=true:=by simp_all
  have c:Nat.ble (l.map iN).length (l.map iN).length=true:=by simp_all
  rw[E];dsimp only[eJ];rw[F,c,List.take_length];simp[List.map_drop];rfl
 have b:fF ba 22 (some x) none none [.dat (.slice (l.map iN)),iv (ofNat i)]=xj (match bW.nA.sub DE.size (l.map iN) (some (ofNat i)) none with|some r=>some (.dat (.slice r))|none=>none):=by kernel_rfl
 rw[b,a];rfl
theorem abP {l:List Int} (N:l.length < 100000000):ae 197 [.dat (sl (l.map iN)),iv x] (.dat (sl ((Eu l x).map iN))):=by
 cases l with
 | nil=>exact ko (Un (fE (a:=[]) (b:=[x]) (by simp)))
 | cons v r=>
  obtain⟨l,u⟩:∃l,l=v::r:=⟨_,rfl⟩;have f:(l.map iN)=iN v::r.map iN:=by rw[u];rfl
  have m:sl (l.map iN)=.slice (l.map iN):=by rw[f];rfl
  rw[←u] at N ⊢;have k:=QP (l:=l) (x:=x);have d:KD (.loop (roundOf Tryz.f197 0)) (fun e s=>e=.exit 0/\s=(Md (l.map iN) x (ofNat (kW l x))).al jh) ((Sp (l.map iN) x (ofNat 0)).al jh):=by
   refine cA (St:=fun i=>(Sp (l.map iN) x (ofNat i)).al jh) (kW l x) ?_ ?_ (i:=0) (Nat.zero_le _)
   ·intro i w;have g:i < l.length:=by omega
    have J:l[i]?=some l[i]:=List.getElem?_eq_getElem g;refine @vY _ _ (l[i]) _ true true (br (by simpa using g)) (fun _=>wb J) (QO w J) _ (fun _=>?_) (fun h=>by simp at h);rw[bb (by omega)];rfl
   cases J:l[kW l x]? with
   | none=>
    have:l.length<=kW l x:=by simpa using J
    exact @vY _ _ 0 _ false (aF 0 x) (cj (by simp;omega)) (fun h=>by simp at h) rfl _ (fun h=>by simp at h) (fun _=>⟨rfl,rfl⟩)
   | some y=>
    have g:=(List.getElem?_eq_some_iff.1 J).1;exact @vY _ _ y _ true false (br (by simpa using g)) (fun _=>wb J) (QQ J) _ (fun h=>by simp at h) (fun _=>⟨rfl,rfl⟩)
  have o:=FB (l:=l) k (.tmp 35);have p:=zl (l:=l) k (.tmp 42);have q:=fE (a:=[]) (b:=l.take (kW l x)) (by simp;omega);have t:=fE (a:=l.take (kW l x)) (b:=[x]) (by simp;omega);have n:=fE (a:=l.take (kW l x)++[x]) (b:=l.drop (kW l x)) (by simp;omega);rw[List.map_append] at n;have j:sl ((fw l (kW l x) x).map iN)=.slice ((l.take (kW l x)).map iN++[x].map iN++(l.drop (kW l x)).map iN):=by
   have:(fw l (kW l x) x).map iN=(l.take (kW l x)).map iN++[x].map iN++(l.drop (kW l x)).map iN:=by simp[fw]
   rw[←this]
   cases h:(fw l (kW l x) x).map iN with
   | nil=>simp[fw] at h
   | cons _ _=>rfl
  rw[f] at o p d m;rw[f,m];unfold Eu
  cases J:l[kW l x]? with
  | none=>
   have:l.length<=kW l x:=by simpa using J
   have h:=@LF _ _ _ _ _ 0 _ false (aB 0 x) (cj (by rw[←f];simp;omega)) (fun h=>by simp at h) rfl d o p q t n;dsimp only;rw[j];exact ko h
  | some y=>
   have g:=(List.getElem?_eq_some_iff.1 J).1;have h:=@LF _ _ _ _ _ y _ true (aB y x) (br (by rw[←f];simpa using g)) (fun _=>by rw[←f];exact wb J) rfl d o p q t n;dsimp only;generalize aB y x=c at h
   cases c
   ·dsimp only;rw[j];exact ko h
   dsimp only;rw[f];exact h
noncomputable def hRF:Hints:=⟨bV,vK,bi,rowsOf bi 182⟩
def Z2 (lo:Heap) (u:Nat) (s:ak) (i:Int):ab:=⟨[(7,iv i),(3,.ptr (.loc 3) 0),(1,iv (ofNat u)),(2,.dat s)],lo,[],0⟩
def WH (lo:Heap) (u:Nat) (s:ak) (i:Int):ab:=⟨[(27,bv false),(7,iv i),(3,.ptr (.loc 3) 0),(1,iv (ofNat u)),(2,.dat s)],lo,[],0⟩
def ZZ (a p:Bool):Int:=match a with|true=>(match p with|true=>1|false=>0)|false=>0
theorem R5 (k:Int) (i:Nat):ofNat (ey k i)=ZZ (aB k 6) (aB (ofNat i) (ofNat 1)):=by
 unfold ey;rw[A0]
 cases aB k 6
 all_goals grind[ZZ]
theorem rb (k:Int) (n:List UInt8) (e:Int) (a:List ak) (i:Nat):ae 198 [.dat (.agg [i64 k,sb n,i64 e,sl a]),iv (ofNat i)] (iv (ofNat (ey k i))):=by
 rw[R5];generalize d:aB k 6=b;generalize c:aB (ofNat i) (ofNat 1)=p
 rcases a with _|⟨x,a⟩ <;>
 ·refine co [7,10] [] (x:=.of Tryz.f198 P8 Lf) ?_;refine ob d ?_
  cases b
  ·exact fi
  refine ob c ?_
  cases p <;>
  ·exact fi
theorem OO {f:Int} {x:ak} {c:List ak} {l:List Ty} {b:Nat} {s h:List ak} (p:ax l=x::c) (o:i < (ax l).length) (q:l[i]?=some t)
  (d:ae 198 [.dat (.agg [i64 k,sb n,i64 f,.slice (x::c)]),iv (ofNat i)] (iv (ofNat b)))
  (m:ae 182 [.dat t.enc,iv (an .i64 (ofNat u+ofNat b)),.dat (sl s)] (.dat (sl h)))
  (e:T .normal ((Z2 (kr 3 k n f (.slice (x::c))) u (sl h) (an .i64 (ofNat i+1))).al nY)) :
  KD (roundOf Tryz.f182 0) T ((Z2 (kr 3 k n f (.slice (x::c))) u (sl s) (ofNat i)).al nY):=by
 have a:=br o;have g:=pF q;rw[p] at a g;obtain⟨K,w,r,j⟩:=t
 rcases j with _|⟨Q,v⟩ <;>
 ·rcases s with _|⟨y,s⟩ <;>
  ·exact aq [27] [33] (H:=hRF) (live:=ow) (ob a (oo g (on d (on m (oe e)))))
theorem Te {s:List ak} (e:T (.exit 0) ((WH (kr 3 k n b (sl l)) u (sl s) (ofNat l.length)).al nY)) :
  KD (roundOf Tryz.f182 0) T ((Z2 (kr 3 k n b (sl l)) u (sl s) (ofNat l.length)).al nY):=by
 have a:=cj (i:=l.length) (L:=l.length) (by omega)
 rcases l with _|⟨x,l⟩
 ·refine aq [] [] (H:=hRF) (live:=ow) ?_;exact oe e
 exact aq [27] [] (H:=hRF) (live:=ow) (ob a (oe e))
theorem OP {s g j:List ak} {C b:Bool} (d:aB k 5=C) (J:aF a (ofNat u)=b)
  (A:C=true->b=false->ae 197 [.dat (sl s),iv (an .i64 (a - ofNat u))] (.dat (sl g))) (i:C=false∨b=true->g=s)
  (f:KD (.loop (roundOf Tryz.f182 0)) (fun e m=>e=.exit 0/\m=(WH (kr 3 k n a (sl l)) u (sl j) (ofNat l.length)).al nY) ((Z2 (kr 3 k n a (sl l)) u (sl g) (ofNat 0)).al nY)) :
  ae 182 [.dat (.agg [i64 k,sb n,i64 a,sl l]),iv (ofNat u),.dat (sl s)] (.dat (sl j)):=by
 rcases l with _|⟨x,l⟩ <;>
 ·rcases s with _|⟨y,s⟩ <;>
  ·cases C
   ·obtain rfl:=i (.inl rfl);refine co [10] [] (x:=.of Tryz.f182 vK ow) ?_;refine ob d ?_;refine lo f ?_;rintro h s ⟨rfl,rfl⟩;refine⟨_,rfl,?_⟩;exact fi
   cases b
   ·have c:=A rfl rfl;refine co [10,15] [] (x:=.of Tryz.f182 vK ow) ?_;refine ob d (ox J (on c ?_));refine lo f ?_;rintro h s ⟨rfl,rfl⟩;refine⟨_,rfl,?_⟩;exact fi
   obtain rfl:=i (.inr rfl);refine co [10,15] [] (x:=.of Tryz.f182 vK ow) ?_;refine ob d (ox J ?_);refine lo f ?_;rintro h s ⟨rfl,rfl⟩;refine⟨_,rfl,?_⟩;exact fi
def OL (k x:Int) (u:Nat) (s:List Int):List Int:=match aB k 5 with|false=>s|true=>(match aF x (ofNat u) with|true=>s|false=>Eu s (x - ofNat u))
theorem OK {s:List Int} (h:s.Pairwise (·<=·)):OL k x u s=eP k x u s:=by
 grind[OL,eP,GJ]
def RF (t:Ty) (u:Nat) (s:List Int):Prop:=ae 182 [.dat t.enc,iv (ofNat u),.dat (sl (s.map iN))] (.dat (sl ((t.cf u s).map iN)))
theorem Xs {g:List UInt8} {l:List Ty} {b:Nat} {s:List Int} (y:gr b s) (G:b+1+aQ l < 100000000) (O:u < 1000000000) (d:aB k 5=true->aF a 9223372036854775808=true)
  (N:∀t∈l,∀v D,v<=u+1->gr (b+1+aQ l) D->(∃Q,gr Q D/\Q+t.size<=b+1+aQ l)->RF t v D):RF (.mk k g a l) u s:=by
 have F:=gw l;have z:=@zE _ k a u _ y;have A:aB k 5=true->aF a (ofNat u)=false->ae 197 [.dat (sl (s.map iN)),iv (an .i64 (a - ofNat u))] (.dat (sl ((eP k a u s).map iN))):=by
  intro E J;rw[←OK y.1];unfold OL;rw[E,J];have d:=d E;rw[dA] at J d;simp only[decide_eq_false_iff_not,decide_eq_true_eq] at J d;have e:an .i64 (a - ofNat u)=a - ofNat u:=by
   rw[cQ];simp only[Int.ofNat_eq_natCast] at J ⊢;exact wrap_i64 (by omega) (by omega)
  rw[e];exact abP (by have:=y.2;omega)
 have I:aB k 5=false∨aF a (ofNat u)=true->(eP k a u s).map iN=s.map iN:=by
  unfold eP;rintro (h|h)
  ·rw[h]
  rw[h];cases aB k 5 <;> rfl
 refine OP rfl rfl A I ?_;refine cA (St:=fun i=>(Z2 (kr 3 k g a (sl (ax l))) u (sl ((se k (l.take i) 0 u (eP k a u s)).map iN)) (ofNat i)).al nY) (ax l).length ?_ ?_ (i:=0) (Nat.zero_le _)
 ·intro i o;obtain⟨t,B,p⟩:=get_mem o;have w:=o;rw[aH] at w;have H:ey k i<=1:=by unfold ey;split <;> omega
  obtain⟨x,j,q⟩:∃x j,ax l=x::j:=by
   cases K:ax l with
   | nil=>rw[K] at o;simp at o
   | cons x j=>exact⟨x,j,rfl⟩
  have M:=ld B;have L:=tx (l:=l) (i+1);have c:gr (b+1+aQ (l.take i)) (se k (l.take i) 0 u (eP k a u s)):=EO _ u z;have f:=N t p (u+ey k i) (se k (l.take i) 0 u (eP k a u s)) (by omega) ⟨c.1,by have:=c.2;omega⟩ ⟨_,c,by omega⟩;unfold RF at f;rw[←wrap_add (n:=u) (m:=ey k i) (by omega)] at f;have r:=rb k g a (x::j) i;have e:=OO (T:=xU (fun C=>C=(Z2 (kr 3 k g a (sl (ax l))) u (sl ((se k (l.take (i+1)) 0 u (eP k a u s)).map iN)) (ofNat (i+1))).al nY)
   (fun e C=>e=.exit 0/\C=(WH (kr 3 k g a (sl (ax l))) u (sl (((Ty.mk k g a l).cf u s).map iN)) (ofNat (ax l).length)).al nY)) q o B r f (by
    rw[q,bb (by omega),Hr B];rfl)
  rw[q];rw[q] at e;exact e
 refine Te ⟨rfl,?_⟩;rw[aH,List.take_length,Ty.cf]
mutual
theorem O4:∀(t:Ty) (u:Nat) {b:Nat} {s:List Int},gr b s->b+t.size < 100000000->u+t.depth < 1000000000->t.fY->RF t u s
 | .mk k n x l,u,b,s,j,d,h,c=>by
  simp only[Ty.size] at d;simp only[Ty.depth] at h;exact Xs j (by omega) (by omega) c.1 (KE l u (by omega) (by omega) c.2)
theorem KE:∀(l:List Ty) (u:Nat) {B:Nat},u+lN l+1 < 1000000000->B < 100000000->fg l->∀t∈l,∀v e,v<=u+1->gr B e->(∃Q,gr Q e/\Q+t.size<=B)->RF t v e
 | [],u,B,o,_,i,t,T,_,_,_,_,_=>by grind
 | y::r,u,B,o,hB,i,t,T,v,e,V,a,m=>by
  simp only[lN] at o;rcases List.mem_cons.1 T with f|T
  ·obtain⟨Q,g,G⟩:=m;rw[f] at G ⊢;exact O4 y v g (by omega) (by omega) i.1
  exact KE r u (by omega) hB i.2 t T v e V a m
end
theorem Xk {s:List ak} (h:ae 182 [.dat (.agg [i64 k,sb n,i64 a,sl l]),iv (ofNat 0),.dat nl] (.dat (sl s))):ae 154 [.dat (.agg [i64 k,sb n,i64 a,sl l])] (.dat (sl s)):=by
 rcases l with _|⟨x,l⟩ <;>
 ·rcases s with _|⟨y,s⟩ <;>
  ·refine co [] [] (x:=.of Tryz.f154 P8 QG) ?_;exact on h fi
theorem IB (s:t.size < 100000000) (c:t.fY):ae 154 [.dat t.enc] (.dat (sl (t.fv.map iN))):=by
 have a:RF t 0 []:=O4 t 0 (b:=0) ⟨List.Pairwise.nil,Nat.le_refl 0⟩ (by omega) (by grind[oS]) c;obtain⟨k,n,x,l⟩:=t;exact Xk a
def LD {α:Type}:List α->Bool
 | []=>true
 | _=>false
theorem Xu {s:List ak} (h:ae 154 [.dat (.agg [i64 k,sb n,i64 a,sl l])] (.dat (sl s))):ae 108 [.dat (.agg [i64 k,sb n,i64 a,sl l])] (bv (LD s)):=by
 rcases l with _|⟨x,l⟩ <;>
 ·rcases s with _|⟨y,s⟩ <;>
  ·refine co [] [] (x:=.of Tryz.f108 P8 QG) ?_;exact on h fi
theorem FY (s:t.size < 100000000) (a:t.fY):ae 108 [.dat t.enc] (bv (LD t.fv)):=by
 have h:=IB s a;have e:LD t.fv=LD (t.fv.map iN):=by cases t.fv <;> rfl
 rw[e];obtain⟨k,n,x,l⟩:=t;exact Xu h
def fB (n s:Int) (u:Bool):Bool:=(aB n 0&&!u)||(u&&(!aF n 0&&aF n s))
def eo (n s:Int):Bool:=!aF n 0&&aF n s
def Ins.unary (x:Ins):Bool:=aB x.op 3&&aB x.im 5
def Jo (x:Ins):Int:=ofNat x.ar.length
def Ge (sl:Int) (x:Ins) (s:kG):Bool:=x.ar.all (fun n=>fB n sl s.ar)&&((s.ar||aB (Jo x) 0)&&(!aF 6 (Jo x)&&(fB x.dst sl s.dst&&(fB x.a sl s.a&&fB x.b sl (s.b&&!x.unary)))))
def GL (c b:Int) (a m:Int):Bool:=
 if (aB a 12||aB a 13)=true then !aF m 0&&aF m c
 else if aB a 3=true then !aF m 1&&!aF 7 m
 else if aB a 8=true then !aF m 0&&aF m 6
 else if aB a 17=true then !aF m 0&&aF m b
 else if (aB a 20||aB a 22)=true then !aF m 1
 else aB m 0
def eQ (n:Nat):Bool:=!Nat.blt n 32&&!Nat.blt 126 n
def mN (k i:Int) (s:List UInt8):Bool:=
 if (!aB k 3&&!jP s [])=true then false
 else if aB k 0=true then aB i 0
 else if aB k 1=true then true
 else if aB k 2=true then aB i 0||aB i 1
 else if aB k 3=true then s.all (fun c=>eQ c.toNat)&&(aB i 0&&!aF 2000 (ofNat s.length))
 else false
def sY (k i:Int) (s:List UInt8):Bool:=
 if (!aB k 3&&!jP s [])=true then false
 else if (!aB k 1&&(!aB k 2&&!aB i 0))=true then false
 else if s.all (fun c=>eQ c.toNat)=false then false
 else if (aB k 0||aB k 1)=true then true
 else if aB k 2=true then aB i 0||aB i 1
 else if aB k 3=true then !aF 2000 (ofNat s.length)
 else false
theorem UO (a b:List UInt8):jP a b=true↔a=b:=by rw[wu];simp
theorem RE (k i:Int) (s:List UInt8):mN k i s=sY k i s:=by
 by_cases a:s=[]
 ·subst a;simp only[mN,sY,cN,dA,jP,List.all_nil,List.length_nil]
  grind
 have d:jP s []=false:=by
  grind[UO]
 simp only[mN,sY,d,cN,dA]
 grind
def B5 (k i:Int) (s:List UInt8):Bool:=aB k 0&&(aB i 0&&jP s [])
theorem JX (k i:Int) (s:List UInt8):(mN k i s&&aB k 0)=B5 k i s:=by
 unfold B5 mN;simp only[cN]
 grind
def tyP (u:Bool) (t:Ty):Bool:=if u=true then (aB t.validate 0&&LD t.fv) else NC t (.mk 0 [] 0 [])
def iJ (b a sl:Int) (x:Ins):Bool:=
 match eO x.op with
 | none=>false
 | some s=>Ge sl x s&&(GL b a x.op x.im&&((if s.nm=true then isIdent x.nm else jP x.nm [])&&(tyP s.ty x.ty&&(mN x.ck x.ci x.cs&&(s.sK||aB x.ck 0)))))
def Tz (sl:Int) (x:Ins) (s:kG):Bool:=(!(s.dst&&!eo x.dst sl)&&(!(s.a&&!eo x.a sl)&&(!(s.b&&!eo x.b sl)&&!aF 6 (Jo x))))&&x.ar.all (fun n=>eo n sl)
def noR (x:Ins) (s:kG):Bool:=(s.dst||aB x.dst 0)&&((s.a||aB x.a 0)&&((s.b||aB x.b 0)&&((s.im||aB x.im 0)&&((s.nm||jP x.nm [])&&((s.ar||!aF 0 (Jo x))&&((s.ty||NC x.ty (.mk 0 [] 0 []))&&(s.sK||B5 x.ck x.ci x.cs)))))))
def SJ (x:Ins) (s:kG):Bool:=(!s.nm||isIdent x.nm)&&((!s.ty||(aB x.ty.validate 0&&LD x.ty.fv))&&(!s.sK||sY x.ck x.ci x.cs))
def QW (b a:Int) (x:Ins):Bool:=
 if (aB x.op 12||aB x.op 13)=true then !aF x.im 0&&aF x.im b
 else if aB x.op 3=true then !aF x.im 1&&(!aF 7 x.im&&(!aB x.im 5||aB x.b 0))
 else if aB x.op 8=true then !aF x.im 0&&aF x.im 6
 else if aB x.op 17=true then !aF x.im 0&&aF x.im a
 else if (aB x.op 20||aB x.op 22)=true then !aF x.im 1
 else true
def Et (b a sl:Int) (x:Ins):Bool:=
 match eO x.op with
 | none=>false
 | some s=>noR x s&&(Tz sl x s&&(SJ x s&&QW b a x))
theorem pT (h:eO c=some s):∃n:Nat,c=ofNat n/\1<=n/\n<=22/\amR n=some s:=by
 cases d:aF c 1 with
 | true=>grind[DQ]
 | false=>
  cases e:aF c 23 with
  | false=>grind[DR]
  | true=>
   obtain⟨n,rfl,a,b⟩:=zo d e;exact⟨n,rfl,a,b,h⟩
theorem U2 (sl:Int) (u:Bool) (l:List Int):(l.all (fun n=>fB n sl u)&&(u||aB (ofNat l.length) 0))=((u||!aF 0 (ofNat l.length))&&l.all (fun n=>eo n sl)):=by
 cases u
 ·cases l with
  | nil=>simp[cN,dA]
  | cons a r=>
   have:¬((r.length:Int)+1=0):=by omega
   simp[cN,dA,this]
 simp[fB,eo]
theorem apq (n sl:Int) (u:Bool):fB n sl u=((u||aB n 0)&&!(u&&!eo n sl)):=by
 grind[fB,eo]
theorem MT {j:Int} {x:Ins} (h:eO x.op=some s) (q:x.unary=false):GL k j x.op x.im=((s.im||aB x.im 0)&&QW k j x):=by
 obtain⟨v,l,a,b,m,t,r,u,w,C,I,c⟩:=x;obtain⟨n,i,o,f,g⟩:=pT h;simp only at i;subst i;have p:n=1∨n=2∨n=3∨n=4∨n=5∨n=6∨n=7∨n=8∨n=9∨n=10∨n=11∨n=12∨n=13∨n=14∨n=15∨n=16∨n=17∨n=18∨n=19∨n=20∨n=21∨n=22:=by omega
 clear o f h
 rcases p with rfl|rfl|rfl|rfl|rfl|rfl|rfl|rfl|rfl|rfl|rfl|rfl|rfl|rfl|rfl|rfl|rfl|rfl|rfl|rfl|rfl|rfl <;>
 ·simp only[amR,Option.some.injEq] at g;subst g;simp[GL,QW,cN]
  try
   have e:(m==5)=false:=by
    have d:(aB 3 3&&aB m 5)=false:=q;rw[show aB 3 3=true from rfl,Bool.true_and,cN] at d;exact d
   rw[e];simp
theorem Qf (u:Bool) (n:List UInt8):(if u=true then isIdent n else jP n [])=((u||jP n [])&&(!u||isIdent n)):=by
 grind
theorem NL (u:Bool) (t:Ty):tyP u t=((u||NC t (.mk 0 [] 0 []))&&(!u||(aB t.validate 0&&LD t.fv))):=by
 grind[tyP]
theorem Ng (u:Bool) (k i:Int) (s:List UInt8):(mN k i s&&(u||aB k 0))=((u||B5 k i s)&&(!u||sY k i s)):=by
 grind[JX,RE]
theorem X0 (ni ne sl:Int) (x:Ins):iJ ni ne sl x=Et ni ne sl x:=by
 unfold iJ Et
 cases h:eO x.op with
 | none=>rfl
 | some s=>
  show (Ge sl x s&&(GL ni ne x.op x.im&&((if s.nm=true then isIdent x.nm else jP x.nm [])&&(tyP s.ty x.ty&&(mN x.ck x.ci x.cs&&(s.sK||aB x.ck 0))))))=(noR x s&&(Tz sl x s&&(SJ x s&&QW ni ne x)));have ha:=U2 sl s.ar x.ar;rw[Ng,NL,Qf]
  cases hu:x.unary with
  | false=>
   rw[MT h hu];unfold Ge Tz noR SJ Jo;rw[hu,apq x.dst,apq x.a,apq x.b,Bool.not_false,Bool.and_true];rw[←Bool.and_assoc (x.ar.all _),ha];simp only[Bool.and_assoc,Bool.and_comm,Bool.and_left_comm]
  | true=>
   have hu2:=hu;obtain⟨n,h1,h2,h3,h4⟩:=pT h;simp only[Ins.unary,cN,Bool.and_eq_true,beq_iff_eq] at hu2;obtain⟨ho,hi⟩:=hu2;rw[ho] at h;have hs:s=⟨[112,114,105,109],true,true,true,true,false,false,false,false,false,false,false⟩:=by
    have:eO 3=some ⟨[112,114,105,109],true,true,true,true,false,false,false,false,false,false,false⟩:=rfl
    rw[this] at h;exact (Option.some.inj h).symm
   subst hs;unfold Ge Tz noR SJ Jo GL QW;rw[hu,ho,hi];have e1:∀n,fB n sl true=eo n sl:=fun n=>by simp[fB,eo]
   have e2:fB x.b sl false=aB x.b 0:=by simp[fB]
   have ha':(x.ar.all (fun n=>fB n sl false)&&(false||aB (ofNat x.ar.length) 0))=((false||!aF 0 (ofNat x.ar.length))&&x.ar.all (fun n=>eo n sl)):=ha;simp only[Bool.not_true,Bool.and_false,e1,e2];rw[←Bool.and_assoc (x.ar.all _),ha'];have e3:(eo x.dst sl&&aB x.b 0)=(eo x.dst sl&&(eo x.b sl&&aB x.b 0)):=by
    simp only[eo,cN,dA]
    by_cases hb:x.b=0
    ·rw[hb]
     by_cases hd:x.dst < 0 <;> by_cases hd2:x.dst < sl <;> simp[hd,hd2]
     omega
    have:(x.b==0)=false:=by simpa using hb
    rw[this];simp
   have n1:aB 3 12=false:=rfl;have n2:aB 3 13=false:=rfl;have n3:aB 3 3=true:=rfl;have n4:aF 5 1=false:=rfl;have n5:aF 7 5=false:=rfl;have n6:aB 5 5=true:=rfl;simp only[n1,n2,n3,n4,n5,n6,Bool.or_self,Bool.or_false,Bool.false_or,Bool.true_or,Bool.not_true,Bool.not_false,Bool.true_and,Bool.and_true,if_true,Bool.false_eq_true,if_false,Bool.not_not];generalize aB x.b 0=q at *;generalize eo x.b sl=q2 at *;generalize eo x.dst sl=q1 at *;generalize eo x.a sl=q3 at *
   cases q1 <;> cases q <;> cases q2 <;> cases q3 <;> simp at e3 ⊢
   simp only[Bool.and_assoc,Bool.and_comm,Bool.and_left_comm]
def dj (d:ak):Prop:=d=nl∨∃a,d=.slice a
theorem dr (l:List ak):dj (sl l):=by cases l with|nil=>exact .inl rfl|cons a b=>exact .inr ⟨_,rfl⟩
theorem dq (z:Bool) (l:List ak):dj (sx z l):=by
 cases l with
 | nil=>cases z with
  | true=>exact .inr ⟨_,rfl⟩
  | false=>exact .inl rfl
 | cons a b=>exact .inr ⟨_,rfl⟩
def aN (p s:Int) (a b:ak):ak:=.agg [i64 p,i64 s,a,b]
def eH (g e a b m:Int) (n:List UInt8) (d:ak) (k:Int) (t:List UInt8) (x:Int) (f:ak) (C I:Int) (c:List UInt8):ak:=.agg [i64 g,i64 e,i64 a,i64 b,i64 m,sb n,d,i64 k,sb t,i64 x,f,i64 C,i64 I,sb c,nl]
theorem aS {p s:Int} {c d:ak} (a:dj c) (b:dj d):Sj [.dat (aN p s c d)]=some ⟨.undef,.new (.cells [.dat (i64 p),.dat (i64 s),.dat c,.dat d])⟩:=by
 rcases a with rfl|⟨E,rfl⟩ <;> rcases b with rfl|⟨F,rfl⟩ <;> kernel_rfl
theorem bw {g e a b m:Int} {n:List UInt8} {d:ak} {k:Int} {t:List UInt8} {x:Int} {f:ak} {C I:Int} {c:List UInt8} (h:dj d) (i:dj f) :
  Sj [.dat (eH g e a b m n d k t x f C I c)]=some ⟨.undef,.new (.cells [.dat (i64 g),.dat (i64 e),.dat (i64 a),.dat (i64 b),.dat (i64 m),.dat (sb n),.dat d,.dat (i64 k),.dat (sb t),.dat (i64 x),.dat f,.dat (i64 C),.dat (i64 I),.dat (sb c),.dat nl])⟩:=by
 rcases h with rfl|⟨E,rfl⟩ <;> rcases i with rfl|⟨F,rfl⟩ <;> kernel_rfl
def cC (p s:Int) (a b:ak):List ac:=[.dat (i64 p),.dat (i64 s),.dat a,.dat b]
def hC (p s:Int) (a b:ak):Heap:=[(.out 0,.cells (cC p s a b))]
def cX (g e a b m:Int) (n:List UInt8) (d:ak) (k:Int) (t:List UInt8) (x:Int) (f:ak) (C I:Int) (c:List UInt8):List ac:=[.dat (i64 g),.dat (i64 e),.dat (i64 a),.dat (i64 b),.dat (i64 m),.dat (sb n),.dat d,.dat (i64 k),.dat (sb t),.dat (i64 x),.dat f,.dat (i64 C),.dat (i64 I),.dat (sb c),.dat nl]
def cS (s:kG):List ac:=[.dat (sb s.w),bv s.dst,bv s.a,bv s.b,bv s.im,bv s.nm,bv s.ar,bv s.ty,bv s.sK,bv s.call,bv s.cond,bv s.fin]
theorem ES {e n sl:Int} {c d:ak} {u:Bool}:KC 141 [iv n,bv u,.ptr (.out 0) 0] (hC e sl c d) 1 (XQ ⟨bv (fB n sl u),hC e sl c d,1⟩):=by
 unfold fB;generalize a:aB n 0=p;generalize b:aF n 0=q;generalize f:aF n sl=g;refine iS [7,16,22] [] (x:=qS.of Tryz.f141 P8 Lq) (by kernel_rfl) (ob a ?_)
 cases p <;>
 ·cases u
  ·exact fi
  refine ox b ?_
  cases q
  ·refine ob f ?_
   cases g <;>
   ·exact fi
  exact fi
noncomputable def Up:Hints:=⟨bV,P8,bi,rowsOf bi 97⟩
def Fo (u:ak) (n:Nat) (a b c:List ac) (i:Int):ab:=⟨[(15,iv i),(14,iv (ofNat n)),(13,.dat u),(7,.fn (.func 141) [] [.ptr (.loc 3) 0]),(5,.ptr (.loc 5) 0),(4,.ptr (.loc 4) 0)],[(.loc 5,.cells c),(.loc 4,.cells b),(.loc 3,.cells a)],[],0⟩
def Od (u:ak) (n:Nat) (a b c:List ac) (i:Int):ab:=⟨[(16,bv false),(15,iv i),(14,iv (ofNat n)),(13,.dat u),(7,.fn (.func 141) [] [.ptr (.loc 3) 0]),(5,.ptr (.loc 5) 0),(4,.ptr (.loc 4) 0)],[(.loc 5,.cells c),(.loc 4,.cells b),(.loc 3,.cells a)],[],0⟩
def Oc (u:ak) (n:Nat) (H:Heap) (a b:List ac) (i:Int):ab:=⟨[(15,iv i),(14,iv (ofNat n)),(13,.dat u),(7,.fn (.func 141) [] [.ptr (.out 0) 0]),(5,.ptr (.loc 5) 0),(4,.ptr (.loc 4) 0)],[(.loc 5,.cells b),(.loc 4,.cells a)],H,1⟩
def Ob (u:ak) (n:Nat) (H:Heap) (a b:List ac) (i:Int):ab:=⟨[(16,bv false),(15,iv i),(14,iv (ofNat n)),(13,.dat u),(7,.fn (.func 141) [] [.ptr (.out 0) 0]),(5,.ptr (.loc 5) 0),(4,.ptr (.loc 4) 0)],[(.loc 5,.cells b),(.loc 4,.cells a)],H,1⟩
def Kp (H:Heap):ab:=⟨[(6,bv false)],[],H,1⟩
theorem I9 {l:List Int} {t h sl:Int} {d:ak} {p g:Int} {o:ak} {q:List UInt8} {j:List UInt8} {c:Bool} (i:0 < (l.map iN).length) (v:l[0]?=some t)
  (e:KC 141 [iv t,bv s.ar,.ptr (.out 0) 0] (hC h sl d f) 1 (XQ ⟨bv c,hC h sl d f,1⟩))
  (E:c=true->T .normal ((Oc (.slice (l.map iN)) (l.map iN).length (hC h sl d f) (cX p g a b m n o k q x y C I j) (cS s) (ofNat 1)).al gL)) (F:c=false->T .ret ((Kp (hC h sl d f)).al gL)) :
  KD (roundOf Tryz.f97 0) T ((Fo (.slice (l.map iN)) (l.map iN).length (cC h sl d f) (cX p g a b m n o k q x y C I j) (cS s) (ofNat 0)).al gL):=by
 have r:=br i;have u:=wb v;generalize l.map iN=B at *;obtain⟨w,D,G,J,K,L,M,N,O,P,z,A⟩:=s;refine aq [16] [17] (H:=Up) (live:=sO) (ob r (oo u (oh e ?_)))
 cases c
 ·exact oe (F rfl)
 exact oe (E rfl)
theorem MD {l:List Int} {t h sl:Int} {d:ak} {p g:Int} {o:ak} {q:List UInt8} {j:List UInt8} {c:Bool} (v:i < (l.map iN).length) (z:l[i]?=some t)
  (e:KC 141 [iv t,bv s.ar,.ptr (.out 0) 0] (hC h sl d f) 1 (XQ ⟨bv c,hC h sl d f,1⟩))
  (E:c=true->T .normal ((Oc (.slice (l.map iN)) (l.map iN).length (hC h sl d f) (cX p g a b m n o k q x y C I j) (cS s) (an .i64 (ofNat i+1))).al gL)) (F:c=false->T .ret ((Kp (hC h sl d f)).al gL)) :
  KD (roundOf Tryz.f97 0) T ((Oc (.slice (l.map iN)) (l.map iN).length (hC h sl d f) (cX p g a b m n o k q x y C I j) (cS s) (ofNat i)).al gL):=by
 have r:=br v;have u:=wb z;generalize l.map iN=D at *;obtain⟨w,G,J,K,L,M,N,O,P,Q,A,B⟩:=s;refine aq [16] [17] (H:=Up) (live:=sO) (ob r (oo u (oh e ?_)))
 cases c
 ·exact oe (F rfl)
 exact oe (E rfl)
theorem MG {u:ak} {j sl:Int} {g:ak} {i:Int} {h:ak} {t:List UInt8} {c:List UInt8} (e:T (.exit 0) ((Od u 0 (cC j sl f g) (cX i d a b m n h k t x y C I c) (cS s) (ofNat 0)).al gL)) :
  KD (roundOf Tryz.f97 0) T ((Fo u 0 (cC j sl f g) (cX i d a b m n h k t x y C I c) (cS s) (ofNat 0)).al gL):=by
 obtain⟨w,p,q,r,v,z,A,B,D,E,l,o⟩:=s;refine aq [] [] (H:=Up) (live:=sO) ?_;exact oe e
theorem MF {u:ak} {n:Nat} {o sl:Int} {g:ak} {l:Int} {j:List UInt8} {h:ak} {t:List UInt8} {c:List UInt8} (e:T (.exit 0) ((Ob u n (hC o sl f g) (cX l d a b m j h k t x y C I c) (cS s) (ofNat n)).al gL)) :
  KD (roundOf Tryz.f97 0) T ((Oc u n (hC o sl f g) (cX l d a b m j h k t x y C I c) (cS s) (ofNat n)).al gL):=by
 have p:=cj (i:=n) (L:=n) (by omega);obtain⟨w,v,z,A,B,D,E,F,G,J,q,r⟩:=s;exact aq [16] [] (H:=Up) (live:=sO) (ob p (oe e))
theorem ME {u:ak} {o sl:Int} {g:ak} {l:Int} {t:List UInt8} {j:Int} {h:ak} {c:List UInt8} :
  KD (.loop (roundOf Tryz.f97 0)) (fun e q=>e=.exit 0/\q=(Od u 0 (cC o sl f g) (cX l d a b m n h k t j y C I c) (cS s) (ofNat 0)).al gL)
   ((Fo u 0 (cC o sl f g) (cX l d a b m n h k t j y C I c) (cS s) (ofNat 0)).al gL):=by
 refine cA (St:=fun i=>(Fo u 0 (cC o sl f g) (cX l d a b m n h k t j y C I c) (cS s) (ofNat i)).al gL) 0 (fun i p=>absurd p (by omega)) ?_ (i:=0) (Nat.le_refl _);exact MG ⟨rfl,rfl⟩
def aey (u:ak) (n:Nat) (e sl:Int) (c d:ak) (a b:List ac):Nat->ab
 | 0=>Fo u n (cC e sl c d) a b (ofNat 0)
 | i+1=>Oc u n (hC e sl c d) a b (ofNat (i+1))
theorem P9 {r:List Int} {o sl:Int} {g:ak} {F:Int} {E:List UInt8} {G:List UInt8} {D:Int} {u:ak} {p:List UInt8} (N:(x::r).length < 1000000000) :
  KD (.loop (roundOf Tryz.f97 0)) (fun e q=>(e=.exit 0/\(x::r).all (fun n=>fB n sl s.ar)=true/\q=(Ob (.slice ((x::r).map iN)) ((x::r).map iN).length (hC o sl f g) (cX F d a b m E u k G D y C I p) (cS s) (ofNat ((x::r).map iN).length)).al gL)∨(e=.ret/\(x::r).all (fun n=>fB n sl s.ar)=false/\q=(Kp (hC o sl f g)).al gL))
   ((Fo (.slice ((x::r).map iN)) ((x::r).map iN).length (cC o sl f g) (cX F d a b m E u k G D y C I p) (cS s) (ofNat 0)).al gL):=by
 have l:∀{i:Nat} {t:Int},(x::r)[i]?=some t->((x::r).drop i).all (fun n=>fB n sl s.ar)=(fB t sl s.ar&&((x::r).drop (i+1)).all (fun n=>fB n sl s.ar)):=by
  intro i t h;rw[kT h];rfl
 refine cV (St:=fun i=>(aey (.slice ((x::r).map iN)) ((x::r).map iN).length o sl f g (cX F d a b m E u k G D y C I p) (cS s) i).al gL) (fun i=>(x::r).all (fun n=>fB n sl s.ar)=((x::r).drop i).all (fun n=>fB n sl s.ar)) ((x::r).map iN).length ?_ ?_ (i:=0) (Nat.zero_le _) rfl
 ·intro i z v;have B:i < (x::r).length:=by simpa using z
  have T:(x::r)[i]?=some ((x::r)[i]):=List.getElem?_eq_getElem B;generalize (x::r)[i]=t at T;have A:=l T;rw[←v] at A;have w:=@ES o t sl f g s.ar;generalize fB t sl s.ar=c at w A
  cases i with
  | zero=>
   refine I9 z T w ?_ ?_
   ·rintro rfl;exact⟨rfl,A⟩
   rintro rfl;exact .inr ⟨rfl,A,rfl⟩
  | succ j=>
   have J:an .i64 (ofNat (j+1)+1)=ofNat (j+1+1):=bb (by omega);refine MD z T w ?_ ?_
   ·rintro rfl;rw[J];exact⟨rfl,A⟩
   rintro rfl;exact .inr ⟨rfl,A,rfl⟩
 intro v;have H:(x::r).all (fun n=>fB n sl s.ar)=true:=by
  rw[v,List.length_map,List.drop_length];rfl
 exact MF (.inl ⟨rfl,H,rfl⟩)
theorem Tx {j:List ak} {o sl:Int} {g h:ak} (N:dj g) (O:dj h) {z i a b m:Int} {n:List UInt8} {k:Int} {t:List UInt8} {E:Int} {y:ak} {C I:Int} {c:List UInt8} {s:kG} {d r u K A v H J:Bool} (P:dj y)
  (l:KD (.loop (roundOf Tryz.f97 0)) (fun e q=>(e=.exit 0/\d=true/\q=(Ob (.slice j) j.length (hC o sl g h) (cX z i a b m n (.slice j) k t E y C I c) (cS s) (ofNat j.length)).al gL)∨(e=.ret/\d=false/\q=(Kp (hC o sl g h)).al gL))
   ((Fo (.slice j) j.length (cC o sl g h) (cX z i a b m n (.slice j) k t E y C I c) (cS s) (ofNat 0)).al gL))
  (B:KC 141 [iv i,bv s.dst,.ptr (.out 0) 0] (hC o sl g h) 1 (XQ ⟨bv r,hC o sl g h,1⟩))
  (D:KC 141 [iv a,bv s.a,.ptr (.out 0) 0] (hC o sl g h) 1 (XQ ⟨bv u,hC o sl g h,1⟩))
  (f:KC 141 [iv b,bv (s.b&&!(H&&J)),.ptr (.out 0) 0] (hC o sl g h) 1 (XQ ⟨bv K,hC o sl g h,1⟩))
  (M:aB (ofNat j.length) 0=A) (G:aF 6 (ofNat j.length)=v) (U:aB z 3=H) (V:aB m 5=J) :
  ae 97 [.dat (aN o sl g h),.dat (eH z i a b m n (.slice j) k t E y C I c),.dat s.enc] (bv (d&&((s.ar||A)&&(!v&&(r&&(u&&K)))))):=by
 have Q:=aS (p:=o) (s:=sl) N O;have R:=@bw z i a b m n (.slice j) k t E _ C I c (.inr ⟨_,rfl⟩) P;obtain⟨w,Y,Z,F,s4,s5,L,s7,s8,s9,S,T⟩:=s;refine co [28,32,46,40] [3,4] (x:=.of Tryz.f97 P8 sO) ?_;refine oo Q (oo R ?_);refine lo l ?_;rintro W s (⟨rfl,rfl,rfl⟩|⟨rfl,rfl,rfl⟩)
 ·refine⟨_,rfl,?_⟩;refine ob U ?_
  cases H
  ·cases L
   ·refine ob M ?_
    cases A
    ·exact fi
    refine ox G ?_
    cases v
    ·refine oh B ?_
     cases r
     ·exact fi
     refine oh D ?_
     cases u
     ·exact fi
     cases F <;>
     ·exact oh f fi
    exact fi
   refine ox G ?_
   cases v
   ·refine oh B ?_
    cases r
    ·exact fi
    refine oh D ?_
    cases u
    ·exact fi
    cases F <;>
    ·exact oh f fi
   exact fi
  refine ob V ?_
  cases J <;>
  ·cases L
   ·refine ob M ?_
    cases A
    ·exact fi
    refine ox G ?_
    cases v
    ·refine oh B ?_
     cases r
     ·exact fi
     refine oh D ?_
     cases u
     ·exact fi
     cases F <;>
     ·exact oh f fi
    exact fi
   refine ox G ?_
   cases v
   ·refine oh B ?_
    cases r
    ·exact fi
    refine oh D ?_
    cases u
    ·exact fi
    cases F <;>
    ·exact oh f fi
   exact fi
 refine⟨_,rfl,?_⟩;exact fi
end Go.Proofs.YtmpmgmmcaghacaaGreatDoor
namespace Go.Proofs
open Go.Shelf
def Tryz.Ml:Go.Shelf.Ren:=⟨fun|5=>59|8=>93|7=>92|19=>135|20=>136|10=>126|11=>127|12=>128|13=>129|14=>130|15=>131|16=>132|17=>133|18=>134|30=>167|31=>168|32=>169|33=>170|34=>171|35=>172|40=>191|n=>n,fun|23=>22|25=>3|3=>3|32=>134|22=>22|0=>0|44=>178|46=>162|4=>4|36=>171|35=>170|41=>57|5=>5|9=>9|53=>195|57=>199|63=>211|64=>212|n=>n,fun|n=>n⟩
theorem Tryz.gO:Go.Proofs.SlLaysM.n5 Tryz.prog Tryz.Ml:={
 mixed:=by kernel_rfl
 f5:=⟨Tryz.f59.name,by decide,Tryz.func59.trans (congrArg some (by kernel_rfl))⟩
 f7:=⟨Tryz.f92.name,by decide,Tryz.func92.trans (congrArg some (by kernel_rfl))⟩
 f8:=Tryz.func93.trans (congrArg some (by kernel_rfl))
 f10:=⟨Tryz.f126.name,by decide,Tryz.func126.trans (congrArg some (by kernel_rfl))⟩
 f11:=⟨Tryz.f127.name,by decide,Tryz.func127.trans (congrArg some (by kernel_rfl))⟩
 f12:=⟨Tryz.f128.name,by decide,Tryz.func128.trans (congrArg some (by kernel_rfl))⟩
 f13:=⟨Tryz.f129.name,by decide,Tryz.func129.trans (congrArg some (by kernel_rfl))⟩
 f14:=⟨Tryz.f130.name,by decide,Tryz.func130.trans (congrArg some (by kernel_rfl))⟩
 f15:=⟨Tryz.f131.name,by decide,Tryz.func131.trans (congrArg some (by kernel_rfl))⟩
 f16:=⟨Tryz.f132.name,by decide,Tryz.func132.trans (congrArg some (by kernel_rfl))⟩
 f17:=⟨Tryz.f133.name,by decide,Tryz.func133.trans (congrArg some (by kernel_rfl))⟩
 f18:=⟨Tryz.f134.name,by decide,Tryz.func134.trans (congrArg some (by kernel_rfl))⟩
 f19:=Tryz.func135.trans (congrArg some (by kernel_rfl))
 f20:=Tryz.func136.trans (congrArg some (by kernel_rfl))
 f30:=⟨Tryz.f167.name,by decide,Tryz.func167.trans (congrArg some (by kernel_rfl))⟩
 f31:=Tryz.func168.trans (congrArg some (by kernel_rfl))
 f32:=Tryz.func169.trans (congrArg some (by kernel_rfl))
 f33:=⟨Tryz.f170.name,by decide,Tryz.func170.trans (congrArg some (by kernel_rfl))⟩
 f34:=⟨Tryz.f171.name,by decide,Tryz.func171.trans (congrArg some (by kernel_rfl))⟩
 f35:=⟨Tryz.f172.name,by decide,Tryz.func172.trans (congrArg some (by kernel_rfl))⟩
 f40:=⟨Tryz.f191.name,by decide,Tryz.func191.trans (congrArg some (by kernel_rfl))⟩
 t0:=Tryz.underlying0
 a0:=Tryz.isAgg0
 z0:=Tryz.sizeOf0
 v0:=Tryz.zeroValue0
 t3:=Tryz.underlying3
 a3:=Tryz.isAgg3
 z3:=Tryz.sizeOf3
 v3:=Tryz.zeroValue3
 t4:=Tryz.underlying4
 a4:=Tryz.isAgg4
 z4:=Tryz.sizeOf4
 v4:=Tryz.zeroValue4
 t5:=Tryz.underlying5
 a5:=Tryz.isAgg5
 z5:=Tryz.sizeOf5
 v5:=Tryz.zeroValue5
 t9:=Tryz.underlying9
 a9:=Tryz.isAgg9
 z9:=Tryz.sizeOf9
 v9:=Tryz.zeroValue9
 t22:=Tryz.underlying22
 a22:=Tryz.isAgg22
 z22:=Tryz.sizeOf22
 v22:=Tryz.zeroValue22
 t23:=Tryz.underlying22
 a23:=Tryz.isAgg22
 z23:=Tryz.sizeOf22
 v23:=Tryz.zeroValue22
 t25:=Tryz.underlying3
 a25:=Tryz.isAgg3
 z25:=Tryz.sizeOf3
 v25:=Tryz.zeroValue3
 t32:=Tryz.underlying134
 a32:=Tryz.isAgg134
 z32:=Tryz.sizeOf134
 v32:=Tryz.zeroValue134
 t35:=Tryz.underlying170
 a35:=Tryz.isAgg170
 z35:=Tryz.sizeOf170
 v35:=Tryz.zeroValue170
 t36:=Tryz.underlying171
 a36:=Tryz.isAgg171
 z36:=Tryz.sizeOf171
 v36:=Tryz.zeroValue171
 t41:=Tryz.underlying57
 a41:=Tryz.isAgg57
 z41:=Tryz.sizeOf57
 v41:=Tryz.zeroValue57
 t44:=Tryz.underlying178
 a44:=Tryz.isAgg178
 z44:=Tryz.sizeOf178
 v44:=Tryz.zeroValue178
 t46:=Tryz.underlying162
 a46:=Tryz.isAgg162
 z46:=Tryz.sizeOf162
 v46:=Tryz.zeroValue162
 t53:=Tryz.underlying195
 a53:=Tryz.isAgg195
 z53:=Tryz.sizeOf195
 v53:=Tryz.zeroValue195
 t57:=Tryz.underlying199
 a57:=Tryz.isAgg199
 z57:=Tryz.sizeOf199
 v57:=Tryz.zeroValue199
 t63:=Tryz.underlying211
 a63:=Tryz.isAgg211
 z63:=Tryz.sizeOf211
 v63:=Tryz.zeroValue211
 t64:=Tryz.underlying212
 a64:=Tryz.isAgg212
 z64:=Tryz.sizeOf212
 v64:=Tryz.zeroValue212 }
def Tryz.uQ:Go.Shelf.Ren:=⟨fun|43=>60|n=>n,fun|22=>22|23=>3|3=>3|4=>4|0=>0|n=>n,fun|n=>n⟩
theorem Tryz.RI:Go.Proofs.SlLaysE.n43 Tryz.prog Tryz.uQ:={
 mixed:=by kernel_rfl
 f43:=⟨Tryz.f60.name,by decide,Tryz.func60.trans (congrArg some (by kernel_rfl))⟩
 t0:=Tryz.underlying0
 a0:=Tryz.isAgg0
 z0:=Tryz.sizeOf0
 v0:=Tryz.zeroValue0
 t3:=Tryz.underlying3
 a3:=Tryz.isAgg3
 z3:=Tryz.sizeOf3
 v3:=Tryz.zeroValue3
 t4:=Tryz.underlying4
 a4:=Tryz.isAgg4
 z4:=Tryz.sizeOf4
 v4:=Tryz.zeroValue4
 t22:=Tryz.underlying22
 a22:=Tryz.isAgg22
 z22:=Tryz.sizeOf22
 v22:=Tryz.zeroValue22
 a23:=Tryz.isAgg3
 z23:=Tryz.sizeOf3 }
end Go.Proofs
namespace Go.Tp
open Go.Proofs Go.Shelf Go.RowKit Go.Maps Go.Sort Go.Lib
def oF (n:Int):ak:=.flat (.int .i64 n)
section
def lu:List ac->Option (List Int)
 | []=>some []
 | .dat (.flat (.int .i64 n))::r=>(match lu r with|some l=>some (n::l)|none=>none)
 | _=>none
theorem rY:∀{d:List ac} {a:List Int},lu d=some a->d=a.map (fun n=>.dat (oF n))
 | [],a,h=>by grind[lu]
 | c::r,a,h=>by
  unfold lu at h
  split at h
  ·grind
  ·rename_i n f b;obtain⟨rfl,rfl⟩:=b
   split at h
   ·rename_i l e;simp at h;subst h;rw[rY e];rfl
   grind
  grind
def Be (d:List ac) (a:Heap) (e:Nat):Option eX:=
 match d with
 | [.win (.out m) 1 0 b]=>(match qJ (.out m) a with
  | some (.cells c)=>(match Nat.beq b c.length&&Nat.ble 1 b&&Nat.ble b 4294967296 with
   | true=>(match lu c with
    | some f=>some ⟨.dat (.slice ((compactUpTo f.toArray f.length).map oF)),qL (.out m) a,e⟩
    | none=>none)
   | false=>none)
  | _=>none)
 | _=>none
theorem Gz {w:World} {R x:Own} {b:Nat} {r:Array Value} {i:TypeId} (k:w.heap[b]?=some (.cells r i (0,0))) (y:x=fun c g=>c≠b/\R c g) (t:∀j,j < r.size->R b j) (o:0 < r.size) (q:Nat) (d:Array Int) (B:List Nat) (z:b∉B) :
  bp w R (putRow (Value.int .i64) (Sort.ahead w q) b 0 d) x B:=by
 have f:∀c,c≠b->(putRow (Value.int .i64) (Sort.ahead w q) b 0 d).heap[c]?=w.heap[c]?:=fun c s=>by
  simp[putRow,mapBlock,Array.getElem?_modify,Ne.symm s]
 have n:(putRow (Value.int .i64) (Sort.ahead w q) b 0 d).heap[b]?=some (.cells (putCells (Value.int .i64) 0 d r) i (0,0)):=by
  simp[putRow,mapBlock,Array.getElem?_modify,k,onCells]
 have v:(putCells (Value.int .i64) 0 d r).size=r.size:=by simp[putCells]
 subst y;refine⟨⟨rfl,rfl,rfl,by simp_all,fun c s m=>?_,fun c g s m=>⟨fun h=>m h.2,?_⟩,fun c s=>?_⟩,fun c s _=>?_⟩
 ·grind
 ·by_cases l:c=b
  ·subst l;have O:r.size<=g:=by
    grind
   rw[cell_of_row _ c g _ i (0,0) n,cell_of_row w c g r i (0,0) k,Array.getElem?_eq_none (by omega),Array.getElem?_eq_none O]
  exact World.cell?_of_block (a:=⟨c,g,none⟩) (f c l)
 all_goals grind[dF,fe]
theorem Nq {P:Program} {ρ:Ren} {G:bA} (L:SlLaysE.n43 P ρ) (bt:∀w,(zeroValue (ρ.t 23)).run P w=.ok (.int .i64 0) w) {K:List ac} {M:Heap} {C:Nat} {r:eX} (h:Be K M C=some r):ay P G (ρ.f 43) K M C (XQ r):=by
 unfold Be at h
 split at h
 rotate_left
 ·simp at h
 rename_i m af
 split at h
 rotate_left
 ·simp at h
 rename_i cs hm
 split at h
 rotate_left
 ·simp at h
 rename_i hc;simp only[Bool.and_eq_true,Nat.ble_eq] at hc;obtain⟨⟨l,a⟩,h2⟩:=hc;have l:=Nat.eq_of_beq_eq_true l
 split at h
 rotate_left
 ·simp at h
 rename_i g bk;simp only[Option.some.injEq] at h;subst h;have aq:=rY bk;have bi:g.length=af:=by rw[l,aq];simp
 rw[jS] at hm;rw[lE];intro w R N a4 b0 H z X ad bc be ba hF;obtain⟨v0,r1,c0,d1,rfl,rfl,o,bf⟩:=au X;obtain⟨rfl,rfl⟩:=aM bf;simp only[ai] at o;obtain⟨rfl,b,W,hb,rfl,am,_,bw,Q⟩:=o;obtain⟨a3,p,b1,U,E,al,a2,_,V,ar,S⟩:=aj.kK ad hm
 have:p=b:=by rw[hb] at al;simpa using al.symm
 subst this;subst E;obtain⟨vs,bu,sp,s,bg,a6,_⟩:=a2;have b3:W=vs.size:=by rw[eD,s] at Q;simpa using Q
 have T:∀j (u:j < g.length),vs[j]?=some (.int .i64 g[j])/\bJ (.int .i64 g[j])=true:=by
  intro j u;have A:cs[j]?=some (.dat (oF g[j])):=by rw[aq,List.getElem?_map,List.getElem?_eq_getElem u];rfl
  obtain⟨x,bx,q1,q2,_⟩:=dY bg (rj A);obtain⟨_,rfl,hf⟩:=aC q2;exact⟨by rw[←Array.getElem?_toList];exact q1,hf⟩
 have hH:Holds (Value.int .i64) w p 0 g.toArray:=by
  intro j u;have u:j < g.length:=by simpa using u
  obtain⟨q1,_⟩:=T j u;rw[Nat.zero_add];refine⟨?_,by simp[World.frozen?,s]⟩;simp[World.cell?,s,q1,u]
 have v:g.toArray.size=af:=by simpa using bi
 rw[←v];refine (AnyE.slices_Compact L (Value.int .i64) (fun _=>rfl) (EqlAt.intD P (ρ.t 23) .i64) (NeqAt.intD P (ρ.t 23) .i64) 0 bt p 0 W g.toArray w hH (by rw[v];omega) (by rw[v];exact am)).mono ?_;rintro e w' ⟨rfl,q,rfl⟩;obtain⟨f,t⟩:∃f,f=compactUpTo g.toArray g.toArray.size:=⟨_,rfl⟩;have ae:compactUpTo g.toArray g.length=f:=by rw[t];simp
 rw[ae,←t];have b2:f.length<=af:=by
  rw[t,←v];simp only[compactUpTo,List.length_map];exact Nat.le_trans (List.length_filter_le _ _) (by simp)
 have a0:∀n∈f,bJ (.int .i64 n)=true:=by
  intro n hn;rw[t] at hn;simp only[compactUpTo,List.mem_map,List.mem_filter,List.mem_range] at hn;obtain⟨j,⟨u,_⟩,rfl⟩:=hn;have u:j < g.length:=by simpa using u
  have:=(T j u).2
  simpa [u] using this
 obtain⟨I,Y⟩:∃I,I=(f++List.replicate (g.toArray.size - f.length) (0:Int)).toArray:=⟨_,rfl⟩;rw[←Y];have av:I.size=g.toArray.size:=by rw[Y];simp;omega
 obtain⟨R',ag⟩:∃R':Own,R'=fun c bo=>c≠p/\R c bo:=⟨_,rfl⟩
 have k:∀B,p∉B->bp w R (putRow (Value.int .i64) (Sort.ahead w q) p 0 I) R' B:=fun B a7=>Gz s ag a6 (by omega) q I B a7
 have hp:([]++((a3++(p::b1)++U)++z)).Perm (p::(b1++((a3++U)++z))):=by
  rw[List.perm_iff_count];intro x;simp only[List.count_append,List.count_cons,List.count_nil];omega
 have O:=List.nodup_cons.1 (hp.nodup_iff.1 (by simpa using bc));have a1:=O.1;simp only[List.mem_append,not_or] at a1;obtain⟨_,⟨n3,bl⟩,n4⟩:=a1;have n5:p∉V:=fun hm=>by
  rcases List.mem_append.1 (S.subset hm) with h|h
  ·exact n3 h
  exact bl h
 refine⟨_,_,_,C,R',N,[],V,rfl,⟨rfl,rfl,rfl⟩,bQ (d:=.slice (f.map oF)) ?_,ar.keep (k V n5),?_,be,k z n4,fun _ _ h=>h⟩
 ·have J:(f.map oF).length=f.length:=by simp
  have a5:=holds_putRow (Value.int .i64) (Sort.ahead w q) p 0 g.toArray I (holds_ahead _ w q p 0 g.toArray hH) av;have ax:∀i (D:i < f.length),(putRow (Value.int .i64) (Sort.ahead w q) p 0 I).cell? ⟨p,0+i,none⟩=some (.int .i64 f[i]):=by
   intro i D;have az:i < I.size:=by rw[av,v];omega
   have:=(a5 i az).1
   rw[this];congr 2;rw[getElem!_pos I i az];subst Y;simp[D]
  rw[←J];show eU _ _ _ _;refine .slice p 0 W 1 _ (fun i _=>.int .i64 (f[i]?.getD 0)) (by omega) ?_ (by rw[J];omega) (by rw[J];simp only[lim];omega) ?_ ?_
  ·intro e Z;simp only[List.mem_map] at Z;obtain⟨y,_,rfl⟩:=Z;rfl
  ·intro i j D u;rw[J] at D
   have:j=0:=by omega
   subst this;refine⟨?_,fun h=>by subst ag;exact h.1 rfl⟩
   have:=ax i D
   simpa [D] using this
  intro i j e c Z hc;have D:i < f.length:=by
   rcases Nat.lt_or_ge i f.length with h'|h'
   ·exact h'
   rw[List.getElem?_eq_none (by simpa using h')] at Z;simp at Z
  have a9:e=oF f[i]:=by
   rw[List.getElem?_map,List.getElem?_eq_getElem D] at Z;simpa using Z.symm
  subst a9;have a8:c=oF f[i]:=by
   cases j with
   | zero=>simpa [oF,ak.cells] using hc.symm
   | succ j=>simp[oF,ak.cells] at hc
  subst a8;have F:f[i]?.getD 0=f[i]:=by rw[List.getElem?_eq_getElem D];rfl
  rw[F];exact .flat (a0 _ (List.getElem_mem D))
 have h2:=(List.nodup_append.1 O.2).2.1;rw[List.nil_append];exact List.Nodup.sublist (List.Sublist.append S (.refl _)) h2
def gO (l:List Int):List Int:=l.mergeSort (fun x y=>decide (x<=y))
theorem zj (l:List Int):(gO l).Perm l:=List.mergeSort_perm _ _
theorem iw (l:List Int):(gO l).length=l.length:=(zj l).length_eq
theorem MP {w:World} {R:Own} (i:Array Obj) (B:List Nat):bp w R (grow w i) (fun b c=>b < w.heap.size/\R b c) B:=by
 have g:∀b,b < w.heap.size->(grow w i).heap[b]?=w.heap[b]?:=fun b d=>by simp[grow,Array.getElem?_append,d]
 refine⟨⟨rfl,rfl,rfl,by grind,fun b d e=>⟨g b d,fun c h=>e c h.2⟩,fun b c d e=>⟨fun h=>e h.2,World.cell?_of_block (a:=⟨b,c,none⟩) (g b d)⟩,fun b d=>fe (g b d)⟩,fun b d f=>⟨g b f,fun c h=>⟨f,h⟩⟩⟩
theorem No {P:Program} {ρ:Ren} {G:bA} (L:SlLaysM.n5 P ρ) {l:List Int} (hl:l≠[]) (hn:l.length < 1000000000) :
  ay P G (ρ.f 5) [.win (.out 0) 1 0 l.length] [(.out 0,.cells (cH l))] 1 (XQ ⟨.tup [],[(.out 0,.cells (cH (gO l)))],1⟩):=by
 intro w R N a1 bo H z T W ar a9 a5 hF;obtain⟨v0,r1,c0,d1,rfl,rfl,o,ae⟩:=au T;obtain⟨rfl,rfl⟩:=aM ae;obtain⟨b,r,Q,rfl,hb,av,t⟩:=W;have t:Q=[]:=t;subst t;obtain⟨C,q,sp,s,bc,S,_⟩:=av;simp only[ai] at o;obtain⟨rfl,g,a0,al,rfl,bk,bu,E,bl⟩:=o
 have:g=b:=by rw[hb] at al;simpa using al.symm
 subst this;obtain⟨b3,K,q1,q2,af,rfl,ae,ba⟩:=eL bc;obtain⟨rfl,rfl,a4⟩:=oD ae;obtain⟨rfl,az⟩:=mY ba;have bx:0 < l.length:=List.length_pos_iff.2 hl;have b0:C.toList.length=l.length+K.length:=by rw[af];simp[ints]
 have V:∀j (p:j < l.length),C[j]?=some (.int .i64 l[j]):=by
  intro j p;rw[←Array.getElem?_toList,af,List.getElem?_append_left (by simpa [ints] using p)];simp[ints,p]
 have hH:Holds (Value.int .i64) w g 0 l.toArray:=by
  intro j p;have p:j < l.length:=by simpa using p
  rw[Nat.zero_add];refine⟨?_,by simp[World.frozen?,s]⟩;simp[World.cell?,s,V j p,p]
 refine (AnyM.slices_Sort_int L g 0 a0 l w hH E (by omega)).mono ?_;rintro e w' ⟨rfl,n,os,rfl⟩;obtain⟨d,D⟩:∃d,d=(gO l).toArray:=⟨_,rfl⟩;show ∃v cv a3 bg M N' bt bi,_;have bw:d.size=l.length:=by rw[D];simp[iw]
 rw[show (l.mergeSort fun x y=>decide (x<=y)).toArray=d from D.symm];have A:(putRow (Value.int .i64) (Sort.ahead w n) g 0 d).heap[g]?=some (.cells (putCells (Value.int .i64) 0 d C) q (0,0)):=by
  simp[putRow,mapBlock,Sort.ahead,Array.getElem?_modify,s,onCells]
 have i:∀c,c≠g->(putRow (Value.int .i64) (Sort.ahead w n) g 0 d).heap[c]?=w.heap[c]?:=fun c hc=>by
  simp[putRow,mapBlock,Sort.ahead,Array.getElem?_modify,Ne.symm hc]
 have ax:(putCells (Value.int .i64) 0 d C).size=C.size:=by simp[putCells]
 have bf:0 < C.size:=by rw[←Array.length_toList];omega
 have Y:(putRow (Value.int .i64) (Sort.ahead w n) g 0 d).heap.size=w.heap.size:=by simp[putRow,mapBlock,Sort.ahead]
 obtain⟨M,ag⟩:∃M:Own,M=fun c m=>c < w.heap.size/\R c m:=⟨_,rfl⟩
 have a7:∀B,g∉B->bp w R (putRow (Value.int .i64) (Sort.ahead w n) g 0 d) R B:=by
  intro B U;refine⟨⟨rfl,rfl,rfl,by rw[Y];exact Nat.le_refl _,fun c hc I=>?_,fun c m hc I=>⟨I,?_⟩,fun c hc=>?_⟩,fun c hc _=>?_⟩
  ·have ad:c≠g:=fun e=>I 0 (e ▸ S 0 bf)
   exact⟨i c ad,I⟩
  ·by_cases F:c=g
   ·subst F;have O:C.size<=m:=by
     rcases Nat.lt_or_ge m C.size with h'|h'
     ·exact (I (S m h')).elim
     exact h'
    rw[cell_of_row _ c m _ q (0,0) A,cell_of_row w c m C q (0,0) s,Array.getElem?_eq_none (by omega),Array.getElem?_eq_none O]
   exact World.cell?_of_block (a:=⟨c,m,none⟩) (i c F)
  ·by_cases F:c=g
   ·subst F;rw[dF A,dF s,ax]
   exact fe (i c F)
  have ad:c≠g:=fun e=>U (e ▸ hc)
  exact⟨i c ad,fun m h=>h⟩
 have k:∀B,g∉B->bp w R (grow (putRow (Value.int .i64) (Sort.ahead w n) g 0 d) os) M B:=by
  intro B U;have h:=(a7 B U).trans (MP (R:=R) os B);rw[Y] at h;rw[ag];exact h
 have a2:g∉z:=by
  have h1:(g::z).Nodup:=by simpa using ar
  exact (List.nodup_cons.1 h1).1
 have J:(grow (putRow (Value.int .i64) (Sort.ahead w n) g 0 d) os).heap[g]?=some (.cells (putCells (Value.int .i64) 0 d C) q (0,0)):=by
  have a8:g < (putRow (Value.int .i64) (Sort.ahead w n) g 0 d).heap.size:=by rw[Y];exact E
  rw[show (grow (putRow (Value.int .i64) (Sort.ahead w n) g 0 d) os).heap[g]?=(putRow (Value.int .i64) (Sort.ahead w n) g 0 d).heap[g]? by rw[grow,Array.getElem?_append_left a8]];exact A
 refine⟨_,_,_,1,M,N,[],[g],rfl,⟨rfl,rfl,rfl⟩,by simp only[ai];exact⟨[],rfl,aP⟩,?_,by simpa using ar,a9,k z a2,fun _ _ h=>h⟩;refine⟨g,[],[],rfl,hb,?_,rfl⟩;refine⟨putCells (Value.int .i64) 0 d C,q,sp,J,?_,fun j p=>by rw[ax] at p;subst ag;exact⟨E,S j p⟩,fun h=>by rw[LB] at h;simp at h⟩;have am:∀x∈gO l,bJ (.int .i64 x)=true:=fun x X=>a4 x ((zj l).mem_iff.1 X)
 have Z:(putCells (Value.int .i64) 0 d C).toList=ints (gO l)++K:=by
  apply List.ext_getElem?
  intro j;rw[Array.getElem?_toList];simp only[putCells,Array.getElem?_mapIdx,Nat.zero_le,true_and,Nat.zero_add,Nat.sub_zero];have be:C[j]?=(ints l++K)[j]?:=by rw[←Array.getElem?_toList,af]
  rw[be]
  by_cases p:j < l.length
  ·rw[List.getElem?_append_left (by simpa [ints] using p),List.getElem?_append_left (by simpa [ints,iw] using p)];have aq:j < d.size:=by omega
   have a6:j < (gO l).length:=by rw[iw];exact p
   simp only[ints,List.getElem?_map,List.getElem?_eq_getElem p,List.getElem?_eq_getElem a6,Option.map_some,aq,if_true];rw[getElem!_pos d j aq];subst D;simp
  rw[List.getElem?_append_right (by simpa [ints] using p),List.getElem?_append_right (by simpa [ints,iw] using p)];simp only[ints,List.length_map,iw]
  cases K[j - l.length]? with
  | none=>rfl
  | some u=>simp only[Option.map_some];rw[if_neg (by omega)]
 rw[Z];have h2:=fK (w:=grow (putRow (Value.int .i64) (Sort.ahead w n) g 0 d) os) (R:=M) (N:=outs N) K;rw[az] at h2;have f:ah (grow (putRow (Value.int .i64) (Sort.ahead w n) g 0 d) os) M (outs N) (cH (gO l)) (ints (gO l)) []:=Es am;simpa using ct f h2
theorem Np {P:Program} {ρ:Ren} {G:bA} (L:SlLaysM.n5 P ρ):ay P G (ρ.f 5) [.dat (.flat (.slice none 0 0))] [] 0 (XQ ⟨.tup [],[],0⟩):=by
 intro w R N c k H z a b f g d p;obtain⟨j,q,m,n,rfl,rfl,o,i⟩:=au a;obtain⟨rfl,rfl⟩:=aM i;obtain⟨rfl,o⟩:=o;have l:j=.slice none 0 0:=by cases o <;> grind
 subst l;refine (AnyM.slices_Sort_int_none L none 0 w).mono ?_;rintro e r ⟨rfl,rfl⟩;exact⟨_,_,_,0,R,N,[],H,rfl,⟨rfl,rfl,rfl⟩,by grind[ai],b,by grind,g,⟨Step.refl _ _,fun _ _ _=>⟨rfl,fun _ h=>h⟩⟩,fun _ _ h=>h⟩
end
end Go.Tp
namespace Go.Proofs.YtmpmgmmcaghacaaGreatDoor
open Go.Tp
theorem yv (t:Bool) {f d a b m:Int} {n:List UInt8} {e:ak} {k:Int} {g:List UInt8} {x:Int} {y:ak} {C I:Int} {c:List UInt8} (h:dj e) (i:dj y):eB ba t 45 [.ref [i64 f,i64 d,i64 a,i64 b,i64 m,sb n,e,i64 k,sb g,i64 x,y,i64 C,i64 I,sb c,nl]] none=some ⟨.dat (eH f d a b m n e k g x y C I c),.keep⟩:=by
 cases t <;> rcases h with rfl|⟨E,rfl⟩ <;> rcases i with rfl|⟨F,rfl⟩ <;> kernel_rfl
theorem Ic (l:Nat) {f d a b m:Int} {n:List UInt8} {e:ak} {k:Int} {t:List UInt8} {x:Int} {y:ak} {C I:Int} {c:List UInt8} (g:dj e) (h:dj y):cG ba 45 [.ptr (.loc l) 0,.dat (eH f d a b m n e k t x y C I c)] (some (.cells (cX 0 0 0 0 0 [] nl 0 [] 0 nl 0 0 [])))=some ⟨.undef,.set (.cells (cX f d a b m n e k t x y C I c))⟩:=by
 rcases g with rfl|⟨E,rfl⟩ <;> rcases h with rfl|⟨F,rfl⟩ <;> kernel_rfl
variable {T:ej} {a:List ak} {c s t:List UInt8} {h q:Bool} {i k m p:Int} {l n:Nat} {w:Heap}
theorem Kr {l:List Int} (o:Nat) (g:l≠[]) (N:l.length < 1000000000) :
  KC 59 [.win (.out o) 1 0 l.length] [(.out o,.cells (cH l))] (o+1) (XQ ⟨.tup [],[(.out o,.cells (cH (gO l)))],o+1⟩):=by
 have h:=No (G:=cM) Tryz.gO g N;have e:∀(l:List Int) (ρ:Nat->Nat),il ρ (cH l)=cH l:=by
  intro l ρ
  induction l with
  | nil=>rfl
  | cons a r c=>show fx ρ (iv a)::il ρ (cH r)=_;rw[c];rfl
 have d:∀(l:List Int),gZ 1 (cH l)=false:=by
  intro l
  induction l with
  | nil=>rfl
  | cons a r c=>show (iq 1 (iv a)||gZ 1 (cH r))=_;rw[c];rfl
 have f:=ay.frame h (fun _=>o) (heap:=[(.out o,.cells (cH l))]) (rest:=[]) (next:=o+1) (by
  have:jJ (fun _=>o) [(Name.out 0,aL.cells (cH l))]=[(.out o,.cells (cH l))]:=by simp only[jJ,wX,pW,e]
  simp_all) rfl (by simp only[gH,BS,d];rfl) rfl rfl
 refine f.mono ?_;rintro n i k ⟨p,j,m,⟨rfl,rfl,rfl⟩,rfl,rfl,rfl⟩;refine⟨rfl,?_,rfl⟩;have b:ig (fun _=>o) 1 (o+1) 0=o:=rfl;simp only[jJ,wX,pW,e,b,List.append_nil]
theorem z23:∀w,(Go.zeroValue (Tryz.uQ.t 23)).run Tryz.prog w=.ok (.int .i64 0) w:=Tryz.zeroValue3
theorem LO (o:Nat) {l:List Int} {r:List Int} (j:1<=l.length) (b:l.length < 1000000000) (h:Go.Lib.compactUpTo l.toArray l.length=r) :
  KC 60 [.win (.out o) 1 0 l.length] [(.out o,.cells (cH l))] (o+1) (XQ ⟨.dat (.slice (r.map iN)),[],o+1⟩):=by
 refine Nq (G:=cM) Tryz.RI z23 ?_;subst h;have e:∀l:List Int,lu (cH l)=some l:=by
  intro l
  induction l with
  | nil=>rfl
  | cons a r i=>
   show (match lu (cH r) with|some l=>some (a::l)|none=>none)=_;rw[i]
 have f:(cH l).length=l.length:=List.length_map _;have c:qJ (.out o) [(Name.out o,aL.cells (cH l))]=some (.cells (cH l)):=by rw[jS];simp[eA]
 have g:qL (.out o) [(Name.out o,aL.cells (cH l))]=[]:=by rw[lE];simp[iY]
 have d:(Nat.beq l.length l.length&&Nat.ble 1 l.length&&Nat.ble l.length 4294967296)=true:=by
  rw[Bool.and_eq_true,Bool.and_eq_true,Nat.beq_eq,Nat.ble_eq,Nat.ble_eq];grind
 simp only[Be,c,f,d,e,g];rfl
theorem EV:ae 60 [.dat nl] (.dat nl):=by
 refine co [] [] (x:=.of Tryz.f60 Py Qz) ?_;exact fi
theorem RO:KC 59 [.dat nl] [] 0 (XQ ⟨.tup [],[],0⟩):=Np (G:=cM) Tryz.gO
def rF (a b:Int):List Int:=if b < a then [b,a] else if a=b then [a] else [a,b]
theorem Cv (a b:Int):gO [a,b]=if b < a then [b,a] else [a,b]:=by
 have e:gO [a,b]=List.merge [a] [b] (fun x y=>decide (x<=y)):=by
  simp[gO,List.mergeSort,List.splitAt_eq]
 rw[e]
 by_cases h:b < a
 ·simp_all
 have:a<=b:=by omega
 simp[h,List.merge]
theorem Ho (a b:Int):Go.Lib.compactUpTo #[a,b] 2=if a=b then [a] else [a,b]:=by
 by_cases h:a=b
 ·subst h;simp[Go.Lib.compactUpTo,List.range,List.range.loop,Go.Lib.keeps]
 have d:¬b=a:=fun e=>h e.symm
 simp[Go.Lib.compactUpTo,List.range,List.range.loop,Go.Lib.keeps,h,d]
theorem RJ (a b:Int):Go.Lib.compactUpTo (gO [a,b]).toArray (gO [a,b]).length=rF a b:=by
 grind[Cv,rF,Ho]
def nxD (A B:Bool) (j m:Int) (a:List ak):ak:=match A,B with
 | true,true=>.slice a
 | true,false=>.slice [iN j]
 | false,true=>.slice [iN m]
 | false,false=>nl
theorem XD {sl:Int} {es:List ak} {A:ak} (D:dj A) {f d a b:Int} {n:List UInt8} {B:ak} {r:Int} {y:ak} {C I:Int} (j:dj B) (l:dj y)
  (L:ap ba 23 [.dat (.slice es),.dat (.flat (.int .i64 i))]=some ⟨.ref [i64 f,i64 d,i64 a,i64 b,i64 m,sb n,B,i64 k,sb t,i64 r,y,i64 C,i64 I,sb c,nl],.keep⟩)
  {s:kG} {Q:Bool} (N:ae 58 [iv f] (.tup [.dat s.enc,bv Q])) (J:aF (an .i64 (i+1)) (ofNat es.length)=h) (o:aB f 12=q) {u v:Int} {F:List ak}
  (E:KC 59 [.dat nl] [] 0 (XQ ⟨.tup [],[],0⟩)) (G:ae 60 [.dat nl] (.dat nl))
  (O:KC 59 [.win (.out 0) 1 0 1] [(.out 0,.cells [iv (an .i64 (i+1))])] 1 (XQ ⟨.tup [],[(.out 0,.cells [iv (an .i64 (i+1))])],1⟩)) (P:KC 60 [.win (.out 0) 1 0 1] [(.out 0,.cells [iv (an .i64 (i+1))])] 1 (XQ ⟨.dat (.slice [iN (an .i64 (i+1))]),[],1⟩))
  (K:KC 59 [.win (.out 0) 1 0 1] [(.out 0,.cells [iv m])] 1 (XQ ⟨.tup [],[(.out 0,.cells [iv m])],1⟩)) (g:KC 60 [.win (.out 0) 1 0 1] [(.out 0,.cells [iv m])] 1 (XQ ⟨.dat (.slice [iN m]),[],1⟩))
  (M:KC 59 [.win (.out 1) 1 0 2] [(.out 1,.cells [iv (an .i64 (i+1)),iv m])] 2 (XQ ⟨.tup [],[(.out 1,.cells [iv u,iv v])],2⟩)) (H:KC 60 [.win (.out 1) 1 0 2] [(.out 1,.cells [iv u,iv v])] 2 (XQ ⟨.dat (.slice F),[],2⟩)) :
  ae 40 [.dat (aN p sl (.slice es) A),iv i] (.dat (nxD (!s.fin&&h) (s.cond||q) (an .i64 (i+1)) m F)):=by
 have R:=@aS p sl (.slice es) _ (.inr ⟨_,rfl⟩) D;have S:=@yv false f d a b m n _ k t r _ C I c j l;have T:=@Ic 5 f d a b m n _ k t r _ C I c j l;obtain⟨w,U,V,W,Y,Z,s6,s7,s8,s9,e,z⟩:=s;refine co [41,29] [2,12,13,100005] (x:=.of Tryz.f40 P8 QA) ?_;refine oo R (oo L (oo S (oo T (on N ?_))))
 cases z
 ·refine ob J ?_
  cases h
  ·cases e
   ·refine ob o ?_
    cases q
    ·exact on E (on G fi)
    exact oh K (oh g fi)
   exact oh K (oh g fi)
  cases e
  ·refine ob o ?_
   cases q
   ·exact oh O (oh P fi)
   exact oh M (oh H fi)
  exact oh M (oh H fi)
 cases e
 ·refine ob o ?_
  cases q
  ·exact on E (on G fi)
  exact oh K (oh g fi)
 exact oh K (oh g fi)
def afn (n:Nat) (a m:Int) (i:Nat):List Int:=
 match !(lU (eO a)).fin&&decide (i+1 < n),(lU (eO a)).cond||aB a 12 with
 | true,true=>rF (ofNat (i+1)) m
 | true,false=>[ofNat (i+1)]
 | false,true=>[m]
 | false,false=>[]
theorem DM (a b:Int):rF a b≠[]:=by grind[rF]
theorem ZR {sl:Int} {d:List Ins} {q:ak} {i:Nat} {x:Ins} (J:dj q) (z:d[i]?=some x) (N:d.length < 1000000000) :
  ae 40 [.dat (aN p sl (.slice (encI d)) q),iv (ofNat i)] (.dat (Go.Proofs.YtmpmgmmcaghacaaGreatDoor.sl ((afn d.length x.op x.im i).map iN))):=by
 have K:=xn z;have s:=uT x.op;obtain⟨f,H,a,b,m,n,G,D,⟨k,t,R,P⟩,C,I,c⟩:=x;have L:i < d.length:=(List.getElem?_eq_some_iff.1 z).1;have w:an .i64 (ofNat i+1)=ofNat (i+1):=bb (by omega);have o:aF (an .i64 (ofNat i+1)) (ofNat (encI d).length)=decide (i+1 < d.length):=by
  rw[w,bH,gv]
 obtain⟨j,O⟩:∃j,an .i64 (ofNat i+1)=j:=⟨_,rfl⟩;have E:∀y:Int,gO [y]=[y]:=fun y=>by simp[gO]
 have F:∀y:Int,Go.Lib.compactUpTo [y].toArray [y].length=[y]:=fun y=>by simp[Go.Lib.compactUpTo,List.range,List.range.loop,Go.Lib.keeps]
 obtain⟨u,v,g⟩:∃u v,gO [j,m]=[u,v]:=by
  rw[Cv]
  split
  ·exact⟨_,_,rfl⟩
  exact⟨_,_,rfl⟩
 have M:=Kr (l:=[j,m]) 1 (by simp) (by simp);rw[g] at M;have Q:=LO (l:=[u,v]) 1 (by simp) (by simp) (r:=rF j m) (by rw[←g,RJ]);have A:∀y:Int,KC 59 [.win (.out 0) 1 0 1] [(.out 0,.cells [iv y])] 1 (XQ ⟨.tup [],[(.out 0,.cells [iv y])],1⟩):=fun y=>by
  have h:=Kr (l:=[y]) 0 (by simp) (by simp);rw[E] at h;exact h
 have B:=fun y=>LO (l:=[y]) 0 (by simp) (by simp) (r:=[y]) (F y)
 subst O;have h:=XD (p:=p) (sl:=sl) (es:=encI d) (i:=ofNat i) J (dq G (D.map iN)) (dr (ax P)) K s o rfl RO EV (A _) (B _) (A _) (B _) M Q;rw[w] at h;have e:nxD (!(lU (eO f)).fin&&decide (i+1 < d.length)) ((lU (eO f)).cond||aB f 12) (ofNat (i+1)) m ((rF (ofNat (i+1)) m).map iN)=Go.Proofs.YtmpmgmmcaghacaaGreatDoor.sl ((afn d.length f m i).map iN):=by
  unfold nxD afn
  cases (!(lU (eO f)).fin&&decide (i+1 < d.length)) with
  | true=>
   cases ((lU (eO f)).cond||aB f 12) with
   | true=>
    dsimp only
    have:=DM (ofNat (i+1)) m
    generalize rF (ofNat (i+1)) m=l at *
    cases l with
    | nil=>exact absurd rfl this
    | cons a r=>rfl
   | false=>rfl
  | false=>
   cases ((lU (eO f)).cond||aB f 12) with
   | true=>rfl
   | false=>rfl
 rw[e] at h;exact h
theorem MB:HI (fun n=>aqT (eQ n) (X 148 [GC n] [] 0)) 256=true:=by kernel_rfl
theorem UU (c:UInt8):ae 148 [GC c.toNat] (bv (eQ c.toNat)):=dE _ _ _ _ _ (qD (rC MB _ c.toNat_lt))
def ab9 (p q h i j k l f g a b c d e:Bool):Bool:=
 if (p||q)=true then !f&&d
 else if h=true then !g&&!a
 else if i=true then !f&&b
 else if j=true then !f&&e
 else if (k||l)=true then !g
 else c
theorem QV {s:Int} {T ed:List ak} {u H a b:Int} {n:List UInt8} {S:ak} {U:Int} {y:ak} {C I:Int} (V:dj S) (W:dj y) {z A B D E F M w i j d l:Bool} (N:aB u 12=z) (O:aB u 13=q) (f:aB u 3=A) (g:aB u 8=B) (G:aB u 17=D) (P:aB u 20=E) (Q:aB u 22=F)
  (e:aF m 0=M) (r:aF m 1=w) (J:aF 7 m=i) (K:aF m 6=j) (v:aB m 0=h) (o:aF m (ofNat T.length)=d) (L:aF m (ofNat ed.length)=l) :
  ae 98 [.dat (aN p s (.slice T) (.slice ed)),.dat (eH u H a b m n S k t U y C I c)] (bv (ab9 z q A B D E F M w i j h d l)):=by
 have R:=@bw u H a b m n _ k t U _ C I c V W;cases M
 ·cases w
  ·refine co [8,12,19,9,22,25,29,32,35,39,42,45,52,55,59,56,62] [3] (x:=.of Tryz.f98 P8 sN) ?_;refine oo R (ob N ?_)
   cases z
   ·refine ob O ?_
    cases q
    ·refine ob f ?_
     cases A
     ·refine ob g ?_
      cases B
      ·refine ob G ?_
       cases D
       ·refine ob P ?_
        cases E
        ·refine ob Q ?_
         cases F
         ·refine ob v ?_
          cases h <;>
          ·exact fi
         exact ox r fi
        exact ox r fi
       refine ox e (ob L ?_)
       cases l <;>
       ·exact fi
      refine ox e (ob K ?_)
      cases j <;>
      ·exact fi
     refine ox r (ox J ?_)
     cases i <;>
     ·exact fi
    refine ox e (ob o ?_)
    cases d <;>
    ·exact fi
   refine ox e (ob o ?_)
   cases d <;>
   ·exact fi
  refine co [8,12,19,9,22,25,32,35,39,42,45,52,55,59,56,62] [3] (x:=.of Tryz.f98 P8 sN) ?_;refine oo R (ob N ?_)
  cases z
  ·refine ob O ?_
   cases q
   ·refine ob f ?_
    cases A
    ·refine ob g ?_
     cases B
     ·refine ob G ?_
      cases D
      ·refine ob P ?_
       cases E
       ·refine ob Q ?_
        cases F
        ·refine ob v ?_
         cases h <;>
         ·exact fi
        exact ox r fi
       exact ox r fi
      refine ox e (ob L ?_)
      cases l <;>
      ·exact fi
     refine ox e (ob K ?_)
     cases j <;>
     ·exact fi
    exact ox r fi
   refine ox e (ob o ?_)
   cases d <;>
   ·exact fi
  refine ox e (ob o ?_)
  cases d <;>
  ·exact fi
 refine co [8,12,9,22,25,29,32,35,42,45,55,59,56,62] [3] (x:=.of Tryz.f98 P8 sN) ?_;refine oo R (ob N ?_)
 cases z
 ·refine ob O ?_
  cases q
  ·refine ob f ?_
   cases A
   ·refine ob g ?_
    cases B
    ·refine ob G ?_
     cases D
     ·refine ob P ?_
      cases E
      ·refine ob Q ?_
       cases F
       ·refine ob v ?_
        cases h <;>
        ·exact fi
       refine ox r ?_
       cases w <;>
       ·exact fi
      refine ox r ?_
      cases w <;>
      ·exact fi
     exact ox e fi
    exact ox e fi
   refine ox r ?_
   cases w
   ·refine ox J ?_
    cases i <;>
    ·exact fi
   exact fi
  exact ox e fi
 exact ox e fi
theorem X1 {s:Int} {R:List ak} {r F a b:Int} {n:List UInt8} {Q:ak} {S:Int} {y:ak} {C I:Int} (T:dj Q) (U:dj y) {w z A B D E K v i j e:Bool} (L:aB r 12=w) (M:aB r 13=q) (f:aB r 3=z) (g:aB r 8=A) (G:aB r 17=B) (N:aB r 20=D) (O:aB r 22=E)
  (d:aF m 0=K) (o:aF m 1=v) (H:aF 7 m=i) (J:aF m 6=j) (u:aB m 0=h) (l:aF m (ofNat R.length)=e) :
  ae 98 [.dat (aN p s (.slice R) nl),.dat (eH r F a b m n Q k t S y C I c)] (bv (ab9 w q z A B D E K v i j h e K)):=by
 have P:=@bw r F a b m n _ k t S _ C I c T U;cases K
 ·cases v
  ·refine co [8,12,19,9,22,25,29,32,35,39,42,45,52,55,59,56,62] [3] (x:=.of Tryz.f98 P8 sN) ?_;refine oo P (ob L ?_)
   cases w
   ·refine ob M ?_
    cases q
    ·refine ob f ?_
     cases z
     ·refine ob g ?_
      cases A
      ·refine ob G ?_
       cases B
       ·refine ob N ?_
        cases D
        ·refine ob O ?_
         cases E
         ·refine ob u ?_
          cases h <;>
          ·exact fi
         exact ox o fi
        exact ox o fi
       exact ox d (ob d fi)
      refine ox d (ob J ?_)
      cases j <;>
      ·exact fi
     refine ox o (ox H ?_)
     cases i <;>
     ·exact fi
    refine ox d (ob l ?_)
    cases e <;>
    ·exact fi
   refine ox d (ob l ?_)
   cases e <;>
   ·exact fi
  refine co [8,12,19,9,22,25,32,35,39,42,45,52,55,59,56,62] [3] (x:=.of Tryz.f98 P8 sN) ?_;refine oo P (ob L ?_)
  cases w
  ·refine ob M ?_
   cases q
   ·refine ob f ?_
    cases z
    ·refine ob g ?_
     cases A
     ·refine ob G ?_
      cases B
      ·refine ob N ?_
       cases D
       ·refine ob O ?_
        cases E
        ·refine ob u ?_
         cases h <;>
         ·exact fi
        exact ox o fi
       exact ox o fi
      exact ox d (ob d fi)
     refine ox d (ob J ?_)
     cases j <;>
     ·exact fi
    exact ox o fi
   refine ox d (ob l ?_)
   cases e <;>
   ·exact fi
  refine ox d (ob l ?_)
  cases e <;>
  ·exact fi
 refine co [8,12,9,22,25,29,32,35,42,45,55,59,56,62] [3] (x:=.of Tryz.f98 P8 sN) ?_;refine oo P (ob L ?_)
 cases w
 ·refine ob M ?_
  cases q
  ·refine ob f ?_
   cases z
   ·refine ob g ?_
    cases A
    ·refine ob G ?_
     cases B
     ·refine ob N ?_
      cases D
      ·refine ob O ?_
       cases E
       ·refine ob u ?_
        cases h <;>
        ·exact fi
       refine ox o ?_
       cases v <;>
       ·exact fi
      refine ox o ?_
      cases v <;>
      ·exact fi
     exact ox d fi
    exact ox d fi
   refine ox o ?_
   cases v
   ·refine ox H ?_
    cases i <;>
    ·exact fi
   exact fi
  exact ox d fi
 exact ox d fi
theorem adL {p s:Int} {f ed:List ak} (z:Bool) (x:Ins):ae 98 [.dat (aN p s (.slice f) (sx z ed)),.dat x.enc] (bv (GL (ofNat f.length) (ofNat ed.length) x.op x.im)):=by
 obtain⟨i,g,a,b,m,n,d,u,⟨k,t,h,e⟩,C,I,c⟩:=x
 cases ed with
 | nil=>
  cases z
  ·exact X1 (dq d (u.map iN)) (dr (ax e)) rfl rfl rfl rfl rfl rfl rfl rfl rfl rfl rfl rfl rfl
  exact QV (ed:=[]) (dq d (u.map iN)) (dr (ax e)) rfl rfl rfl rfl rfl rfl rfl rfl rfl rfl rfl rfl rfl rfl
 | cons y r=>exact QV (ed:=y::r) (dq d (u.map iN)) (dr (ax e)) rfl rfl rfl rfl rfl rfl rfl rfl rfl rfl rfl rfl rfl rfl
def lI (k i:Int) (s:List UInt8):ak:=.agg [i64 k,i64 i,sb s,nl]
noncomputable def ach:Hints:=⟨bV,P8,bi,rowsOf bi 102⟩
def K9 (k i:Int) (s:List UInt8):Heap:=[(.loc 1,.cells [iv k,iv i,.dat (sb s),.dat nl])]
def Ct (k i:Int) (s:List UInt8) (j:Int):ab:=⟨[(3,iv j),(1,.ptr (.loc 1) 0)],K9 k i s,[],0⟩
def Ip (k i:Int) (s:List UInt8):ab:=⟨[(43,bv false),(3,iv (ofNat s.length)),(1,.ptr (.loc 1) 0)],K9 k i s,[],0⟩
def Iq:ab:=⟨[(2,bv false)],[],[],0⟩
theorem Nh {j:Nat} {c:UInt8} {b:Bool} (a:aF (ofNat j) (ofNat s.length)=true) (d:qP ba 9 [.dat (sb s),.dat (.flat (.int .i64 (ofNat j)))]=some ⟨GC c.toNat,.keep⟩)
  (f:ae 148 [GC c.toNat] (bv b)) (E:b=true->T .normal ((Ct k i s (an .i64 (ofNat j+1))).al jX)) (F:b=false->T .ret (Iq.al jX)) :
  KD (roundOf Tryz.f102 0) T ((Ct k i s (ofNat j)).al jX):=by
 refine aq [43] [49] (H:=ach) (live:=ur) (ob a (oo d (on f ?_)))
 cases b
 ·exact oe (F rfl)
 exact oe (E rfl)
theorem RH (E:T (.exit 1) ((Ip k i s).al jX)) :
  KD (roundOf Tryz.f102 0) T ((Ct k i s (ofNat s.length)).al jX):=by
 have a:=cj (i:=s.length) (L:=s.length) (by omega);exact aq [43] [] (H:=ach) (live:=ur) (ob a (oe E))
theorem RG (N:s.length < 1000000000) :
  KD (.loop (roundOf Tryz.f102 0)) (fun e q=>(e=.exit 1/\s.all (fun c=>eQ c.toNat)=true/\q=(Ip k i s).al jX)∨(e=.ret/\s.all (fun c=>eQ c.toNat)=false/\q=Iq.al jX)) ((Ct k i s (ofNat 0)).al jX):=by
 refine cV (St:=fun j=>(Ct k i s (ofNat j)).al jX) (fun j=>s.all (fun c=>eQ c.toNat)=(s.drop j).all (fun c=>eQ c.toNat)) s.length ?_ ?_ (i:=0) (Nat.zero_le _) rfl
 ·intro j f b;have J:s[j]?=some s[j]:=List.getElem?_eq_getElem f;have D:(s.drop j).all (fun c=>eQ c.toNat)=(eQ s[j].toNat&&(s.drop (j+1)).all (fun c=>eQ c.toNat)):=by rw[List.drop_eq_getElem_cons f];rfl
  have g:an .i64 (ofNat j+1)=ofNat (j+1):=bb (by omega);have d:=UU s[j];generalize s[j]=c at J D d;generalize eQ c.toNat=h at D d;rw[←b] at D;refine Nh (br f) (aou J) d ?_ ?_
  ·rintro rfl;rw[g];exact⟨rfl,D⟩
  rintro rfl;exact .inr ⟨rfl,D,rfl⟩
 intro b;have a:s.all (fun c=>eQ c.toNat)=true:=by rw[b,List.drop_length];rfl
 exact RH (.inl ⟨rfl,a,rfl⟩)
theorem UQ {p j m c n t r d:Bool} (o:aB k 0=h) (a:aB k 1=p) (b:aB k 2=j) (f:aB k 3=m) (g:aB i 0=c) (G:aB i 1=n) (u:jP s []=t) (v:aF 2000 (ofNat s.length)=r)
  (l:KD (.loop (roundOf Tryz.f102 0)) (fun e q=>(e=.exit 1/\d=true/\q=(Ip k i s).al jX)∨(e=.ret/\d=false/\q=Iq.al jX)) ((Ct k i s (ofNat 0)).al jX)) :
  ae 102 [.dat (lI k i s)] (bv (if (!m&&!t)=true then false else if h=true then c else if p=true then true else if j=true then c||n else if m=true then d&&(c&&!r) else false)):=by
 cases t
 ·refine co [11,21,24,26,28,31,35,38,54,59,15] [] (x:=.of Tryz.f102 P8 ur) ?_;refine ox f ?_
  cases m
  ·exact ox u fi
  refine ob o ?_
  cases h
  ·refine ob a ?_
   cases p
   ·refine ob b ?_
    cases j
    ·refine ob f ?_;refine lo l ?_;rintro w s (⟨rfl,rfl,rfl⟩|⟨rfl,rfl,rfl⟩)
     ·refine⟨_,rfl,?_⟩;refine ob g ?_
      cases c
      ·exact fi
      refine ox v ?_
      cases r <;>
      ·exact fi
     refine⟨_,rfl,?_⟩;exact fi
    refine ob g ?_
    cases c
    ·refine ob G ?_
     cases n <;>
     ·exact fi
    exact fi
   exact fi
  refine ob g ?_
  cases c <;>
  ·exact fi
 refine co [11,21,24,26,28,31,35,38,54,59,15] [] (x:=.of Tryz.f102 P8 ur) ?_;refine ox f ?_
 cases m
 ·refine ox u (ob o ?_)
  cases h
  ·refine ob a ?_
   cases p
   ·refine ob b ?_
    cases j
    ·exact ob f fi
    refine ob g ?_
    cases c
    ·refine ob G ?_
     cases n <;>
     ·exact fi
    exact fi
   exact fi
  refine ob g ?_
  cases c <;>
  ·exact fi
 refine ob o ?_
 cases h
 ·refine ob a ?_
  cases p
  ·refine ob b ?_
   cases j
   ·refine ob f ?_;refine lo l ?_;rintro w s (⟨rfl,rfl,rfl⟩|⟨rfl,rfl,rfl⟩)
    ·refine⟨_,rfl,?_⟩;refine ob g ?_
     cases c
     ·exact fi
     refine ox v ?_
     cases r <;>
     ·exact fi
    refine⟨_,rfl,?_⟩;exact fi
   refine ob g ?_
   cases c
   ·refine ob G ?_
    cases n <;>
    ·exact fi
   exact fi
  exact fi
 refine ob g ?_
 cases c <;>
 ·exact fi
theorem UZ (N:s.length < 1000000000):ae 102 [.dat (lI k i s)] (bv (mN k i s)):=UQ rfl rfl rfl rfl rfl rfl rfl rfl (RG N)
theorem aul {t:Ty} {v:Int} {d:List Int} (a:ae 146 [.dat t.enc] (iv v)) (b:ae 147 [.dat t.enc] (.dat (sl (d.map iN)))):ae 100 [.dat t.enc] (bv (aB v 0&&LD d)):=by
 obtain⟨k,n,g,e⟩:=t;generalize f:aB v 0=c
 rcases d with _|⟨x,d⟩
 ·rcases e with _|⟨y,e⟩ <;>
  ·refine co [5] [] (x:=.of Tryz.f100 P8 QG) ?_;refine on a (ob f ?_)
   cases c
   ·exact fi
   exact on b fi
 rcases e with _|⟨y,e⟩ <;>
 ·refine co [5] [] (x:=.of Tryz.f100 P8 QG) ?_;refine on a (ob f ?_)
  cases c
  ·exact fi
  exact on b fi
theorem ET {t:Ty} {c:Bool} (a:ae 82 [.dat t.enc,.dat (Ty.mk 0 [] 0 []).enc] (bv c)):ae 101 [.dat t.enc] (bv c):=by
 obtain⟨k,n,d,b⟩:=t
 rcases b with _|⟨y,b⟩ <;>
 ·refine co [] [] (x:=.of Tryz.f101 P8 QG) ?_;exact on a fi
theorem aO (t:Bool) (l:Nat) {p s:Int} {c d:ak} (a:dj c) (b:dj d):eB ba t 26 [.ptr (.loc l) 0] (some (.cells (cC p s c d)))=some ⟨.dat (aN p s c d),.keep⟩:=by
 cases t <;> rcases a with rfl|⟨E,rfl⟩ <;> rcases b with rfl|⟨F,rfl⟩ <;> kernel_rfl
theorem QJ (t:Bool) (l:Nat) {f d a b m:Int} {n:List UInt8} {e:ak} {k:Int} {g:List UInt8} {x:Int} {y:ak} {C I:Int} {c:List UInt8} (h:dj e) (i:dj y):eB ba t 45 [.ptr (.loc l) 0] (some (.cells (cX f d a b m n e k g x y C I c)))=some ⟨.dat (eH f d a b m n e k g x y C I c),.keep⟩:=by
 cases t <;> rcases h with rfl|⟨E,rfl⟩ <;> rcases i with rfl|⟨F,rfl⟩ <;> kernel_rfl
theorem bD (t:Bool) (l:Nat) {i d a b m:Int} {n:List UInt8} {e:ak} {k:Int} {f:List UInt8} {x:Int} {y:ak} {C I:Int} {c:List UInt8} (g:dj e) (h:dj y):eB ba t 40 [.ptr (.loc l) 7] (some (.cells (cX i d a b m n e k f x y C I c)))=some ⟨.dat (.agg [i64 k,sb f,i64 x,y]),.keep⟩:=by
 cases t <;> rcases g with rfl|⟨E,rfl⟩ <;> rcases h with rfl|⟨F,rfl⟩ <;> kernel_rfl
theorem bg (t:Bool) (l:Nat) {h d a b m:Int} {n:List UInt8} {e:ak} {k:Int} {i:List UInt8} {x:Int} {y:ak} {C I:Int} {c:List UInt8} (f:dj e) (g:dj y):eB ba t 43 [.ptr (.loc l) 11] (some (.cells (cX h d a b m n e k i x y C I c)))=some ⟨.dat (lI C I c),.keep⟩:=by
 cases t <;> rcases f with rfl|⟨E,rfl⟩ <;> rcases g with rfl|⟨F,rfl⟩ <;> kernel_rfl
theorem Wb {sl:Int} {d1 d2:ak} (R:dj d1) (S:dj d2) {d a b:Int} {n:List UInt8} {h:ak} {e:Int} {y:ak} {C I:Int} (A:dj h) (g:dj y) {s:kG} {z r B D E F u v:Bool}
  (o:ae 58 [iv i] (.tup [.dat s.enc,bv z])) (H:ae 97 [.dat (aN p sl d1 d2),.dat (eH i d a b m n h k t e y C I c),.dat s.enc] (bv r)) (J:ae 98 [.dat (aN p sl d1 d2),.dat (eH i d a b m n h k t e y C I c)] (bv q))
  (f:ae 99 [.dat (sb n)] (bv B)) (T:jP n []=D) (G:ae 100 [.dat (.agg [i64 k,sb t,i64 e,y])] (bv E)) (U:ae 101 [.dat (.agg [i64 k,sb t,i64 e,y])] (bv F))
  (K:ae 102 [.dat (lI C I c)] (bv u)) (L:aB C 0=v) :
  ae 67 [.dat (aN p sl d1 d2),.dat (eH i d a b m n h k t e y C I c)] (bv (z&&(r&&(q&&((if s.nm=true then B else D)&&((if s.ty=true then E else F)&&(u&&(s.sK||v)))))))):=by
 have M:=aS (p:=p) (s:=sl) R S;have N:=@bw i d a b m n h k t e y C I c A g;have j:=aO false 2 (p:=p) (s:=sl) R S;have l:=@QJ false 3 i d a b m n h k t e y C I c A g;have O:=@bD false 3 i d a b m n h k t e y C I c A g;have P:=@bg false 3 i d a b m n h k t e y C I c A g;clear R S A g;obtain⟨w,s1,s2,s3,s4,Z,s6,V,Q,s9,W,Y⟩:=s
 cases Z
 ·cases V
  ·refine co [45,78] [2,3,17,18,24,25,63,69] (x:=.of Tryz.f67 P8 Ax) ?_;refine oo M (oo N (on o ?_))
   cases z
   ·exact fi
   refine oo j (oo l (on H ?_))
   cases r
   ·exact fi
   refine oo j (oo l (on J ?_))
   cases q
   ·exact fi
   refine ox T ?_
   cases D
   ·exact fi
   refine oo O (on U ?_)
   cases F
   ·exact fi
   refine oo P (on K ?_)
   cases u
   ·exact fi
   cases Q
   ·refine ob L ?_
    cases v <;>
    ·exact fi
   exact fi
  refine co [45,78] [2,3,17,18,24,25,53,69] (x:=.of Tryz.f67 P8 Ax) ?_;refine oo M (oo N (on o ?_))
  cases z
  ·exact fi
  refine oo j (oo l (on H ?_))
  cases r
  ·exact fi
  refine oo j (oo l (on J ?_))
  cases q
  ·exact fi
  refine ox T ?_
  cases D
  ·exact fi
  refine oo O (on G ?_)
  cases E
  ·exact fi
  refine oo P (on K ?_)
  cases u
  ·exact fi
  cases Q
  ·refine ob L ?_
   cases v <;>
   ·exact fi
  exact fi
 cases V
 ·refine co [78] [2,3,17,18,24,25,63,69] (x:=.of Tryz.f67 P8 Ax) ?_;refine oo M (oo N (on o ?_))
  cases z
  ·exact fi
  refine oo j (oo l (on H ?_))
  cases r
  ·exact fi
  refine oo j (oo l (on J ?_))
  cases q
  ·exact fi
  refine on f ?_
  cases B
  ·exact fi
  refine oo O (on U ?_)
  cases F
  ·exact fi
  refine oo P (on K ?_)
  cases u
  ·exact fi
  cases Q
  ·refine ob L ?_
   cases v <;>
   ·exact fi
  exact fi
 refine co [78] [2,3,17,18,24,25,53,69] (x:=.of Tryz.f67 P8 Ax) ?_;refine oo M (oo N (on o ?_))
 cases z
 ·exact fi
 refine oo j (oo l (on H ?_))
 cases r
 ·exact fi
 refine oo j (oo l (on J ?_))
 cases q
 ·exact fi
 refine on f ?_
 cases B
 ·exact fi
 refine oo O (on G ?_)
 cases E
 ·exact fi
 refine oo P (on K ?_)
 cases u
 ·exact fi
 cases Q
 ·refine ob L ?_
  cases v <;>
  ·exact fi
 exact fi
def pG (l:List Bool):List ac:=l.map bv
theorem lB:∀l:List Int,bh (.cells (cH l))=true
 | []=>rfl
 | a::r=>by
  have h:aW (cH r)=true:=lB r;show (pB (iv a)&&aW (cH r))=true;rw[h];rfl
theorem qZ:∀l:List Bool,bh (.cells (pG l))=true
 | []=>rfl
 | a::r=>by
  have h:aW (pG r)=true:=qZ r;show (pB (bv a)&&aW (pG r))=true;rw[h];rfl
theorem arZ:∀(l:List Int) (i:Nat) (x:Int),i < l.length->bI i [iv x] (cH l)=cH (l.set i x)
 | [],i,x,h=>absurd h (Nat.not_lt_zero i)
 | a::r,0,x,_=>by simp[bI,cH]
 | a::r,i+1,x,h=>by
  show iv a::bI i [iv x] (cH r)=_;rw[arZ r i x (Nat.lt_of_succ_lt_succ h)];rfl
theorem F8:∀(l:List Bool) (i:Nat) (x:Bool),i < l.length->bI i [bv x] (pG l)=pG (l.set i x)
 | [],i,x,h=>absurd h (Nat.not_lt_zero i)
 | a::r,0,x,_=>by simp[bI,pG]
 | a::r,i+1,x,h=>by
  show bv a::bI i [bv x] (pG r)=_;rw[F8 r i x (Nat.lt_of_succ_lt_succ h)];rfl
theorem wE:∀l:List Int,cd (cH l)=false
 | []=>rfl
 | [_]=>rfl
 | [_,_]=>rfl
 | _::_::_::_=>rfl
theorem Dp:∀l:List Bool,cd (pG l)=false
 | []=>rfl
 | [_]=>rfl
 | [_,_]=>rfl
 | _::_::_::_=>rfl
noncomputable def NV:TI:=match ba.ty 3 with|some t=>t|none=>default
theorem Fb:ba.ty 3=some NV:=by kernel_rfl
theorem L3:NV.isAgg=false:=by kernel_rfl
theorem HT:NV.size=1:=by kernel_rfl
noncomputable def HW:TI:=match ba.ty 4 with|some t=>t|none=>default
theorem Cb:ba.ty 4=some HW:=by kernel_rfl
theorem HV:HW.isAgg=false:=by kernel_rfl
theorem Ff:HW.size=1:=by kernel_rfl
noncomputable def xP:TI:=match Go.Tp.elemOf ba 35 with|some t=>t|none=>default
theorem SQ:Go.Tp.elemOf ba 35=some xP:=by kernel_rfl
theorem Ca:xP.size=1:=by kernel_rfl
theorem Er {l:List Int} {i:Nat} {x:Int} (m:Name) (h:l[i]?=some x):eB ba false 3 [.ptr m i] (some (.cells (cH l)))=some ⟨iv x,.keep⟩:=
 vS Fb L3 (by show (l.map iv)[i]?=_;grind)
theorem N5 {l:List Int} {i:Nat} (m:Name) (x:Int) (h:i < l.length):cG ba 3 [.ptr m i,iv x] (some (.cells (cH l)))=some ⟨.undef,.set (.cells (cH (l.set i x)))⟩:=by
 have a:=arZ l i x h
 have:=yW (m:=m) (v:=.int .i64 x) Fb HT (cs:=cH l) (off:=i) (by show i < (l.map iv).length;grind) (by
  grind[wE])
 grind
theorem Jp {l:List Bool} {i:Nat} {x:Bool} (m:Name) (h:l[i]?=some x):eB ba false 4 [.ptr m i] (some (.cells (pG l)))=some ⟨bv x,.keep⟩:=
 vS Cb HV (by show (l.map bv)[i]?=_;grind)
theorem WD {l:List Bool} {i:Nat} (m:Name) (x:Bool) (h:i < l.length):cG ba 4 [.ptr m i,bv x] (some (.cells (pG l)))=some ⟨.undef,.set (.cells (pG (l.set i x)))⟩:=by
 have a:=F8 l i x h
 have:=yW (m:=m) (v:=.bool x) Cb Ff (cs:=pG l) (off:=i) (by show i < (l.map bv).length;grind) (by
  grind[Dp])
 grind
theorem GB {m:Name} {k:Nat} (h:k < n):ap ba 22 [.win m 1 0 n,iv (ofNat k)]=some ⟨.ptr m k,.keep⟩:=by
 have:=Go.Tp.uA (m:=m) (off:=0) (s:=1) HU kV.symm h
 grind
theorem vV {m:Name} {k:Nat} (h:k < n):ap ba 35 [.win m 1 0 n,iv (ofNat k)]=some ⟨.ptr m k,.keep⟩:=by
 have:=Go.Tp.uA (m:=m) (off:=0) (s:=1) SQ Ca.symm h
 grind
theorem AA {m:Name} (h:n < 1000000000):kb ba 35 [.win m 1 0 n] none=some ⟨iv (ofNat n),.keep⟩:=by
 have e:kb ba 35 [.win m 1 0 n] none=if Nat.ble n lim=true then some ⟨iv (ofNat n),.keep⟩ else none:=by kernel_rfl
 rw[e,if_pos];rw[Nat.ble_eq];simp only[lim];omega
theorem vC {a:ac}:∀n:Nat,po [a] n=List.replicate n a
 | 0=>rfl
 | n+1=>by show [a]++po [a] n=_;rw[vC n];rfl
theorem Ui (n:Nat):cH (List.replicate n 0)=po [iv 0] n:=by rw[vC];simp[cH]
theorem U0 (n:Nat):pG (List.replicate n false)=po [bv false] n:=by rw[vC];simp[pG]
theorem TF (h:n < 1000000):fR ba 22 [iv (ofNat n),iv (ofNat n)]=some ⟨.undef,.grow (.cells (cH (List.replicate n 0))) 1 n⟩:=by
 have e:fR ba 22 [iv (ofNat n),iv (ofNat n)]=if (Nat.ble n n&&Nat.ble (DE.bytes*n) 140737488355328&&Nat.ble n lim&&Nat.blt 0 DE.size&&dU (aY (bE DE.zero))&&!cd (po (aY (bE DE.zero)) n))=true
    then some ⟨.undef,.grow (.cells (po (aY (bE DE.zero)) n)) DE.size n⟩ else none:=by kernel_rfl
 have c:aY (bE DE.zero)=[iv 0]:=by kernel_rfl
 rw[e,c,←Ui,wE,kV];have d:DE.bytes<=1000:=fD (by kernel_rfl);have a:Nat.ble n n=true:=by simp_all
 have b:Nat.ble (DE.bytes*n) 140737488355328=true:=by
  rw[Nat.ble_eq]
  calc DE.bytes*n<=1000*1000000:=Nat.mul_le_mul d (by omega)
   _<=140737488355328:=by decide
 have f:Nat.ble n lim=true:=by rw[Nat.ble_eq];simp only[lim];omega
 rw[a,b,f];rfl
theorem Qm (h:n < 1000000):fR ba 35 [iv (ofNat n),iv (ofNat n)]=some ⟨.undef,.grow (.cells (pG (List.replicate n false))) 1 n⟩:=by
 have e:fR ba 35 [iv (ofNat n),iv (ofNat n)]=if (Nat.ble n n&&Nat.ble (xP.bytes*n) 140737488355328&&Nat.ble n lim&&Nat.blt 0 xP.size&&dU (aY (bE xP.zero))&&!cd (po (aY (bE xP.zero)) n))=true
    then some ⟨.undef,.grow (.cells (po (aY (bE xP.zero)) n)) xP.size n⟩ else none:=by kernel_rfl
 have c:aY (bE xP.zero)=[bv false]:=by kernel_rfl
 rw[e,c,←U0,Dp,Ca];have d:xP.bytes<=1000:=fD (by kernel_rfl);have a:Nat.ble n n=true:=by simp_all
 have b:Nat.ble (xP.bytes*n) 140737488355328=true:=by
  rw[Nat.ble_eq]
  calc xP.bytes*n<=1000*1000000:=Nat.mul_le_mul d (by omega)
   _<=140737488355328:=by decide
 have f:Nat.ble n lim=true:=by rw[Nat.ble_eq];simp only[lim];omega
 rw[a,b,f];rfl
def XF (c:Bool) (r m:Int):Int:=match c with|true=>an .i64 (r+m)|false=>r
theorem Tg {n:Int} (h:aB m 0=false):Ny ba .rem 3 [iv n,iv m]=some ⟨iv (n.tmod m),.keep⟩:=by
 have a:Ny ba .rem 3 [iv n,iv m]=XC (if aB m 0=true then none else some (.int .i64 (n.tmod m))):=by kernel_rfl
 rw[a,h];rfl
theorem XE {n:Int} {c:Bool} (a:Ny ba .rem 3 [iv n,iv m]=some ⟨iv (n.tmod m),.keep⟩) (b:aF (n.tmod m) 0=c):ae 28 [iv n,iv m] (iv (XF c (n.tmod m) m)):=by
 refine co [9] [7] (x:=.of Tryz.f28 P8 QE) ?_;refine oo a (ob b ?_)
 cases c <;>
 ·exact fi
theorem V1 (n:Int) {m:Nat} (k:0 < m) (d:m < 1000000000):ae 28 [iv n,iv (ofNat m)] (iv (n % ofNat m)):=by
 have h:=XE (n:=n) (m:=ofNat m) (Tg (by rw[cN,beq_eq_false_iff_ne];grind)) rfl;have e:XF (aF (n.tmod (ofNat m)) 0) (n.tmod (ofNat m)) (ofNat m)=n % ofNat m:=by
  have o:(0:Int) < ofNat m:=by grind
  have g:=Int.emod_nonneg n (show ofNat m≠0 by omega);have i:=Int.emod_lt_of_pos n o;have f:ofNat m < 1000000000:=by grind
  rw[dA];have T:=Int.tmod_eq_emod (a:=n) (b:=ofNat m);generalize ofNat m=M at *;generalize n % M=q at *;rw[T];unfold XF
  split at T
  ·grind
  rename_i c;rw[if_neg c];rw[decide_eq_true (by omega)];dsimp only;rw[cQ,wrap_i64 (by omega) (by omega)];omega
 grind
def cW (l:List ak) (k:Int):Heap:=[(.out 0,.cells [.dat (.slice l),iv k])]
def cq:ac:=.ptr (.out 0) 0
theorem V2 {l:List ak}:KC 10 [.dat (.slice l)] [] 0 (XQ ⟨cq,cW l 0,1⟩):=by
 refine co [] [] (x:=.of Tryz.f10 P8 QH) ?_;exact fi
theorem KX {l:List ak} {k n x r:Int} {c:Bool} (a:aF k (ofNat l.length)=c) (b:c=true->ap ba 22 [.dat (.slice l),.dat (.flat (.int .i64 (an .i64 (an .i64 (k+1) - 1))))]=some ⟨.ref [iN x],.keep⟩) (f:ae 28 [iv x,iv n] (iv r)) :
  KC 32 [cq,iv n] (cW l k) 1 (XQ ⟨iv (match c with|true=>r|false=>0),cW l (match c with|true=>an .i64 (k+1)|false=>k),1⟩):=by
 refine co [14] [31] (x:=.of Tryz.f32 PB QC) ?_;refine ox a ?_
 cases c
 ·exact fi
 exact oo (b rfl) (on f fi)
theorem aR {l:List Int} {k:Nat} (f:l.length < 1000000000) (c:k<=l.length) (N:0 < n) (d:n < 1000000000) :
  ∃r K:Nat,(r < n/\k<=K/\K<=l.length/\(0 < r->k < K))/\KC 32 [cq,iv (ofNat n)] (cW (l.map iN) (ofNat k)) 1 (XQ ⟨iv (ofNat r),cW (l.map iN) (ofNat K),1⟩):=by
 by_cases a:k < l.length
 ·have g:an .i64 (ofNat k+1)=ofNat (k+1):=bb (by omega);have e:an .i64 (ofNat (k+1) - 1)=ofNat k:=by
   rw[cQ,show ofNat (k+1) - 1=ofNat k by simp];exact wrap_i64 (by grind) (by grind)
  have o:=Int.emod_nonneg l[k] (show ofNat n≠0 from fun h=>absurd (Int.ofNat.inj (h.trans (show (0:Int)=ofNat 0 from rfl))) (by omega));have b:=Int.emod_lt_of_pos l[k] (show (0:Int) < ofNat n from Int.ofNat_lt.2 N);refine⟨(l[k] % ofNat n).toNat,k+1,⟨(Int.toNat_lt o).2 b,by omega,by omega,fun _=>by omega⟩,?_⟩;have h:=@KX (l.map iN) (ofNat k) (ofNat n) (l[k]) (l[k] % ofNat n) true (by rw[gv,List.length_map,decide_eq_true a]) (fun _=>by grind[wb]) (V1 _ N d);grind
 refine⟨0,k,⟨N,by omega,by omega,fun h=>by omega⟩,?_⟩;exact @KX (l.map iN) (ofNat k) (ofNat n) 0 0 false (by rw[gv,List.length_map,decide_eq_false a]) (fun h=>by grind) (by have:=V1 0 N d;simp_all)
def amK (c:List ac):Heap:=[(.loc 3,.cells c)]
theorem asV (l:Nat) {p s:Int} {c d:ak} (a:dj c) (b:dj d):cG ba 26 [.ptr (.loc l) 0,.dat (aN p s c d)] (some (.cells (cC 0 0 nl nl)))=some ⟨.undef,.set (.cells (cC p s c d))⟩:=by
 rcases a with rfl|⟨E,rfl⟩ <;> rcases b with rfl|⟨F,rfl⟩ <;> kernel_rfl
theorem asP:ae 55 [.dat (.slice a)] (.fn (.func 89) [] [.ref [.slice a]]):=by
 refine co [] [] (x:=.of Tryz.f55 P8 QG) ?_;exact fi
noncomputable def hBk:Hints:=⟨bV,P8,bi,rowsOf bi 89⟩
def stB (l:Nat) (a:List ak) (i:Int) (w:Heap) (b:Nat):ab:=⟨[(3,iv i),(1,.ref [.slice a]),(0,.fn (.yield l) [] [])],[],w,b⟩
def awc (l:Nat) (a:List ak) (i:Int) (b:Bool) (w:Heap) (c:Nat):ab:=⟨[(8,bv b),(3,iv i),(1,.ref [.slice a]),(0,.fn (.yield l) [] [])],[],w,c⟩
theorem axL {b:Nat} (e:T .normal ((stB l a (an .i64 (ofNat a.length - 1)) w b).al AT)) :
  KD (WS (ZW Tryz.f89)) T ((⟨rG 0 [.fn (.yield l) [] [],.ref [.slice a]],[],w,b⟩:ab).al AT):=by
 refine aq [] [] (H:=hBk) (live:=arw) ?_;exact oe e
theorem axK {b:Nat} {c:Bool} (h:aF i 0=c) (e:T .normal ((awc l a i (!c) w b).al AT)) :
  KD (WS (WS (roundOf Tryz.f89 0))) T ((stB l a i w b).al AT):=by
 refine aq [8] [] (H:=hBk) (live:=arw) (ox h ?_)
 cases c <;>
 ·exact oe e
theorem axJ {b:Nat} (e:T .normal ((stB l a (an .i64 (i - 1)) w b).al AT)) :
  KD (WR (WR (roundOf Tryz.f89 0))) T ((stB l a i w b).al AT):=by
 refine aq [] [] (H:=hBk) (live:=arw) ?_;exact oe e
noncomputable def bkY:List Oper:=akR (WS (tC (WS (WR (roundOf Tryz.f89 0)))))
def atI (l:Nat) (a:List ak) (i:Int) (c:List ak) (d:ak) (w:Heap) (b:Nat):ab:=⟨[(16,.dat d),(15,.ref c),(14,iv i),(13,.dat (.slice a)),(12,iv i),(11,.fn (.yield l) [] []),(3,iv i),(1,.ref [.slice a]),(0,.fn (.yield l) [] [])],[],w,b⟩
def ate (l:Nat) (a:List ak) (i:Int) (c:List ak) (d:ak) (w:Heap) (b:Nat):ab:=⟨[(18,bv false),(17,bv true),(16,.dat d),(15,.ref c),(14,iv i),(13,.dat (.slice a)),(12,iv i),(11,.fn (.yield l) [] []),(3,iv i),(1,.ref [.slice a]),(0,.fn (.yield l) [] [])],[],w,b⟩
def au3 (l:Nat) (a:List ak) (i:Int) (c:List ak) (d:ak) (w:Heap) (b:Nat):ab:=⟨[(17,bv true),(16,.dat d),(15,.ref c),(14,iv i),(13,.dat (.slice a)),(12,iv i),(11,.fn (.yield l) [] []),(3,iv i),(1,.ref [.slice a]),(0,.fn (.yield l) [] [])],[],w,b⟩
theorem avU {e:Nat} {c:List ak} {d:ak} (f:ap ba 23 [.dat (.slice a),iv i]=some ⟨.ref c,.keep⟩) (g:eB ba false 45 [.ref c] none=some ⟨.dat d,.keep⟩) {T:aa->Prop} (h:T ((atI l a i c d w e).al AT)) :
  (O9 (Sv []) (Sv [15,16]) ba cM (hBk.at 3) AT bkY (bkY.take 6) (stB l a i w e) (fun b=>Qy.fin b)).Ok Tryz.prog cM (fun b=>T (b.al AT)):=by
 refine oo f (oo g ?_);exact apc (atI l a i c d w e) (by kernel_rfl) (by kernel_rfl) h
theorem avT {e:Nat} {c:List ak} {d:ak} {T:aa->Prop} (h:T ((ate l a i c d w e).al AT)) :
  (O9 (Sv []) (Sv []) ba cM (hBk.at 3) AT bkY (bkY.drop 7) (au3 l a i c d w e) (fun b=>Qy.fin b)).Ok Tryz.prog cM (fun b=>T (b.al AT)):=
 apc (ate l a i c d w e) (by kernel_rfl) (by kernel_rfl) h
theorem asQ {rec:Loop} {ts:List ac} {f:List ak} {h:Nat} (I:Nat->Heap->Nat->Prop) (v:rec.state=.ready) (t:rec.pending=none) (u:rec.params.size=2) (n:f.length < 1000000000)
  (a:∀k,k < f.length->∃c d,ap ba 23 [.dat (.slice f),iv (ofNat k)]=some ⟨.ref c,.keep⟩/\eB ba false 45 [.ref c] none=some ⟨.dat d,.keep⟩ ∧
   ∀w h,I (k+1) w h->Round Tryz.prog cM rec.params.toList rec.assign rec.body ts [iv (ofNat k),.dat d] w h (fun w h=>I k w h)) (o:I f.length w h) :
  uv Tryz.prog cM l rec ts (ZW Tryz.f89) (adO ba Tryz.f89.results.toList (fun _ w h=>I 0 w h)) (enter AT [.fn (.yield l) [] [],.ref [.slice f]] w h):=by
 rw[←aqP _ _ _ _ (by show 2<=AT;decide)];have j:∀k:Nat,k < 1000000000->an .i64 (ofNat k - 1)=ofNat k - 1:=by
  intro k q;rw[cQ];exact wrap_i64 (by show _<=(k:Int) - 1;omega) (by show (k:Int) - 1<=_;omega)
 refine ans (by kernel_rfl) (afu (axL ?_));refine apC 0 (by kernel_rfl) ?_;refine asg (α:=Nat×Heap×Nat) (by kernel_rfl) [0,1,3] [] (fun x=>(stB l f (ofNat x.1 - 1) x.2.1 x.2.2).al AT) (fun x=>x.1<=f.length/\I x.1 x.2.1 x.2.2) (fun x=>x.1) (f.length,w,h) ⟨Nat.le_refl _,o⟩ ?_ ?_
 ·rw[j _ n];kernel_rfl
 rintro⟨k,w,h⟩ ⟨q,p⟩;have e:inLoop (tC (WR (ZW Tryz.f89)))=roundOf Tryz.f89 0:=by kernel_rfl
 rw[e];dsimp only at q p ⊢;refine ans (by kernel_rfl) (ans (by kernel_rfl) (afu (axK rfl ?_)));dsimp only
 cases k with
 | zero=>
  have E:an5 8 (WR (WS (roundOf Tryz.f89 0)))=true:=by kernel_rfl
  refine ao6 E (b:=false) (by kernel_rfl) ?_;have F:apo (WR (WS (roundOf Tryz.f89 0)))=.exit 0:=by kernel_rfl
  simp only[Bool.false_eq_true,if_false];rw[F];refine asF ?_;exact p
 | succ k=>
  have J:ofNat (k+1) - 1=ofNat k:=by simp
  rw[J];have r:aF (ofNat k) 0=false:=by rw[dA];simp
  rw[r];have E:an5 8 (WR (WS (roundOf Tryz.f89 0)))=true:=by kernel_rfl
  refine ao6 E (b:=true) (by kernel_rfl) ?_;have F:apn (WR (WS (roundOf Tryz.f89 0)))=.skip:=by kernel_rfl
  simp only[if_true];rw[F];refine aqJ ?_;refine ans (by kernel_rfl) (apC 1 (by kernel_rfl) (ans (by kernel_rfl) ?_));obtain⟨c,d,K,L,M⟩:=a k q;refine apB [0,1,3] [] ?_;have A:((awc l f (ofNat k) (!false) w h).al AT).keep [0,1,3] []=(stB l f (ofNat k) w h).al AT:=by kernel_rfl
  rw[A];refine asD (H:=hBk.at 3) JS v t (by kernel_rfl) ?_;have y:bkY.drop 6=aqc bkY 6::bkY.drop 7:=apj (by kernel_rfl);have z:=atx (T:=fun s=>s=(atI l f (ofNat k) c d w h).al AT) (l:=l) (rec:=rec) (ts:=ts) (all:=bkY) (pre:=bkY.take 6) (rest:=bkY.drop 6) (by rw[y];simp) (Q:=fun s=>s=(ate l f (ofNat k) c d s.heap s.next).al AT/\I k s.heap s.next) (avU (T:=fun s=>s=(atI l f (ofNat k) c d w h).al AT) K L rfl) ?_
  ·rw[List.take_append_drop] at z;refine apJ ?_ z;rintro s ⟨N,m⟩;dsimp only;generalize s.heap=g at *;generalize s.next=i at *;subst N;have B:an5 18 (WR (tC (WS (WR (roundOf Tryz.f89 0)))))=true:=by kernel_rfl
   refine ao6 B (b:=false) (by kernel_rfl) ?_;have C:apo (WR (tC (WS (WR (roundOf Tryz.f89 0)))))=.skip:=by kernel_rfl
   simp only[Bool.false_eq_true,if_false];rw[C];refine aqJ ?_;dsimp only;refine apB [0,1,3] [] ?_;have D:((ate l f (ofNat k) c d g i).al AT).keep [0,1,3] []=(stB l f (ofNat k) g i).al AT:=by kernel_rfl
   rw[D];refine afu (axJ ?_);refine⟨(k,g,i),⟨by dsimp only;omega,m⟩,by dsimp only;omega,?_⟩;rw[j k (by omega)]
   kernel_rfl
  rintro s rfl;rw[y];refine atb 11 #[.tmp 12,.tmp 16] #[3,45] (by kernel_rfl) (by kernel_rfl) (by kernel_rfl) (by rw[u];rfl) (h:=[iv (ofNat k),.dat d]) (by kernel_rfl) (by kernel_rfl) ?_;refine (M w h p).mono ?_;intro g i m;have G:(({(atI l f (ofNat k) c d w h).al AT with heap:=g,next:=i }:aa).put (aqc bkY 6).dst (.dat (.flat (.bool true))))=(au3 l f (ofNat k) c d g i).al AT:=by kernel_rfl
  rw[G];refine aty (T:=fun s=>s=(ate l f (ofNat k) c d g i).al AT) (avT (T:=fun s=>s=(ate l f (ofNat k) c d g i).al AT) rfl) ?_;rintro s rfl;exact⟨rfl,m⟩
end Go.Proofs.YtmpmgmmcaghacaaGreatDoor
namespace Go.Tp
open Go.Proofs Go.RowKit Go.Maps Go.Sort Go.Shelf
def hY (a:List Int):List (Value×ak):=a.map fun k=>(.int .i64 k,.flat (.bool true))
theorem aq4 {w:World} {R:Own}:∀{ks:List Int} {c:List MapEntry},dQ w R (hY ks) c->c.map (·.key)=ks.map encZ
 | [],c,h=>by subst h;rfl
 | k::ks,c,⟨e,b,E,F,d,a⟩=>by
  subst E;simp[aq4 (ks:=ks) a,F]
def aqg (x:Int):Prop:=-9223372036854775808<=x/\x<=9223372036854775807
theorem apV {x:Int} (h:aqg x):bJ (.int .i64 x)=true:=by
 have E:IntKind.i64.min=-9223372036854775808:=by decide
 have F:IntKind.i64.max=9223372036854775807:=by decide
 simp only[bJ,E,F,Bool.and_eq_true,decide_eq_true_eq];exact h
theorem auX {x:Int} (h:aqg x):(Lit.int .i64 x).wf=true:=apV h
def nlI:List Int->ak
 | []=>.flat (.slice none 0 0)
 | x::r=>.slice ((x::r).map fun y=>.flat (.int .i64 y))
section
theorem ar4 {P:Program} {w:World} {R:Own} {c:Array MapEntry} {g b:Nat} {k:TypeId} (G:P.underlying k=some (.int .i64)) {f:List Int} (u:∀x∈f,aqg x) (z:f.Nodup)
  (C:f.length<=4294967296) (d:w.heap[b]?=some (.map c g)) (H:dQ w R (hY f) c.toList) (q:xO c g) :
  ∃r:DataW Unit,w.ownsMap P k (fun _=>some (.nil,[])) b c.size r/\Maps.size r=f.length/\(intKeys r).Perm f:=by
 have o:=aq4 H;have i:c.size=f.length:=by
  have:=congrArg List.length o
  simpa using this
 have j:∀x∈c.toList,∃s:Int,x.key=encZ s/\s∈f/\Go.WideElems.rd P k (fun _=>some ((.nil:DataW Unit),[])) x=some (.int .i64 s,.nil):=by
  intro x X;have D:x.key∈c.toList.map (·.key):=List.mem_map.2 ⟨x,X,rfl⟩;rw[o] at D;obtain⟨s,n,e⟩:=List.mem_map.1 D;refine⟨s,e.symm,n,?_⟩;have v:keyOf P k x.key=some (.int .i64 s):=by
   rw[←e];obtain⟨o,F⟩:=u s n;exact Maps.keyOf_int_mk (k:=k) G (auX ⟨o,F⟩)
  simp[Go.WideElems.rd,v]
 refine⟨_,⟨c,g,d,⟨by rw[i];simp only[maxLen];omega,⟨q.1,q.2,?_⟩,fun x X=>(j x X).elim fun s n=>⟨_,n.2.2⟩⟩,Nat.le_refl _,rfl⟩,?_,?_⟩
 ·rw[o];exact z.map _ (fun a b t=>fun e=>t (encZ_inj e))
 ·simp[Maps.size,length_sorted,i]
 have K:=Go.WideShapes.sorted_perm (c.toList.map (Go.WideElems.rg P k (fun _=>some ((.nil:DataW Unit),[]))));have L:=K.map (fun p=>intOf p.1);refine L.trans ?_;rw[List.map_map];have E:c.toList.map ((fun p:Lit×DataW Unit=>intOf p.1) ∘ Go.WideElems.rg P k (fun _=>some (.nil,[])))=f:=by
  have key:∀(l:List MapEntry) (f:List Int),l.map (·.key)=f.map encZ->(∀x∈l,∃s:Int,x.key=encZ s/\Go.WideElems.rd P k (fun _=>some ((.nil:DataW Unit),[])) x=some (.int .i64 s,.nil))->
    l.map ((fun p:Lit×DataW Unit=>intOf p.1) ∘ Go.WideElems.rg P k (fun _=>some (.nil,[])))=f:=by
   intro l
   induction l with
   | nil=>intro f h _;cases f with|nil=>rfl|cons _ _=>simp at h
   | cons x l J=>
    intro f h m
    cases f with
    | nil=>simp at h
    | cons s f=>
     simp only[List.map_cons,List.cons.injEq] at h ⊢;obtain⟨M,B,A⟩:=m x (by simp)
     have:M=s:=encZ_inj (B.symm.trans h.1)
     subst this;exact⟨by simp[Go.WideElems.rg,A,intOf],J f h.2 fun y I=>m y (by simp[I])⟩
  exact key _ _ o fun x X=>(j x X).elim fun s n=>⟨s,n.1,n.2.2⟩
 rw[E]
theorem att {P:Program} {ρ ρ':Ren} {G:bA} (L6:SlLaysZI.n6 P ρ) (a1:SlLaysZI.n10 P ρ') (O:AnyZI.SortsIn P ρ Fence.wide 4) (e9:Enters P (ρ.f 9)) (a5:Enters P (ρ'.f 10)) (hk:P.underlying (ρ'.t 26)=some (.int .i64))
  {f:Heap} {t k m:Nat} {tl:List ac} {n:List Int} (W:eA (.out k) f=some (.cells (.map (.out m)::tl))) (af:eA (.out m) f=some (.map (hY n))) (ae:n.length<=4294967296) (ag:n.Nodup) (ad:∀x∈n,aqg x) :
  ay P G (ρ.f 6) [.fn (.func (ρ'.f 10)) [] [.ptr (.out k) 0]] f t (XQ ⟨.dat (nlI (gO n)),f,t⟩):=by
 intro w R N a3 b6 H z F b bi bk bf hF;obtain⟨v0,r1,c0,d1,rfl,rfl,o,bl⟩:=au F;obtain⟨rfl,rfl⟩:=aM bl;simp only[ai] at o;obtain⟨rfl,vs,us,rfl,bw,bu⟩:=o;obtain⟨rfl,_⟩:=aM bw;obtain⟨Bm,a6,rfl,_⟩:=KW (k:=k) (by simpa using bu);obtain⟨b7,b',r,b4,rfl,I,am,_⟩:=aj.split b W
 have:b'=Bm:=by simp only[outs] at I;rw[a6] at I;simpa using I.symm
 subst this;obtain⟨xs,b0,sp,D,ar,_,_⟩:=am;rw[List.cons_append] at ar;obtain⟨x0,xr,f0,f1,X,_,a0,_⟩:=au ar;simp only[ai] at a0;obtain⟨_,bm,U,rfl⟩:=a0;have J:w.cell? ⟨b',0,none⟩=some (.map (some bm)):=by
  have:xs[0]?=some (.map (some bm)):=by rw[←Array.getElem?_toList,X];rfl
  simp[World.cell?,D,this]
 obtain⟨b5,Q,b3,bx,_,a7,M,_⟩:=aj.split b af
 have:Q=bm:=by rw[a7] at U;simpa using U
 subst this;obtain⟨_,_,T,a4,bg,bo,a9⟩:=M;obtain⟨D0,aq,ax,s⟩:=ar4 hk ad ag ae bg bo a9;have av:=AnyZI.keys_gives a1 Fence.wide 2 trivial rfl (by omega) b' Q T.size D0 w (bN D) J aq;have cS:=AnyZI.sorted_in L6 Fence.wide 5 trivial trivial trivial trivial rfl (by omega) O e9 (ρ'.f 10) #[.pointer (some ⟨b',0,none⟩)] trivial a5 _ (Maps.size D0) (by rw[ax];simp only[maxLen];omega) (by rw[ax];omega) w av;refine (callsIn_wide.1 cS).mono ?_;rintro e w' ⟨v,S,rfl,hS,a,al,hb⟩;have bt:S.mergeSort (fun x y=>decide (x<=y))=gO n:=mergeSort_of_perm_i (hS.trans s);have E:S.length=n.length:=(hS.trans s).length_eq;rw[bt] at a;refine⟨_,_,_,t,_,N,[],_,rfl,⟨rfl,rfl,rfl⟩,bQ (d:=nlI (gO n)) ?_,b.keep (AE hb _),by simpa using bi,bk,AE hb z,fun _ _ h=>h⟩;have q:∀y∈gO n,aqg y:=fun y hy=>ad y ((zj n).mem_iff.1 hy)
 have B:(gO n).length=n.length:=iw n;revert q B a;generalize gO n=L;intro a q B
 cases L with
 | nil=>
  have bs:S=[]:=List.eq_nil_of_length_eq_zero (by simp at B;omega);have V:=al.2 bs;subst V;exact .flat rfl
 | cons x C=>
  obtain⟨l,a⟩:=a;have p:S.length=(x::C).length:=by rw[B];exact E
  rcases a with⟨_,hz⟩|⟨g,a2,u,rfl,a8,be,q1,q2,q3,q4⟩
  ·rw[p] at hz;simp at hz
  have A:((x::C).map fun y=>(ak.flat (.int .i64 y))).length=S.length:=by simp[p]
  show eU _ _ _ _;show eU _ _ _ (.slice ((x::C).map fun y=>(ak.flat (.int .i64 y))));rw[←A];refine .slice g 0 a2 1 _ (fun i _=>u[i]?.getD default) (by omega) ?_ (by rw[A];exact q1) (by rw[A,E];simp only[lim];omega) ?_ ?_
  ·intro e K;simp only[List.mem_map] at K;obtain⟨y,_,rfl⟩:=K;rfl
  ·intro i j Z hj;rw[A] at Z;have bc:i < u.size:=by omega
   refine⟨?_,fun hR=>by omega⟩
   have:j=0:=by omega
   subst this;simp[World.cell?,be,bc]
  intro i j e c K hc;have Z:i < (x::C).length:=by
   rcases Nat.lt_or_ge i (x::C).length with h'|h'
   ·exact h'
   rw[List.getElem?_eq_none (by simpa using h')] at K;simp at K
  have Y:u[i]?=some (encZ (x::C)[i]):=by
   have az:(u.toList.take (S.length*1))[i]?=some (encZ (x::C)[i]):=by
    rw[q4,List.getElem?_map,List.getElem?_eq_getElem Z];rfl
   rw[List.getElem?_take_of_lt (by omega)] at az;simpa using az
  have bd:e=.flat (.int .i64 (x::C)[i]):=by
   rw[List.getElem?_map,List.getElem?_eq_getElem Z] at K;simpa using K.symm
  subst bd;have ba:c=.flat (.int .i64 (x::C)[i]):=by
   cases j with
   | zero=>simpa [ak.cells] using hc.symm
   | succ j=>simp[ak.cells] at hc
  subst ba;rw[Y];exact .flat (w:=w') (v:=.int .i64 _) (apV (q _ (List.getElem_mem Z)))
end
end Go.Tp
