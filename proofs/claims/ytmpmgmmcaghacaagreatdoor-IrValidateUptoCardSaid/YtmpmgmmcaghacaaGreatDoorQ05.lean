/- Part 5 of what the last text proves. -/
import Derived.Test.YtmpmgmmcaghacaaGreatDoorQ04
set_option linter.unusedVariables false
set_option linter.unusedSimpArgs false
open Int (ofNat)
set_option maxRecDepth 100000
set_option maxHeartbeats 4000000
namespace Go.Proofs.YtmpmgmmcaghacaaGreatDoor
open Go.Tp
noncomputable abbrev lk:=Tryz.f178.ntmps
noncomputable abbrev sJ:=Tryz.f137.ntmps
noncomputable abbrev qg:=Tryz.f94.ntmps
noncomputable abbrev od:=Tryz.f151.ntmps
noncomputable abbrev oc:=Tryz.f152.ntmps
noncomputable abbrev jV:=Tryz.f123.ntmps
noncomputable abbrev jh:=Tryz.f197.ntmps
noncomputable abbrev nY:=Tryz.f182.ntmps
noncomputable abbrev gL:=Tryz.f97.ntmps
noncomputable abbrev jX:=Tryz.f102.ntmps
noncomputable abbrev nZ:=Tryz.f181.ntmps
noncomputable abbrev og:=Tryz.f106.ntmps
theorem iS (ls bs:List Nat) {g:FuncId} {x:qS} (hx:JE.find g=some x) {args:List ac} {heap:Heap} {next:Nat} {r:eX} (h:(Pe (Sv ls) (Sv bs) ba cM bV bi x g args heap next).Ok Tryz.prog cM (fun y=>y=r)) :
  KC g args heap next (XQ r):=Du (Pd JS uD hx (fun _ _=>h))
theorem tW (k:Nat):∀l:List Int,gZ k (cH l)=false
 | []=>rfl
 | d::r=>by show (iq k (iv d)||gZ k (cH r))=false;rw[tW k r];rfl
theorem fJ (ρ:Nat->Nat):∀l:List Int,il ρ (cH l)=cH l
 | []=>rfl
 | d::r=>by show fx ρ (iv d)::il ρ (cH r)=_;rw[fJ ρ r];rfl
theorem tQ (p:Nat->Bool):∀l:List Int,mE p (cH l)=true
 | []=>rfl
 | d::r=>by show (Nz p (iv d)&&mE p (cH r))=true;rw[tQ p r];rfl
theorem zQ {g:FuncId} {args:List ac} {heap:Heap} {next:Nat} {Q Q':ac->Heap->Nat->Prop} (h:KC g args heap next Q) (hq:∀v h m,Q v h m->∃h2,h.Perm h2/\Q' v h2 m):KC g args heap next Q':=by
 intro w R N cargs bsA bsH bsF ha hh hnd hnx hg hF;refine (h w R N cargs bsA bsH bsF ha hh hnd hnx hg hF).mono ?_;rintro e w' ⟨v,cv,h1,next',R',N',bsV,bsH',rfl,hq1,hv,hh',hnd',hnx',hk,hN⟩;obtain⟨h2,hp,hq2⟩:=hq _ _ _ hq1;obtain⟨bs2,k1,k2⟩:=hh'.perm hp;refine⟨v,cv,h2,next',R',N',bsV,bs2,rfl,hq2,hv,k1,?_,hnx',hk,hN⟩;exact (List.Perm.nodup_iff (List.Perm.append_left _ (List.Perm.append_right _ k2))).1 hnd'
def sP:ac:=.ptr (.out 0) 0
def hS (r:Nat):List Int->Heap
 | []=>[(.out 0,.cells [.dat nl])]
 | x::l=>[(.out r,.cells (cH (x::l))),(.out 0,.cells [.win (.out r) 1 0 (x::l).length])]
def hR (r:Nat) (l:List Int) (n:Nat):Heap:=[(.out r,.cells (cH l)),(.out 0,.cells [.win (.out r) 1 0 n])]
theorem LH {r:Nat} {l:List Int} (h:l≠[]):hS r l=hR r l l.length:=by cases l with|nil=>exact absurd rfl h|cons x l=>rfl
theorem Mo {l:List Int} {x:Int} {n:Nat} (hs:l.Pairwise (·<=·)) (hn:l.length < 1000000000) (hl:n=l.length) :
  KC 206 [.win (.out 1) 1 0 n,iv x] (hR 1 l n) 2 (XQ ⟨.tup [iv (ofNat (l.countP (· < x))),bv (l.contains x)],hR 1 l n,2⟩):=by
 subst hl;have h:=ay.frame (RQ (G:=cM) Tryz.aff (x:=x) hs hn) (fun _=>1) (heap:=hR 1 l l.length) (rest:=[(.out 0,.cells [.win (.out 1) 1 0 l.length])]) (next:=2) (by simp[hR,jJ,pW,wX,fJ]) rfl (by simp[gH,BS,tW]) rfl rfl;refine zQ h ?_;rintro v h m ⟨v0,h1,n1,⟨rfl,rfl,rfl⟩,rfl,rfl,rfl⟩;refine⟨hR 1 l l.length,?_,rfl,rfl,rfl⟩;simp[hR,jJ,pW,wX,fJ,ig];exact List.Perm.refl _
theorem MQ {l:List Int} {x:Int} {i n:Nat} (hi:i<=l.length) (hn:l.length < 1000000000) (hl:n=l.length) :
  KC 207 [.win (.out 1) 1 0 n,iv (ofNat i),.win (.out 2) 1 0 1] ((.out 2,.cells [iv x])::hR 1 l n) 3
   (XQ ⟨.win (.out 3) 1 0 (fw l i x).length,[(.out 3,.cells (cH (fw l i x))),(.out 2,.cells [iv x]),(.out 0,.cells [.win (.out 1) 1 0 n])],4⟩):=by
 subst hl;have h:=ay.frame (RS (G:=cM) Tryz.VR (x:=x) hi hn) (fun o=>o+1) (heap:=(.out 2,.cells [iv x])::hR 1 l l.length) (rest:=[(.out 0,.cells [.win (.out 1) 1 0 l.length])]) (next:=3) (by simp[hR,jJ,pW,wX,fJ,il,fx];exact List.Perm.swap _ _ _) rfl (by simp[gH,BS,tW,gZ,iq]) rfl rfl;refine zQ h ?_;rintro v h m ⟨v0,h1,n1,⟨rfl,rfl,rfl⟩,rfl,rfl,rfl⟩;refine⟨_,List.Perm.refl _,rfl,?_,rfl⟩;simp[jJ,pW,wX,fJ,il,fx,ig];exact⟨rfl,rfl⟩
theorem insert_nil {x:Int} :
  KC 207 [.dat nl,iv (ofNat 0),.win (.out 1) 1 0 1] [(.out 1,.cells [iv x]),(.out 0,.cells [.dat nl])] 2
   (XQ ⟨.win (.out 2) 1 0 1,[(.out 2,.cells [iv x]),(.out 1,.cells [iv x]),(.out 0,.cells [.dat nl])],3⟩):=by
 have h:=ay.frame (EU (G:=cM) Tryz.VR (x:=x)) (fun o=>o+1) (heap:=[(.out 1,.cells [iv x]),(.out 0,.cells [.dat nl])]) (rest:=[(.out 0,.cells [.dat nl])]) (next:=2) (by rfl) rfl rfl rfl rfl;refine zQ h ?_;rintro v h m ⟨v0,h1,n1,⟨rfl,rfl,rfl⟩,rfl,rfl,rfl⟩;exact⟨_,List.Perm.refl _,rfl,rfl,rfl⟩
theorem Is {x:Int}:ae 206 [.dat nl,iv x] (.tup [iv (ofNat 0),bv false]):=dE _ _ _ _ _ (by kernel_rfl)
theorem U8 {x:Int}:KC 195 [sP,iv x] [(.out 0,.cells [.dat nl])] 1 (XQ ⟨.tup [],[(.out 2,.cells [iv x]),(.out 1,.cells [iv x]),(.out 0,.cells [.win (.out 2) 1 0 1])],3⟩):=by
 have h1:=Is (x:=x);have h2:=insert_nil (x:=x);exact iS [] [] (x:=qS.of Tryz.f195 Ae yq) (by kernel_rfl) (on h1 (oh h2 fi))
theorem U9 {l l2:List Int} {x:Int} {i n n2:Nat} (h1:KC 206 [.win (.out 1) 1 0 n,iv x] (hR 1 l n) 2 (XQ ⟨.tup [iv (ofNat i),bv false],hR 1 l n,2⟩))
  (h2:KC 207 [.win (.out 1) 1 0 n,iv (ofNat i),.win (.out 2) 1 0 1] ((.out 2,.cells [iv x])::hR 1 l n) 3
   (XQ ⟨.win (.out 3) 1 0 n2,[(.out 3,.cells (cH l2)),(.out 2,.cells [iv x]),(.out 0,.cells [.win (.out 1) 1 0 n])],4⟩)) :
  KC 195 [sP,iv x] (hR 1 l n) 2 (XQ ⟨.tup [],[(.out 3,.cells (cH l2)),(.out 2,.cells [iv x]),(.out 0,.cells [.win (.out 3) 1 0 n2])],4⟩):=by
 exact iS [] [] (x:=qS.of Tryz.f195 Ae yq) (by kernel_rfl) (oh h1 (oh h2 fi))
theorem U7 {l:List Int} {x:Int} {i n:Nat} (h1:KC 206 [.win (.out 1) 1 0 n,iv x] (hR 1 l n) 2 (XQ ⟨.tup [iv (ofNat i),bv true],hR 1 l n,2⟩)) :
  KC 195 [sP,iv x] (hR 1 l n) 2 (XQ ⟨.tup [],hR 1 l n,2⟩):=by
 exact iS [] [] (x:=qS.of Tryz.f195 Ae yq) (by kernel_rfl) (oh h1 fi)
def jc (l:List Int) (x:Int):List Int:=match l.contains x with|true=>l|false=>fw l (l.countP (· < x)) x
theorem GK {l:List Int} {i:Nat} {x:Int}:fw l i x≠[]:=by simp[fw]
theorem Va {l:List Int} {x:Int} (h0:l≠[]) (hs:l.Pairwise (·<=·)) (hn:l.length < 1000000000) :
  KC 195 [sP,iv x] (hR 1 l l.length) 2 (XQ ⟨.tup [],hR 2 (jc l x) (jc l x).length,3⟩):=by
 have h1:=Mo (x:=x) hs hn rfl;unfold jc;generalize hc:l.contains x=c at h1
 cases c
 ·have h2:=MQ (x:=x) (i:=l.countP (· < x)) List.countP_le_length hn rfl;refine ay.rn (U9 h1 h2) ?_;rintro v hp m ⟨rfl,rfl,rfl⟩;refine⟨[3],rfl,?_,?_⟩
  ·simp[hR,dN,Sr,VN,mE,Nz,lr,ot,tQ];rfl
  simp[hR,dN,jJ,pW,wX,il,fx,lr,ot,BP,AI,fJ];exact⟨rfl,rfl,rfl⟩
 refine ay.rn (U7 h1) ?_;rintro v hp m ⟨rfl,rfl,rfl⟩;refine⟨[1],rfl,?_,?_⟩
 ·simp[hR,dN,Sr,VN,mE,Nz,lr,ot,tQ];rfl
 simp[hR,dN,jJ,pW,wX,il,fx,lr,ot,BP,AI,fJ];exact⟨rfl,rfl,rfl⟩
theorem HK {x:Int}:KC 195 [sP,iv x] [(.out 0,.cells [.dat nl])] 1 (XQ ⟨.tup [],hR 1 [x] 1,2⟩):=by
 refine ay.rn (U8 (x:=x)) ?_;rintro v hp m ⟨rfl,rfl,rfl⟩;exact⟨[2],rfl,rfl,rfl,rfl,rfl⟩
theorem adM {l:List Int} {x:Int} (hs:l.Pairwise (·<=·)) (hn:l.length < 1000000000) (r m:Nat) :
  KC 195 [sP,iv x] (hS r l) m (XQ ⟨.tup [],hS m (jc l x),m+1⟩):=by
 cases l with
 | nil=>
  have h:=ay.frame (HK (x:=x)) (fun o=>o) (heap:=hS r []) (rest:=[]) (next:=m) (by rfl) rfl rfl rfl rfl;refine h.mono ?_;rintro v h m' ⟨v0,h1,n1,⟨rfl,rfl,rfl⟩,rfl,rfl,rfl⟩;refine⟨rfl,?_,rfl⟩;show _=hS m [x];simp[hS,hR,jJ,pW,wX,il,fx,fJ,ig];exact⟨rfl,rfl,rfl⟩
 | cons y l=>
  have h2:jc (y::l) x≠[]:=by
   unfold jc
   cases (y::l).contains x with
   | true=>simp
   | false=>exact GK
  rw[LH (by simp:(y::l)≠[]),LH h2];have h:=ay.frame (Va (x:=x) (by simp:(y::l)≠[]) hs hn) (fun o=>match o with|0=>0|_=>r) (heap:=hR r (y::l) (y::l).length) (rest:=[]) (next:=m) (by simp[hR,jJ,pW,wX,fJ,il,fx]) (by rfl) (by simp[gH,hR,BS,tW,gZ,iq];rfl) (by rfl) rfl;refine h.mono ?_;rintro v h m' ⟨v0,h1,n1,⟨rfl,rfl,rfl⟩,rfl,rfl,rfl⟩;refine⟨rfl,?_,rfl⟩;simp[hR,jJ,pW,wX,il,fx,fJ,ig];exact⟨rfl,rfl,rfl⟩
noncomputable def aci:Hints:=⟨bV,vL,bi,rowsOf bi 178⟩
def WI (k:Int) (nm:List UInt8) (ix:Int) (a:ak) (n u:Nat) (H:Heap) (m:Nat) (i:Int):ab:=⟨[(26,iv i),(25,iv (ofNat n)),(24,.dat a),(3,.ptr (.loc 3) 0),(1,iv (ofNat u)),(2,sP)],[(.loc 3,.cells [iv k,.dat (sb nm),iv ix,.dat a])],H,m⟩
def S0 (k:Int) (nm:List UInt8) (ix:Int) (a:ak) (n u:Nat) (H:Heap) (m:Nat) (i:Int):ab:=⟨[(27,bv false),(26,iv i),(25,iv (ofNat n)),(24,.dat a),(3,.ptr (.loc 3) 0),(1,iv (ofNat u)),(2,sP)],[(.loc 3,.cells [iv k,.dat (sb nm),iv ix,.dat a])],H,m⟩
theorem Ni {k:Int} {nm:List UInt8} {ix:Int} {x:ak} {es:List ak} {l:List Ty} {t:Ty} {i u b m m2:Nat} {H H2:Heap} (hl:ax l=x::es) (hi:i < (ax l).length) (ht:l[i]?=some t)
  (hb:ae 196 [.dat (.agg [i64 k,sb nm,i64 ix,.slice (x::es)]),iv (ofNat i)] (iv (ofNat b)))
  (hc:KC 178 [.dat t.enc,iv (an .i64 (ofNat u+ofNat b)),sP] H m (XQ ⟨.tup [],H2,m2⟩)) {T:ej}
  (e:T .normal ((WI k nm ix (.slice (x::es)) (x::es).length u H2 m2 (an .i64 (ofNat i+1))).al lk)) :
  KD (roundOf Tryz.f178 0) T ((WI k nm ix (.slice (x::es)) (x::es).length u H m (ofNat i)).al lk):=by
 have h1:=br hi;have h2:=pF ht;rw[hl] at h1 h2;clear ht hi hl;obtain⟨k2,nm2,ix2,a2⟩:=t
 rcases a2 with _|⟨b2,d2⟩ <;>
 ·exact aq [27] [29] (H:=aci) (live:=rf) (ob h1 (oo h2 (on hb (oh hc (oe e)))))
theorem RK {k:Int} {nm:List UInt8} {ix:Int} {a:ak} {n u m:Nat} {H:Heap} {T:ej} (e:T (.exit 0) ((S0 k nm ix a n u H m (ofNat n)).al lk)) :
  KD (roundOf Tryz.f178 0) T ((WI k nm ix a n u H m (ofNat n)).al lk):=by
 have h1:=cj (i:=n) (L:=n) (by omega);exact aq [27] [] (H:=aci) (live:=rf) (ob h1 (oe e))
def eP (k ix:Int) (u:Nat) (s:List Int):List Int:=match aB k 5 with|false=>s|true=>(match aF ix (ofNat u) with|true=>s|false=>jc s (ix - ofNat u))
mutual
def Ty.cf:Ty->Nat->List Int->List Int
 | .mk k _ ix args,u,s=>se k args 0 u (eP k ix u s)
def se (k:Int):List Ty->Nat->Nat->List Int->List Int
 | [],_,_,s=>s
 | t::r,j,u,s=>se k r (j+1) u (t.cf (u+ey k j) s)
end
theorem LQ {k:Int} {b:List Ty} {u:Nat}:∀{a:List Ty} {j:Nat} {s:List Int},se k (a++b) j u s=se k b (j+a.length) u (se k a j u s)
 | [],j,s=>by simp[se]
 | t::r,j,s=>by
  simp only[List.cons_append,se,List.length_cons];rw[LQ,show j+1+r.length=j+(r.length+1) by omega]
theorem Hr {k:Int} {l:List Ty} {i u:Nat} {t:Ty} {s:List Int} (h:l[i]?=some t):se k (l.take (i+1)) 0 u s=t.cf (u+ey k i) (se k (l.take i) 0 u s):=by
 have hi:=(List.getElem?_eq_some_iff.1 h).1;rw[List.take_add_one,h,Option.toList_some,LQ,Nat.zero_add,List.length_take,Nat.min_eq_left (by omega),se,se]
theorem Nj {k:Int} {nm:List UInt8} {ix:Int} {l:List ak} {u m m2 m3:Nat} {ck cg:Bool} {H H2 H3:Heap} (hk:aB k 5=ck) (hg:aF ix (ofNat u)=cg)
  (ha:ck=true->cg=false->KC 195 [sP,iv (an .i64 (ix - ofNat u))] H m (XQ ⟨.tup [],H2,m2⟩)) (he:ck=false∨cg=true->H2=H/\m2=m)
  (hl:KD (.loop (roundOf Tryz.f178 0)) (fun e s=>e=.exit 0/\s=(S0 k nm ix (sl l) l.length u H3 m3 (ofNat l.length)).al lk) ((WI k nm ix (sl l) l.length u H2 m2 (ofNat 0)).al lk)) :
  KC 178 [.dat (.agg [i64 k,sb nm,i64 ix,sl l]),iv (ofNat u),sP] H m (XQ ⟨.tup [],H3,m3⟩):=by
 cases ck
 ·obtain⟨rfl,rfl⟩:=he (.inl rfl);clear he ha
  rcases l with _|⟨x,l⟩ <;>
  ·refine iS [10] [] (x:=qS.of Tryz.f178 vL rf) (by kernel_rfl) (ob hk ?_);refine lo hl ?_;rintro ex s ⟨rfl,rfl⟩;refine⟨_,rfl,?_⟩;exact fi
 cases cg
 ·have ha2:=ha rfl rfl;clear he ha
  rcases l with _|⟨x,l⟩ <;>
  ·refine iS [10,15] [] (x:=qS.of Tryz.f178 vL rf) (by kernel_rfl) (ob hk (ox hg (oh ha2 ?_)));refine lo hl ?_;rintro ex s ⟨rfl,rfl⟩;refine⟨_,rfl,?_⟩;exact fi
 obtain⟨rfl,rfl⟩:=he (.inr rfl);clear he ha
 rcases l with _|⟨x,l⟩ <;>
 ·refine iS [10,15] [] (x:=qS.of Tryz.f178 vL rf) (by kernel_rfl) (ob hk (ox hg ?_));refine lo hl ?_;rintro ex s ⟨rfl,rfl⟩;refine⟨_,rfl,?_⟩;exact fi
def gr (b:Nat) (s:List Int):Prop:=s.Pairwise (·<=·)/\s.length<=b
theorem countP_split {l:List Int} {x:Int} (hs:l.Pairwise (·<=·)):(∀y∈l.take (l.countP (· < x)),y < x)/\(∀y∈l.drop (l.countP (· < x)),x<=y):=by
 induction l with
 | nil=>simp
 | cons a r ih=>
  obtain⟨h1,h2⟩:=ih (List.Pairwise.of_cons hs)
  by_cases ha:a < x
  ·rw[List.countP_cons_of_pos (by simpa using ha)];refine⟨?_,?_⟩
   ·intro y hy;simp only[List.take_succ_cons,List.mem_cons] at hy
    rcases hy with rfl|hy
    ·exact ha
    exact h1 y hy
   simpa only[List.drop_succ_cons] using h2
  have h0:(a::r).countP (· < x)=0:=by
   rw[List.countP_eq_zero];intro y hy;have hay:a<=y:=by
    rcases List.mem_cons.1 hy with rfl|hy
    ·exact Int.le_refl _
    exact List.rel_of_pairwise_cons hs hy
   simp only[decide_eq_true_eq];omega
  rw[h0];refine⟨by simp,?_⟩;intro y hy;simp only[List.drop_zero] at hy;have hay:a<=y:=by
   rcases List.mem_cons.1 hy with rfl|hy
   ·exact Int.le_refl _
   exact List.rel_of_pairwise_cons hs hy
  omega
theorem Mn {b:Nat} {s:List Int} {x:Int} (h:gr b s):gr (b+1) (jc s x):=by
 obtain⟨h1,h2⟩:=h;unfold jc
 cases s.contains x with
 | true=>exact⟨h1,Nat.le_succ_of_le h2⟩
 | false=>
  obtain⟨c1,c2⟩:=countP_split (x:=x) h1;refine⟨?_,?_⟩
  ·unfold fw;rw[List.pairwise_append];refine⟨h1.sublist (List.take_sublist _ _),?_,?_⟩
   ·rw[List.pairwise_cons];exact⟨c2,h1.sublist (List.drop_sublist _ _)⟩
   intro y hy z hz
   have:=c1 y hy
   rcases List.mem_cons.1 hz with rfl|hz
   ·omega
   have:=c2 z hz
   omega
  rw[uz List.countP_le_length];omega
theorem zE {b:Nat} {k ix:Int} {u:Nat} {s:List Int} (h:gr b s):gr (b+1) (eP k ix u s):=by
 unfold eP
 cases aB k 5 with
 | false=>exact⟨h.1,Nat.le_succ_of_le h.2⟩
 | true=>
  cases aF ix (ofNat u) with
  | true=>exact⟨h.1,Nat.le_succ_of_le h.2⟩
  | false=>exact Mn h
mutual
theorem V4:∀(t:Ty) (u:Nat) {b:Nat} {s:List Int},gr b s->gr (b+t.size) (t.cf u s)
 | .mk k nm ix l,u,b,s,h=>by
  rw[Ty.cf,Ty.size,show b+(aQ l+1)=b+1+aQ l by omega];exact EO l u (zE h)
theorem EO {k:Int}:∀(l:List Ty) {j:Nat} (u:Nat) {b:Nat} {s:List Int},gr b s->gr (b+aQ l) (se k l j u s)
 | [],j,u,b,s,h=>by simpa [se,aQ] using h
 | t::r,j,u,b,s,h=>by
  rw[se,aQ,←Nat.add_assoc];exact EO r u (V4 t _ h)
end
def CF (t:Ty) (u:Nat) (s:List Int):Prop:=∀r m,0 < r->0 < m->KC 178 [.dat t.enc,iv (ofNat u),sP] (hS r s) m (XQ ⟨.tup [],hS m (t.cf u s),m+1⟩)
def FK (r m:Nat):Nat->Nat
 | 0=>r
 | i+1=>m+i
theorem FJ {r m i:Nat} (h1:0 < r) (h2:0 < m):0 < FK r m i:=by cases i with|zero=>exact h1|succ i=>simp only[FK];omega
theorem Xn {f:FuncId} {args:List ac} {h0:Heap} {m q mm:Nat} {s:List Int} (hm:0 < m) (hq:0 < q) (h:KC f args h0 m (XQ ⟨.tup [],hS q s,mm⟩)):KC f args h0 m (XQ ⟨.tup [],hS m s,m+1⟩):=by
 refine ay.rn h ?_;rintro v hp m' ⟨rfl,rfl,rfl⟩;refine⟨[q],rfl,?_,?_⟩
 all_goals
  have e1:ot 0 [q]=false:=by cases q with|zero=>omega|succ q=>rfl
  have e2:ot q [q]=true:=by simp[ot]
  have e3:lr m [q] 0=true:=by simp[lr,Nat.blt_eq,hm]
  have e4:lr m [q] q=true:=by simp[lr,e2]
  have e5:BP m [q] 0=0:=by simp[BP,e1]
  have e6:BP m [q] q=m:=by simp[BP,e2,AI]
 ·cases s with
  | nil=>simp[hS,dN,Sr,VN,mE,Nz,e3]
  | cons x l=>simp[hS,dN,Sr,VN,mE,Nz,e3,e4,tQ]
 ·cases s with
  | nil=>simp[hS,dN,jJ,pW,wX,il,fx,e3,e5];exact⟨rfl,rfl,rfl⟩
  | cons x l=>simp[hS,dN,jJ,pW,wX,il,fx,e3,e4,e5,e6,fJ];exact⟨rfl,rfl,rfl⟩
theorem UR {k:Int} {nm:List UInt8} {ix:Int} {l:List Ty} {u b:Nat} {s:List Int} (hs:gr b s) (hbd:b+1+aQ l < 1000000000) (hu:u < 1000000000) (hix:aB k 5=true->aF ix 9223372036854775808=true)
  (ih:∀t∈l,∀v s2,v<=u+1->gr (b+1+aQ l) s2->(∃b2,gr b2 s2/\b2+t.size<=b+1+aQ l)->CF t v s2):CF (.mk k nm ix l) u s:=by
 intro r m hr hm;have hlen:=gw l;obtain⟨r2,m2,hr2,hm2,hH2⟩:∃r2 m2,0 < r2/\0 < m2/\((aB k 5=true->aF ix (ofNat u)=false->KC 195 [sP,iv (an .i64 (ix - ofNat u))] (hS r s) m (XQ ⟨.tup [],hS r2 (eP k ix u s),m2⟩))/\(aB k 5=false∨aF ix (ofNat u)=true->hS r2 (eP k ix u s)=hS r s/\m2=m)):=by
  unfold eP
  cases hk:aB k 5 with
  | false=>exact⟨r,m,hr,hm,by simp,fun _=>⟨rfl,rfl⟩⟩
  | true=>
   cases hg:aF ix (ofNat u) with
   | true=>exact⟨r,m,hr,hm,by simp,fun _=>⟨rfl,rfl⟩⟩
   | false=>
    refine⟨m,m+1,hm,by omega,fun _ _=>?_,by simp⟩;have hix:=hix hk;rw[dA] at hg hix;simp only[decide_eq_false_iff_not,decide_eq_true_eq] at hg hix;have e:an .i64 (ix - ofNat u)=ix - ofNat u:=by
     rw[cQ];simp only[Int.ofNat_eq_natCast] at hg ⊢;exact wrap_i64 (by omega) (by omega)
    rw[e];exact adM hs.1 (by have:=hs.2;omega) r m
 have hs1:=@zE _ k ix u _ hs;refine Xn (q:=FK r2 m2 l.length) (mm:=m2+l.length) hm (FJ hr2 hm2) ?_;have hl:KD (.loop (roundOf Tryz.f178 0)) (fun e s'=>e=.exit 0/\s'=(S0 k nm ix (sl (ax l)) (ax l).length u (hS (FK r2 m2 l.length) (se k l 0 u (eP k ix u s))) (m2+l.length) (ofNat (ax l).length)).al lk)
   ((WI k nm ix (sl (ax l)) (ax l).length u (hS r2 (eP k ix u s)) m2 (ofNat 0)).al lk):=by
  refine bm (St:=fun i=>(WI k nm ix (sl (ax l)) (ax l).length u (hS (FK r2 m2 i) (se k (l.take i) 0 u (eP k ix u s))) (m2+i) (ofNat i)).al lk) (ax l).length ?_ ?_ (i:=0) (Nat.zero_le _)
  ·intro i hi;obtain⟨t,ht,hmem⟩:=get_mem hi;have hi2:=hi;rw[aH] at hi2;have hbn:ey k i<=1:=by unfold ey;split <;> omega
   obtain⟨x,es,hx⟩:∃x es,ax l=x::es:=by
    cases hl:ax l with
    | nil=>rw[hl] at hi;simp at hi
    | cons x es=>exact⟨x,es,rfl⟩
   have hst:=ld ht;have hsl:=tx (l:=l) (i+1);have hpre:gr (b+1+aQ (l.take i)) (se k (l.take i) 0 u (eP k ix u s)):=EO _ u hs1;have hcf:=ih t hmem (u+ey k i) (se k (l.take i) 0 u (eP k ix u s)) (by omega) ⟨hpre.1,by have:=hpre.2;omega⟩ ⟨_,hpre,by omega⟩ (FK r2 m2 i) (m2+i) (FJ hr2 hm2) (by omega);rw[←wrap_add (n:=u) (m:=ey k i) (by omega)] at hcf;have hbi:=Dl k nm ix (.slice (x::es)) (.inr ⟨_,rfl⟩) i;have e:=Ni (T:=xU (fun s'=>s'=(WI k nm ix (sl (ax l)) (ax l).length u (hS (FK r2 m2 (i+1)) (se k (l.take (i+1)) 0 u (eP k ix u s))) (m2+(i+1)) (ofNat (i+1))).al lk)
    (fun e s'=>e=.exit 0/\s'=(S0 k nm ix (sl (ax l)) (ax l).length u (hS (FK r2 m2 l.length) (se k l 0 u (eP k ix u s))) (m2+l.length) (ofNat (ax l).length)).al lk)) hx hi ht hbi hcf (by
     rw[hx,bb (by omega),Hr ht];rfl)
   rw[hx];rw[hx] at e;exact e
  refine RK ⟨rfl,?_⟩;rw[aH,List.take_length]
 exact Nj rfl rfl hH2.1 hH2.2 hl
mutual
theorem Dk:∀(t:Ty) (u:Nat) {b:Nat} {s:List Int},gr b s->b+t.size < 1000000000->u+t.depth < 1000000000->t.fY->CF t u s
 | .mk k nm ix l,u,b,s,hs,hb,hu,hx=>by
  simp only[Ty.size] at hb;simp only[Ty.depth] at hu;simp only[Ty.fY] at hx;exact UR hs (by omega) (by omega) hx.1 (Bl l u (by omega) (by omega) hx.2)
theorem Bl:∀(l:List Ty) (u:Nat) {B:Nat},u+db l+1 < 1000000000->B < 1000000000->fg l->∀t∈l,∀v s2,v<=u+1->gr B s2->(∃b2,gr b2 s2/\b2+t.size<=B)->CF t v s2
 | [],u,B,hu,_,hx,t,ht,_,_,_,_,_=>by simp at ht
 | y::r,u,B,hu,hB,hx,t,ht,v,s2,hv,h1,h2=>by
  simp only[db] at hu;simp only[fg] at hx
  rcases List.mem_cons.1 ht with h3|ht
  ·obtain⟨b2,h4,h5⟩:=h2;rw[h3] at h5 ⊢;exact Dk y v h4 (by omega) (by omega) hx.1
  exact Bl r u (by omega) hB hx.2 t ht v s2 hv h1 h2
end
theorem Q9 {k:Int} {nm:List UInt8} {ix:Int} {l:List ak} {s:List Int} (h:KC 178 [.dat (.agg [i64 k,sb nm,i64 ix,sl l]),iv (ofNat 0),sP] [(.out 0,.cells [.dat nl])] 1 (XQ ⟨.tup [],hS 1 s,2⟩)) :
  KC 147 [.dat (.agg [i64 k,sb nm,i64 ix,sl l])] [] 0 (XQ (match s with|[]=>⟨.dat nl,hS 1 [],2⟩|x::r=>⟨.win (.out 1) 1 0 (x::r).length,hS 1 (x::r),2⟩)):=by
 rcases l with _|⟨y,l⟩ <;>
 ·cases s with
  | nil=>
   exact iS [] [] (x:=qS.of Tryz.f147 Eb En) (by kernel_rfl) (oh h fi)
  | cons x r=>
   exact iS [] [] (x:=qS.of Tryz.f147 Eb En) (by kernel_rfl) (oh h fi)
def iN (x:Int):ak:=.flat (.int .i64 x)
def Ty.fv (t:Ty):List Int:=t.cf 0 []
theorem X8 {t:Ty}:gr (0+t.size) t.fv:=V4 t 0 ⟨List.Pairwise.nil,Nat.le_refl _⟩
theorem J4 {t:Ty} (hs:t.size < 400000000) (hx:t.fY):ae 147 [.dat t.enc] (.dat (sl (t.fv.map iN))):=by
 have h1:=Dk t 0 (s:=[]) ⟨List.Pairwise.nil,Nat.le_refl 0⟩ (by omega) (by have:=oS t;omega) hx 1 1 (by decide) (by decide);have h2:=X8 (t:=t);unfold Ty.fv at h2 ⊢;generalize t.cf 0 []=s at h1 h2;obtain⟨k,nm,ix,l⟩:=t;have h3:=Q9 h1
 cases s with
 | nil=>
  refine ay.rn h3 ?_;rintro v hp m ⟨rfl,rfl,rfl⟩;exact⟨[],rfl,rfl,rfl,rfl,rfl⟩
 | cons x r=>exact ay.UD h3 (by have:=h2.2;simp only[lim];omega)
def ik:List Ty->Bool
 | t::_=>t.closed 0
 | []=>false
def vQ (k:Int) (nm:List UInt8) (ix:Int) (l:List Ty):Bool:=
 if (!aB k 2&&!jP nm [])=true then false
 else if (!aB k 5&&!aB ix 0)=true then false
 else if (aB k 0||aB k 1)=true then aB (ofNat (ax l).length) 0
 else if aB k 2=true then isIdent nm&&(!hJ nm&&(!aF 6 (ofNat (ax l).length)&&!gT l))
 else if aB k 3=true then !aF 6 (ofNat (ax l).length)
 else if aB k 4=true then !aF (ofNat (ax l).length) 2
 else if aB k 5=true then aB (ofNat (ax l).length) 0&&(!aF ix 0&&!aF 200 ix)
 else if aB k 6=true then aB (ofNat (ax l).length) 2&&ik l
 else false
theorem Hu {k:Int} {nm:List UInt8} {ix:Int} {l:List Ty} (hp:∀t∈l,ae 210 [.dat t.enc] (bv t.plain)) (hcl:∀t∈l,ae 204 [.dat t.enc,iv (ofNat 0)] (bv (t.closed 0)))
  (hb:l.length < 1000000000):ae 192 [.dat (Ty.mk k nm ix l).enc] (bv (vQ k nm ix l)):=by
 have hid:=Dj nm;have hrs:=HA nm;have hpa:=@xE k nm ix _ hp hb;have hfc:∀t r,l=t::r->ae 204 [.dat t.enc,iv (ofNat 0)] (bv (ik l)):=by
  rintro t r rfl;exact hcl t (by simp)
 unfold vQ;generalize ik l=fc at hfc;generalize isIdent nm=ci at hid;generalize hJ nm=cr at hrs;generalize gT l=cp at hpa;generalize h0:aB k 0=c0;generalize h1:aB k 1=c1;generalize h2:aB k 2=c2;generalize h3:aB k 3=c3;generalize h4:aB k 4=c4;generalize h5:aB k 5=c5;generalize h6:aB k 6=c6;generalize hn:jP nm []=cn;generalize hx:aB ix 0=cx;generalize hl6:aF 6 (ofNat (ax l).length)=l6;generalize hl2:aF (ofNat (ax l).length) 2=l2;generalize he0:aB (ofNat (ax l).length) 0=e0;generalize he2:aB (ofNat (ax l).length) 2=e2;generalize hx0:aF ix 0=x0;generalize hx2:aF 200 ix=x2;clear hp hcl hb
 rcases l with _|⟨t,r⟩ <;>
 ·refine co [5,9,14,18,24,25,31,53,59,65,81,29,46,57,63,69,73,78,85] [89] (x:=.of Tryz.f192 IQ Lh) ?_;refine bn (b:=!c2) (c:=!aB k 2) (by rw[h2]) (by kernel_rfl) ?_
  cases c2
  ·refine bn (b:=!cn) (c:=!jP nm []) (by rw[hn]) (by kernel_rfl) ?_
   cases cn with
   | false=>exact fi
   | true=>
    refine bn (b:=!c5) (c:=!aB k 5) (by rw[h5]) (by kernel_rfl) ?_
    cases c5
    ·refine bn (b:=!cx) (c:=!aB ix 0) (by rw[hx]) (by kernel_rfl) ?_
     cases cx with
     | false=>exact fi
     | true=>
      refine ob h0 ?_
      cases c0
      ·refine ob h1 ?_
       cases c1
       ·refine ob h2 (ob h3 ?_)
        cases c3
        ·refine ob h4 ?_
         cases c4
         ·refine ob h5 (ob h6 ?_)
          cases c6 with
          | false=>exact fi
          | true=>
           refine ob he2 ?_
           cases e2 with
           | false=>exact fi
           | true=>
            first
            |exact absurd he2 (by decide)
            |have hc:=hfc _ _ rfl
             have hidx:=@pF (t::r) 0 t rfl;obtain⟨k2,nm2,ix2,a2⟩:=t
             rcases a2 with _|⟨b,d⟩ <;>
             ·refine oo hidx (on hc ?_)
              cases fc <;> exact fi
         refine bn (b:=!l2) (c:=!aF _ 2) (by rw[hl2]) (by kernel_rfl) ?_
         cases l2 <;> exact fi
        refine bn (b:=!l6) (c:=!aF 6 _) (by rw[hl6]) (by kernel_rfl) ?_
        cases l6 <;> exact fi
       refine ob he0 ?_
       cases e0 <;> exact fi
      refine ob he0 ?_
      cases e0 <;> exact fi
    refine ob h0 ?_
    cases c0
    ·refine ob h1 ?_
     cases c1
     ·refine ob h2 (ob h3 ?_)
      cases c3
      ·refine ob h4 ?_
       cases c4
       ·refine ob h5 (ob he0 ?_)
        cases e0 with
        | false=>exact fi
        | true=>
         refine bn (b:=!x0) (c:=!aF ix 0) (by rw[hx0]) (by kernel_rfl) ?_
         cases x0
         ·refine bn (b:=!x2) (c:=!aF 200 ix) (by rw[hx2]) (by kernel_rfl) ?_
          cases x2 <;> exact fi
         exact fi
       exact absurd h4 (by rw[cN] at h5 ⊢;simp at h5 ⊢;omega)
      exact absurd h3 (by rw[cN] at h5 ⊢;simp at h5 ⊢;omega)
     exact absurd h1 (by rw[cN] at h5 ⊢;simp at h5 ⊢;omega)
    exact absurd h0 (by rw[cN] at h5 ⊢;simp at h5 ⊢;omega)
  refine bn (b:=!c5) (c:=!aB k 5) (by rw[h5]) (by kernel_rfl) ?_
  cases c5
  ·refine bn (b:=!cx) (c:=!aB ix 0) (by rw[hx]) (by kernel_rfl) ?_
   cases cx with
   | false=>exact fi
   | true=>
    refine ob h0 ?_
    cases c0
    ·refine ob h1 ?_
     cases c1
     ·refine ob h2 (on hid ?_)
      cases ci with
      | false=>exact fi
      | true=>
       refine on hrs ?_
       cases cr
       ·refine bn (b:=!l6) (c:=!aF 6 _) (by rw[hl6]) (by kernel_rfl) ?_
        cases l6
        ·refine on hpa ?_
         cases cp <;> exact fi
        exact fi
       exact fi
     exact absurd h1 (by rw[cN] at h2 ⊢;simp at h2 ⊢;omega)
    exact absurd h0 (by rw[cN] at h2 ⊢;simp at h2 ⊢;omega)
  exact absurd h5 (by rw[cN] at h2 ⊢;simp at h2 ⊢;omega)
mutual
def Ty.valid:Ty->Bool
 | .mk k nm ix l=>vQ k nm ix l&&!pA l
def pA:List Ty->Bool
 | []=>false
 | t::r=>!t.valid||pA r
end
theorem Ds:∀l:List Ty,pA l=l.any (fun t=>!t.valid)
 | []=>by simp[pA]
 | t::r=>by simp[pA,Ds r]
theorem HQ {k:Int} {nm:List UInt8} {ix:Int} {l:List Ty} (hv:∀t∈l,ae 177 [.dat t.enc] (bv t.valid)) (hs:(Ty.mk k nm ix l).size < 1000000000):ae 177 [.dat (Ty.mk k nm ix l).enc] (bv (Ty.mk k nm ix l).valid):=by
 have hsz:aQ l < 1000000000:=by simp only[Ty.size] at hs;omega
 have hb:l.length < 1000000000:=by have:=gw l;omega
 have hdp:=jR l;have h1:=@Hu k nm ix _ (Bj l hsz) (wA l 0 hsz (by omega)) hb;have h2:∀t∈l,ae 194 [.dat t.enc] (bv (!t.valid)):=by
  intro t ht;have hc:=hv t ht;generalize t.valid=c at hc;obtain⟨k2,nm2,ix2,a2⟩:=t
  rcases a2 with _|⟨b,d⟩ <;> cases c <;>
  ·refine co [] [] (x:=.of Tryz.f194 IP Lg) ?_;exact on hc fi
 have h3:=Bu h2 hb;rw[Ty.valid,Ds];generalize l.any (fun t=>!t.valid)=ca at h3;generalize vQ k nm ix l=cn at h1;clear hv hs hsz hb hdp h2
 rcases l with _|⟨b,d⟩ <;>
 ·refine co [] [] (x:=.of Tryz.f177 IU Lk) ?_;refine on h1 ?_
  cases cn with
  | false=>exact fi
  | true=>
   refine on h3 ?_
   cases ca <;> exact fi
mutual
theorem LR:∀t:Ty,t.size < 1000000000->ae 177 [.dat t.enc] (bv t.valid)
 | .mk k nm ix l,h=>HQ (Hv l (by simp only[Ty.size] at h;omega)) h
theorem Hv:∀l:List Ty,aQ l < 1000000000->∀t∈l,ae 177 [.dat t.enc] (bv t.valid)
 | [],_,t,ht=>by simp at ht
 | x::r,h,t,ht=>by
  simp only[aQ] at h
  rcases List.mem_cons.1 ht with h1|ht
  ·rw[h1];exact LR x (by omega)
  exact Hv r (by omega) t ht
end
def Ty.validate (t:Ty):Int:=match aF 200 (ofNat t.size)||aF 12 (ofNat t.depth) with|true=>4|false=>(match t.valid with|true=>0|false=>2)
theorem J1 (t:Ty) (h:t.size < 1000000000):ae 146 [.dat t.enc] (iv t.validate):=by
 have h1:=RP t h;have h2:=LV t h;have h3:=LR t h;unfold Ty.validate;generalize hs:t.size=n at h1 h;generalize t.depth=m at h2;generalize t.valid=c at h3;generalize hn:aF 200 (ofNat n)=cn;generalize hm:aF 12 (ofNat m)=cm;clear hs h;obtain⟨k2,nm2,ix2,a2⟩:=t
 rcases a2 with _|⟨b,d⟩ <;>
 ·refine co [6,10] [] (x:=.of Tryz.f146 IZ Lp) ?_;refine on h1 (ob hn ?_)
  cases cn
  ·refine on h2 (ob hm ?_)
   cases cm
   ·refine on h3 ?_
    cases c <;> exact fi
   exact fi
  exact fi
noncomputable def DE:TI:=match Go.Tp.elemOf ba 22 with|some t=>t|none=>default
theorem HU:Go.Tp.elemOf ba 22=some DE:=by kernel_rfl
theorem kV:DE.size=1:=by kernel_rfl
theorem wb {l:List Int} {i:Nat} {t:Int} (h:l[i]?=some t):ap ba 22 [.dat (.slice (l.map iN)),.dat (.flat (.int .i64 (ofNat i)))]=some ⟨.ref [iN t],.keep⟩:=
 pd (d:=iN t) HU rfl (by rw[List.getElem?_map,h];rfl) (by rw[kV];rfl) (by rw[kV];decide)
def XF (c:Bool) (r m:Int):Int:=match c with|true=>an .i64 (r+m)|false=>r
theorem Tg {n m:Int} (h:aB m 0=false):Ny ba .rem 3 [iv n,iv m]=some ⟨iv (n.tmod m),.keep⟩:=by
 have h1:Ny ba .rem 3 [iv n,iv m]=XC (if aB m 0=true then none else some (.int .i64 (n.tmod m))):=by kernel_rfl
 rw[h1,h];rfl
theorem XE {n m:Int} {c:Bool} (h1:Ny ba .rem 3 [iv n,iv m]=some ⟨iv (n.tmod m),.keep⟩) (h2:aF (n.tmod m) 0=c):ae 28 [iv n,iv m] (iv (XF c (n.tmod m) m)):=by
 refine co [9] [7] (x:=.of Tryz.f28 PD QE) ?_;refine oo h1 (ob h2 ?_)
 cases c <;>
 ·exact fi
theorem V1 (n:Int) {m:Nat} (hm:0 < m) (hb:m < 1000000000):ae 28 [iv n,iv (ofNat m)] (iv (n % ofNat m)):=by
 have h:=XE (n:=n) (m:=ofNat m) (Tg (by rw[cN,beq_eq_false_iff_ne];intro h;have:=Int.ofNat.inj (h.trans (show (0:Int)=ofNat 0 from rfl));omega)) rfl;have e:XF (aF (n.tmod (ofNat m)) 0) (n.tmod (ofNat m)) (ofNat m)=n % ofNat m:=by
  have h0:(0:Int) < ofNat m:=by simp;omega
  have h1:=Int.emod_nonneg n (show ofNat m≠0 by omega);have h2:=Int.emod_lt_of_pos n h0;have h3:ofNat m < 1000000000:=by simp;omega
  rw[dA];have ht:=Int.tmod_eq_emod (a:=n) (b:=ofNat m);generalize ofNat m=M at *;generalize n % M=q at *;rw[ht];unfold XF
  split at ht
  ·rename_i hc;rw[if_pos hc,show ((0:Nat):Int)=0 from rfl,Int.sub_zero];rw[decide_eq_false (by omega)]
  rename_i hc;rw[if_neg hc];have hM:(M.natAbs:Int)=M:=by omega
  rw[hM];rw[decide_eq_true (by omega)];dsimp only;rw[cQ,wrap_i64 (by omega) (by omega)];omega
 rw[e] at h;exact h
def cW (l:List ak) (k:Int):Heap:=[(.out 0,.cells [.dat (.slice l),iv k])]
def cq:ac:=.ptr (.out 0) 0
theorem V2 {l:List ak}:KC 10 [.dat (.slice l)] [] 0 (XQ ⟨cq,cW l 0,1⟩):=by
 refine co [] [] (x:=.of Tryz.f10 P8 QH) ?_;exact fi
theorem KX {l:List ak} {k n x r:Int} {c:Bool} (h1:aF k (ofNat l.length)=c) (h2:c=true->ap ba 22 [.dat (.slice l),.dat (.flat (.int .i64 (an .i64 (an .i64 (k+1) - 1))))]=some ⟨.ref [iN x],.keep⟩) (h3:ae 28 [iv x,iv n] (iv r)) :
  KC 32 [cq,iv n] (cW l k) 1 (XQ ⟨iv (match c with|true=>r|false=>0),cW l (match c with|true=>an .i64 (k+1)|false=>k),1⟩):=by
 refine co [14] [31] (x:=.of Tryz.f32 PB QC) ?_;refine ox h1 ?_
 cases c
 ·exact fi
 exact oo (h2 rfl) (on h3 fi)
theorem aR {l:List Int} {k:Nat} {n:Nat} (hl:l.length < 1000000000) (hk0:k<=l.length) (hn:0 < n) (hb:n < 1000000000) :
  ∃r k2:Nat,(r < n/\k<=k2/\k2<=l.length/\(0 < r->k < k2))/\KC 32 [cq,iv (ofNat n)] (cW (l.map iN) (ofNat k)) 1 (XQ ⟨iv (ofNat r),cW (l.map iN) (ofNat k2),1⟩):=by
 by_cases hk:k < l.length
 ·have hg:l[k]?=some l[k]:=List.getElem?_eq_getElem hk;have hw:an .i64 (ofNat k+1)=ofNat (k+1):=bb (by omega);have hw2:an .i64 (ofNat (k+1) - 1)=ofNat k:=by
   rw[cQ,show ofNat (k+1) - 1=ofNat k by simp];exact wrap_i64 (by show _<=(k:Int);omega) (by show (k:Int)<=_;omega)
  have h0:=Int.emod_nonneg l[k] (show ofNat n≠0 from fun h=>absurd (Int.ofNat.inj (h.trans (show (0:Int)=ofNat 0 from rfl))) (by omega));have h2:=Int.emod_lt_of_pos l[k] (show (0:Int) < ofNat n from Int.ofNat_lt.2 hn);refine⟨(l[k] % ofNat n).toNat,k+1,⟨(Int.toNat_lt h0).2 h2,by omega,by omega,fun _=>by omega⟩,?_⟩;have h:=@KX (l.map iN) (ofNat k) (ofNat n) (l[k]) (l[k] % ofNat n) true (by rw[gv,List.length_map,decide_eq_true hk]) (fun _=>by rw[hw,hw2];exact wb hg) (V1 _ hn hb);dsimp only at h;rw[hw] at h;rw[show ofNat (l[k] % ofNat n).toNat=l[k] % ofNat n from Int.toNat_of_nonneg h0];exact h
 refine⟨0,k,⟨hn,by omega,by omega,fun h=>by omega⟩,?_⟩;exact @KX (l.map iN) (ofNat k) (ofNat n) 0 0 false (by rw[gv,List.length_map,decide_eq_false hk]) (fun h=>by simp at h) (by have:=V1 0 hn hb;rw[Int.zero_emod] at this;exact this)
theorem LX {l:List ac} (h:3<=l.length):cd l=false:=by
 rcases l with _|⟨a,_|⟨b,_|⟨c,r⟩⟩⟩ <;> simp at h
 exact R4 a b c r
noncomputable def tiD:TI:=match Go.Tp.elemOf ba 112 with|some t=>t|none=>default
def cellsD (nm:List UInt8) (ar k:Int) (tn:List UInt8) (ix:Int) (la:List ak) (con:Bool) (lb:List ak):List ac:=[.dat (sb nm),iv ar,iv k,.dat (sb tn),iv ix,.dat (sl la),.dat (bl con),.dat (sl lb)]
theorem SV (l:Nat) (nm:List UInt8) (ar k:Int) (tn:List UInt8) (ix:Int) (la:List ak) (con:Bool) (lb:List ak) :
  cG ba 51 [.ptr (.loc l) 0,.dat (ae9 nm ar k tn ix la con lb)] (some (.cells (cellsD [] 0 0 [] 0 [] false [])))=some ⟨.undef,.set (.cells (cellsD nm ar k tn ix la con lb))⟩:=by
 rcases la with _|⟨x,la⟩ <;> rcases lb with _|⟨y,lb⟩ <;> kernel_rfl
def r3 (c:Int) (cs:List ak) (es:List (Go.Value×ak)) (n:Nat):eX:=⟨iv c,hG 2 (av cs) es n,3⟩
def lJ:List vh->List ak
 | []=>[]
 | d::r=>d.enc::lJ r
theorem A9:∀l:List vh,lJ l=l.map vh.enc
 | []=>by simp[lJ]
 | t::r=>by simp[lJ,A9 r]
theorem Hh (l:List vh):(lJ l).length=l.length:=by simp[A9]
theorem Rt {l:List vh} {i:Nat} {t:vh} (h:l[i]?=some t):(lJ l)[i]?=some t.enc:=by simp[A9,h]
theorem ZB (d:vh):d.enc.cells.length=8:=by obtain⟨a,b,⟨e,f,g,h⟩,i,j⟩:=d;rfl
theorem WA:Go.Tp.elemOf ba 112=some tiD:=by kernel_rfl
theorem Fe:tiD.size=8:=by kernel_rfl
theorem C2 (i:Int):ae 95 [iv i] (.dat (Ty.mk 5 [] i []).enc):=by
 refine co [] [] (x:=.of Tryz.f95 Pr Qq) ?_;exact fi
theorem C3:ae 104 [] (.dat (Ty.mk 0 [] 0 []).enc):=by
 refine co [] [] (x:=.of Tryz.f104 Ee Eo) ?_;exact fi
theorem Ux:ae 140 [] (.dat (Ty.mk 1 [] 0 []).enc):=by
 refine co [] [] (x:=.of Tryz.f140 I1 Lr) ?_;exact fi
theorem qq (nm:List UInt8):ae 96 [.dat (sb nm),.dat nl] (.dat (Ty.mk 2 nm 0 []).enc):=by
 refine co [] [] (x:=.of Tryz.f96 KN Jk) ?_;exact fi
theorem AO (nm:List UInt8) (x:ak) (l:List ak):ae 96 [.dat (sb nm),.dat (.slice (x::l))] (.dat (.agg [i64 2,sb nm,i64 0,.slice (x::l)])):=by
 refine co [] [] (x:=.of Tryz.f96 KN Jk) ?_;exact fi
theorem LK (x:ak) (l:List ak):ae 138 [.dat (.slice (x::l))] (.dat (.agg [i64 4,sb [],i64 0,.slice (x::l)])):=by
 refine co [] [] (x:=.of Tryz.f138 I3 Lt) ?_;exact fi
theorem qs (t u:Ty):ae 139 [.dat t.enc,.dat u.enc] (.dat (Ty.mk 6 [] 0 [t,u]).enc):=by
 refine co [] [] (x:=.of Tryz.f139 I2 Ls) ?_;obtain⟨v0,v1,v2,v3⟩:=t
 rcases v3 with _|⟨v10,v11⟩
 ·obtain⟨v4,v5,v6,v7⟩:=u
  rcases v7 with _|⟨v8,v9⟩ <;>
  ·exact fi
 obtain⟨v12,v13,v14,v15⟩:=u
 rcases v15 with _|⟨v16,v17⟩ <;>
 ·exact fi
theorem Ro {L:List (List UInt8)} {i:Nat} {b:List UInt8} (h:L[i]?=some b):(encS L)[i]?=some (sb b):=by simp[encS,h,sb]
noncomputable def tiS:TI:=match Go.Tp.elemOf ba 70 with|some t=>t|none=>default
theorem Wz:Go.Tp.elemOf ba 70=some tiS:=by kernel_rfl
theorem Fa:tiS.size=1:=by kernel_rfl
theorem uB {L:List (List UInt8)} {i:Nat} {b:List UInt8} (h:L[i]?=some b):ap ba 70 [.dat (.slice (encS L)),.dat (.flat (.int .i64 (ofNat i)))]=some ⟨.ref [sb b],.keep⟩:=
 pd Wz rfl (Ro h) (by rw[Fa];rfl) (by rw[Fa];decide)
theorem VU {l:List vh} {i:Nat} {t:vh} (h:l[i]?=some t):ap ba 112 [.dat (.slice (lJ l)),.dat (.flat (.int .i64 (ofNat i)))]=some ⟨.ref t.cells,.keep⟩:=
 pd WA rfl (Rt h) (by rw[Fe];exact ZB t) (by rw[Fe];decide)
theorem Qk {l ds:List ak} {k k2:Int} {r v dp:Int} {b:List UInt8} (h1:KC 32 [cq,iv (an .i64 (ofNat ds.length+4))] (cW l k) 1 (XQ ⟨iv r,cW l k2,1⟩)) (h2:aF r 4=true)
  (hi:ap ba 70 [.dat (.slice (encS lq)),.dat (.flat (.int .i64 r))]=some ⟨.ref [sb b],.keep⟩) :
  KC 137 [cq,.dat (.slice ds),iv dp,iv v] (cW l k) 1 (XQ ⟨.dat (Ty.mk 2 b 0 []).enc,cW l k2,1⟩):=by
 have h3:=qq b;refine co [19] [22] (x:=.of Tryz.f137 Af uh) ?_;exact oh h1 (ob h2 (oo hi (on h3 fi)))
noncomputable def QY:Hints:=⟨bV,Af,bi,rowsOf bi 137⟩
def XG (lo:Heap) (nm:List UInt8) (pre:List Ty):Heap:=(.loc 11,.cells [iv 2,.dat (sb nm),iv 0,abQ pre])::lo
def Ji (cs:List ac):Heap:=[(.loc 10,.cells cs),(.loc 8,.cells [iv 0,.dat (sb []),iv 0,.dat nl])]
def Oe (lo:Heap) (l ds:List ak) (dp v K i:Int):ab:=⟨[(12,iv i),(11,.ptr (.loc 11) 0),(10,.ptr (.loc 10) 0),(8,.ptr (.loc 8) 0),(0,cq),(1,.dat (.slice ds)),(2,iv dp),(3,iv v)],lo,cW l K,1⟩
def Vq (lo:Heap) (l ds:List ak) (dp v K i:Int):ab:=⟨[(36,bv false),(12,iv i),(11,.ptr (.loc 11) 0),(10,.ptr (.loc 10) 0),(8,.ptr (.loc 8) 0),(0,cq),(1,.dat (.slice ds)),(2,iv dp),(3,iv v)],lo,cW l K,1⟩
theorem Qg {l ds:List ak} {dp v K K2 ar i kk ix:Int} {nm tn:List UInt8} {con:Bool} {la lb:List ak} {pre:List Ty} {t:Ty} (h1:aF i ar=true)
  (h2:KC 173 [cq,.dat (.slice ds),iv (an .i64 (dp - 1)),iv v] (cW l K) 1 (XQ ⟨.dat t.enc,cW l K2,1⟩)) (hp:pre.length < 1000000000) {T:ej}
  (e:T .normal ((Oe (XG (Ji (cellsD nm ar kk tn ix la con lb)) nm (pre++[t])) l ds dp v K2 (an .i64 (i+1))).al sJ)) :
  KD (roundOf Tryz.f137 0) T ((Oe (XG (Ji (cellsD nm ar kk tn ix la con lb)) nm pre) l ds dp v K i).al sJ):=by
 have h3:=U5 (t:=t) hp;clear hp
 rcases pre with _|⟨d,r⟩ <;>
 ·refine aq [36] [48] (H:=QY) (live:=uh) (ob h1 (oh h2 ?_));obtain⟨v0,v1,v2,v3⟩:=t;exact oo h3 (oe e)
theorem TC {l ds:List ak} {dp v K ar i kk ix:Int} {nm tn:List UInt8} {con:Bool} {la lb:List ak} {pre:List Ty} (h1:aF i ar=false) {T:ej}
  (e:T (.exit 0) ((Vq (XG (Ji (cellsD nm ar kk tn ix la con lb)) nm pre) l ds dp v K i).al sJ)) :
  KD (roundOf Tryz.f137 0) T ((Oe (XG (Ji (cellsD nm ar kk tn ix la con lb)) nm pre) l ds dp v K i).al sJ):=by
 rcases pre with _|⟨d,r⟩ <;>
 ·exact aq [36] [] (H:=QY) (live:=uh) (ob h1 (oe e))
theorem Ql {l:List ak} {ds:List ak} {k k2 k3:Int} {r v dp:Int} {nm tn:List UInt8} {ar kk ix ie:Int} {con:Bool} {la lb:List ak} {ts:List Ty} (h1:KC 32 [cq,iv (an .i64 (ofNat ds.length+4))] (cW l k) 1 (XQ ⟨iv r,cW l k2,1⟩)) (h2:aF r 4=false)
  (hi:ap ba 112 [.dat (.slice ds),.dat (.flat (.int .i64 (an .i64 (r - 4))))]=some ⟨.ref [sb nm,i64 ar,i64 kk,sb tn,i64 ix,sl la,bl con,sl lb],.keep⟩)
  (hl:KD (.loop (roundOf Tryz.f137 0)) (fun e s=>e=.exit 0/\s=(Vq (XG (Ji (cellsD nm ar kk tn ix la con lb)) nm ts) l ds dp v k3 ie).al sJ) ((Oe (XG (Ji (cellsD nm ar kk tn ix la con lb)) nm []) l ds dp v k2 0).al sJ)) :
  KC 137 [cq,.dat (.slice ds),iv dp,iv v] (cW l k) 1 (XQ ⟨.dat (Ty.mk 2 nm 0 ts).enc,cW l k3,1⟩):=by
 have q1:=SV 10 nm ar kk tn ix la con lb
 rcases ts with _|⟨t,ts⟩ <;>
 ·refine co [19] [28,100010] (x:=.of Tryz.f137 Af uh) ?_;refine oh h1 (ob h2 (oo hi (oo q1 ?_)));refine lo hl ?_;rintro ex s ⟨rfl,rfl⟩;refine⟨_,rfl,?_⟩;exact fi
theorem U3 {l ds:List ak} {k k2 k3 r v dp i:Int} (h1:KC 32 [cq,iv 6] (cW l k) 1 (XQ ⟨iv r,cW l k2,1⟩)) (h2:aF r 2=true) (h3:aF 0 v=true) (h4:KC 32 [cq,iv v] (cW l k2) 1 (XQ ⟨iv i,cW l k3,1⟩)) :
  KC 173 [cq,.dat (.slice ds),iv dp,iv v] (cW l k) 1 (XQ ⟨.dat (Ty.mk 5 [] i []).enc,cW l k3,1⟩):=by
 have h5:=C2 i;refine co [14,17] [] (x:=.of Tryz.f173 qa oy) ?_;exact oh h1 (ob h2 (ob h3 (oh h4 (on h5 fi))))
theorem Sd {l ds:List ak} {k k2 k3 r v dp i:Int} {b:List UInt8} {c2 c3:Bool} (h1:KC 32 [cq,iv 6] (cW l k) 1 (XQ ⟨iv r,cW l k2,1⟩)) (h2:aF r 2=c2) (h3:aF 0 v=c3) (hc:c2=true->c3=false) (hd:aF 0 dp=false) (h4:KC 32 [cq,iv 4] (cW l k2) 1 (XQ ⟨iv i,cW l k3,1⟩))
  (hi:ap ba 70 [.dat (.slice (encS lq)),.dat (.flat (.int .i64 i))]=some ⟨.ref [sb b],.keep⟩) :
  KC 173 [cq,.dat (.slice ds),iv dp,iv v] (cW l k) 1 (XQ ⟨.dat (Ty.mk 2 b 0 []).enc,cW l k3,1⟩):=by
 have h5:=qq b
 cases c2
 ·refine co [14,25] [29] (x:=.of Tryz.f173 qa oy) ?_;exact oh h1 (ob h2 (ox hd (oh h4 (oo hi (on h5 fi)))))
 obtain rfl:=hc rfl;refine co [14,17,25] [29] (x:=.of Tryz.f173 qa oy) ?_;exact oh h1 (ob h2 (ob h3 (ox hd (oh h4 (oo hi (on h5 fi))))))
theorem Nt {l ds:List ak} {k k2 k3 r v dp:Int} {t:Ty} {c2 c3:Bool} (h1:KC 32 [cq,iv 6] (cW l k) 1 (XQ ⟨iv r,cW l k2,1⟩)) (h2:aF r 2=c2) (h3:aF 0 v=c3) (hc:c2=true->c3=false) (hd:aF 0 dp=true) (h4:aF r 4=true)
  (h5:KC 137 [cq,.dat (.slice ds),iv dp,iv v] (cW l k2) 1 (XQ ⟨.dat t.enc,cW l k3,1⟩)) :
  KC 173 [cq,.dat (.slice ds),iv dp,iv v] (cW l k) 1 (XQ ⟨.dat t.enc,cW l k3,1⟩):=by
 obtain⟨ek,en,ei,ea⟩:=t
 cases c2
 ·rcases ea with _|⟨x,ea⟩ <;>
  ·refine co [14,25,34] [] (x:=.of Tryz.f173 qa oy) ?_;exact oh h1 (ob h2 (ox hd (ob h4 (oh h5 fi))))
 obtain rfl:=hc rfl
 rcases ea with _|⟨x,ea⟩ <;>
 ·refine co [14,17,25,34] [] (x:=.of Tryz.f173 qa oy) ?_;exact oh h1 (ob h2 (ob h3 (ox hd (ob h4 (oh h5 fi)))))
theorem Sb {l ds:List ak} {k k2 k3 r v dp:Int} {t:Ty} (h1:KC 32 [cq,iv 6] (cW l k) 1 (XQ ⟨iv r,cW l k2,1⟩)) (h2:aF r 2=false) (hd:aF 0 dp=true) (h4:aF r 4=false)
  (h5:KC 94 [cq,.dat (.slice ds),iv (an .i64 (dp - 1)),iv 0] (cW l k2) 1 (XQ ⟨.dat t.enc,cW l k3,1⟩)) :
  KC 173 [cq,.dat (.slice ds),iv dp,iv v] (cW l k) 1 (XQ ⟨.dat t.enc,cW l k3,1⟩):=by
 obtain⟨ek,en,ei,ea⟩:=t
 rcases ea with _|⟨x,ea⟩ <;>
 ·refine co [14,25,34] [] (x:=.of Tryz.f173 qa oy) ?_;exact oh h1 (ob h2 (ox hd (ob h4 (oh h5 fi))))
abbrev dR (l:List ak) (k n r k2:Int):Prop:=KC 32 [cq,iv n] (cW l k) 1 (XQ ⟨iv r,cW l k2,1⟩)
abbrev eC (l ds:List ak) (dp v k:Int) (d:ak) (k2:Int):Prop:=KC 94 [cq,.dat (.slice ds),iv dp,iv v] (cW l k) 1 (XQ ⟨.dat d,cW l k2,1⟩)
abbrev wP (l ds:List ak) (dp v k:Int) (d:ak) (k2:Int):Prop:=KC 137 [cq,.dat (.slice ds),iv dp,iv v] (cW l k) 1 (XQ ⟨.dat d,cW l k2,1⟩)
theorem yR {l ds:List ak} {k k2 k3 v dp i:Int} {c:Bool} {b:List UInt8} (h1:dR l k 14 0 k2) (h2:aF 0 dp=c) (h4:dR l k2 4 i k3)
  (hi:ap ba 70 [.dat (.slice (encS lq)),.dat (.flat (.int .i64 i))]=some ⟨.ref [sb b],.keep⟩):eC l ds dp v k (Ty.mk 2 b 0 []).enc k3:=by
 have h5:=qq b;refine co [17] [29] (x:=.of Tryz.f94 gd eF) ?_;refine oh h1 (ox h2 ?_)
 cases c <;>
 ·exact oh h4 (oo hi (on h5 fi))
theorem yQ {l ds:List ak} {k k2 k3 v dp i:Int} {c:Bool} {b:List UInt8} (h1:dR l k 14 1 k2) (h2:aF 0 dp=c) (h4:dR l k2 4 i k3)
  (hi:ap ba 70 [.dat (.slice (encS lq)),.dat (.flat (.int .i64 i))]=some ⟨.ref [sb b],.keep⟩):eC l ds dp v k (Ty.mk 2 b 0 []).enc k3:=by
 have h5:=qq b;refine co [17] [29] (x:=.of Tryz.f94 gd eF) ?_;refine oh h1 (ox h2 ?_)
 cases c <;>
 ·exact oh h4 (oo hi (on h5 fi))
theorem L6 {l ds:List ak} {k k2 k3 v dp i r:Int} {b:List UInt8} (h1:dR l k 14 r k2) (h2:aF 0 dp=false) (h3:aF 5 r=true) (h4:dR l k2 4 i k3)
  (hi:ap ba 70 [.dat (.slice (encS lq)),.dat (.flat (.int .i64 i))]=some ⟨.ref [sb b],.keep⟩):eC l ds dp v k (Ty.mk 2 b 0 []).enc k3:=by
 have h5:=qq b;refine co [17,20] [29] (x:=.of Tryz.f94 gd eF) ?_;exact oh h1 (ox h2 (ob h3 (oh h4 (oo hi (on h5 fi)))))
theorem Fh {l ds:List ak} {k k2 v dp:Int} {c:Bool} (h1:dR l k 14 2 k2) (h2:aF 0 dp=c):eC l ds dp v k (Ty.mk 0 [] 0 []).enc k2:=by
 have h5:=C3;refine co [17] [] (x:=.of Tryz.f94 gd eF) ?_;refine oh h1 (ox h2 ?_)
 cases c <;>
 ·exact on h5 fi
theorem Cd {l ds:List ak} {k k2 k3 v dp i:Int} {c:Bool} (h1:dR l k 14 3 k2) (h2:aF 0 dp=c) (h3:aF 0 v=true) (h4:dR l k2 v i k3):eC l ds dp v k (Ty.mk 5 [] i []).enc k3:=by
 have h5:=C2 i;refine co [17,39] [] (x:=.of Tryz.f94 gd eF) ?_;refine oh h1 (ox h2 ?_)
 cases c <;>
 ·exact ob h3 (oh h4 (on h5 fi))
theorem Cg {l ds:List ak} {k k2 k3 v dp:Int} {c:Bool} {t:Ty} (h1:dR l k 14 3 k2) (h2:aF 0 dp=c) (h3:aF 0 v=false) (h4:wP l ds dp v k2 t.enc k3):eC l ds dp v k t.enc k3:=by
 obtain⟨ek,en,ei,ea⟩:=t
 rcases ea with _|⟨x,ea⟩ <;>
 ·refine co [17,39] [] (x:=.of Tryz.f94 gd eF) ?_;refine oh h1 (ox h2 ?_)
  cases c <;>
  ·exact ob h3 (oh h4 fi)
theorem Cc {l ds:List ak} {k k2 k3 v dp i:Int} {c:Bool} (h1:dR l k 14 4 k2) (h2:aF 0 dp=c) (h3:aF 0 v=true) (h4:dR l k2 v i k3):eC l ds dp v k (Ty.mk 5 [] i []).enc k3:=by
 have h5:=C2 i;refine co [17,39] [] (x:=.of Tryz.f94 gd eF) ?_;refine oh h1 (ox h2 ?_)
 cases c <;>
 ·exact ob h3 (oh h4 (on h5 fi))
theorem Cf {l ds:List ak} {k k2 k3 v dp:Int} {c:Bool} {t:Ty} (h1:dR l k 14 4 k2) (h2:aF 0 dp=c) (h3:aF 0 v=false) (h4:wP l ds dp v k2 t.enc k3):eC l ds dp v k t.enc k3:=by
 obtain⟨ek,en,ei,ea⟩:=t
 rcases ea with _|⟨x,ea⟩ <;>
 ·refine co [17,39] [] (x:=.of Tryz.f94 gd eF) ?_;refine oh h1 (ox h2 ?_)
  cases c <;>
  ·exact ob h3 (oh h4 fi)
theorem Ce {l ds:List ak} {k k2 k3 v dp:Int} {c:Bool} {t:Ty} (h1:dR l k 14 5 k2) (h2:aF 0 dp=c) (h4:wP l ds dp v k2 t.enc k3):eC l ds dp v k t.enc k3:=by
 obtain⟨ek,en,ei,ea⟩:=t
 rcases ea with _|⟨x,ea⟩ <;>
 ·refine co [17] [] (x:=.of Tryz.f94 gd eF) ?_;refine oh h1 (ox h2 ?_)
  cases c <;>
  ·exact oh h4 fi
theorem L5 {l ds:List ak} {k k2 k3 v dp:Int} {t:Ty} (h1:dR l k 14 6 k2) (h2:aF 0 dp=true) (h4:wP l ds dp v k2 t.enc k3):eC l ds dp v k t.enc k3:=by
 obtain⟨ek,en,ei,ea⟩:=t
 rcases ea with _|⟨x,ea⟩ <;>
 ·refine co [17] [] (x:=.of Tryz.f94 gd eF) ?_;exact oh h1 (ox h2 (oh h4 fi))
theorem L4 {l ds:List ak} {k k2 k3 v dp:Int} {t:Ty} (h1:dR l k 14 7 k2) (h2:aF 0 dp=true) (h4:wP l ds dp v k2 t.enc k3):eC l ds dp v k t.enc k3:=by
 obtain⟨ek,en,ei,ea⟩:=t
 rcases ea with _|⟨x,ea⟩ <;>
 ·refine co [17] [] (x:=.of Tryz.f94 gd eF) ?_;exact oh h1 (ox h2 (oh h4 fi))
theorem NX {l ds:List ak} {k k2 k3 k4 v dp:Int} {t u:Ty} (h1:dR l k 14 8 k2) (h2:aF 0 dp=true) (h4:eC l ds (an .i64 (dp - 1)) v k2 t.enc k3) (h5:eC l ds (an .i64 (dp - 1)) v k3 u.enc k4):eC l ds dp v k (Ty.mk 4 [] 0 [t,u]).enc k4:=by
 have h6:=LK t.enc [u.enc];obtain⟨ek,en,ei,ea⟩:=t;obtain⟨uk,un,ui,ua⟩:=u
 rcases ea with _|⟨x,ea⟩ <;>
 ·rcases ua with _|⟨y,ua⟩ <;>
  ·refine co [17] [] (x:=.of Tryz.f94 gd eF) ?_;exact oh h1 (ox h2 (oh h4 (oh h5 (on h6 fi))))
theorem NW {l ds:List ak} {k k2 k3 k4 v dp:Int} {t u:Ty} (h1:dR l k 14 9 k2) (h2:aF 0 dp=true) (h4:eC l ds (an .i64 (dp - 1)) v k2 t.enc k3) (h5:eC l ds (an .i64 (dp - 1)) v k3 u.enc k4):eC l ds dp v k (Ty.mk 4 [] 0 [t,u]).enc k4:=by
 have h6:=LK t.enc [u.enc];obtain⟨ek,en,ei,ea⟩:=t;obtain⟨uk,un,ui,ua⟩:=u
 rcases ea with _|⟨x,ea⟩ <;>
 ·rcases ua with _|⟨y,ua⟩ <;>
  ·refine co [17] [] (x:=.of Tryz.f94 gd eF) ?_;exact oh h1 (ox h2 (oh h4 (oh h5 (on h6 fi))))
noncomputable def VV:Hints:=⟨bV,gd,bi,rowsOf bi 94⟩
def ab0 (pre:List Ty):Heap:=[(.loc 10,.cells [iv 3,.dat (sb []),iv 0,abQ pre]),(.loc 8,.cells [iv 0,.dat (sb []),iv 0,.dat nl])]
def Ig (l ds:List ak) (dp v n K i:Int) (pre:List Ty):ab:=⟨[(12,iv i),(11,iv n),(10,.ptr (.loc 10) 0),(8,.ptr (.loc 8) 0),(0,cq),(1,.dat (.slice ds)),(2,iv dp),(3,iv v)],ab0 pre,cW l K,1⟩
def Ko (l ds:List ak) (dp v n K i:Int) (pre:List Ty):ab:=⟨[(83,bv false),(12,iv i),(11,iv n),(10,.ptr (.loc 10) 0),(8,.ptr (.loc 8) 0),(0,cq),(1,.dat (.slice ds)),(2,iv dp),(3,iv v)],ab0 pre,cW l K,1⟩
theorem NR {l ds:List ak} {dp v n K K2 i:Int} {pre:List Ty} {t:Ty} (h1:aF i n=true) (h2:eC l ds (an .i64 (dp - 1)) v K t.enc K2) (hp:pre.length < 1000000000) {T:ej}
  (e:T .normal ((Ig l ds dp v n K2 (an .i64 (i+1)) (pre++[t])).al qg)) :
  KD (roundOf Tryz.f94 0) T ((Ig l ds dp v n K i pre).al qg):=by
 have h3:=U5 (t:=t) hp;clear hp
 rcases pre with _|⟨d,r⟩ <;>
 ·refine aq [83] [95] (H:=VV) (live:=eF) (ob h1 (oh h2 ?_));obtain⟨v0,v1,v2,v3⟩:=t;exact oo h3 (oe e)
theorem SN {l ds:List ak} {dp v n K i:Int} {pre:List Ty} (h1:aF i n=false) {T:ej}
  (e:T (.exit 1) ((Ko l ds dp v n K i pre).al qg)) :
  KD (roundOf Tryz.f94 0) T ((Ig l ds dp v n K i pre).al qg):=by
 rcases pre with _|⟨d,r⟩ <;>
 ·exact aq [83] [] (H:=VV) (live:=eF) (ob h1 (oe e))
theorem HY {l ds:List ak} {k k2 k3 k4 v dp n ie:Int} {ts:List Ty} (h1:dR l k 14 10 k2) (h2:aF 0 dp=true) (h4:dR l k2 4 n k3)
  (hl:KD (.loop (roundOf Tryz.f94 0)) (fun e s=>e=.exit 1/\s=(Ko l ds dp v n k4 ie ts).al qg) ((Ig l ds dp v n k3 0 []).al qg)):eC l ds dp v k (Ty.mk 3 [] 0 ts).enc k4:=by
 rcases ts with _|⟨x,ea⟩ <;>
 ·refine co [17] [] (x:=.of Tryz.f94 gd eF) ?_;refine oh h1 (ox h2 (oh h4 ?_));refine lo hl ?_;rintro ex s ⟨rfl,rfl⟩;refine⟨_,rfl,?_⟩;exact fi
theorem HX {l ds:List ak} {k k2 k3 k4 v dp n ie:Int} {ts:List Ty} (h1:dR l k 14 11 k2) (h2:aF 0 dp=true) (h4:dR l k2 4 n k3)
  (hl:KD (.loop (roundOf Tryz.f94 0)) (fun e s=>e=.exit 1/\s=(Ko l ds dp v n k4 ie ts).al qg) ((Ig l ds dp v n k3 0 []).al qg)):eC l ds dp v k (Ty.mk 3 [] 0 ts).enc k4:=by
 rcases ts with _|⟨x,ea⟩ <;>
 ·refine co [17] [] (x:=.of Tryz.f94 gd eF) ?_;refine oh h1 (ox h2 (oh h4 ?_));refine lo hl ?_;rintro ex s ⟨rfl,rfl⟩;refine⟨_,rfl,?_⟩;exact fi
theorem NZ {l ds:List ak} {k k2 k3 k4 v dp:Int} {u:Ty} (h1:dR l k 14 12 k2) (h2:aF 0 dp=true) (h4:dR l k2 2 0 k3) (h5:eC l ds (an .i64 (dp - 1)) (an .i64 (v+1)) k3 u.enc k4):eC l ds dp v k (Ty.mk 6 [] 0 [.mk 0 [] 0 [],u]).enc k4:=by
 have h6:=C3;have h7:=qs (.mk 0 [] 0 []) u;obtain⟨uk,un,ui,ua⟩:=u
 rcases ua with _|⟨y,ua⟩ <;>
 ·refine co [17] [] (x:=.of Tryz.f94 gd eF) ?_;exact oh h1 (ox h2 (on h6 (oh h4 (oh h5 (on h7 fi)))))
theorem NY {l ds:List ak} {k k2 k3 k4 k5 v dp:Int} {t u:Ty} (h1:dR l k 14 12 k2) (h2:aF 0 dp=true) (h3:dR l k2 2 1 k3) (h4:eC l ds 1 0 k3 t.enc k4) (h5:eC l ds (an .i64 (dp - 1)) (an .i64 (v+1)) k4 u.enc k5):eC l ds dp v k (Ty.mk 6 [] 0 [t,u]).enc k5:=by
 have h6:=C3;have h7:=qs t u;obtain⟨ek,en,ei,ea⟩:=t;obtain⟨uk,un,ui,ua⟩:=u
 rcases ea with _|⟨x,ea⟩ <;>
 ·rcases ua with _|⟨y,ua⟩ <;>
  ·refine co [17] [] (x:=.of Tryz.f94 gd eF) ?_;exact oh h1 (ox h2 (on h6 (oh h3 (oh h4 (oh h5 (on h7 fi))))))
theorem HZ {l ds:List ak} {k k2 k3 v dp:Int} (h1:dR l k 14 13 k2) (h2:aF 0 dp=true) (h4:dR l k2 4 0 k3):eC l ds dp v k (Ty.mk 1 [] 0 []).enc k3:=by
 have h6:=Ux;refine co [17] [] (x:=.of Tryz.f94 gd eF) ?_;exact oh h1 (ox h2 (oh h4 (on h6 fi)))
def J6:Ty:=.mk 6 [] 0 [.mk 0 [] 0 [],.mk 2 [66,111,120] 0 [.mk 5 [] 0 []]]
theorem L9 {l ds:List ak} {k k2 k3 v dp:Int} (h1:dR l k 14 13 k2) (h2:aF 0 dp=true) (h4:dR l k2 4 1 k3):eC l ds dp v k J6.enc k3:=by
 have h5:=C3;have h6:=C2 0;have h7:=AO [66,111,120] (Ty.mk 5 [] 0 []).enc [];have h8:=qs (.mk 0 [] 0 []) (.mk 2 [66,111,120] 0 [.mk 5 [] 0 []]);refine co [17] [] (x:=.of Tryz.f94 gd eF) ?_;exact oh h1 (ox h2 (oh h4 (on h5 (on h6 (on h7 (on h8 fi))))))
theorem L8 {l ds:List ak} {k k2 k3 v dp:Int} (h1:dR l k 14 13 k2) (h2:aF 0 dp=true) (h4:dR l k2 4 2 k3):eC l ds dp v k J6.enc k3:=by
 have h5:=C3;have h6:=C2 0;have h7:=AO [66,111,120] (Ty.mk 5 [] 0 []).enc [];have h8:=qs (.mk 0 [] 0 []) (.mk 2 [66,111,120] 0 [.mk 5 [] 0 []]);refine co [17] [] (x:=.of Tryz.f94 gd eF) ?_;exact oh h1 (ox h2 (oh h4 (on h5 (on h6 (on h7 (on h8 fi))))))
theorem L7 {l ds:List ak} {k k2 k3 v dp:Int} (h1:dR l k 14 13 k2) (h2:aF 0 dp=true) (h4:dR l k2 4 3 k3):eC l ds dp v k J6.enc k3:=by
 have h5:=C3;have h6:=C2 0;have h7:=AO [66,111,120] (Ty.mk 5 [] 0 []).enc [];have h8:=qs (.mk 0 [] 0 []) (.mk 2 [66,111,120] 0 [.mk 5 [] 0 []]);refine co [17] [] (x:=.of Tryz.f94 gd eF) ?_;exact oh h1 (ox h2 (oh h4 (on h5 (on h6 (on h7 (on h8 fi))))))
mutual
def Ty.from (P:List UInt8->Nat->Prop):Ty->Prop
 | .mk k nm _ args=>(k=2->P nm args.length)/\lz P args
def lz (P:List UInt8->Nat->Prop):List Ty->Prop
 | []=>True
 | t::r=>t.from P/\lz P r
end
theorem GW {P:List UInt8->Nat->Prop}:∀{l:List Ty},(∀t∈l,t.from P)->lz P l
 | [],_=>trivial
 | t::r,h=>⟨h t (by simp),GW (fun x hx=>h x (by simp[hx]))⟩
theorem uv:∀{l:List Ty},(∀t∈l,t.fY)->fg l
 | [],_=>by simp[fg]
 | t::r,h=>by simp only[fg];exact⟨h t (by simp),uv (fun x hx=>h x (by simp[hx]))⟩
structure GT (P:List UInt8->Nat->Prop) (N:Nat) (t:Ty) (k k2:Nat):Prop where
 size:t.size+4*k<=4*k2+1
 ix:t.fY
 frm:t.from P
 le:k<=k2
 top:k2<=N
def GR (l:List Int) (P:List UInt8->Nat->Prop) (g:FuncId) (args:List ac) (k:Nat):Prop:=∃t k2,GT P l.length t k k2/\KC g args (cW (l.map iN) (ofNat k)) 1 (XQ ⟨.dat t.enc,cW (l.map iN) (ofNat k2),1⟩)
theorem JZ {l:List Int} {P:List UInt8->Nat->Prop} {g:FuncId} {args:List ac} {k:Nat} (hk:k<=l.length) (h:∀k',k<=k'->k'<=l.length->GR l P g args k'):∀n:Nat,∃(ts:List Ty) (ks:Nat->Nat),ts.length=n/\ks 0=k/\k<=ks n/\ks n<=l.length/\aQ ts+4*k<=4*ks n+n/\fg ts/\lz P ts ∧
  ∀i t,ts[i]?=some t->KC g args (cW (l.map iN) (ofNat (ks i))) 1 (XQ ⟨.dat t.enc,cW (l.map iN) (ofNat (ks (i+1))),1⟩)
 | 0=>⟨[],fun _=>k,rfl,rfl,Nat.le_refl _,hk,by simp[aQ],by simp[fg],trivial,fun i t h=>by simp at h⟩
 | n+1=>by
  obtain⟨ts,ks,h1,h2,h3,h4,h5,h6,h7,h8⟩:=JZ hk h n;obtain⟨t,k2,ht,hc⟩:=h (ks n) h3 h4;have hsz:aQ (ts++[t])=aQ ts+t.size:=by
   have:=@ld (ts++[t]) n t (by rw[←h1];simp)
   rw[show (ts++[t]).take (n+1)=ts++[t] from List.take_of_length_le (by simp;omega),show (ts++[t]).take n=ts by rw[←h1];simp] at this;exact this
  have hmem:∀{Q:Ty->Prop},(∀x∈ts,Q x)->Q t->∀x∈ts++[t],Q x:=by
   intro Q ha hb x hx
   rcases List.mem_append.1 hx with hx|hx
   ·exact ha x hx
   simp at hx;rw[hx];exact hb
  have hto1:∀{l:List Ty},fg l->∀x∈l,x.fY:=by
   intro l
   induction l with
   | nil=>intro _ x hx;simp at hx
   | cons a r ih=>intro h x hx;simp only[fg] at h;rcases List.mem_cons.1 hx with rfl|hx;exact h.1;exact ih h.2 x hx
  have hto2:∀{l:List Ty},lz P l->∀x∈l,x.from P:=by
   intro l
   induction l with
   | nil=>intro _ x hx;simp at hx
   | cons a r ih=>intro h x hx;simp only[lz] at h;rcases List.mem_cons.1 hx with rfl|hx;exact h.1;exact ih h.2 x hx
  refine⟨ts++[t],fun i=>if i<=n then ks i else k2,by simp[h1],by simp[h2],?_,?_,?_,uv (hmem (hto1 h6) ht.ix),GW (hmem (hto2 h7) ht.frm),?_⟩
  ·have:=ht.le;dsimp only;rw[if_neg (by omega:¬n+1<=n)];omega
  ·have:=ht.top;dsimp only;rw[if_neg (by omega:¬n+1<=n)];omega
  ·have:=ht.size;dsimp only;rw[if_neg (by omega:¬n+1<=n),hsz];omega
  intro i u hu
  by_cases hi:i < n
  ·rw[List.getElem?_append_left (by omega)] at hu;dsimp only;rw[if_pos (by omega:i<=n),if_pos (by omega:i+1<=n)];exact h8 i u hu
  have hin:i=n:=by
   have:=(List.getElem?_eq_some_iff.1 hu).1
   simp at this;omega
  subst hin;rw[List.getElem?_append_right (by omega),h1,Nat.sub_self] at hu;simp at hu;subst hu;dsimp only;rw[if_pos (Nat.le_refl _),if_neg (by omega:¬i+1<=i)];exact hc
theorem jj {a b:Nat} (h:a < b):aF (ofNat a) (ofNat b)=true:=by rw[gv,decide_eq_true h]
theorem mL {a b:Nat} (h:¬a < b):aF (ofNat a) (ofNat b)=false:=by rw[gv,decide_eq_false h]
theorem IG {dp:Int} (h:0 < dp):aF 0 dp=true:=by rw[dA,decide_eq_true h]
theorem Qi {dp:Int} (h:¬0 < dp):aF 0 dp=false:=by rw[dA,decide_eq_false h]
theorem mX {dp:Int} (h1:0<=dp) (h2:dp<=100):an .i64 (dp - 1)=dp - 1:=by rw[cQ,wrap_i64 (by omega) (by omega)]
theorem Uf (i:Nat) (h:i < 4):∃b,lq[i]?=some b/\b∈lq:=⟨lq[i],List.getElem?_eq_getElem h,List.getElem_mem h⟩
theorem AB {i:Nat} (h:i < 4):∃b,b∈lq/\ap ba 70 [.dat (.slice (encS lq)),.dat (.flat (.int .i64 (ofNat i)))]=some ⟨.ref [sb b],.keep⟩:=by
 obtain⟨b,hb,hm⟩:=Uf i h;exact⟨b,hm,uB hb⟩
theorem oH {P:List UInt8->Nat->Prop} {N k k2:Nat} {b:List UInt8} (hP:P b 0) (h1:k<=k2) (h2:k2<=N):GT P N (.mk 2 b 0 []) k k2:=
 ⟨by simp[Ty.size,aQ];omega,by simp[Ty.fY,fg,aB],by simp[Ty.from,lz];exact hP,h1,h2⟩
theorem AL {P:List UInt8->Nat->Prop} {N k k2 i:Nat} (hi:i < 100) (h1:k<=k2) (h2:k2<=N):GT P N (.mk 5 [] (ofNat i) []) k k2:=
 ⟨by simp[Ty.size,aQ];omega,by simp only[Ty.fY,fg];exact⟨fun _=>jj (b:=9223372036854775808) (Nat.lt_of_lt_of_le hi (by decide)),trivial⟩,by simp[Ty.from,lz],h1,h2⟩
section
variable {l:List Int} {ds:List vh} {P:List UInt8->Nat->Prop} (hl:l.length < 10000000) (hds:ds.length < 1000) (har:∀d∈ds,∃n:Nat,d.ar=ofNat n/\n<=4/\P d.nm n) (hP0:∀b∈lq,P b 0) (hPB:P [66,111,120] 1)
def aA (ds:List vh) (dp:Int) (v:Nat):List ac:=[cq,.dat (.slice (lJ ds)),iv dp,iv (ofNat v)]
include hl hds har hP0
theorem Gm {k:Nat} (hk:k<=l.length) {dp:Int} {v:Nat} (h0:0<=dp) (h3:dp<=3) (ih:∀k',k < k'->k'<=l.length->GR l P 173 (aA ds (dp - 1) v) k'):GR l P 137 (aA ds dp v) k:=by
 have hw:an .i64 (ofNat (lJ ds).length+4)=ofNat (ds.length+4):=by
  rw[Hh,cQ];exact wrap_i64 (by simp;omega) (by simp;omega)
 obtain⟨r,k2,⟨hr,hk2,hk3,hk4⟩,hc⟩:=aR (n:=ds.length+4) (by omega:l.length < 1000000000) hk (by omega) (by omega);rw[←hw] at hc
 by_cases h4:r < 4
 ·obtain⟨b,hb,hi⟩:=AB h4;exact⟨_,k2,oH (hP0 b hb) hk2 hk3,Qk hc (jj h4) hi⟩
 have hlt:r - 4 < ds.length:=by omega
 have hg:ds[r - 4]?=some ds[r - 4]:=List.getElem?_eq_getElem hlt;obtain⟨n,hn,hn4,hPn⟩:=har _ (List.getElem_mem hlt);have hkk:=hk4 (by omega);obtain⟨ts,ks,c1,c2,c3,c4,c5,c6,c7,c8⟩:=@JZ _ P 173 (aA ds (dp - 1) v) _ hk3 (fun k' hk' hkl=>ih k' (by omega) hkl) n;have hi:=VU hg;have hw2:ofNat (r - 4)=an .i64 (ofNat r - 4):=by
  rw[cQ,wrap_i64 (by simp;omega) (by simp;omega)];simp;omega
 rw[hw2] at hi;generalize ds[r - 4]=d at *;obtain⟨nm,ar,⟨kk,tn,ix,la⟩,con,fl⟩:=d;dsimp only at hn hPn;subst hn;refine⟨.mk 2 nm 0 ts,ks n,⟨by simp only[Ty.size];omega,by simp only[Ty.fY];exact⟨by simp[aB],c6⟩,by simp only[Ty.from];exact⟨fun _=>by rw[c1];exact hPn,c7⟩,by omega,c4⟩,?_⟩;refine Ql (la:=ax la) (lb:=BZ fl) (ie:=ofNat n) hc (mL h4) hi ?_;rw[←c2];refine bm (St:=fun i=>(Oe (XG (Ji (cellsD nm (ofNat n) kk tn ix (ax la) con (BZ fl))) nm (ts.take i)) (l.map iN) (lJ ds) dp (ofNat v) (ofNat (ks i)) (ofNat i)).al sJ) n ?_ ?_ (i:=0) (Nat.zero_le _)
 ·intro i hi2;have hti:ts[i]?=some ts[i]:=List.getElem?_eq_getElem (by omega);have hci:=c8 i _ hti;have hwp:dp - 1=an .i64 (dp - 1):=(mX h0 (by omega)).symm;unfold aA at hci;rw[hwp] at hci;refine Qg (jj hi2) hci (by rw[List.length_take];omega) ?_;rw[bb (by omega),←Fi hti];exact rfl
 refine TC (mL (by omega)) ⟨rfl,?_⟩;rw[List.take_of_length_le (by omega)]
omit hds har in
theorem Sc {k:Nat} (hk:k<=l.length) {dp:Int} {v:Nat} (h0:-1<=dp) (h3:dp<=3) (hv:v < 100) (ihn:0 < dp->∀k',k<=k'->k'<=l.length->GR l P 137 (aA ds dp v) k') (iht:0 < dp->∀k',k < k'->k'<=l.length->GR l P 94 (aA ds (dp - 1) 0) k'):GR l P 173 (aA ds dp v) k:=by
 obtain⟨r,k2,⟨hr,hk2,hk3,hk4⟩,hc⟩:=aR (n:=6) (by omega:l.length < 1000000000) hk (by omega) (by omega)
 by_cases hv0:r < 2/\0 < v
 ·obtain⟨i,k3,⟨hi,hk5,hk6,hk7⟩,hc2⟩:=aR (n:=v) (by omega:l.length < 1000000000) hk3 hv0.2 (by omega);exact⟨_,k3,AL (by omega) (by omega) hk6,U3 hc (jj hv0.1) (jj (a:=0) hv0.2) hc2⟩
 have hcc:aF (ofNat r) (ofNat 2)=true->aF (ofNat 0) (ofNat v)=false:=by
  intro h;rw[gv,decide_eq_true_eq] at h;exact mL (by omega)
 by_cases hdp:0 < dp
 ·by_cases hr4:r < 4
  ·obtain⟨t,k3,ht,hct⟩:=ihn hdp k2 hk2 hk3;refine⟨t,k3,⟨?_,ht.ix,ht.frm,?_,ht.top⟩,Nt hc rfl rfl hcc (IG hdp) (jj hr4) hct⟩
   ·have:=ht.size;omega
   have:=ht.le;omega
  obtain⟨t,k3,ht,hct⟩:=iht hdp k2 (hk4 (by omega)) hk3;unfold aA at hct;rw[←mX (by omega:0<=dp) (by omega)] at hct;refine⟨t,k3,⟨?_,ht.ix,ht.frm,?_,ht.top⟩,Sb hc (mL (b:=2) (by omega)) (IG hdp) (mL hr4) hct⟩
  ·have:=ht.size;omega
  have:=ht.le;omega
 obtain⟨i,k3,⟨hi,hk5,hk6,hk7⟩,hc2⟩:=aR (n:=4) (by omega:l.length < 1000000000) hk3 (by omega) (by omega);obtain⟨b,hb,hix⟩:=AB hi;exact⟨_,k3,oH (hP0 b hb) (by omega) hk6,Sd hc rfl rfl hcc (Qi hdp) hc2 hix⟩
omit hds har in
include hPB in
theorem Kl {k:Nat} (hk:k<=l.length) {dp:Int} {v:Nat} (h0:0<=dp) (h3:dp<=3) (hv:v+dp<=10) (ihn:∀k',k < k'->k'<=l.length->GR l P 137 (aA ds dp v) k')
  (iht:∀k',k < k'->k'<=l.length->∀(dp:Int) (v:Nat),0<=dp->dp<=3->v+dp<=10->GR l P 94 (aA ds dp v) k'):GR l P 94 (aA ds dp v) k:=by
 obtain⟨r,k2,⟨hr,hk2,hk3,hk4⟩,hc⟩:=aR (n:=14) (by omega:l.length < 1000000000) hk (by omega) (by omega);have leaf:∃i k3 b,(k2<=k3/\k3<=l.length/\P b 0)/\dR (l.map iN) (ofNat k2) 4 (ofNat i) (ofNat k3)/\ap ba 70 [.dat (.slice (encS lq)),.dat (.flat (.int .i64 (ofNat i)))]=some ⟨.ref [sb b],.keep⟩:=by
  obtain⟨i,k3,⟨hi,hk5,hk6,hk7⟩,hc2⟩:=aR (n:=4) (by omega:l.length < 1000000000) hk3 (by omega) (by omega);obtain⟨b,hb,hix⟩:=AB hi;exact⟨i,k3,b,⟨hk5,hk6,hP0 b hb⟩,hc2,hix⟩
 have hnam:∀{c:Nat},0 < r->∃t k3,GT P l.length t k k3/\wP (l.map iN) (lJ ds) dp (ofNat v) (ofNat k2) t.enc (ofNat k3):=by
  intro c h;obtain⟨t,k3,ht,hct⟩:=ihn k2 (hk4 h) hk3;exact⟨t,k3,⟨by have:=ht.size;omega,ht.ix,ht.frm,by have:=ht.le;omega,ht.top⟩,hct⟩
 by_cases hdp:0 < dp
 ·have hd:=IG hdp;have sub:∀(k':Nat),k < k'->k'<=l.length->∃t k3,GT P l.length t k' k3/\eC (l.map iN) (lJ ds) (an .i64 (dp - 1)) (ofNat v) (ofNat k') t.enc (ofNat k3):=by
   intro k' h1 h2;obtain⟨t,k3,ht,hct⟩:=iht k' h1 h2 (dp - 1) v (by omega) (by omega) (by omega);rw[mX (by omega) (by omega)];exact⟨t,k3,ht,hct⟩
  have hcase:r=0∨r=1∨r=2∨r=3∨r=4∨r=5∨r=6∨r=7∨r=8∨r=9∨r=10∨r=11∨r=12∨r=13:=by omega
  have hun:0 < r->∃t u k3 k4,GT P l.length (.mk 4 [] 0 [t,u]) k k4/\eC (l.map iN) (lJ ds) (an .i64 (dp - 1)) (ofNat v) (ofNat k2) t.enc (ofNat k3)/\eC (l.map iN) (lJ ds) (an .i64 (dp - 1)) (ofNat v) (ofNat k3) u.enc (ofNat k4):=by
   intro h;have hkk:=hk4 h;obtain⟨t,k3,ht,hct⟩:=sub k2 hkk hk3;obtain⟨u,k4,hu,hcu⟩:=sub k3 (by have:=ht.le;omega) ht.top;refine⟨t,u,k3,k4,⟨?_,?_,?_,?_,hu.top⟩,hct,hcu⟩
   ·have:=ht.size;have:=hu.size;simp only[Ty.size,aQ];omega
   ·simp only[Ty.fY,fg];exact⟨by simp[aB],ht.ix,hu.ix,trivial⟩
   ·simp only[Ty.from,lz];exact⟨fun h=>by simp at h,ht.frm,hu.frm,trivial⟩
   have:=ht.le;have:=hu.le;omega
  have htup:0 < r->∃n k3 ts k4,dR (l.map iN) (ofNat k2) 4 n (ofNat k3)/\GT P l.length (.mk 3 [] 0 ts) k k4/\KD (.loop (roundOf Tryz.f94 0)) (fun e s=>e=.exit 1/\s=(Ko (l.map iN) (lJ ds) dp (ofNat v) n (ofNat k4) n ts).al qg) ((Ig (l.map iN) (lJ ds) dp (ofNat v) n (ofNat k3) 0 []).al qg):=by
   intro h;have hkk:=hk4 h;obtain⟨n,k3,⟨hn,hk5,hk6,hk7⟩,hc2⟩:=aR (n:=4) (by omega:l.length < 1000000000) hk3 (by omega) (by omega);obtain⟨ts,ks,c1,c2,c3,c4,c5,c6,c7,c8⟩:=@JZ _ P 94 (aA ds (dp - 1) v) _ hk6 (fun k' h1 h2=>iht k' (by omega) h2 (dp - 1) v (by omega) (by omega) (by omega)) n;refine⟨_,k3,ts,ks n,hc2,⟨by simp only[Ty.size];omega,by simp only[Ty.fY];exact⟨by simp[aB],c6⟩,by simp only[Ty.from];exact⟨fun h=>by simp at h,c7⟩,by omega,c4⟩,?_⟩;rw[←c2];refine bm (St:=fun i=>(Ig (l.map iN) (lJ ds) dp (ofNat v) (ofNat n) (ofNat (ks i)) (ofNat i) (ts.take i)).al qg) n ?_ ?_ (i:=0) (Nat.zero_le _)
   ·intro i hi2;have hti:ts[i]?=some ts[i]:=List.getElem?_eq_getElem (by omega);have hci:=c8 i _ hti;unfold aA at hci;rw[←mX h0 (by omega)] at hci;refine NR (jj hi2) hci (by rw[List.length_take];omega) ?_;rw[bb (by omega),←Fi hti];exact rfl
   refine SN (mL (by omega)) ⟨rfl,?_⟩;rw[List.take_of_length_le (by omega)]
  rcases hcase with rfl|rfl|rfl|rfl|rfl|rfl|rfl|rfl|rfl|rfl|rfl|rfl|rfl|rfl
  ·obtain⟨i,k3,b,⟨g1,g2,g3⟩,hc2,hix⟩:=leaf;exact⟨_,k3,oH g3 (by omega) g2,yR hc rfl hc2 hix⟩
  ·obtain⟨i,k3,b,⟨g1,g2,g3⟩,hc2,hix⟩:=leaf;exact⟨_,k3,oH g3 (by omega) g2,yQ hc rfl hc2 hix⟩
  ·exact⟨_,k2,⟨by simp[Ty.size,aQ];omega,by simp[Ty.fY,fg,aB],by simp[Ty.from,lz],hk2,hk3⟩,Fh hc rfl⟩
  ·by_cases hv0:0 < v
   ·obtain⟨i,k3,⟨hi,hk5,hk6,hk7⟩,hc2⟩:=aR (n:=v) (by omega:l.length < 1000000000) hk3 hv0 (by omega);exact⟨_,k3,AL (by omega) (by omega) hk6,Cd hc rfl (jj (a:=0) hv0) hc2⟩
   obtain⟨t,k3,ht,hct⟩:=hnam (c:=0) (by omega);exact⟨t,k3,ht,Cg hc rfl (mL (a:=0) hv0) hct⟩
  ·by_cases hv0:0 < v
   ·obtain⟨i,k3,⟨hi,hk5,hk6,hk7⟩,hc2⟩:=aR (n:=v) (by omega:l.length < 1000000000) hk3 hv0 (by omega);exact⟨_,k3,AL (by omega) (by omega) hk6,Cc hc rfl (jj (a:=0) hv0) hc2⟩
   obtain⟨t,k3,ht,hct⟩:=hnam (c:=0) (by omega);exact⟨t,k3,ht,Cf hc rfl (mL (a:=0) hv0) hct⟩
  ·obtain⟨t,k3,ht,hct⟩:=hnam (c:=0) (by omega);exact⟨t,k3,ht,Ce hc rfl hct⟩
  ·obtain⟨t,k3,ht,hct⟩:=hnam (c:=0) (by omega);exact⟨t,k3,ht,L5 hc hd hct⟩
  ·obtain⟨t,k3,ht,hct⟩:=hnam (c:=0) (by omega);exact⟨t,k3,ht,L4 hc hd hct⟩
  ·obtain⟨t,u,k3,k4,g,ht,hu⟩:=hun (by omega);exact⟨_,k4,g,NX hc hd ht hu⟩
  ·obtain⟨t,u,k3,k4,g,ht,hu⟩:=hun (by omega);exact⟨_,k4,g,NW hc hd ht hu⟩
  ·obtain⟨n,k3,ts,k4,hn,g,hlp⟩:=htup (by omega);exact⟨_,k4,g,HY hc hd hn hlp⟩
  ·obtain⟨n,k3,ts,k4,hn,g,hlp⟩:=htup (by omega);exact⟨_,k4,g,HX hc hd hn hlp⟩
  ·have hkk:=hk4 (by omega);obtain⟨i,k3,⟨hi,hk5,hk6,hk7⟩,hc2⟩:=aR (n:=2) (by omega:l.length < 1000000000) hk3 (by omega) (by omega);have hwv:an .i64 (ofNat v+1)=ofNat (v+1):=bb (by omega);have hwp:an .i64 (dp - 1)=dp - 1:=mX h0 (by omega)
   by_cases hi0:i=0
   ·subst hi0;obtain⟨u,k4,hu,hcu⟩:=iht k3 (by omega) hk6 (dp - 1) (v+1) (by omega) (by omega) (by omega);refine⟨_,k4,⟨?_,?_,?_,?_,hu.top⟩,NZ hc hd hc2 (by rw[hwp,hwv];exact hcu)⟩
    ·have:=hu.size;simp only[Ty.size,aQ];omega
    ·simp only[Ty.fY,fg];exact⟨by simp[aB],⟨by simp[aB],trivial⟩,hu.ix,trivial⟩
    ·simp only[Ty.from,lz];exact⟨fun h=>by simp at h,⟨fun h=>by simp at h,trivial⟩,hu.frm,trivial⟩
    have:=hu.le;omega
   have hi1:i=1:=by omega
   subst hi1;obtain⟨t,k4,ht,hct⟩:=iht k3 (by omega) hk6 1 0 (by omega) (by omega) (by omega);obtain⟨u,k5,hu,hcu⟩:=iht k4 (by have:=ht.le;omega) ht.top (dp - 1) (v+1) (by omega) (by omega) (by omega);refine⟨_,k5,⟨?_,?_,?_,?_,hu.top⟩,NY hc hd hc2 hct (by rw[hwp,hwv];exact hcu)⟩
   ·have:=ht.size;have:=hu.size;simp only[Ty.size,aQ];omega
   ·simp only[Ty.fY,fg];exact⟨by simp[aB],ht.ix,hu.ix,trivial⟩
   ·simp only[Ty.from,lz];exact⟨fun h=>by simp at h,ht.frm,hu.frm,trivial⟩
   have:=ht.le;have:=hu.le;omega
  have hkk:=hk4 (by omega);obtain⟨i,k3,⟨hi,hk5,hk6,hk7⟩,hc2⟩:=aR (n:=4) (by omega:l.length < 1000000000) hk3 (by omega) (by omega);have gb:GT P l.length J6 k k3:=⟨by simp[J6,Ty.size,aQ];omega,by simp[J6,Ty.fY,fg,aB,aF],by simp[J6,Ty.from,lz];exact hPB,by omega,hk6⟩;have hic:i=0∨i=1∨i=2∨i=3:=by omega
  rcases hic with rfl|rfl|rfl|rfl
  ·exact⟨_,k3,⟨by simp[Ty.size,aQ];omega,by simp[Ty.fY,fg,aB],by simp[Ty.from,lz],by omega,hk6⟩,HZ hc hd hc2⟩
  ·exact⟨_,k3,gb,L9 hc hd hc2⟩
  ·exact⟨_,k3,gb,L8 hc hd hc2⟩
  exact⟨_,k3,gb,L7 hc hd hc2⟩
 have hd:=Qi hdp
 by_cases h5:5 < r
 ·obtain⟨i,k3,b,⟨g1,g2,g3⟩,hc2,hix⟩:=leaf;exact⟨_,k3,oH g3 (by omega) g2,L6 hc hd (jj (a:=5) h5) hc2 hix⟩
 have hcase:r=0∨r=1∨r=2∨r=3∨r=4∨r=5:=by omega
 rcases hcase with rfl|rfl|rfl|rfl|rfl|rfl
 ·obtain⟨i,k3,b,⟨g1,g2,g3⟩,hc2,hix⟩:=leaf;exact⟨_,k3,oH g3 (by omega) g2,yR hc rfl hc2 hix⟩
 ·obtain⟨i,k3,b,⟨g1,g2,g3⟩,hc2,hix⟩:=leaf;exact⟨_,k3,oH g3 (by omega) g2,yQ hc rfl hc2 hix⟩
 ·exact⟨_,k2,⟨by simp[Ty.size,aQ];omega,by simp[Ty.fY,fg,aB],by simp[Ty.from,lz],hk2,hk3⟩,Fh hc rfl⟩
 ·by_cases hv0:0 < v
  ·obtain⟨i,k3,⟨hi,hk5,hk6,hk7⟩,hc2⟩:=aR (n:=v) (by omega:l.length < 1000000000) hk3 hv0 (by omega);exact⟨_,k3,AL (by omega) (by omega) hk6,Cd hc rfl (jj (a:=0) hv0) hc2⟩
  obtain⟨t,k3,ht,hct⟩:=hnam (c:=0) (by omega);exact⟨t,k3,ht,Cg hc rfl (mL (a:=0) hv0) hct⟩
 ·by_cases hv0:0 < v
  ·obtain⟨i,k3,⟨hi,hk5,hk6,hk7⟩,hc2⟩:=aR (n:=v) (by omega:l.length < 1000000000) hk3 hv0 (by omega);exact⟨_,k3,AL (by omega) (by omega) hk6,Cc hc rfl (jj (a:=0) hv0) hc2⟩
  obtain⟨t,k3,ht,hct⟩:=hnam (c:=0) (by omega);exact⟨t,k3,ht,Cf hc rfl (mL (a:=0) hv0) hct⟩
 obtain⟨t,k3,ht,hct⟩:=hnam (c:=0) (by omega);exact⟨t,k3,ht,Ce hc rfl hct⟩
include hPB in
theorem Us:∀(m k:Nat),k<=l.length->l.length - k<=m->
  (∀(dp:Int) (v:Nat),0<=dp->dp<=3->v+dp<=10->GR l P 137 (aA ds dp v) k)/\(∀(dp:Int) (v:Nat),-1<=dp->dp<=3->v+dp<=10->GR l P 173 (aA ds dp v) k)/\(∀(dp:Int) (v:Nat),0<=dp->dp<=3->v+dp<=10->GR l P 94 (aA ds dp v) k):=by
 intro m
 induction m with
 | zero=>
  intro k hk hm;have hn:∀(dp:Int) (v:Nat),0<=dp->dp<=3->v+dp<=10->GR l P 137 (aA ds dp v) k:=fun dp v h0 h3 hv=>Gm hl hds har hP0 hk h0 h3 (fun k' h1 h2=>by omega)
  refine⟨hn,?_,?_⟩
  ·intro dp v h0 h3 hv;refine Sc hl hP0 hk h0 h3 (by omega) (fun hp k' h1 h2=>?_) (fun hp k' h1 h2=>by omega)
   have:k'=k:=by omega
   subst this;exact hn dp v (by omega) h3 hv
  intro dp v h0 h3 hv;exact Kl hl hP0 hPB hk h0 h3 hv (fun k' h1 h2=>by omega) (fun k' h1 h2=>by omega)
 | succ m ih=>
  intro k hk hm;have hn:∀(dp:Int) (v:Nat),0<=dp->dp<=3->v+dp<=10->GR l P 137 (aA ds dp v) k:=fun dp v h0 h3 hv=>Gm hl hds har hP0 hk h0 h3 (fun k' h1 h2=>(ih k' h2 (by omega)).2.1 _ _ (by omega) (by omega) (by omega))
  refine⟨hn,?_,?_⟩
  ·intro dp v h0 h3 hv;refine Sc hl hP0 hk h0 h3 (by omega) (fun hp k' h1 h2=>?_) (fun hp k' h1 h2=>(ih k' h2 (by omega)).2.2 _ _ (by omega) (by omega) (by omega))
   by_cases hkk:k'=k
   ·subst hkk;exact hn dp v (by omega) h3 hv
   exact (ih k' h2 (by omega)).1 _ _ (by omega) h3 hv
  intro dp v h0 h3 hv;exact Kl hl hP0 hPB hk h0 h3 hv (fun k' h1 h2=>(ih k' h2 (by omega)).1 _ _ h0 h3 hv) (fun k' h1 h2 dp v a b c=>(ih k' h2 (by omega)).2.2 _ _ a b c)
end
def mq:List vh:=[⟨[66,111,120],1,(.mk 0 [] 0 []),false,[]⟩,
 ⟨[67,101,108,108],1,(.mk 2 [66,111,120] 0 [(.mk 5 [] 0 [])]),true,[⟨[105,116,101,109],(.mk 5 [] 0 [])⟩]⟩,
 ⟨[73,110,116,66,111,120],0,(.mk 2 [66,111,120] 0 [(.mk 2 [73,110,116] 0 [])]),true,[⟨[105,116,101,109],(.mk 2 [73,110,116] 0 [])⟩]⟩,
 ⟨[83,104,97,112,101],0,(.mk 0 [] 0 []),false,[]⟩,
 ⟨[68,111,116],0,(.mk 2 [83,104,97,112,101] 0 []),true,[]⟩,
 ⟨[68,105,115,107],0,(.mk 2 [83,104,97,112,101] 0 []),true,[⟨[114,97,100,105,117,115],(.mk 2 [73,110,116] 0 [])⟩]⟩,
 ⟨[80,97,105,114],2,(.mk 0 [] 0 []),true,[⟨[102,105,114,115,116],(.mk 5 [] 0 [])⟩,⟨[115,101,99,111,110,100],(.mk 5 [] 1 [])⟩]⟩,
 ⟨[78,101,115,116],1,(.mk 2 [66,111,120] 0 [(.mk 2 [66,111,120] 0 [(.mk 5 [] 0 [])])]),true,[⟨[105,110,110,101,114],(.mk 2 [66,111,120] 0 [(.mk 5 [] 0 [])])⟩]⟩]
theorem oK:ae 65 [] (.own (lJ mq)):=dE _ _ _ _ _ (by kernel_rfl)
def X3:List (List UInt8):=mq.map vh.nm++Zx
structure DOk (d:vh):Prop where
 gN:d.gN
 ar:∃n:Nat,d.ar=ofNat n/\n<=2
 nm:d.nm∈X3
 flen:d.fl.length<=2
structure GD (ds:List vh):Prop where
 len:ds.length<=900
 each:∀d∈ds,DOk d
 abs:∃d∈ds,d.con=false
section
variable {l:List Int} {ds:List vh} (hl:l.length < 10000000) (hd:GD ds)
include hl hd
end
theorem HF:GD mq where
 len:=by decide
 each:=by
  have key:∀d∈mq,(d.sup.size < 100000000/\d.sup.fY)/\(∀f∈d.fl,f.ty.size < 100000000/\f.ty.fY)/\d.fl.length<=2/\(∃n:Nat,d.ar=ofNat n/\n<=2):=by
   intro d hd;simp only[mq,List.mem_cons,List.mem_nil_iff,or_false] at hd
   rcases hd with rfl|rfl|rfl|rfl|rfl|rfl|rfl|rfl <;>
    simp[Ty.size,aQ,Ty.fY,fg,aB,aF]
   all_goals first|exact⟨0,rfl,by omega⟩|exact⟨1,rfl,by omega⟩|exact⟨2,rfl,by omega⟩
  intro d hd;obtain⟨h1,h2,h3,h4⟩:=key d hd;exact⟨⟨h1,h2,by omega⟩,h4,List.mem_append_left _ (List.mem_map_of_mem hd),h3⟩
 abs:=⟨_,List.mem_cons_self,rfl⟩
theorem SR {l ds:List ak} {k k2:Int} {t:Ty} (h:eC l ds 3 0 k t.enc k2):KC 64 [cq,.dat (.slice ds)] (cW l k) 1 (XQ ⟨.dat t.enc,cW l k2,1⟩):=by
 obtain⟨ek2,en,ei,ea⟩:=t
 rcases ea with _|⟨x,ea⟩ <;>
 ·refine co [] [] (x:=.of Tryz.f64 Pv Qu) ?_;exact oh h fi
def sx (z:Bool):List ak->ak
 | []=>(match z with|true=>.slice []|false=>nl)
 | d::r=>.slice (d::r)
structure Ins where
 op:Int
 dst:Int
 a:Int
 b:Int
 im:Int
 nm:List UInt8
 az:Bool
 ar:List Int
 ty:Ty
 ck:Int
 ci:Int
 cs:List UInt8
def Ins.cells (x:Ins):List ak:=[i64 x.op,i64 x.dst,i64 x.a,i64 x.b,i64 x.im,sb x.nm,sx x.az (x.ar.map iN)]++(x.ty.cells++[i64 x.ck,i64 x.ci,sb x.cs,nl])
def Ins.enc (x:Ins):ak:=.agg x.cells
def encI:List Ins->List ak
 | []=>[]
 | x::r=>x.enc::encI r
theorem gR:∀l:List Ins,encI l=l.map Ins.enc
 | []=>rfl
 | x::r=>by simp[encI,gR r]
theorem bH (l:List Ins):(encI l).length=l.length:=by simp[gR]
theorem Rr {l:List Ins} {i:Nat} {t:Ins} (h:l[i]?=some t):(encI l)[i]?=some t.enc:=by simp[gR,h]
theorem sT (x:Ins):x.cells.length=15:=by
 obtain⟨op,dst,a,b,im,nm,az,ar,⟨k,tn,ix,la⟩,ck,ci,cs⟩:=x;rfl
mutual
inductive gM where
 |mk (pa sl:Int) (iz:Bool) (ins:List Ins) (ez:Bool) (cD:List (List fG))
inductive fG where
 |mk (kind:Int) (decl:vh) (func:List UInt8) (sig:Ty) (pa:Int) (code:gM) (pkg:List UInt8)
end
mutual
def gM.cells:gM->List ak
 | .mk pa s iz ins ez cD=>[i64 pa,i64 s,sx iz (encI ins),sx ez (aG cD)]
def aG:List (List fG)->List ak
 | []=>[]
 | l::r=>.slice (ir l)::aG r
def ir:List fG->List ak
 | []=>[]
 | e::r=>.agg e.cells::ir r
def fG.cells:fG->List ak
 | .mk k d f sg pa c pk=>i64 k::(d.cells++(sb f::(sg.cells++(i64 pa::(c.cells++[sb pk])))))
end
def gM.enc (c:gM):ak:=.agg c.cells
def fG.enc (e:fG):ak:=.agg e.cells
def gM.pa:gM->Int|.mk pa _ _ _ _ _=>pa
def gM.sl:gM->Int|.mk _ s _ _ _ _=>s
def gM.iz:gM->Bool|.mk _ _ iz _ _ _=>iz
def gM.ins:gM->List Ins|.mk _ _ _ ins _ _=>ins
def gM.ez:gM->Bool|.mk _ _ _ _ ez _=>ez
def gM.cD:gM->List (List fG)|.mk _ _ _ _ _ cD=>cD
theorem A8:∀l:List fG,ir l=l.map fG.enc
 | []=>by simp[ir]
 | x::r=>by simp[ir,A8 r,fG.enc]
theorem nC:∀l:List (List fG),aG l=l.map (fun x=>.slice (ir x))
 | []=>by simp[aG]
 | x::r=>by simp[aG,nC r]
theorem xB (l:List fG):(ir l).length=l.length:=by simp[A8]
theorem dJ (l:List (List fG)):(aG l).length=l.length:=by simp[nC]
theorem Rs {l:List fG} {i:Nat} {t:fG} (h:l[i]?=some t):(ir l)[i]?=some t.enc:=by simp[A8,h]
theorem Nc {l:List (List fG)} {i:Nat} {t:List fG} (h:l[i]?=some t):(aG l)[i]?=some (.slice (ir t)):=by simp[nC,h]
noncomputable def rE:TI:=match Go.Tp.elemOf ba 23 with|some t=>t|none=>default
theorem DD:Go.Tp.elemOf ba 23=some rE:=by kernel_rfl
theorem kJ:rE.size=15:=by kernel_rfl
theorem xn {l:List Ins} {i:Nat} {t:Ins} (h:l[i]?=some t):ap ba 23 [.dat (.slice (encI l)),.dat (.flat (.int .i64 (ofNat i)))]=some ⟨.ref t.cells,.keep⟩:=
 pd DD rfl (Rr h) (by rw[kJ];exact sT t) (by rw[kJ];decide)
theorem ZA (e:fG):e.cells.length=20:=by
 obtain⟨k,⟨dn,ar,⟨sk,sn,six,sa⟩,con,fl⟩,f,⟨tk,tn,tix,ta⟩,pa,⟨cp,cs,iz,ins,ez,cD⟩,pk⟩:=e;rfl
noncomputable def aaJ:TI:=match Go.Tp.elemOf ba 54 with|some t=>t|none=>default
theorem SP:Go.Tp.elemOf ba 54=some aaJ:=by kernel_rfl
theorem B9:aaJ.size=20:=by kernel_rfl
theorem VS {l:List fG} {i:Nat} {t:fG} (h:l[i]?=some t):ap ba 54 [.dat (.slice (ir l)),.dat (.flat (.int .i64 (ofNat i)))]=some ⟨.ref t.cells,.keep⟩:=
 pd SP rfl (Rs h) (by rw[B9];exact ZA t) (by rw[B9];decide)
noncomputable def Fc:TI:=match Go.Tp.elemOf ba 24 with|some t=>t|none=>default
theorem DF:Go.Tp.elemOf ba 24=some Fc:=by kernel_rfl
theorem qU:Fc.size=1:=by kernel_rfl
theorem VT {l:List (List fG)} {i:Nat} {t:List fG} (h:l[i]?=some t):ap ba 24 [.dat (.slice (aG l)),.dat (.flat (.int .i64 (ofNat i)))]=some ⟨.ref [.slice (ir t)],.keep⟩:=
 pd DF rfl (Nc h) (by rw[qU];rfl) (by rw[qU];decide)
structure kG where
 w:List UInt8
 dst:Bool
 a:Bool
 b:Bool
 im:Bool
 nm:Bool
 ar:Bool
 ty:Bool
 con:Bool
 call:Bool
 cond:Bool
 fin:Bool
def kG.enc (s:kG):ak:=.agg [sb s.w,bl s.dst,bl s.a,bl s.b,bl s.im,bl s.nm,bl s.ar,bl s.ty,bl s.con,bl s.call,bl s.cond,bl s.fin]
def kG.use (s:kG):ak:=.agg [bl s.dst,bl s.a,bl s.b,bl s.im,bl s.nm,bl s.ar,bl s.ty,bl s.con]
def kG.zero:kG:=⟨[],false,false,false,false,false,false,false,false,false,false,false⟩
def ki:Nat->Option kG
 | 1=>some ⟨[99,111,110,115,116],true,false,false,false,false,false,false,true,false,false,false⟩
 | 2=>some ⟨[109,111,118,101],true,true,false,false,false,false,false,false,false,false,false⟩
 | 3=>some ⟨[112,114,105,109],true,true,true,true,false,false,false,false,false,false,false⟩
 | 4=>some ⟨[110,101,119],true,false,false,false,false,true,true,false,false,false,false⟩
 | 5=>some ⟨[103,101,116],true,true,false,false,true,false,false,false,false,false,false⟩
 | 6=>some ⟨[115,101,116],false,true,true,false,true,false,false,false,false,false,false⟩
 | 7=>some ⟨[116,117,112,108,101],true,false,false,false,false,true,false,false,false,false,false⟩
 | 8=>some ⟨[101,108,101,109,101,110,116],true,true,false,true,false,false,false,false,false,false,false⟩
 | 9=>some ⟨[105,115,105,110,115,116,97,110,99,101],true,true,false,false,false,false,true,false,false,false,false⟩
 | 10=>some ⟨[99,97,108,108],true,false,false,false,true,true,false,false,true,false,false⟩
 | 11=>some ⟨[108,97,116,101,115,116],true,false,false,false,true,true,false,false,true,false,false⟩
 | 12=>some ⟨[106,117,109,112],false,false,false,true,false,false,false,false,false,false,true⟩
 | 13=>some ⟨[98,114,97,110,99,104],false,true,false,true,false,false,false,false,false,true,false⟩
 | 14=>some ⟨[116,105,99,107],false,false,false,false,false,false,false,false,true,false,false⟩
 | 15=>some ⟨[111,117,116,112,117,116],false,true,false,false,false,false,false,false,false,false,false⟩
 | 16=>some ⟨[102,97,105,108],false,true,false,false,false,false,false,false,false,false,true⟩
 | 17=>some ⟨[101,100,105,116],false,false,false,true,false,false,false,false,false,false,false⟩
 | 18=>some ⟨[112,97,117,115,101],false,false,false,false,false,false,false,false,false,false,false⟩
 | 19=>some ⟨[114,101,116,117,114,110],false,true,false,false,false,false,false,false,false,false,true⟩
 | 20=>some ⟨[101,110,116,101,114],false,false,false,true,false,false,false,false,true,false,false⟩
 | 21=>some ⟨[108,101,97,118,101],false,false,false,false,false,false,false,false,false,false,false⟩
 | 22=>some ⟨[105,110,118,111,107,101],true,false,false,true,false,true,false,false,true,false,false⟩
 | _=>none
def eO (op:Int):Option kG:=match op with|.ofNat n=>ki n|_=>none
def lU (o:Option kG):kG:=match o with|some s=>s|none=>kG.zero
def shS (o:Option kG):Bool:=match o with|some _=>true|none=>false
theorem WQ:∀n:Nat,1<=n->n<=22->ae 58 [iv (ofNat n)] (.tup [.dat (lU (ki n)).enc,bv (shS (ki n))])
 | 0,h,_=>absurd h (by omega)
 | 1,_,_=>dE _ _ _ _ _ (by kernel_rfl)
 | 2,_,_=>dE _ _ _ _ _ (by kernel_rfl)
 | 3,_,_=>dE _ _ _ _ _ (by kernel_rfl)
 | 4,_,_=>dE _ _ _ _ _ (by kernel_rfl)
 | 5,_,_=>dE _ _ _ _ _ (by kernel_rfl)
 | 6,_,_=>dE _ _ _ _ _ (by kernel_rfl)
 | 7,_,_=>dE _ _ _ _ _ (by kernel_rfl)
 | 8,_,_=>dE _ _ _ _ _ (by kernel_rfl)
 | 9,_,_=>dE _ _ _ _ _ (by kernel_rfl)
 | 10,_,_=>dE _ _ _ _ _ (by kernel_rfl)
 | 11,_,_=>dE _ _ _ _ _ (by kernel_rfl)
 | 12,_,_=>dE _ _ _ _ _ (by kernel_rfl)
 | 13,_,_=>dE _ _ _ _ _ (by kernel_rfl)
 | 14,_,_=>dE _ _ _ _ _ (by kernel_rfl)
 | 15,_,_=>dE _ _ _ _ _ (by kernel_rfl)
 | 16,_,_=>dE _ _ _ _ _ (by kernel_rfl)
 | 17,_,_=>dE _ _ _ _ _ (by kernel_rfl)
 | 18,_,_=>dE _ _ _ _ _ (by kernel_rfl)
 | 19,_,_=>dE _ _ _ _ _ (by kernel_rfl)
 | 20,_,_=>dE _ _ _ _ _ (by kernel_rfl)
 | 21,_,_=>dE _ _ _ _ _ (by kernel_rfl)
 | 22,_,_=>dE _ _ _ _ _ (by kernel_rfl)
 | n+23,_,h=>absurd h (by omega)
theorem Ox {op:Int} (h1:aF op 1=true):ae 58 [iv op] (.tup [.dat kG.zero.enc,bv false]):=by
 refine co [29] [] (x:=.of Tryz.f58 KR Jm) ?_;exact ob h1 fi
theorem Oy {op:Int} (h1:aF op 1=false) (h2:aF op 23=false):ae 58 [iv op] (.tup [.dat kG.zero.enc,bv false]):=by
 refine co [29,32] [] (x:=.of Tryz.f58 KR Jm) ?_;exact ob h1 (ox h2 fi)
theorem DQ {op:Int} (h:aF op 1=true):eO op=none:=by
 rw[dA] at h;simp only[decide_eq_true_eq] at h;unfold eO
 split
 ·rename_i n
  have:n=0:=by simp only[Int.ofNat_eq_natCast] at h;omega
  subst this;rfl
 rfl
theorem S5:∀n:Nat,ki (n+23)=none:=fun n=>rfl
theorem DR {op:Int} (h:aF op 23=false):eO op=none:=by
 rw[dA] at h;simp only[decide_eq_false_iff_not] at h;unfold eO
 split
 ·rename_i n;obtain⟨m,rfl⟩:∃m,n=m+23:=⟨n - 23,by simp only[Int.ofNat_eq_natCast] at h;omega⟩;exact S5 m
 rfl
theorem zo {op:Int} (h1:aF op 1=false) (h2:aF op 23=true):∃n:Nat,op=ofNat n/\1<=n/\n<=22:=by
 rw[dA] at h1 h2;simp only[decide_eq_false_iff_not,decide_eq_true_eq] at h1 h2;exact⟨op.toNat,by simp only[Int.ofNat_eq_natCast];omega,by omega,by omega⟩
theorem uT (op:Int):ae 58 [iv op] (.tup [.dat (lU (eO op)).enc,bv (shS (eO op))]):=by
 cases h1:aF op 1 with
 | true=>rw[DQ h1];exact Ox h1
 | false=>
  cases h2:aF op 23 with
  | false=>rw[DR h2];exact Oy h1 h2
  | true=>
   obtain⟨n,rfl,a,b⟩:=zo h1 h2;exact WQ n a b
theorem fa:∀n:Nat,1<=n->n<=22->ae 62 [iv (ofNat n)] (.dat (lU (ki n)).use)
 | 0,h,_=>absurd h (by omega)
 | 1,_,_=>dE _ _ _ _ _ (by kernel_rfl)
 | 2,_,_=>dE _ _ _ _ _ (by kernel_rfl)
 | 3,_,_=>dE _ _ _ _ _ (by kernel_rfl)
 | 4,_,_=>dE _ _ _ _ _ (by kernel_rfl)
 | 5,_,_=>dE _ _ _ _ _ (by kernel_rfl)
 | 6,_,_=>dE _ _ _ _ _ (by kernel_rfl)
 | 7,_,_=>dE _ _ _ _ _ (by kernel_rfl)
 | 8,_,_=>dE _ _ _ _ _ (by kernel_rfl)
 | 9,_,_=>dE _ _ _ _ _ (by kernel_rfl)
 | 10,_,_=>dE _ _ _ _ _ (by kernel_rfl)
 | 11,_,_=>dE _ _ _ _ _ (by kernel_rfl)
 | 12,_,_=>dE _ _ _ _ _ (by kernel_rfl)
 | 13,_,_=>dE _ _ _ _ _ (by kernel_rfl)
 | 14,_,_=>dE _ _ _ _ _ (by kernel_rfl)
 | 15,_,_=>dE _ _ _ _ _ (by kernel_rfl)
 | 16,_,_=>dE _ _ _ _ _ (by kernel_rfl)
 | 17,_,_=>dE _ _ _ _ _ (by kernel_rfl)
 | 18,_,_=>dE _ _ _ _ _ (by kernel_rfl)
 | 19,_,_=>dE _ _ _ _ _ (by kernel_rfl)
 | 20,_,_=>dE _ _ _ _ _ (by kernel_rfl)
 | 21,_,_=>dE _ _ _ _ _ (by kernel_rfl)
 | 22,_,_=>dE _ _ _ _ _ (by kernel_rfl)
 | n+23,_,h=>absurd h (by omega)
theorem eV {op:Int} {k:Nat} (h:aF op 1=true∨aF op 23=false) (h1:1<=k) (h2:k<=22):aB op (ofNat k)=false:=by
 rw[cN];simp only[Int.ofNat_eq_natCast,beq_eq_false_iff_ne,ne_eq,decide_eq_false_iff_not];rintro rfl
 rcases h with h|h
 ·rw[dA] at h;simp only[decide_eq_true_eq] at h;omega
 rw[dA] at h;simp only[decide_eq_false_iff_not] at h;omega
theorem Ki {op:Int} (h:aF op 1=true∨aF op 23=false):ae 62 [iv op] (.dat kG.zero.use):=by
 have h1:aB op 1=false:=eV h (k:=1) (by omega) (by omega);have h2:aB op 2=false:=eV h (k:=2) (by omega) (by omega);have h3:aB op 3=false:=eV h (k:=3) (by omega) (by omega);have h4:aB op 4=false:=eV h (k:=4) (by omega) (by omega);have h5:aB op 5=false:=eV h (k:=5) (by omega) (by omega);have h6:aB op 6=false:=eV h (k:=6) (by omega) (by omega);have h7:aB op 7=false:=eV h (k:=7) (by omega) (by omega);have h8:aB op 8=false:=eV h (k:=8) (by omega) (by omega);have h9:aB op 9=false:=eV h (k:=9) (by omega) (by omega);have h10:aB op 10=false:=eV h (k:=10) (by omega) (by omega);have h11:aB op 11=false:=eV h (k:=11) (by omega) (by omega);have h12:aB op 12=false:=eV h (k:=12) (by omega) (by omega);have h13:aB op 13=false:=eV h (k:=13) (by omega) (by omega);have h14:aB op 14=false:=eV h (k:=14) (by omega) (by omega);have h15:aB op 15=false:=eV h (k:=15) (by omega) (by omega);have h16:aB op 16=false:=eV h (k:=16) (by omega) (by omega);have h17:aB op 17=false:=eV h (k:=17) (by omega) (by omega);have h18:aB op 18=false:=eV h (k:=18) (by omega) (by omega);have h19:aB op 19=false:=eV h (k:=19) (by omega) (by omega);have h20:aB op 20=false:=eV h (k:=20) (by omega) (by omega);have h21:aB op 21=false:=eV h (k:=21) (by omega) (by omega);have h22:aB op 22=false:=eV h (k:=22) (by omega) (by omega)
 refine co [5,8,11,14,17,20,23,26,29,32,33,36,37,38,41,44,45,46,49] [] (x:=.of Tryz.f62 Px Qw) ?_;exact ob h1 (ob h2 (ob h3 (ob h4 (ob h5 (ob h6 (ob h7 (ob h8 (ob h9 (ob h10 (ob h11 (ob h12 (ob h17 (ob h20 (ob h13 (ob h15 (ob h16 (ob h19 (ob h22 fi))))))))))))))))))
def kr (j:Nat) (k:Int) (nm:List UInt8) (ix:Int) (a:ak):Heap:=[(.loc j,.cells [iv k,.dat (sb nm),iv ix,.dat a])]
def xQ (lo:Heap) (i n:Int):ab:=⟨[(4,iv i),(3,iv n),(1,.ptr (.loc 1) 0)],lo,[],0⟩
def Co (lo:Heap) (i n:Int):ab:=⟨[(9,bv false),(4,iv i),(3,iv n),(1,.ptr (.loc 1) 0)],lo,[],0⟩
theorem nR {l:List Ty} {i:Nat} (h:i < (ax l).length):sl (ax l)=.slice (ax l):=by cases l with|nil=>simp[ax] at h|cons x r=>rfl
noncomputable def hRS:Hints:=⟨bV,Ea,bi,rowsOf bi 151⟩
theorem OI {k:Int} {nm:List UInt8} {ix n m:Int} {l:List Ty} {t:Ty} {i:Nat} (hi:i < (ax l).length) (ht:l[i]?=some t) (hc:ae 151 [.dat t.enc] (iv m)) {T:ej}
  (e:T .normal ((xQ (kr 1 k nm ix (.slice (ax l))) (an .i64 (ofNat i+1)) (an .i64 (n+m))).al od)) :
  KD (roundOf Tryz.f151 0) T ((xQ (kr 1 k nm ix (.slice (ax l))) (ofNat i) n).al od):=by
 have h1:=br hi;have h2:=pF ht;generalize ax l=es at *;clear ht hi;obtain⟨k2,nm2,ix2,a2⟩:=t
 rcases a2 with _|⟨b,d⟩ <;>
 ·exact aq [9] [16] (H:=hRS) (live:=ug) (ob h1 (oo h2 (on hc (oe e))))
theorem S8 {k:Int} {nm:List UInt8} {ix n:Int} {l:List ak} {T:ej} (e:T (.exit 0) ((Co (kr 1 k nm ix (sl l)) (ofNat l.length) n).al od)) :
  KD (roundOf Tryz.f151 0) T ((xQ (kr 1 k nm ix (sl l)) (ofNat l.length) n).al od):=by
 have h1:=cj (i:=l.length) (L:=l.length) (by omega)
 rcases l with _|⟨x,l⟩
 ·refine aq [] [] (H:=hRS) (live:=ug) ?_;exact oe e
 exact aq [9] [] (H:=hRS) (live:=ug) (ob h1 (oe e))
theorem Xl {k:Int} {nm:List UInt8} {ix n:Int} {l:List ak} (hl:KD (.loop (roundOf Tryz.f151 0)) (fun e s=>e=.exit 0/\s=(Co (kr 1 k nm ix (sl l)) (ofNat l.length) n).al od) ((xQ (kr 1 k nm ix (sl l)) (ofNat 0) 1).al od)) :
  ae 151 [.dat (.agg [i64 k,sb nm,i64 ix,sl l])] (iv n):=by
 rcases l with _|⟨x,l⟩ <;>
 ·refine co [] [] (x:=.of Tryz.f151 Ea ug) ?_;refine lo hl ?_;rintro ex s ⟨rfl,rfl⟩;refine⟨_,rfl,?_⟩;exact fi
mutual
theorem O2:∀t:Ty,t.size < 1000000000->ae 151 [.dat t.enc] (iv (ofNat t.size))
 | .mk k nm ix l,h=>by
  simp only[Ty.size] at h;have ih:=KA l (by omega);have hlen:=gw l;refine Xl ?_;rw[show ofNat (Ty.mk k nm ix l).size=ofNat (1+aQ l) by simp only[Ty.size];rw[Nat.add_comm]];refine bm (St:=fun i=>(xQ (kr 1 k nm ix (sl (ax l))) (ofNat i) (ofNat (1+aQ (l.take i)))).al od) (ax l).length ?_ ?_ (i:=0) (Nat.zero_le _)
  ·intro i hi;obtain⟨t,ht,hm⟩:=get_mem hi;have hs:=ld ht;have hle:=tx (l:=l) (i+1);have hsl:=nR hi;have e:=@OI k nm ix (ofNat (1+aQ (l.take i))) _ _ _ _ hi ht (ih t hm) (xU (fun s=>s=(xQ (kr 1 k nm ix (sl (ax l))) (ofNat (i+1)) (ofNat (1+aQ (l.take (i+1))))).al od) (fun e s=>e=.exit 0/\s=(Co (kr 1 k nm ix (sl (ax l))) (ofNat (ax l).length) (ofNat (1+aQ l))).al od)) (by
    rw[aH] at hi;rw[bb (by omega),wrap_add (by omega),hs,hsl,Nat.add_assoc];rfl)
   rw[hsl] at e ⊢;exact e
  refine S8 ⟨rfl,?_⟩;rw[aH,List.take_length]
theorem KA:∀l:List Ty,aQ l < 1000000000->∀t∈l,ae 151 [.dat t.enc] (iv (ofNat t.size))
 | [],_,t,ht=>by simp at ht
 | u::r,h,t,ht=>by
  simp only[aQ] at h
  rcases List.mem_cons.1 ht with h1|ht
  ·rw[h1];exact O2 u (by omega)
  exact KA r (by omega) t ht
end
noncomputable def hRD:Hints:=⟨bV,D9,bi,rowsOf bi 152⟩
theorem OT {k:Int} {nm:List UInt8} {ix:Int} {n m:Nat} {l:List Ty} {t:Ty} {i:Nat} (hi:i < (ax l).length) (ht:l[i]?=some t) (hc:ae 152 [.dat t.enc] (iv (ofNat m))) {T:ej}
  (e:T .normal ((xQ (kr 1 k nm ix (.slice (ax l))) (an .i64 (ofNat i+1)) (match aF (ofNat n) (ofNat m) with|true=>ofNat m|false=>ofNat n)).al oc)) :
  KD (roundOf Tryz.f152 0) T ((xQ (kr 1 k nm ix (.slice (ax l))) (ofNat i) (ofNat n)).al oc):=by
 have h1:=br hi;have h2:=pF ht;generalize ax l=es at *;clear ht hi;obtain⟨k2,nm2,ix2,a2⟩:=t
 rcases a2 with _|⟨b,d⟩ <;>
 ·exact aq [9] [16] (H:=hRD) (live:=ue) (ob h1 (oo h2 (on hc (oe e))))
theorem Tj {k:Int} {nm:List UInt8} {ix n:Int} {l:List ak} {T:ej} (e:T (.exit 0) ((Co (kr 1 k nm ix (sl l)) (ofNat l.length) n).al oc)) :
  KD (roundOf Tryz.f152 0) T ((xQ (kr 1 k nm ix (sl l)) (ofNat l.length) n).al oc):=by
 have h1:=cj (i:=l.length) (L:=l.length) (by omega)
 rcases l with _|⟨x,l⟩
 ·refine aq [] [] (H:=hRD) (live:=ue) ?_;exact oe e
 exact aq [9] [] (H:=hRD) (live:=ue) (ob h1 (oe e))
theorem Xt {k:Int} {nm:List UInt8} {ix n:Int} {l:List ak} (hl:KD (.loop (roundOf Tryz.f152 0)) (fun e s=>e=.exit 0/\s=(Co (kr 1 k nm ix (sl l)) (ofNat l.length) n).al oc) ((xQ (kr 1 k nm ix (sl l)) (ofNat 0) 0).al oc)) :
  ae 152 [.dat (.agg [i64 k,sb nm,i64 ix,sl l])] (iv (an .i64 (n+1))):=by
 rcases l with _|⟨x,l⟩ <;>
 ·refine co [] [] (x:=.of Tryz.f152 D9 ue) ?_;refine lo hl ?_;rintro ex s ⟨rfl,rfl⟩;refine⟨_,rfl,?_⟩;exact fi
mutual
theorem KG:∀t:Ty,t.size < 1000000000->ae 152 [.dat t.enc] (iv (ofNat t.depth))
 | .mk k nm ix l,h=>by
  simp only[Ty.size] at h;have ih:=FX l (by omega);have hlen:=gw l;have hdl:=jR l;rw[show ofNat (Ty.mk k nm ix l).depth=an .i64 (ofNat (db l)+1) by rw[bb (by omega)];rfl];refine Xt ?_;refine bm (St:=fun i=>(xQ (kr 1 k nm ix (sl (ax l))) (ofNat i) (ofNat (db (l.take i)))).al oc) (ax l).length ?_ ?_ (i:=0) (Nat.zero_le _)
  ·intro i hi;obtain⟨t,ht,hm⟩:=get_mem hi;have hs:=xD ht;have hsl:=nR hi;have e:=@OT k nm ix (db (l.take i)) _ _ _ _ hi ht (ih t hm) (xU (fun s=>s=(xQ (kr 1 k nm ix (sl (ax l))) (ofNat (i+1)) (ofNat (db (l.take (i+1))))).al oc) (fun e s=>e=.exit 0/\s=(Co (kr 1 k nm ix (sl (ax l))) (ofNat (ax l).length) (ofNat (db l))).al oc)) (by
    rw[aH] at hi;rw[bb (by omega),hs,hsl];have e2:(match aF (ofNat (db (l.take i))) (ofNat t.depth) with|true=>ofNat t.depth|false=>ofNat (db (l.take i)))=ofNat (max (db (l.take i)) t.depth):=by
     rw[gv]
     by_cases hlt:db (l.take i) < t.depth
     ·rw[decide_eq_true hlt,Nat.max_eq_right (by omega)]
     rw[decide_eq_false hlt,Nat.max_eq_left (by omega)]
    rw[e2];rfl)
   rw[hsl] at e ⊢;exact e
  refine Tj ⟨rfl,?_⟩;rw[aH,List.take_length]
theorem FX:∀l:List Ty,aQ l < 1000000000->∀t∈l,ae 152 [.dat t.enc] (iv (ofNat t.depth))
 | [],_,t,ht=>by simp at ht
 | u::r,h,t,ht=>by
  simp only[aQ] at h
  rcases List.mem_cons.1 ht with h1|ht
  ·rw[h1];exact KG u (by omega)
  exact FX r (by omega) t ht
end
def MC (c:Bool):Int:=match c with|true=>-1|false=>1
theorem KB (c:Bool):ae 166 [bv c] (iv (MC c)):=by
 cases c <;> exact dE _ _ _ _ _ (by kernel_rfl)
noncomputable def hRC:Hints:=⟨bV,qb,bi,rowsOf bi 123⟩
def TL (k:Int) (nm:List UInt8) (ix:Int) (a:ak) (k2:Int) (nm2:List UInt8) (ix2:Int) (a2:ak):Heap:=[(.loc 3,.cells [iv k2,.dat (sb nm2),iv ix2,.dat a2]),(.loc 2,.cells [iv k,.dat (sb nm),iv ix,.dat a])]
def Z1 (lo:Heap) (i:Int):ab:=⟨[(5,iv i),(3,.ptr (.loc 3) 0),(2,.ptr (.loc 2) 0)],lo,[],0⟩
def WE (lo:Heap) (i:Int):ab:=⟨[(63,bv false),(5,iv i),(3,.ptr (.loc 3) 0),(2,.ptr (.loc 2) 0)],lo,[],0⟩
def WG (c:Int):ab:=⟨[(4,iv c)],[],[],0⟩
theorem OV {k:Int} {nm:List UInt8} {ix:Int} {l:List Ty} {k2:Int} {nm2:List UInt8} {ix2:Int} {l2:List Ty} {t u:Ty} {i:Nat} {c:Int} {cz:Bool} (hi:i < (ax l).length) (ht:l[i]?=some t) (hu:l2[i]?=some u) (hc:ae 123 [.dat t.enc,.dat u.enc] (iv c)) (hz:aB c 0=cz) {T:ej}
  (e1:cz=true->T .normal ((Z1 (TL k nm ix (.slice (ax l)) k2 nm2 ix2 (.slice (ax l2))) (an .i64 (ofNat i+1))).al jV)) (e2:cz=false->T .ret ((WG c).al jV)) :
  KD (roundOf Tryz.f123 0) T ((Z1 (TL k nm ix (.slice (ax l)) k2 nm2 ix2 (.slice (ax l2))) (ofNat i)).al jV):=by
 have h1:=br hi;have h2:=pF ht;have h3:=pF hu;generalize ax l=es at *;generalize ax l2=es2 at *;clear ht hi hu;obtain⟨tk,tn,tix,ta⟩:=t;obtain⟨uk,un,uix,ua⟩:=u
 rcases ta with _|⟨b,d⟩ <;>
 ·rcases ua with _|⟨b2,d2⟩ <;>
  ·refine aq [63,78] [69,74] (H:=hRC) (live:=ku) (ob h1 (oo h2 (oo h3 (on hc (ox hz ?_)))))
   cases cz
   ·exact oe (e2 rfl)
   exact oe (e1 rfl)
theorem Tl {k:Int} {nm:List UInt8} {ix:Int} {l:List ak} {k2:Int} {nm2:List UInt8} {ix2:Int} {a:List ak} {T:ej} (e:T (.exit 1) ((WE (TL k nm ix (sl l) k2 nm2 ix2 (sl a)) (ofNat l.length)).al jV)) :
  KD (roundOf Tryz.f123 0) T ((Z1 (TL k nm ix (sl l) k2 nm2 ix2 (sl a)) (ofNat l.length)).al jV):=by
 have h1:=cj (i:=l.length) (L:=l.length) (by omega)
 rcases l with _|⟨x,l⟩
 ·refine aq [] [] (H:=hRC) (live:=ku) ?_;exact oe e
 exact aq [63] [] (H:=hRC) (live:=ku) (ob h1 (oe e))
def Kw (c1 c2 c3 c4 c5 c6 c7 c8:Bool) (r:Int):Int:=match c1 with|false=>MC c5|true=>match c2 with|false=>MC c6|true=>match c3 with|false=>MC c7|true=>match c4 with|false=>MC c8|true=>r
theorem Xv {k:Int} {nm:List UInt8} {ix:Int} {l:List ak} {k2:Int} {nm2:List UInt8} {ix2:Int} {l2:List ak} {c1 c2 c3 c4 c5 c6 c7 c8:Bool} {r:Int} (h1:aB k k2=c1) (h2:jP nm nm2=c2) (h3:aB ix ix2=c3) (h4:aB (ofNat l.length) (ofNat l2.length)=c4) (h5:aF k k2=c5) (h6:ML nm nm2=c6) (h7:aF ix ix2=c7) (h8:aF (ofNat l.length) (ofNat l2.length)=c8)
 (hl:c4=true->KD (.loop (roundOf Tryz.f123 0)) (fun e s=>(e=.exit 1/\r=0/\s=(WE (TL k nm ix (sl l) k2 nm2 ix2 (sl l2)) (ofNat l.length)).al jV)∨(e=.ret/\s=(WG r).al jV)) ((Z1 (TL k nm ix (sl l) k2 nm2 ix2 (sl l2)) (ofNat 0)).al jV)) :
 ae 123 [.dat (.agg [i64 k,sb nm,i64 ix,sl l]),.dat (.agg [i64 k2,sb nm2,i64 ix2,sl l2])] (iv (Kw c1 c2 c3 c4 c5 c6 c7 c8 r)):=by
 have o1:=KB true;have o2:=KB false
 rcases l with _|⟨x,l⟩
 ·rcases l2 with _|⟨y,l2⟩
  ·have z:c4=true:=h4.symm;subst z;have hl2:=hl rfl;clear hl h4 h8;refine co [12,24,36,41,29,17] [] (x:=.of Tryz.f123 qb ku) ?_;refine ox h1 ?_
   cases c1
   ·refine ob h5 ?_
    cases c5
    ·exact on o2 fi
    exact on o1 fi
   refine ox h2 ?_
   cases c2
   ·refine ob h6 ?_
    cases c6
    ·exact on o2 fi
    exact on o1 fi
   refine ox h3 ?_
   cases c3
   ·refine ob h7 ?_
    cases c7
    ·exact on o2 fi
    exact on o1 fi
   refine lo hl2 ?_;rintro ex s (⟨rfl,rfl,rfl⟩|⟨rfl,rfl⟩) <;>
   ·refine⟨_,rfl,?_⟩;exact fi
  have z:c4=false:=h4.symm;have z8:c8=true:=h8.symm;subst z z8;clear hl h4 h8;refine co [12,24,36,41,29,17] [] (x:=.of Tryz.f123 qb ku) ?_;refine ox h1 ?_
  cases c1
  ·refine ob h5 ?_
   cases c5
   ·exact on o2 fi
   exact on o1 fi
  refine ox h2 ?_
  cases c2
  ·refine ob h6 ?_
   cases c6
   ·exact on o2 fi
   exact on o1 fi
  refine ox h3 ?_
  cases c3
  ·refine ob h7 ?_
   cases c7
   ·exact on o2 fi
   exact on o1 fi
  exact on o1 fi
 rcases l2 with _|⟨y,l2⟩
 ·have z:c4=false:=h4.symm;have z8:c8=false:=h8.symm;subst z z8;clear hl h4 h8;refine co [12,24,36,41,29,17] [] (x:=.of Tryz.f123 qb ku) ?_;refine ox h1 ?_
  cases c1
  ·refine ob h5 ?_
   cases c5
   ·exact on o2 fi
   exact on o1 fi
  refine ox h2 ?_
  cases c2
  ·refine ob h6 ?_
   cases c6
   ·exact on o2 fi
   exact on o1 fi
  refine ox h3 ?_
  cases c3
  ·refine ob h7 ?_
   cases c7
   ·exact on o2 fi
   exact on o1 fi
  exact on o2 fi
 cases c4
 ·clear hl;refine co [12,24,36,50,57,41,29,17] [] (x:=.of Tryz.f123 qb ku) ?_;refine ox h1 ?_
  cases c1
  ·refine ob h5 ?_
   cases c5
   ·exact on o2 fi
   exact on o1 fi
  refine ox h2 ?_
  cases c2
  ·refine ob h6 ?_
   cases c6
   ·exact on o2 fi
   exact on o1 fi
  refine ox h3 ?_
  cases c3
  ·refine ob h7 ?_
   cases c7
   ·exact on o2 fi
   exact on o1 fi
  refine ox h4 (ob h8 ?_)
  cases c8
  ·exact on o2 fi
  exact on o1 fi
 have hl2:=hl rfl;clear hl;refine co [12,24,36,50,41,29,17] [] (x:=.of Tryz.f123 qb ku) ?_;refine ox h1 ?_
 cases c1
 ·refine ob h5 ?_
  cases c5
  ·exact on o2 fi
  exact on o1 fi
 refine ox h2 ?_
 cases c2
 ·refine ob h6 ?_
  cases c6
  ·exact on o2 fi
  exact on o1 fi
 refine ox h3 ?_
 cases c3
 ·refine ob h7 ?_
  cases c7
  ·exact on o2 fi
  exact on o1 fi
 refine ox h4 ?_;refine lo hl2 ?_;rintro ex s (⟨rfl,rfl,rfl⟩|⟨rfl,rfl⟩) <;>
 ·refine⟨_,rfl,?_⟩;exact fi
mutual
def Ix:Ty->Ty->Int
 | .mk k nm ix l,.mk k2 nm2 ix2 l2=>Kw (aB k k2) (jP nm nm2) (aB ix ix2) (aB (ofNat (ax l).length) (ofNat (ax l2).length)) (aF k k2) (ML nm nm2) (aF ix ix2) (aF (ofNat (ax l).length) (ofNat (ax l2).length)) (Ky l l2)
def Ky:List Ty->List Ty->Int
 | t::r,u::v=>match aB (Ix t u) 0 with|true=>Ky r v|false=>Ix t u
 | _,_=>0
end
theorem OW {l l2:List Ty} {i:Nat} {t u:Ty} (ht:l[i]?=some t) (hu:l2[i]?=some u):Ky (l.drop i) (l2.drop i)=(match aB (Ix t u) 0 with|true=>Ky (l.drop (i+1)) (l2.drop (i+1))|false=>Ix t u):=by rw[kT ht,kT hu,Ky]
theorem Tk {k:Int} {nm:List UInt8} {ix:Int} {l:List Ty} {k2:Int} {nm2:List UInt8} {ix2:Int} {l2:List Ty} (hlen:l.length=l2.length) (hb:l.length < 1000000000) (ih:∀t∈l,∀u∈l2,ae 123 [.dat t.enc,.dat u.enc] (iv (Ix t u))) :
  KD (.loop (roundOf Tryz.f123 0)) (fun e s=>(e=.exit 1/\Ky l l2=0/\s=(WE (TL k nm ix (sl (ax l)) k2 nm2 ix2 (sl (ax l2))) (ofNat (ax l).length)).al jV)∨(e=.ret/\s=(WG (Ky l l2)).al jV)) ((Z1 (TL k nm ix (sl (ax l)) k2 nm2 ix2 (sl (ax l2))) (ofNat 0)).al jV):=by
 refine cV (St:=fun i=>(Z1 (TL k nm ix (sl (ax l)) k2 nm2 ix2 (sl (ax l2))) (ofNat i)).al jV) (fun i=>Ky l l2=Ky (l.drop i) (l2.drop i)) (ax l).length ?_ ?_ (i:=0) (Nat.zero_le _) rfl
 ·intro i hi hI;obtain⟨t,ht,hm⟩:=get_mem hi;have hi2:=hi;rw[aH] at hi2;have hu:l2[i]?=some l2[i]:=List.getElem?_eq_getElem (by omega);have hm2:l2[i]∈l2:=List.getElem_mem _;generalize l2[i]=u at hu hm2;have h:=ih t hm u hm2;have hd:=OW ht hu;rw[←hI] at hd;have hw:an .i64 (ofNat i+1)=ofNat (i+1):=bb (by omega);have hs1:=nR hi;have hs2:sl (ax l2)=.slice (ax l2):=nR (i:=i) (by rw[aH];omega);rw[hs1,hs2];generalize Ix t u=c at h hd;refine OV hi ht hu h rfl ?_ ?_
  ·intro hz;rw[hz] at hd;rw[hw];exact⟨rfl,hd⟩
  intro hz;rw[hz] at hd;dsimp only at hd;exact .inr ⟨rfl,by rw[hd]⟩
 intro hI;refine Tl (.inl ⟨rfl,?_,rfl⟩);rw[hI,aH,List.drop_length]
 cases l2.drop l.length <;> rfl
mutual
theorem zS:∀(t u:Ty),t.thin->ae 123 [.dat t.enc,.dat u.enc] (iv (Ix t u))
 | .mk k nm ix l,.mk k2 nm2 ix2 l2,h=>by
  simp only[Ty.thin] at h;have ih:=xd l h.2;rw[Ix];refine Xv rfl rfl rfl rfl rfl rfl rfl rfl (fun he=>?_);rw[A0,aH,aH] at he;exact Tk (by simpa using he) h.1 (fun t ht u _=>ih t ht u)
theorem xd:∀l:List Ty,tt l->∀t∈l,∀u,ae 123 [.dat t.enc,.dat u.enc] (iv (Ix t u))
 | [],_,t,ht,_=>by simp at ht
 | x::r,h,t,ht,u=>by
  simp only[tt] at h
  rcases List.mem_cons.1 ht with h1|ht
  ·rw[h1];exact zS x u h.1
  exact xd r h.2 t ht u
end
theorem abE {k ix k2 ix2 r:Int} {nm nm2:List UInt8} {l l2:List ak} {c:Bool} (h:ae 123 [.dat (.agg [i64 k,sb nm,i64 ix,sl l]),.dat (.agg [i64 k2,sb nm2,i64 ix2,sl l2])] (iv r)) (hc:aB r 0=c):ae 86 [.dat (.agg [i64 k,sb nm,i64 ix,sl l]),.dat (.agg [i64 k2,sb nm2,i64 ix2,sl l2])] (bv c):=by
 rcases l with _|⟨x,l⟩ <;>
 ·rcases l2 with _|⟨y,l2⟩ <;>
  ·refine co [8] [] (x:=.of Tryz.f86 Ps Qr) ?_;refine on h (ob hc ?_)
   cases c <;>
   ·exact fi
def reT (t u:Ty):Bool:=aB (Ix t u) 0
theorem O5 (t u:Ty) (h:t.thin):ae 86 [.dat t.enc,.dat u.enc] (bv (reT t u)):=by
 have h1:=zS t u h;obtain⟨k,nm,ix,l⟩:=t;obtain⟨k2,nm2,ix2,l2⟩:=u;exact abE h1 rfl
theorem To (t u:Ty) (h:t.size < 1000000000):ae 86 [.dat t.enc,.dat u.enc] (bv (reT t u)):=O5 t u (DG t h)
theorem Tv (c:Bool):MC c≠0:=by cases c <;> decide
theorem Rm {a b:List UInt8} (h:jP a b=true):a=b:=by rw[wu] at h;simpa using h
theorem wq {a b:Int} (h:aB a b=true):a=b:=by rw[cN] at h;simpa using h
theorem Iy {c1 c2 c3 c4 c5 c6 c7 c8:Bool} {r:Int} (h:Kw c1 c2 c3 c4 c5 c6 c7 c8 r=0):c1=true/\c2=true/\c3=true/\c4=true/\r=0:=by
 cases c1 <;> cases c2 <;> cases c3 <;> cases c4 <;> simp[Kw,Tv] at h ⊢ <;> exact h
mutual
theorem FR:∀(t u:Ty),Ix t u=0->t=u
 | .mk k nm ix l,.mk k2 nm2 ix2 l2,h=>by
  rw[Ix] at h;obtain⟨h1,h2,h3,h4,h5⟩:=Iy h;rw[wq h1,Rm h2,wq h3];rw[A0,aH,aH] at h4;rw[FU l l2 (by simpa using h4) h5]
theorem FU:∀(l l2:List Ty),l.length=l2.length->Ky l l2=0->l=l2
 | [],[],_,_=>rfl
 | [],_::_,h,_=>by simp at h
 | _::_,[],h,_=>by simp at h
 | t::r,u::v,h,h2=>by
  rw[Ky] at h2
  cases hz:aB (Ix t u) 0 with
  | true=>
   rw[hz] at h2;rw[FR t u (wq hz),FU r v (by simpa using h) h2]
  | false=>
   rw[hz] at h2;dsimp only at h2;rw[h2,eu] at hz;simp at hz
end
mutual
theorem FT:∀t:Ty,Ix t t=0
 | .mk k nm ix l=>by rw[Ix,eu,A4,eu,eu,FV l];rfl
theorem FV:∀l:List Ty,Ky l l=0
 | []=>by simp[Ky]
 | t::r=>by rw[Ky,FT t,eu,FV r]
end
theorem Th {t u:Ty}:reT t u=true↔t=u:=by
 unfold reT
 constructor
 ·intro h;exact FR t u (wq h)
 rintro rfl;rw[FT,eu]
theorem wx (x:Int):fP x x=0:=by
 unfold fP;rw[show aF x x=false by rw[dA];simp]
theorem Gv:∀x:List UInt8,ML x x=false
 | []=>rfl
 | c::r=>by
  unfold ML;rw[show Nat.blt c.toNat c.toNat=false by simp[Nat.blt_eq,Bool.eq_false_iff],show Nat.beq c.toNat c.toNat=true by simp];exact Gv r
theorem Nl (x:List UInt8):qB x x=0:=by
 unfold qB;rw[Gv,A4];rfl
theorem Nk {x y:List UInt8} (h:qB x y=0):x=y:=by
 unfold qB at h
 cases h1:ML x y with
 | true=>rw[h1] at h;simp at h
 | false=>
  rw[h1] at h
  cases h2:jP x y with
  | true=>exact Rm h2
  | false=>rw[h2] at h;simp at h
mutual
theorem Dd:∀(t u:Ty),oT t u=0->t=u
 | .mk k nm ix l,.mk k2 nm2 ix2 l2,h=>by
  rw[oT] at h
  cases hz:aB (BH [fP k k2,qB nm nm2,fP ix ix2,fP (ofNat (ax l).length) (ofNat (ax l2).length)]) 0 with
  | true=>
   rw[hz] at h;have ho:=Aj (qy hz);have h1:=ww (ho (fP k k2) (by simp));have h2:=Nk (ho (qB nm nm2) (by simp));have h3:=ww (ho (fP ix ix2) (by simp));have h4:=AK hz;rw[h1,h2,h3,Df l l2 h4 h]
  | false=>
   rw[hz] at h;dsimp only at h;rw[h,eu] at hz;simp at hz
theorem Df:∀(l l2:List Ty),l.length=l2.length->rM l l2=0->l=l2
 | [],[],_,_=>rfl
 | [],_::_,h,_=>by simp at h
 | _::_,[],h,_=>by simp at h
 | t::r,u::v,h,h2=>by
  rw[rM] at h2
  cases hz:aB (oT t u) 0 with
  | true=>
   rw[hz] at h2;rw[Dd t u (wq hz),Df r v (by simpa using h) h2]
  | false=>
   rw[hz] at h2;dsimp only at h2;rw[h2,eu] at hz;simp at hz
end
mutual
theorem De:∀t:Ty,oT t t=0
 | .mk k nm ix l=>by
  rw[oT,wx,Nl,wx,wx,Dg l];rfl
theorem Dg:∀l:List Ty,rM l l=0
 | []=>by simp[rM]
 | t::r=>by rw[rM,De t,eu,Dg r]
end
theorem UM {t u:Ty}:NC t u=true↔t=u:=by
 unfold NC
 constructor
 ·intro h;exact Dd t u (wq h)
 rintro rfl;rw[De,eu]
theorem Ti (t u:Ty):reT t u=NC t u:=by
 rw[Bool.eq_iff_iff,Th,UM]
theorem O6 (t u:Ty) (h:t.size < 1000000000):ae 86 [.dat t.enc,.dat u.enc] (bv (NC t u)):=by
 rw[←Ti];exact To t u h
noncomputable def acf:Hints:=⟨bV,Ad,bi,rowsOf bi 197⟩
def Sp (es:List ak) (x k:Int):ab:=⟨[(5,iv k),(0,.dat (.slice es)),(1,iv x)],[],[],0⟩
def Md (es:List ak) (x k:Int):ab:=⟨[(17,bv false),(5,iv k),(0,.dat (.slice es)),(1,iv x)],[],[],0⟩
theorem vY {es:List ak} {x y:Int} {i:Nat} {c1 c2:Bool} (h1:aF (ofNat i) (ofNat es.length)=c1) (h2:c1=true->ap ba 22 [.dat (.slice es),.dat (.flat (.int .i64 (ofNat i)))]=some ⟨.ref [iN y],.keep⟩) (h3:aF y x=c2) {T:ej}
  (e1:(c1&&c2)=true->T .normal ((Sp es x (an .i64 (ofNat i+1))).al jh)) (e2:(c1&&c2)=false->T (.exit 0) ((Md es x (ofNat i)).al jh)) :
  KD (roundOf Tryz.f197 0) T ((Sp es x (ofNat i)).al jh):=by
 refine aq [9,16] [13] (H:=acf) (live:=ub) (ob h1 ?_)
 cases c1
 ·exact oe (e2 rfl)
 refine oo (h2 rfl) (ob h3 ?_)
 cases c2
 ·exact oe (e2 rfl)
 exact oe (e1 rfl)
theorem ko {g:FuncId} {args:List ac} {heap:Heap} {next:Nat} {es:List ak} {h2:Heap} {m:Nat} (h:KC g args heap next (XQ ⟨.own es,h2,m⟩)):KC g args heap next (XQ ⟨.dat (.slice es),h2,m⟩):=by
 intro w R N cargs bsA bsH bsF ha hh hnd hnx hg hF;refine (h w R N cargs bsA bsH bsF ha hh hnd hnx hg hF).mono ?_;rintro e w' ⟨v,cv,h1,next',R',N',bsV,bsH',rfl,⟨rfl,rfl,rfl⟩,hv,hh',hnd',hnx',hk,hN⟩;refine⟨_,cv,_,_,R',N',[],bsH',rfl,⟨rfl,rfl,rfl⟩,bQ (cy hv).rep,hh',?_,hnx',hk,hN⟩;exact (List.nodup_append.1 hnd').2.1
def Mc (x k:Int):ab:=⟨[(5,iv k),(0,.dat nl),(1,iv x)],[],[],0⟩
def Kq (x k:Int):ab:=⟨[(17,bv false),(5,iv k),(0,.dat nl),(1,iv x)],[],[],0⟩
theorem Jz {x:Int} {T:ej} (e2:T (.exit 0) ((Kq x (ofNat 0)).al jh)) :
  KD (roundOf Tryz.f197 0) T ((Mc x (ofNat 0)).al jh):=by
 refine aq [] [] (H:=acf) (live:=ub) ?_;exact oe e2
theorem Un {x:Int} (a2:bB ba false 22 [.own [],.dat (.slice [iN x])] none=some ⟨.own [iN x],.keep⟩):ae 197 [.dat nl,iv x] (.own [iN x]):=by
 have hl:KD (.loop (roundOf Tryz.f197 0)) (fun e s=>e=.exit 0/\s=(Kq x (ofNat 0)).al jh) ((Mc x (ofNat 0)).al jh):=
  bm (St:=fun _=>(Mc x (ofNat 0)).al jh) 0 (fun i hi=>absurd hi (Nat.not_lt_zero i)) (Jz ⟨rfl,rfl⟩) (i:=0) (Nat.le_refl _)
 refine co [] [40,44] (x:=.of Tryz.f197 Ad ub) ?_;refine lo hl ?_;rintro ex s ⟨rfl,rfl⟩;refine⟨_,rfl,?_⟩;exact oo a2 (oo a2 fi)
theorem LF {e0:ak} {es p q:List ak} {x y:Int} {i:Nat} {c1 c2:Bool} (h1:aF (ofNat i) (ofNat (e0::es).length)=c1) (h2:c1=true->ap ba 22 [.dat (.slice (e0::es)),.dat (.flat (.int .i64 (ofNat i)))]=some ⟨.ref [iN y],.keep⟩) (h3:aB y x=c2)
  (hl:KD (.loop (roundOf Tryz.f197 0)) (fun e s=>e=.exit 0/\s=(Md (e0::es) x (ofNat i)).al jh) ((Sp (e0::es) x (ofNat 0)).al jh))
  (s1:fF ba 22 none (some (.tmp 35)) none [.dat (.slice (e0::es)),iv (ofNat i)]=some ⟨.dat (.slice p),.keep⟩)
  (s2:fF ba 22 (some (.tmp 42)) none none [.dat (.slice (e0::es)),iv (ofNat i)]=some ⟨.dat (.slice q),.keep⟩)
  (a1:bB ba false 22 [.own [],.dat (.slice p)] none=some ⟨.own p,.keep⟩)
  (a2:bB ba false 22 [.own p,.dat (.slice [iN x])] none=some ⟨.own (p++[iN x]),.keep⟩)
  (a3:bB ba false 22 [.own (p++[iN x]),.dat (.slice q)] none=some ⟨.own (p++[iN x]++q),.keep⟩) :
  ae 197 [.dat (.slice (e0::es)),iv x] (match c1&&c2 with|true=>.dat (.slice (e0::es))|false=>.own (p++[iN x]++q)):=by
 refine co [23,30] [27,36,43,37,40,44] (x:=.of Tryz.f197 Ad ub) ?_;refine lo hl ?_;rintro ex s ⟨rfl,rfl⟩;refine⟨_,rfl,?_⟩;refine ob h1 ?_
 cases c1
 ·exact oo s1 (oo s2 (oo a1 (oo a2 (oo a3 fi))))
 refine oo (h2 rfl) (ob h3 ?_)
 cases c2
 ·exact oo s1 (oo s2 (oo a1 (oo a2 (oo a3 fi))))
 exact fi
def kW:List Int->Int->Nat
 | [],_=>0
 | y::r,x=>match aF y x with|true=>kW r x+1|false=>0
theorem QP:∀{l:List Int} {x:Int},kW l x<=l.length
 | [],_=>Nat.le_refl _
 | y::r,x=>by
  unfold kW
  split
  ·simp only[List.length_cons];have:=QP (l:=r) (x:=x);omega
  omega
theorem QO:∀{l:List Int} {x:Int} {i:Nat} {y:Int},i < kW l x->l[i]?=some y->aF y x=true
 | [],x,i,y,h,h2=>by simp[kW] at h
 | z::r,x,i,y,h,h2=>by
  unfold kW at h
  cases hz:aF z x with
  | false=>rw[hz] at h;simp at h
  | true=>
   rw[hz] at h
   cases i with
   | zero=>simp at h2;subst h2;exact hz
   | succ i=>simp at h2;exact QO (by simp at h;omega) h2
theorem QQ:∀{l:List Int} {x:Int} {y:Int},l[kW l x]?=some y->aF y x=false
 | [],x,y,h=>by simp at h
 | z::r,x,y,h=>by
  unfold kW at h
  cases hz:aF z x with
  | false=>rw[hz] at h;simp at h;subst h;exact hz
  | true=>rw[hz] at h;simp at h;exact QQ h
theorem CX {l:List Int} {x:Int} (hs:l.Pairwise (·<=·)):kW l x=l.countP (· < x):=by
 induction l with
 | nil=>rfl
 | cons y r ih=>
  have ih:=ih (List.Pairwise.of_cons hs);unfold kW
  by_cases hy:y < x
  ·rw[dA,decide_eq_true hy,List.countP_cons_of_pos (by simpa using hy),ih]
  rw[dA,decide_eq_false hy];symm;dsimp only;rw[List.countP_eq_zero];intro z hz
  have:y<=z:=by
   rcases List.mem_cons.1 hz with rfl|hz
   ·exact Int.le_refl _
   exact List.rel_of_pairwise_cons hs hz
  simp only[decide_eq_true_eq];omega
def Eu (l:List Int) (x:Int):List Int:=match l[kW l x]? with|some y=>(match aB y x with|true=>l|false=>fw l (kW l x) x)|none=>fw l (kW l x) x
theorem GJ {l:List Int} {x:Int} (hs:l.Pairwise (·<=·)):Eu l x=jc l x:=by
 obtain⟨c1,c2⟩:=countP_split (x:=x) hs;unfold Eu jc;rw[←CX hs];rw[←CX hs] at c1 c2
 cases hc:l.contains x with
 | true=>
  have hm:x∈l:=by simpa using hc
  have hd:x∈l.drop (kW l x):=by
   rcases List.mem_append.1 ((List.take_append_drop (kW l x) l).symm ▸ hm) with h|h
   ·exact absurd (c1 x h) (Int.lt_irrefl x)
   exact h
  have hlt:kW l x < l.length:=by
   rcases Nat.lt_or_ge (kW l x) l.length with h|h
   ·exact h
   rw[List.drop_eq_nil_of_le h] at hd;simp at hd
  have hg:l[kW l x]?=some l[kW l x]:=List.getElem?_eq_getElem hlt;have hge:x<=l[kW l x]:=c2 _ (by rw[List.drop_eq_getElem_cons hlt];exact List.mem_cons_self);have hle:l[kW l x]<=x:=by
   have hp:(l.drop (kW l x)).Pairwise (·<=·):=hs.sublist (List.drop_sublist _ _);rw[List.drop_eq_getElem_cons hlt] at hp hd
   rcases List.mem_cons.1 hd with h|h
   ·omega
   exact List.rel_of_pairwise_cons hp h
  rw[hg];dsimp only;rw[show l[kW l x]=x by omega,eu]
 | false=>
  have hm:x∉l:=by intro h;rw[List.contains_iff_mem.2 h] at hc;simp at hc
  cases hg:l[kW l x]? with
  | none=>rfl
  | some y=>
   dsimp only
   have:aB y x=false:=by
    rw[cN]
    have:y≠x:=by rintro rfl;exact hm (List.mem_of_getElem? hg)
    simpa using this
   rw[this]
theorem fE {a b:List Int} (h:a.length+b.length < 1000000000):bB ba false 22 [.own (a.map iN),.dat (.slice (b.map iN))] none=some ⟨.own (a.map iN++b.map iN),.keep⟩:=by
 refine uX (i:=DE) (ds:=b.map iN) (k:=0) HU rfl kV ?_ ?_ (by kernel_rfl) ?_ ?_ ?_ (by simp)
 ·exact kM (fun d hd=>by obtain⟨x,_,rfl⟩:=List.mem_map.1 hd;rfl)
 ·exact kM (fun d hd=>by obtain⟨x,_,rfl⟩:=List.mem_map.1 hd;rfl)
 ·have h1:DE.bytes<=1000:=fD (by kernel_rfl);simp only[List.length_map]
  calc (a.length+b.length)*DE.bytes<=1000000000*1000:=Nat.mul_le_mul (by omega) h1
   _<=140737488355328:=by decide
 ·simp[lim];omega
 have hb:fy (a.map iN++b.map iN)=false:=by
  rw[←List.map_append]
  cases a++b with
  | nil=>rfl
  | cons x r=>rfl
 unfold jr;rw[hb]
theorem zn (l:List Int):sizedB 1 (l.map iN)=true:=kM (fun d hd=>by obtain⟨x,_,rfl⟩:=List.mem_map.1 hd;rfl)
theorem FB {l:List Int} {i:Nat} (h:i<=l.length) (x:Operand):fF ba 22 none (some x) none [.dat (.slice (l.map iN)),iv (ofNat i)]=some ⟨.dat (.slice ((l.take i).map iN)),.keep⟩:=by
 have h1:bW.nA.sub DE.size (l.map iN) none (some (ofNat i))=some ((l.take i).map iN):=by
  rw[kV];show (match sizedB 1 (l.map iN),Nat.blt 0 1 with
   | true,true=>(match eJ (some (ofNat i)) (l.map iN).length,eJ none 0 with
    | some h,some lo=>(match Nat.ble lo h,Nat.ble h (l.map iN).length with|true,true=>some (((l.map iN).take h).drop lo)|_,_=>none)
    | _,_=>none)
   | _,_=>none)=_
  rw[zn];have e1:eJ (some (ofNat i)) (l.map iN).length=some i:=rfl;have e2:Nat.ble i (l.map iN).length=true:=by rw[Nat.ble_eq];simpa using h
  rw[e1];dsimp only[eJ];rw[e2];simp[Nat.ble,List.map_take];rfl
 have h2:fF ba 22 none (some x) none [.dat (.slice (l.map iN)),iv (ofNat i)]=xj (match bW.nA.sub DE.size (l.map iN) none (some (ofNat i)) with|some r=>some (.dat (.slice r))|none=>none):=by kernel_rfl
 rw[h2,h1];rfl
theorem zl {l:List Int} {i:Nat} (h:i<=l.length) (x:Operand):fF ba 22 (some x) none none [.dat (.slice (l.map iN)),iv (ofNat i)]=some ⟨.dat (.slice ((l.drop i).map iN)),.keep⟩:=by
 have h1:bW.nA.sub DE.size (l.map iN) (some (ofNat i)) none=some ((l.drop i).map iN):=by
  rw[kV];show (match sizedB 1 (l.map iN),Nat.blt 0 1 with
   | true,true=>(match eJ none (l.map iN).length,eJ (some (ofNat i)) 0 with
    | some h,some lo=>(match Nat.ble lo h,Nat.ble h (l.map iN).length with|true,true=>some (((l.map iN).take h).drop lo)|_,_=>none)
    | _,_=>none)
   | _,_=>none)=_
  rw[zn];have e1:eJ (some (ofNat i)) 0=some i:=rfl;have e2:Nat.ble i (l.map iN).length=true:=by rw[Nat.ble_eq];simpa using h
  have e3:Nat.ble (l.map iN).length (l.map iN).length=true:=by rw[Nat.ble_eq];exact Nat.le_refl _
  rw[e1];dsimp only[eJ];rw[e2,e3,List.take_length];simp[List.map_drop];rfl
 have h2:fF ba 22 (some x) none none [.dat (.slice (l.map iN)),iv (ofNat i)]=xj (match bW.nA.sub DE.size (l.map iN) (some (ofNat i)) none with|some r=>some (.dat (.slice r))|none=>none):=by kernel_rfl
 rw[h2,h1];rfl
theorem abP {l:List Int} {x:Int} (hn:l.length < 100000000):ae 197 [.dat (sl (l.map iN)),iv x] (.dat (sl ((Eu l x).map iN))):=by
 cases l with
 | nil=>exact ko (Un (fE (a:=[]) (b:=[x]) (by simp)))
 | cons y0 r=>
  obtain⟨l,hl⟩:∃l,l=y0::r:=⟨_,rfl⟩;have hnl:(l.map iN)=iN y0::r.map iN:=by rw[hl];rfl
  have hne:sl (l.map iN)=.slice (l.map iN):=by rw[hnl];rfl
  rw[←hl] at hn ⊢;have hle:=QP (l:=l) (x:=x);have hloop:KD (.loop (roundOf Tryz.f197 0)) (fun e s=>e=.exit 0/\s=(Md (l.map iN) x (ofNat (kW l x))).al jh) ((Sp (l.map iN) x (ofNat 0)).al jh):=by
   refine bm (St:=fun i=>(Sp (l.map iN) x (ofNat i)).al jh) (kW l x) ?_ ?_ (i:=0) (Nat.zero_le _)
   ·intro i hi;have hil:i < l.length:=by omega
    have hg:l[i]?=some l[i]:=List.getElem?_eq_getElem hil;refine @vY _ _ (l[i]) _ true true (br (by simpa using hil)) (fun _=>wb hg) (QO hi hg) _ (fun _=>?_) (fun h=>by simp at h);rw[bb (by omega)];rfl
   cases hg:l[kW l x]? with
   | none=>
    have:l.length<=kW l x:=by simpa using hg
    exact @vY _ _ 0 _ false (aF 0 x) (cj (by simp;omega)) (fun h=>by simp at h) rfl _ (fun h=>by simp at h) (fun _=>⟨rfl,rfl⟩)
   | some y=>
    have hil:=(List.getElem?_eq_some_iff.1 hg).1;exact @vY _ _ y _ true false (br (by simpa using hil)) (fun _=>wb hg) (QQ hg) _ (fun h=>by simp at h) (fun _=>⟨rfl,rfl⟩)
  have s1:=FB (l:=l) hle (.tmp 35);have s2:=zl (l:=l) hle (.tmp 42);have a1:=fE (a:=[]) (b:=l.take (kW l x)) (by simp;omega);have a2:=fE (a:=l.take (kW l x)) (b:=[x]) (by simp;omega);have a3:=fE (a:=l.take (kW l x)++[x]) (b:=l.drop (kW l x)) (by simp;omega);rw[List.map_append] at a3;have hins:sl ((fw l (kW l x) x).map iN)=.slice ((l.take (kW l x)).map iN++[x].map iN++(l.drop (kW l x)).map iN):=by
   have:(fw l (kW l x) x).map iN=(l.take (kW l x)).map iN++[x].map iN++(l.drop (kW l x)).map iN:=by simp[fw]
   rw[←this]
   cases h:(fw l (kW l x) x).map iN with
   | nil=>simp[fw] at h
   | cons _ _=>rfl
  rw[hnl] at s1 s2 hloop hne;rw[hnl,hne];unfold Eu
  cases hg:l[kW l x]? with
  | none=>
   have:l.length<=kW l x:=by simpa using hg
   have h:=@LF _ _ _ _ _ 0 _ false (aB 0 x) (cj (by rw[←hnl];simp;omega)) (fun h=>by simp at h) rfl hloop s1 s2 a1 a2 a3;dsimp only;rw[hins];exact ko h
  | some y=>
   have hil:=(List.getElem?_eq_some_iff.1 hg).1;have h:=@LF _ _ _ _ _ y _ true (aB y x) (br (by rw[←hnl];simpa using hil)) (fun _=>by rw[←hnl];exact wb hg) rfl hloop s1 s2 a1 a2 a3;dsimp only;generalize aB y x=c at h
   cases c
   ·dsimp only;rw[hins];exact ko h
   dsimp only;rw[hnl];exact h
noncomputable def hRF:Hints:=⟨bV,vK,bi,rowsOf bi 182⟩
def Z2 (lo:Heap) (u:Nat) (s:ak) (i:Int):ab:=⟨[(7,iv i),(3,.ptr (.loc 3) 0),(1,iv (ofNat u)),(2,.dat s)],lo,[],0⟩
def WH (lo:Heap) (u:Nat) (s:ak) (i:Int):ab:=⟨[(27,bv false),(7,iv i),(3,.ptr (.loc 3) 0),(1,iv (ofNat u)),(2,.dat s)],lo,[],0⟩
def ZZ (c6 c1:Bool):Int:=match c6 with|true=>(match c1 with|true=>1|false=>0)|false=>0
theorem R5 (k:Int) (i:Nat):ofNat (ey k i)=ZZ (aB k 6) (aB (ofNat i) (ofNat 1)):=by
 unfold ey;rw[A0]
 cases aB k 6
 ·simp[ZZ]
 by_cases h:i=1
 ·subst h;rfl
 simp[ZZ,h]
theorem rb (k:Int) (nm:List UInt8) (ix:Int) (a:List ak) (i:Nat):ae 198 [.dat (.agg [i64 k,sb nm,i64 ix,sl a]),iv (ofNat i)] (iv (ofNat (ey k i))):=by
 rw[R5];generalize h6:aB k 6=c6;generalize h1:aB (ofNat i) (ofNat 1)=c1
 rcases a with _|⟨x,a⟩ <;>
 ·refine co [7,10] [] (x:=.of Tryz.f198 IM Le) ?_;refine ob h6 ?_
  cases c6
  ·exact fi
  refine ob h1 ?_
  cases c1 <;>
  ·exact fi
theorem OO {k:Int} {nm:List UInt8} {ix:Int} {x:ak} {es:List ak} {l:List Ty} {t:Ty} {i u b:Nat} {s s2:List ak} (hl:ax l=x::es) (hi:i < (ax l).length) (ht:l[i]?=some t)
  (hb:ae 198 [.dat (.agg [i64 k,sb nm,i64 ix,.slice (x::es)]),iv (ofNat i)] (iv (ofNat b)))
  (hc:ae 182 [.dat t.enc,iv (an .i64 (ofNat u+ofNat b)),.dat (sl s)] (.dat (sl s2))) {T:ej}
  (e:T .normal ((Z2 (kr 3 k nm ix (.slice (x::es))) u (sl s2) (an .i64 (ofNat i+1))).al nY)) :
  KD (roundOf Tryz.f182 0) T ((Z2 (kr 3 k nm ix (.slice (x::es))) u (sl s) (ofNat i)).al nY):=by
 have h1:=br hi;have h2:=pF ht;rw[hl] at h1 h2;clear ht hi hl;obtain⟨k2,nm2,ix2,a2⟩:=t
 rcases a2 with _|⟨b2,d2⟩ <;>
 ·rcases s with _|⟨y,s⟩ <;>
  ·exact aq [27] [33] (H:=hRF) (live:=ow) (ob h1 (oo h2 (on hb (on hc (oe e)))))
theorem Te {k:Int} {nm:List UInt8} {ix:Int} {l s:List ak} {u:Nat} {T:ej} (e:T (.exit 0) ((WH (kr 3 k nm ix (sl l)) u (sl s) (ofNat l.length)).al nY)) :
  KD (roundOf Tryz.f182 0) T ((Z2 (kr 3 k nm ix (sl l)) u (sl s) (ofNat l.length)).al nY):=by
 have h1:=cj (i:=l.length) (L:=l.length) (by omega)
 rcases l with _|⟨x,l⟩
 ·refine aq [] [] (H:=hRF) (live:=ow) ?_;exact oe e
 exact aq [27] [] (H:=hRF) (live:=ow) (ob h1 (oe e))
theorem OP {k:Int} {nm:List UInt8} {ix:Int} {l s s1 s2:List ak} {u:Nat} {ck cg:Bool} (hk:aB k 5=ck) (hg:aF ix (ofNat u)=cg)
  (ha:ck=true->cg=false->ae 197 [.dat (sl s),iv (an .i64 (ix - ofNat u))] (.dat (sl s1))) (he:ck=false∨cg=true->s1=s)
  (hl:KD (.loop (roundOf Tryz.f182 0)) (fun e s'=>e=.exit 0/\s'=(WH (kr 3 k nm ix (sl l)) u (sl s2) (ofNat l.length)).al nY) ((Z2 (kr 3 k nm ix (sl l)) u (sl s1) (ofNat 0)).al nY)) :
  ae 182 [.dat (.agg [i64 k,sb nm,i64 ix,sl l]),iv (ofNat u),.dat (sl s)] (.dat (sl s2)):=by
 rcases l with _|⟨x,l⟩ <;>
 ·rcases s with _|⟨y,s⟩ <;>
  ·cases ck
   ·obtain rfl:=he (.inl rfl);clear he ha;refine co [10] [] (x:=.of Tryz.f182 vK ow) ?_;refine ob hk ?_;refine lo hl ?_;rintro ex s ⟨rfl,rfl⟩;refine⟨_,rfl,?_⟩;exact fi
   cases cg
   ·have ha2:=ha rfl rfl;clear he ha;refine co [10,15] [] (x:=.of Tryz.f182 vK ow) ?_;refine ob hk (ox hg (on ha2 ?_));refine lo hl ?_;rintro ex s ⟨rfl,rfl⟩;refine⟨_,rfl,?_⟩;exact fi
   obtain rfl:=he (.inr rfl);clear he ha;refine co [10,15] [] (x:=.of Tryz.f182 vK ow) ?_;refine ob hk (ox hg ?_);refine lo hl ?_;rintro ex s ⟨rfl,rfl⟩;refine⟨_,rfl,?_⟩;exact fi
def OL (k ix:Int) (u:Nat) (s:List Int):List Int:=match aB k 5 with|false=>s|true=>(match aF ix (ofNat u) with|true=>s|false=>Eu s (ix - ofNat u))
theorem OK {k ix:Int} {u:Nat} {s:List Int} (h:s.Pairwise (·<=·)):OL k ix u s=eP k ix u s:=by
 unfold OL eP
 cases aB k 5 <;> cases aF ix (ofNat u) <;> first|rfl|exact GJ h
def RF (t:Ty) (u:Nat) (s:List Int):Prop:=ae 182 [.dat t.enc,iv (ofNat u),.dat (sl (s.map iN))] (.dat (sl ((t.cf u s).map iN)))
theorem Xs {k:Int} {nm:List UInt8} {ix:Int} {l:List Ty} {u b:Nat} {s:List Int} (hs:gr b s) (hbd:b+1+aQ l < 100000000) (hu:u < 1000000000) (hix:aB k 5=true->aF ix 9223372036854775808=true)
  (ih:∀t∈l,∀v s2,v<=u+1->gr (b+1+aQ l) s2->(∃b2,gr b2 s2/\b2+t.size<=b+1+aQ l)->RF t v s2):RF (.mk k nm ix l) u s:=by
 have hlen:=gw l;have hs1:=@zE _ k ix u _ hs;have ha:aB k 5=true->aF ix (ofNat u)=false->ae 197 [.dat (sl (s.map iN)),iv (an .i64 (ix - ofNat u))] (.dat (sl ((eP k ix u s).map iN))):=by
  intro hk hg;rw[←OK hs.1];unfold OL;rw[hk,hg];have hix:=hix hk;rw[dA] at hg hix;simp only[decide_eq_false_iff_not,decide_eq_true_eq] at hg hix;have e:an .i64 (ix - ofNat u)=ix - ofNat u:=by
   rw[cQ];simp only[Int.ofNat_eq_natCast] at hg ⊢;exact wrap_i64 (by omega) (by omega)
  rw[e];exact abP (by have:=hs.2;omega)
 have he:aB k 5=false∨aF ix (ofNat u)=true->(eP k ix u s).map iN=s.map iN:=by
  unfold eP;rintro (h|h)
  ·rw[h]
  rw[h];cases aB k 5 <;> rfl
 refine OP rfl rfl ha he ?_;refine bm (St:=fun i=>(Z2 (kr 3 k nm ix (sl (ax l))) u (sl ((se k (l.take i) 0 u (eP k ix u s)).map iN)) (ofNat i)).al nY) (ax l).length ?_ ?_ (i:=0) (Nat.zero_le _)
 ·intro i hi;obtain⟨t,ht,hmem⟩:=get_mem hi;have hi2:=hi;rw[aH] at hi2;have hbn:ey k i<=1:=by unfold ey;split <;> omega
  obtain⟨x,es,hx⟩:∃x es,ax l=x::es:=by
   cases hl:ax l with
   | nil=>rw[hl] at hi;simp at hi
   | cons x es=>exact⟨x,es,rfl⟩
  have hst:=ld ht;have hsl:=tx (l:=l) (i+1);have hpre:gr (b+1+aQ (l.take i)) (se k (l.take i) 0 u (eP k ix u s)):=EO _ u hs1;have hcf:=ih t hmem (u+ey k i) (se k (l.take i) 0 u (eP k ix u s)) (by omega) ⟨hpre.1,by have:=hpre.2;omega⟩ ⟨_,hpre,by omega⟩;unfold RF at hcf;rw[←wrap_add (n:=u) (m:=ey k i) (by omega)] at hcf;have hbi:=rb k nm ix (x::es) i;have e:=OO (T:=xU (fun s'=>s'=(Z2 (kr 3 k nm ix (sl (ax l))) u (sl ((se k (l.take (i+1)) 0 u (eP k ix u s)).map iN)) (ofNat (i+1))).al nY)
   (fun e s'=>e=.exit 0/\s'=(WH (kr 3 k nm ix (sl (ax l))) u (sl (((Ty.mk k nm ix l).cf u s).map iN)) (ofNat (ax l).length)).al nY)) hx hi ht hbi hcf (by
    rw[hx,bb (by omega),Hr ht];rfl)
  rw[hx];rw[hx] at e;exact e
 refine Te ⟨rfl,?_⟩;rw[aH,List.take_length,Ty.cf]
mutual
theorem O4:∀(t:Ty) (u:Nat) {b:Nat} {s:List Int},gr b s->b+t.size < 100000000->u+t.depth < 1000000000->t.fY->RF t u s
 | .mk k nm ix l,u,b,s,hs,hb,hu,hx=>by
  simp only[Ty.size] at hb;simp only[Ty.depth] at hu;simp only[Ty.fY] at hx;exact Xs hs (by omega) (by omega) hx.1 (KE l u (by omega) (by omega) hx.2)
theorem KE:∀(l:List Ty) (u:Nat) {B:Nat},u+db l+1 < 1000000000->B < 100000000->fg l->∀t∈l,∀v s2,v<=u+1->gr B s2->(∃b2,gr b2 s2/\b2+t.size<=B)->RF t v s2
 | [],u,B,hu,_,hx,t,ht,_,_,_,_,_=>by simp at ht
 | y::r,u,B,hu,hB,hx,t,ht,v,s2,hv,h1,h2=>by
  simp only[db] at hu;simp only[fg] at hx
  rcases List.mem_cons.1 ht with h3|ht
  ·obtain⟨b2,h4,h5⟩:=h2;rw[h3] at h5 ⊢;exact O4 y v h4 (by omega) (by omega) hx.1
  exact KE r u (by omega) hB hx.2 t ht v s2 hv h1 h2
end
theorem Xk {k:Int} {nm:List UInt8} {ix:Int} {l s:List ak} (h:ae 182 [.dat (.agg [i64 k,sb nm,i64 ix,sl l]),iv (ofNat 0),.dat nl] (.dat (sl s))):ae 154 [.dat (.agg [i64 k,sb nm,i64 ix,sl l])] (.dat (sl s)):=by
 rcases l with _|⟨x,l⟩ <;>
 ·rcases s with _|⟨y,s⟩ <;>
  ·refine co [] [] (x:=.of Tryz.f154 IY Lo) ?_;exact on h fi
theorem IB {t:Ty} (hs:t.size < 100000000) (hx:t.fY):ae 154 [.dat t.enc] (.dat (sl (t.fv.map iN))):=by
 have h1:RF t 0 []:=O4 t 0 (b:=0) ⟨List.Pairwise.nil,Nat.le_refl 0⟩ (by omega) (by have:=oS t;omega) hx;unfold RF at h1;unfold Ty.fv;obtain⟨k,nm,ix,l⟩:=t;exact Xk h1
def LD {α:Type}:List α->Bool
 | []=>true
 | _=>false
theorem Xu {k:Int} {nm:List UInt8} {ix:Int} {l s:List ak} (h:ae 154 [.dat (.agg [i64 k,sb nm,i64 ix,sl l])] (.dat (sl s))):ae 108 [.dat (.agg [i64 k,sb nm,i64 ix,sl l])] (bv (LD s)):=by
 rcases l with _|⟨x,l⟩ <;>
 ·rcases s with _|⟨y,s⟩ <;>
  ·refine co [] [] (x:=.of Tryz.f108 I5 Lv) ?_;exact on h fi
theorem FY {t:Ty} (hs:t.size < 100000000) (hx:t.fY):ae 108 [.dat t.enc] (bv (LD t.fv)):=by
 have h:=IB hs hx;have e:LD t.fv=LD (t.fv.map iN):=by cases t.fv <;> rfl
 rw[e];obtain⟨k,nm,ix,l⟩:=t;exact Xu h
def fB (n s:Int) (u:Bool):Bool:=(aB n 0&&!u)||(u&&(!aF n 0&&aF n s))
def eo (n s:Int):Bool:=!aF n 0&&aF n s
def Ins.unary (x:Ins):Bool:=aB x.op 3&&aB x.im 5
def Jo (x:Ins):Int:=ofNat x.ar.length
def Ge (sl:Int) (x:Ins) (s:kG):Bool:=x.ar.all (fun n=>fB n sl s.ar)&&((s.ar||aB (Jo x) 0)&&(!aF 6 (Jo x)&&(fB x.dst sl s.dst&&(fB x.a sl s.a&&fB x.b sl (s.b&&!x.unary)))))
def GL (ni ne:Int) (op im:Int):Bool:=
 if (aB op 12||aB op 13)=true then !aF im 0&&aF im ni
 else if aB op 3=true then !aF im 1&&!aF 7 im
 else if aB op 8=true then !aF im 0&&aF im 6
 else if aB op 17=true then !aF im 0&&aF im ne
 else if (aB op 20||aB op 22)=true then !aF im 1
 else aB im 0
def eQ (n:Nat):Bool:=!Nat.blt n 32&&!Nat.blt 126 n
def mN (k i:Int) (s:List UInt8):Bool:=
 if (!aB k 3&&!jP s [])=true then false
 else if aB k 0=true then aB i 0
 else if aB k 1=true then true
 else if aB k 2=true then aB i 0||aB i 1
 else if aB k 3=true then s.all (fun c=>eQ c.toNat)&&(aB i 0&&!aF 2000 (ofNat s.length))
 else false
def sY (k i:Int) (s:List UInt8):Bool:=
 if (!aB k 3&&!jP s [])=true then false
 else if (!aB k 1&&(!aB k 2&&!aB i 0))=true then false
 else if s.all (fun c=>eQ c.toNat)=false then false
 else if (aB k 0||aB k 1)=true then true
 else if aB k 2=true then aB i 0||aB i 1
 else if aB k 3=true then !aF 2000 (ofNat s.length)
 else false
theorem UO (a b:List UInt8):jP a b=true↔a=b:=by rw[wu];simp
theorem RE (k i:Int) (s:List UInt8):mN k i s=sY k i s:=by
 by_cases hs:s=[]
 ·subst hs;simp only[mN,sY,cN,dA,jP,List.all_nil,List.length_nil]
  by_cases h0:k=0
  ·subst h0;simp
   by_cases hi:i=0 <;> simp[hi]
  by_cases h1:k=1
  ·subst h1;simp
  by_cases h2:k=2
  ·subst h2;simp
  by_cases h3:k=3
  ·subst h3;simp
   by_cases hi:i=0 <;> simp[hi]
  simp[h0,h1,h2,h3]
 have hb:jP s []=false:=by
  rw[Bool.eq_false_iff];intro h;exact hs ((UO s []).1 h)
 simp only[mN,sY,hb,cN,dA]
 by_cases h3:k=3
 ·subst h3
  cases ha:s.all (fun c=>eQ c.toNat) <;> by_cases hi:i=0 <;> simp[hi]
 simp[h3]
def B5 (k i:Int) (s:List UInt8):Bool:=aB k 0&&(aB i 0&&jP s [])
theorem JX (k i:Int) (s:List UInt8):(mN k i s&&aB k 0)=B5 k i s:=by
 unfold B5 mN;simp only[cN]
 by_cases h0:k=0
 ·subst h0
  cases hb:jP s [] <;> simp
 have h1:(k==0)=false:=by simpa using h0
 rw[h1,Bool.and_false,Bool.false_and]
def tyP (u:Bool) (t:Ty):Bool:=if u=true then (aB t.validate 0&&LD t.fv) else NC t (.mk 0 [] 0 [])
def iJ (ni ne sl:Int) (x:Ins):Bool:=
 match eO x.op with
 | none=>false
 | some s=>Ge sl x s&&(GL ni ne x.op x.im&&((if s.nm=true then isIdent x.nm else jP x.nm [])&&(tyP s.ty x.ty&&(mN x.ck x.ci x.cs&&(s.con||aB x.ck 0)))))
def Tz (sl:Int) (x:Ins) (s:kG):Bool:=(!(s.dst&&!eo x.dst sl)&&(!(s.a&&!eo x.a sl)&&(!(s.b&&!eo x.b sl)&&!aF 6 (Jo x))))&&x.ar.all (fun n=>eo n sl)
def noR (x:Ins) (s:kG):Bool:=(s.dst||aB x.dst 0)&&((s.a||aB x.a 0)&&((s.b||aB x.b 0)&&((s.im||aB x.im 0)&&((s.nm||jP x.nm [])&&((s.ar||!aF 0 (Jo x))&&((s.ty||NC x.ty (.mk 0 [] 0 []))&&(s.con||B5 x.ck x.ci x.cs)))))))
def SJ (x:Ins) (s:kG):Bool:=(!s.nm||isIdent x.nm)&&((!s.ty||(aB x.ty.validate 0&&LD x.ty.fv))&&(!s.con||sY x.ck x.ci x.cs))
def QW (ni ne:Int) (x:Ins):Bool:=
 if (aB x.op 12||aB x.op 13)=true then !aF x.im 0&&aF x.im ni
 else if aB x.op 3=true then !aF x.im 1&&(!aF 7 x.im&&(!aB x.im 5||aB x.b 0))
 else if aB x.op 8=true then !aF x.im 0&&aF x.im 6
 else if aB x.op 17=true then !aF x.im 0&&aF x.im ne
 else if (aB x.op 20||aB x.op 22)=true then !aF x.im 1
 else true
def Et (ni ne sl:Int) (x:Ins):Bool:=
 match eO x.op with
 | none=>false
 | some s=>noR x s&&(Tz sl x s&&(SJ x s&&QW ni ne x))
theorem pT {op:Int} {s:kG} (h:eO op=some s):∃n:Nat,op=ofNat n/\1<=n/\n<=22/\ki n=some s:=by
 cases h1:aF op 1 with
 | true=>rw[DQ h1] at h;exact absurd h (by simp)
 | false=>
  cases h2:aF op 23 with
  | false=>rw[DR h2] at h;exact absurd h (by simp)
  | true=>
   obtain⟨n,rfl,a,b⟩:=zo h1 h2;exact⟨n,rfl,a,b,h⟩
theorem U2 (sl:Int) (u:Bool) (l:List Int):(l.all (fun n=>fB n sl u)&&(u||aB (ofNat l.length) 0))=((u||!aF 0 (ofNat l.length))&&l.all (fun n=>eo n sl)):=by
 cases u
 ·cases l with
  | nil=>simp[cN,dA]
  | cons a r=>
   have:¬((r.length:Int)+1=0):=by omega
   simp[cN,dA,this]
 simp[fB,eo]
theorem su (n sl:Int) (u:Bool):fB n sl u=((u||aB n 0)&&!(u&&!eo n sl)):=by
 cases u <;> simp[fB,eo]
theorem MT {ni ne:Int} {x:Ins} {s:kG} (h:eO x.op=some s) (hu:x.unary=false):GL ni ne x.op x.im=((s.im||aB x.im 0)&&QW ni ne x):=by
 obtain⟨op,dst,a,b,im,nm,az,ar,ty,ck,ci,cs⟩:=x;obtain⟨n,h1,h2,h3,h4⟩:=pT h;simp only at h1;subst h1;have hc:n=1∨n=2∨n=3∨n=4∨n=5∨n=6∨n=7∨n=8∨n=9∨n=10∨n=11∨n=12∨n=13∨n=14∨n=15∨n=16∨n=17∨n=18∨n=19∨n=20∨n=21∨n=22:=by omega
 clear h2 h3 h
 rcases hc with rfl|rfl|rfl|rfl|rfl|rfl|rfl|rfl|rfl|rfl|rfl|rfl|rfl|rfl|rfl|rfl|rfl|rfl|rfl|rfl|rfl|rfl <;>
 ·simp only[ki,Option.some.injEq] at h4;subst h4;simp[GL,QW,cN]
  try
   have hu2:(im==5)=false:=by
    have hu3:(aB 3 3&&aB im 5)=false:=hu;rw[show aB 3 3=true from rfl,Bool.true_and,cN] at hu3;exact hu3
   rw[hu2];simp
theorem Qf (u:Bool) (nm:List UInt8):(if u=true then isIdent nm else jP nm [])=((u||jP nm [])&&(!u||isIdent nm)):=by
 cases u <;> simp
theorem NL (u:Bool) (t:Ty):tyP u t=((u||NC t (.mk 0 [] 0 []))&&(!u||(aB t.validate 0&&LD t.fv))):=by
 cases u <;> simp[tyP]
theorem Ng (u:Bool) (k i:Int) (s:List UInt8):(mN k i s&&(u||aB k 0))=((u||B5 k i s)&&(!u||sY k i s)):=by
 cases u
 ·have:=JX k i s
  simp only[Bool.false_or,Bool.not_false,Bool.true_or,Bool.and_true];exact this
 simp[RE]
theorem X0 (ni ne sl:Int) (x:Ins):iJ ni ne sl x=Et ni ne sl x:=by
 unfold iJ Et
 cases h:eO x.op with
 | none=>rfl
 | some s=>
  show (Ge sl x s&&(GL ni ne x.op x.im&&((if s.nm=true then isIdent x.nm else jP x.nm [])&&(tyP s.ty x.ty&&(mN x.ck x.ci x.cs&&(s.con||aB x.ck 0))))))=(noR x s&&(Tz sl x s&&(SJ x s&&QW ni ne x)));have ha:=U2 sl s.ar x.ar;rw[Ng,NL,Qf]
  cases hu:x.unary with
  | false=>
   rw[MT h hu];unfold Ge Tz noR SJ Jo;rw[hu,su x.dst,su x.a,su x.b,Bool.not_false,Bool.and_true];rw[←Bool.and_assoc (x.ar.all _),ha];simp only[Bool.and_assoc,Bool.and_comm,Bool.and_left_comm]
  | true=>
   have hu2:=hu;obtain⟨n,h1,h2,h3,h4⟩:=pT h;simp only[Ins.unary,cN,Bool.and_eq_true,beq_iff_eq] at hu2;obtain⟨ho,hi⟩:=hu2;rw[ho] at h;have hs:s=⟨[112,114,105,109],true,true,true,true,false,false,false,false,false,false,false⟩:=by
    have:eO 3=some ⟨[112,114,105,109],true,true,true,true,false,false,false,false,false,false,false⟩:=rfl
    rw[this] at h;exact (Option.some.inj h).symm
   subst hs;unfold Ge Tz noR SJ Jo GL QW;rw[hu,ho,hi];have e1:∀n,fB n sl true=eo n sl:=fun n=>by simp[fB,eo]
   have e2:fB x.b sl false=aB x.b 0:=by simp[fB]
   have ha':(x.ar.all (fun n=>fB n sl false)&&(false||aB (ofNat x.ar.length) 0))=((false||!aF 0 (ofNat x.ar.length))&&x.ar.all (fun n=>eo n sl)):=ha;simp only[Bool.not_true,Bool.and_false,e1,e2];rw[←Bool.and_assoc (x.ar.all _),ha'];have e3:(eo x.dst sl&&aB x.b 0)=(eo x.dst sl&&(eo x.b sl&&aB x.b 0)):=by
    simp only[eo,cN,dA]
    by_cases hb:x.b=0
    ·rw[hb]
     by_cases hd:x.dst < 0 <;> by_cases hd2:x.dst < sl <;> simp[hd,hd2]
     omega
    have:(x.b==0)=false:=by simpa using hb
    rw[this];simp
   have n1:aB 3 12=false:=rfl;have n2:aB 3 13=false:=rfl;have n3:aB 3 3=true:=rfl;have n4:aF 5 1=false:=rfl;have n5:aF 7 5=false:=rfl;have n6:aB 5 5=true:=rfl;simp only[n1,n2,n3,n4,n5,n6,Bool.or_self,Bool.or_false,Bool.false_or,Bool.true_or,Bool.not_true,Bool.not_false,Bool.true_and,Bool.and_true,if_true,Bool.false_eq_true,if_false,Bool.not_not];generalize aB x.b 0=q at *;generalize eo x.b sl=q2 at *;generalize eo x.dst sl=q1 at *;generalize eo x.a sl=q3 at *
   cases q1 <;> cases q <;> cases q2 <;> cases q3 <;> simp at e3 ⊢
   simp only[Bool.and_assoc,Bool.and_comm,Bool.and_left_comm]
def dj (d:ak):Prop:=d=nl∨∃es,d=.slice es
theorem dr (l:List ak):dj (sl l):=by cases l with|nil=>exact .inl rfl|cons a b=>exact .inr ⟨_,rfl⟩
theorem dq (z:Bool) (l:List ak):dj (sx z l):=by
 cases l with
 | nil=>cases z with
  | true=>exact .inr ⟨_,rfl⟩
  | false=>exact .inl rfl
 | cons a b=>exact .inr ⟨_,rfl⟩
def aN (p s:Int) (d1 d2:ak):ak:=.agg [i64 p,i64 s,d1,d2]
def eH (op dst a b im:Int) (nm:List UInt8) (d:ak) (k:Int) (tn:List UInt8) (ix:Int) (d2:ak) (ck ci:Int) (cs:List UInt8):ak:=.agg [i64 op,i64 dst,i64 a,i64 b,i64 im,sb nm,d,i64 k,sb tn,i64 ix,d2,i64 ck,i64 ci,sb cs,nl]
theorem aS {p s:Int} {d1 d2:ak} (h1:dj d1) (h2:dj d2):Sj [.dat (aN p s d1 d2)]=some ⟨.undef,.new (.cells [.dat (i64 p),.dat (i64 s),.dat d1,.dat d2])⟩:=by
 rcases h1 with rfl|⟨e1,rfl⟩ <;> rcases h2 with rfl|⟨e2,rfl⟩ <;> kernel_rfl
theorem bw {op dst a b im:Int} {nm:List UInt8} {d:ak} {k:Int} {tn:List UInt8} {ix:Int} {d2:ak} {ck ci:Int} {cs:List UInt8} (h1:dj d) (h2:dj d2) :
  Sj [.dat (eH op dst a b im nm d k tn ix d2 ck ci cs)]=some ⟨.undef,.new (.cells [.dat (i64 op),.dat (i64 dst),.dat (i64 a),.dat (i64 b),.dat (i64 im),.dat (sb nm),.dat d,.dat (i64 k),.dat (sb tn),.dat (i64 ix),.dat d2,.dat (i64 ck),.dat (i64 ci),.dat (sb cs),.dat nl])⟩:=by
 rcases h1 with rfl|⟨e1,rfl⟩ <;> rcases h2 with rfl|⟨e2,rfl⟩ <;> kernel_rfl
def cC (p s:Int) (d1 d2:ak):List ac:=[.dat (i64 p),.dat (i64 s),.dat d1,.dat d2]
def hC (p s:Int) (d1 d2:ak):Heap:=[(.out 0,.cells (cC p s d1 d2))]
def cX (op dst a b im:Int) (nm:List UInt8) (d:ak) (k:Int) (tn:List UInt8) (ix:Int) (d2:ak) (ck ci:Int) (cs:List UInt8):List ac:=[.dat (i64 op),.dat (i64 dst),.dat (i64 a),.dat (i64 b),.dat (i64 im),.dat (sb nm),.dat d,.dat (i64 k),.dat (sb tn),.dat (i64 ix),.dat d2,.dat (i64 ck),.dat (i64 ci),.dat (sb cs),.dat nl]
def cS (s:kG):List ac:=[.dat (sb s.w),bv s.dst,bv s.a,bv s.b,bv s.im,bv s.nm,bv s.ar,bv s.ty,bv s.con,bv s.call,bv s.cond,bv s.fin]
theorem ES {p1 n sl:Int} {d1 d2:ak} {u:Bool}:KC 141 [iv n,bv u,.ptr (.out 0) 0] (hC p1 sl d1 d2) 1 (XQ ⟨bv (fB n sl u),hC p1 sl d1 d2,1⟩):=by
 unfold fB;generalize h1:aB n 0=c1;generalize h2:aF n 0=c2;generalize h3:aF n sl=c3;refine iS [7,16,22] [] (x:=qS.of Tryz.f141 I0 Lq) (by kernel_rfl) (ob h1 ?_)
 cases c1 <;>
 ·cases u
  ·exact fi
  refine ox h2 ?_
  cases c2
  ·refine ob h3 ?_
   cases c3 <;>
   ·exact fi
  exact fi
noncomputable def Up:Hints:=⟨bV,Gc,bi,rowsOf bi 97⟩
def Fo (ar:ak) (n:Nat) (c3 c4 c5:List ac) (i:Int):ab:=⟨[(15,iv i),(14,iv (ofNat n)),(13,.dat ar),(7,.fn (.func 141) [] [.ptr (.loc 3) 0]),(5,.ptr (.loc 5) 0),(4,.ptr (.loc 4) 0)],[(.loc 5,.cells c5),(.loc 4,.cells c4),(.loc 3,.cells c3)],[],0⟩
def Od (ar:ak) (n:Nat) (c3 c4 c5:List ac) (i:Int):ab:=⟨[(16,bv false),(15,iv i),(14,iv (ofNat n)),(13,.dat ar),(7,.fn (.func 141) [] [.ptr (.loc 3) 0]),(5,.ptr (.loc 5) 0),(4,.ptr (.loc 4) 0)],[(.loc 5,.cells c5),(.loc 4,.cells c4),(.loc 3,.cells c3)],[],0⟩
def Oc (ar:ak) (n:Nat) (H:Heap) (c4 c5:List ac) (i:Int):ab:=⟨[(15,iv i),(14,iv (ofNat n)),(13,.dat ar),(7,.fn (.func 141) [] [.ptr (.out 0) 0]),(5,.ptr (.loc 5) 0),(4,.ptr (.loc 4) 0)],[(.loc 5,.cells c5),(.loc 4,.cells c4)],H,1⟩
def Ob (ar:ak) (n:Nat) (H:Heap) (c4 c5:List ac) (i:Int):ab:=⟨[(16,bv false),(15,iv i),(14,iv (ofNat n)),(13,.dat ar),(7,.fn (.func 141) [] [.ptr (.out 0) 0]),(5,.ptr (.loc 5) 0),(4,.ptr (.loc 4) 0)],[(.loc 5,.cells c5),(.loc 4,.cells c4)],H,1⟩
def Kp (H:Heap):ab:=⟨[(6,bv false)],[],H,1⟩
theorem I9 {l:List Int} {t p1 sl:Int} {d1 d2:ak} {op dst a b im:Int} {nm:List UInt8} {dx:ak} {k:Int} {tn:List UInt8} {ix:Int} {dt:ak} {ck ci:Int} {cs:List UInt8} {s:kG} {c:Bool} {T:ej} (hi:0 < (l.map iN).length) (ht:l[0]?=some t)
  (hc:KC 141 [iv t,bv s.ar,.ptr (.out 0) 0] (hC p1 sl d1 d2) 1 (XQ ⟨bv c,hC p1 sl d1 d2,1⟩))
  (e1:c=true->T .normal ((Oc (.slice (l.map iN)) (l.map iN).length (hC p1 sl d1 d2) (cX op dst a b im nm dx k tn ix dt ck ci cs) (cS s) (ofNat 1)).al gL)) (e2:c=false->T .ret ((Kp (hC p1 sl d1 d2)).al gL)) :
  KD (roundOf Tryz.f97 0) T ((Fo (.slice (l.map iN)) (l.map iN).length (cC p1 sl d1 d2) (cX op dst a b im nm dx k tn ix dt ck ci cs) (cS s) (ofNat 0)).al gL):=by
 have h1:=br hi;have h2:=wb ht;generalize l.map iN=es at *;clear ht hi;obtain⟨w,s1,s2,s3,s4,s5,s6,s7,s8,s9,s10,s11⟩:=s;refine aq [16] [17] (H:=Up) (live:=sO) (ob h1 (oo h2 (oh hc ?_)))
 cases c
 ·exact oe (e2 rfl)
 exact oe (e1 rfl)
theorem MD {l:List Int} {t p1 sl:Int} {d1 d2:ak} {op dst a b im:Int} {nm:List UInt8} {dx:ak} {k:Int} {tn:List UInt8} {ix:Int} {dt:ak} {ck ci:Int} {cs:List UInt8} {s:kG} {c:Bool} {i:Nat} {T:ej} (hi:i < (l.map iN).length) (ht:l[i]?=some t)
  (hc:KC 141 [iv t,bv s.ar,.ptr (.out 0) 0] (hC p1 sl d1 d2) 1 (XQ ⟨bv c,hC p1 sl d1 d2,1⟩))
  (e1:c=true->T .normal ((Oc (.slice (l.map iN)) (l.map iN).length (hC p1 sl d1 d2) (cX op dst a b im nm dx k tn ix dt ck ci cs) (cS s) (an .i64 (ofNat i+1))).al gL)) (e2:c=false->T .ret ((Kp (hC p1 sl d1 d2)).al gL)) :
  KD (roundOf Tryz.f97 0) T ((Oc (.slice (l.map iN)) (l.map iN).length (hC p1 sl d1 d2) (cX op dst a b im nm dx k tn ix dt ck ci cs) (cS s) (ofNat i)).al gL):=by
 have h1:=br hi;have h2:=wb ht;generalize l.map iN=es at *;clear ht hi;obtain⟨w,s1,s2,s3,s4,s5,s6,s7,s8,s9,s10,s11⟩:=s;refine aq [16] [17] (H:=Up) (live:=sO) (ob h1 (oo h2 (oh hc ?_)))
 cases c
 ·exact oe (e2 rfl)
 exact oe (e1 rfl)
theorem MG {ar:ak} {p1 sl:Int} {d1 d2:ak} {op dst a b im:Int} {nm:List UInt8} {dx:ak} {k:Int} {tn:List UInt8} {ix:Int} {dt:ak} {ck ci:Int} {cs:List UInt8} {s:kG} {T:ej} (e:T (.exit 0) ((Od ar 0 (cC p1 sl d1 d2) (cX op dst a b im nm dx k tn ix dt ck ci cs) (cS s) (ofNat 0)).al gL)) :
  KD (roundOf Tryz.f97 0) T ((Fo ar 0 (cC p1 sl d1 d2) (cX op dst a b im nm dx k tn ix dt ck ci cs) (cS s) (ofNat 0)).al gL):=by
 obtain⟨w,s1,s2,s3,s4,s5,s6,s7,s8,s9,s10,s11⟩:=s;refine aq [] [] (H:=Up) (live:=sO) ?_;exact oe e
theorem MF {ar:ak} {n:Nat} {p1 sl:Int} {d1 d2:ak} {op dst a b im:Int} {nm:List UInt8} {dx:ak} {k:Int} {tn:List UInt8} {ix:Int} {dt:ak} {ck ci:Int} {cs:List UInt8} {s:kG} {T:ej} (e:T (.exit 0) ((Ob ar n (hC p1 sl d1 d2) (cX op dst a b im nm dx k tn ix dt ck ci cs) (cS s) (ofNat n)).al gL)) :
  KD (roundOf Tryz.f97 0) T ((Oc ar n (hC p1 sl d1 d2) (cX op dst a b im nm dx k tn ix dt ck ci cs) (cS s) (ofNat n)).al gL):=by
 have h1:=cj (i:=n) (L:=n) (by omega);obtain⟨w,s1,s2,s3,s4,s5,s6,s7,s8,s9,s10,s11⟩:=s;exact aq [16] [] (H:=Up) (live:=sO) (ob h1 (oe e))
theorem ME {ar:ak} {p1 sl:Int} {d1 d2:ak} {op dst a b im:Int} {nm:List UInt8} {k:Int} {tn:List UInt8} {ix:Int} {dx dt:ak} {ck ci:Int} {cs:List UInt8} {s:kG} :
  KD (.loop (roundOf Tryz.f97 0)) (fun e q=>e=.exit 0/\q=(Od ar 0 (cC p1 sl d1 d2) (cX op dst a b im nm dx k tn ix dt ck ci cs) (cS s) (ofNat 0)).al gL)
   ((Fo ar 0 (cC p1 sl d1 d2) (cX op dst a b im nm dx k tn ix dt ck ci cs) (cS s) (ofNat 0)).al gL):=by
 refine bm (St:=fun i=>(Fo ar 0 (cC p1 sl d1 d2) (cX op dst a b im nm dx k tn ix dt ck ci cs) (cS s) (ofNat i)).al gL) 0 (fun i hi=>absurd hi (by omega)) ?_ (i:=0) (Nat.le_refl _);exact MG ⟨rfl,rfl⟩
def aey (ar:ak) (n:Nat) (p1 sl:Int) (d1 d2:ak) (c4 c5:List ac):Nat->ab
 | 0=>Fo ar n (cC p1 sl d1 d2) c4 c5 (ofNat 0)
 | i+1=>Oc ar n (hC p1 sl d1 d2) c4 c5 (ofNat (i+1))
theorem P9 {x:Int} {r:List Int} {p1 sl:Int} {d1 d2:ak} {op dst a b im:Int} {nm:List UInt8} {k:Int} {tn:List UInt8} {ix:Int} {dx dt:ak} {ck ci:Int} {cs:List UInt8} {s:kG} (hn:(x::r).length < 1000000000) :
  KD (.loop (roundOf Tryz.f97 0)) (fun e q=>(e=.exit 0/\(x::r).all (fun n=>fB n sl s.ar)=true/\q=(Ob (.slice ((x::r).map iN)) ((x::r).map iN).length (hC p1 sl d1 d2) (cX op dst a b im nm dx k tn ix dt ck ci cs) (cS s) (ofNat ((x::r).map iN).length)).al gL)∨(e=.ret/\(x::r).all (fun n=>fB n sl s.ar)=false/\q=(Kp (hC p1 sl d1 d2)).al gL))
   ((Fo (.slice ((x::r).map iN)) ((x::r).map iN).length (cC p1 sl d1 d2) (cX op dst a b im nm dx k tn ix dt ck ci cs) (cS s) (ofNat 0)).al gL):=by
 have hall:∀{i:Nat} {t:Int},(x::r)[i]?=some t->((x::r).drop i).all (fun n=>fB n sl s.ar)=(fB t sl s.ar&&((x::r).drop (i+1)).all (fun n=>fB n sl s.ar)):=by
  intro i t h;rw[kT h];rfl
 refine cV (St:=fun i=>(aey (.slice ((x::r).map iN)) ((x::r).map iN).length p1 sl d1 d2 (cX op dst a b im nm dx k tn ix dt ck ci cs) (cS s) i).al gL) (fun i=>(x::r).all (fun n=>fB n sl s.ar)=((x::r).drop i).all (fun n=>fB n sl s.ar)) ((x::r).map iN).length ?_ ?_ (i:=0) (Nat.zero_le _) rfl
 ·intro i hi hI;have hi2:i < (x::r).length:=by simpa using hi
  have ht:(x::r)[i]?=some ((x::r)[i]):=List.getElem?_eq_getElem hi2;generalize (x::r)[i]=t at ht;have ha:=hall ht;rw[←hI] at ha;have hc:=@ES p1 t sl d1 d2 s.ar;generalize fB t sl s.ar=c at hc ha
  cases i with
  | zero=>
   refine I9 hi ht hc ?_ ?_
   ·rintro rfl;exact⟨rfl,ha⟩
   rintro rfl;exact .inr ⟨rfl,ha,rfl⟩
  | succ j=>
   have hw:an .i64 (ofNat (j+1)+1)=ofNat (j+1+1):=bb (by omega);refine MD hi ht hc ?_ ?_
   ·rintro rfl;rw[hw];exact⟨rfl,ha⟩
   rintro rfl;exact .inr ⟨rfl,ha,rfl⟩
 intro hI;have h1:(x::r).all (fun n=>fB n sl s.ar)=true:=by
  rw[hI,List.length_map,List.drop_length];rfl
 exact MF (.inl ⟨rfl,h1,rfl⟩)
theorem Tx {es:List ak} {p1 sl:Int} {d1 d2:ak} (g1:dj d1) (g2:dj d2) {op dst a b im:Int} {nm:List UInt8} {k:Int} {tn:List UInt8} {ix:Int} {dt:ak} {ck ci:Int} {cs:List UInt8} {s:kG} {d c1 c2 c3 e0 e6 u1 u2:Bool} (g3:dj dt)
  (hl:KD (.loop (roundOf Tryz.f97 0)) (fun e q=>(e=.exit 0/\d=true/\q=(Ob (.slice es) es.length (hC p1 sl d1 d2) (cX op dst a b im nm (.slice es) k tn ix dt ck ci cs) (cS s) (ofNat es.length)).al gL)∨(e=.ret/\d=false/\q=(Kp (hC p1 sl d1 d2)).al gL))
   ((Fo (.slice es) es.length (cC p1 sl d1 d2) (cX op dst a b im nm (.slice es) k tn ix dt ck ci cs) (cS s) (ofNat 0)).al gL))
  (h1:KC 141 [iv dst,bv s.dst,.ptr (.out 0) 0] (hC p1 sl d1 d2) 1 (XQ ⟨bv c1,hC p1 sl d1 d2,1⟩))
  (h2:KC 141 [iv a,bv s.a,.ptr (.out 0) 0] (hC p1 sl d1 d2) 1 (XQ ⟨bv c2,hC p1 sl d1 d2,1⟩))
  (h3:KC 141 [iv b,bv (s.b&&!(u1&&u2)),.ptr (.out 0) 0] (hC p1 sl d1 d2) 1 (XQ ⟨bv c3,hC p1 sl d1 d2,1⟩))
  (z0:aB (ofNat es.length) 0=e0) (z6:aF 6 (ofNat es.length)=e6) (zu:aB op 3=u1) (zv:aB im 5=u2) :
  ae 97 [.dat (aN p1 sl d1 d2),.dat (eH op dst a b im nm (.slice es) k tn ix dt ck ci cs),.dat s.enc] (bv (d&&((s.ar||e0)&&(!e6&&(c1&&(c2&&c3)))))):=by
 have q1:=aS (p:=p1) (s:=sl) g1 g2;have q2:=@bw op dst a b im nm (.slice es) k tn ix _ ck ci cs (.inr ⟨_,rfl⟩) g3;clear g1 g2 g3;obtain⟨w,s1,s2,s3,s4,s5,s6,s7,s8,s9,s10,s11⟩:=s;refine co [28,32,46,40] [3,4] (x:=.of Tryz.f97 Gc sO) ?_;refine oo q1 (oo q2 ?_);refine lo hl ?_;rintro ex s (⟨rfl,rfl,rfl⟩|⟨rfl,rfl,rfl⟩)
 ·refine⟨_,rfl,?_⟩;refine ob zu ?_
  cases u1
  ·cases s6
   ·refine ob z0 ?_
    cases e0
    ·exact fi
    refine ox z6 ?_
    cases e6
    ·refine oh h1 ?_
     cases c1
     ·exact fi
     refine oh h2 ?_
     cases c2
     ·exact fi
     cases s3 <;>
     ·exact oh h3 fi
    exact fi
   refine ox z6 ?_
   cases e6
   ·refine oh h1 ?_
    cases c1
    ·exact fi
    refine oh h2 ?_
    cases c2
    ·exact fi
    cases s3 <;>
    ·exact oh h3 fi
   exact fi
  refine ob zv ?_
  cases u2 <;>
  ·cases s6
   ·refine ob z0 ?_
    cases e0
    ·exact fi
    refine ox z6 ?_
    cases e6
    ·refine oh h1 ?_
     cases c1
     ·exact fi
     refine oh h2 ?_
     cases c2
     ·exact fi
     cases s3 <;>
     ·exact oh h3 fi
    exact fi
   refine ox z6 ?_
   cases e6
   ·refine oh h1 ?_
    cases c1
    ·exact fi
    refine oh h2 ?_
    cases c2
    ·exact fi
    cases s3 <;>
    ·exact oh h3 fi
   exact fi
 refine⟨_,rfl,?_⟩;exact fi
theorem Qa {z:Bool} {dx:ak} (hz:dx=sx z []) {p1 sl:Int} {d1 d2:ak} (g1:dj d1) (g2:dj d2) {op dst a b im:Int} {nm:List UInt8} {k:Int} {tn:List UInt8} {ix:Int} {dt:ak} {ck ci:Int} {cs:List UInt8} {s:kG} {c1 c2 c3 u1 u2:Bool} (g3:dj dt)
  (hl:KD (.loop (roundOf Tryz.f97 0)) (fun e q=>e=.exit 0/\q=(Od dx 0 (cC p1 sl d1 d2) (cX op dst a b im nm dx k tn ix dt ck ci cs) (cS s) (ofNat 0)).al gL)
   ((Fo dx 0 (cC p1 sl d1 d2) (cX op dst a b im nm dx k tn ix dt ck ci cs) (cS s) (ofNat 0)).al gL))
  (h1:KC 141 [iv dst,bv s.dst,.ptr (.out 0) 0] (hC p1 sl d1 d2) 1 (XQ ⟨bv c1,hC p1 sl d1 d2,1⟩))
  (h2:KC 141 [iv a,bv s.a,.ptr (.out 0) 0] (hC p1 sl d1 d2) 1 (XQ ⟨bv c2,hC p1 sl d1 d2,1⟩))
  (h3:KC 141 [iv b,bv (s.b&&!(u1&&u2)),.ptr (.out 0) 0] (hC p1 sl d1 d2) 1 (XQ ⟨bv c3,hC p1 sl d1 d2,1⟩))
  (zu:aB op 3=u1) (zv:aB im 5=u2) :
  ae 97 [.dat (aN p1 sl d1 d2),.dat (eH op dst a b im nm dx k tn ix dt ck ci cs),.dat s.enc] (bv (c1&&(c2&&c3))):=by
 have q1:=aS (p:=p1) (s:=sl) g1 g2;have q2:=@bw op dst a b im nm dx k tn ix _ ck ci cs (hz ▸ dq z []) g3;clear g1 g2 g3;obtain⟨w,s1,s2,s3,s4,s5,s6,s7,s8,s9,s10,s11⟩:=s
 cases z <;>
 ·subst hz;refine co [28,32] [3,4] (x:=.of Tryz.f97 Gc sO) ?_;refine oo q1 (oo q2 ?_);refine lo hl ?_;rintro ex s ⟨rfl,rfl⟩;refine⟨_,rfl,?_⟩;refine ob zu ?_
  cases u1
  ·cases s6 <;>
   ·refine oh h1 ?_
    cases c1
    ·exact fi
    refine oh h2 ?_
    cases c2
    ·exact fi
    cases s3 <;>
    ·exact oh h3 fi
  refine ob zv ?_
  cases u2 <;>
  ·cases s6 <;>
   ·refine oh h1 ?_
    cases c1
    ·exact fi
    refine oh h2 ?_
    cases c2
    ·exact fi
    cases s3 <;>
    ·exact oh h3 fi
theorem adK {p1 sl:Int} {d1 d2:ak} (g1:dj d1) (g2:dj d2) (x:Ins) (s:kG) (hn:x.ar.length < 1000000000) :
  ae 97 [.dat (aN p1 sl d1 d2),.dat x.enc,.dat s.enc] (bv (Ge sl x s)):=by
 obtain⟨op,dst,a,b,im,nm,az,ar,⟨k,tn,ix,la⟩,ck,ci,cs⟩:=x;have h1:=@ES p1 dst sl d1 d2 s.dst;have h2:=@ES p1 a sl d1 d2 s.a;have h3:=@ES p1 b sl d1 d2 (s.b&&!(aB op 3&&aB im 5))
 cases ar with
 | nil=>
  have h:=@Qa az (sx az []) rfl _ _ _ _ g1 g2 op _ _ _ im nm k tn ix _ ck ci cs _ _ _ _ _ _ (dr (ax la)) ME h1 h2 h3 rfl rfl;have e:Ge sl ⟨op,dst,a,b,im,nm,az,[],⟨k,tn,ix,la⟩,ck,ci,cs⟩ s=(fB dst sl s.dst&&(fB a sl s.a&&fB b sl (s.b&&!(aB op 3&&aB im 5)))):=by
   have e0:aB (ofNat ([]:List Int).length) 0=true:=rfl;have e6:aF 6 (ofNat ([]:List Int).length)=false:=rfl;simp only[Ge,Jo,Ins.unary,e0,e6,List.all_nil,Bool.or_true,Bool.true_and,Bool.not_false]
  rw[e];exact h
 | cons y r=>
  have h:=@Tx ((y::r).map iN) _ _ _ _ g1 g2 op _ _ _ im nm k tn ix _ ck ci cs _ _ _ _ _ _ _ _ _ (dr (ax la)) (P9 hn) h1 h2 h3 rfl rfl rfl rfl;rw[List.length_map] at h;exact h
theorem MB:HI (fun n=>Bm (eQ n) (X 148 [GC n] [] 0)) 256=true:=by kernel_rfl
theorem UU (c:UInt8):ae 148 [GC c.toNat] (bv (eQ c.toNat)):=dE _ _ _ _ _ (qD (rC MB _ c.toNat_lt))
def ab9 (c1 c2 c3 c4 c5 c6 c7 c8 c9 c10 c11 c12 c13 c14:Bool):Bool:=
 if (c1||c2)=true then !c8&&c13
 else if c3=true then !c9&&!c10
 else if c4=true then !c8&&c11
 else if c5=true then !c8&&c14
 else if (c6||c7)=true then !c9
 else c12
theorem QV {p s:Int} {es ed:List ak} {op dst a b im:Int} {nm:List UInt8} {dx:ak} {k:Int} {tn:List UInt8} {ix:Int} {dt:ak} {ck ci:Int} {cs:List UInt8} (g2:dj dx) (g3:dj dt)
  {c1 c2 c3 c4 c5 c6 c7 c8 c9 c10 c11 c12 c13 c14:Bool} (h1:aB op 12=c1) (h2:aB op 13=c2) (h3:aB op 3=c3) (h4:aB op 8=c4) (h5:aB op 17=c5) (h6:aB op 20=c6) (h7:aB op 22=c7)
  (h8:aF im 0=c8) (h9:aF im 1=c9) (h10:aF 7 im=c10) (h11:aF im 6=c11) (h12:aB im 0=c12) (h13:aF im (ofNat es.length)=c13) (h14:aF im (ofNat ed.length)=c14) :
  ae 98 [.dat (aN p s (.slice es) (.slice ed)),.dat (eH op dst a b im nm dx k tn ix dt ck ci cs)] (bv (ab9 c1 c2 c3 c4 c5 c6 c7 c8 c9 c10 c11 c12 c13 c14)):=by
 have q2:=@bw op dst a b im nm _ k tn ix _ ck ci cs g2 g3;clear g2 g3
 cases c8
 ·cases c9
  ·refine co [8,12,19,9,22,25,29,32,35,39,42,45,52,55,59,56,62] [3] (x:=.of Tryz.f98 xg sN) ?_;refine oo q2 (ob h1 ?_)
   cases c1
   ·refine ob h2 ?_
    cases c2
    ·refine ob h3 ?_
     cases c3
     ·refine ob h4 ?_
      cases c4
      ·refine ob h5 ?_
       cases c5
       ·refine ob h6 ?_
        cases c6
        ·refine ob h7 ?_
         cases c7
         ·refine ob h12 ?_
          cases c12 <;>
          ·exact fi
         exact ox h9 fi
        exact ox h9 fi
       refine ox h8 (ob h14 ?_)
       cases c14 <;>
       ·exact fi
      refine ox h8 (ob h11 ?_)
      cases c11 <;>
      ·exact fi
     refine ox h9 (ox h10 ?_)
     cases c10 <;>
     ·exact fi
    refine ox h8 (ob h13 ?_)
    cases c13 <;>
    ·exact fi
   refine ox h8 (ob h13 ?_)
   cases c13 <;>
   ·exact fi
  refine co [8,12,19,9,22,25,32,35,39,42,45,52,55,59,56,62] [3] (x:=.of Tryz.f98 xg sN) ?_;refine oo q2 (ob h1 ?_)
  cases c1
  ·refine ob h2 ?_
   cases c2
   ·refine ob h3 ?_
    cases c3
    ·refine ob h4 ?_
     cases c4
     ·refine ob h5 ?_
      cases c5
      ·refine ob h6 ?_
       cases c6
       ·refine ob h7 ?_
        cases c7
        ·refine ob h12 ?_
         cases c12 <;>
         ·exact fi
        exact ox h9 fi
       exact ox h9 fi
      refine ox h8 (ob h14 ?_)
      cases c14 <;>
      ·exact fi
     refine ox h8 (ob h11 ?_)
     cases c11 <;>
     ·exact fi
    exact ox h9 fi
   refine ox h8 (ob h13 ?_)
   cases c13 <;>
   ·exact fi
  refine ox h8 (ob h13 ?_)
  cases c13 <;>
  ·exact fi
 refine co [8,12,9,22,25,29,32,35,42,45,55,59,56,62] [3] (x:=.of Tryz.f98 xg sN) ?_;refine oo q2 (ob h1 ?_)
 cases c1
 ·refine ob h2 ?_
  cases c2
  ·refine ob h3 ?_
   cases c3
   ·refine ob h4 ?_
    cases c4
    ·refine ob h5 ?_
     cases c5
     ·refine ob h6 ?_
      cases c6
      ·refine ob h7 ?_
       cases c7
       ·refine ob h12 ?_
        cases c12 <;>
        ·exact fi
       refine ox h9 ?_
       cases c9 <;>
       ·exact fi
      refine ox h9 ?_
      cases c9 <;>
      ·exact fi
     exact ox h8 fi
    exact ox h8 fi
   refine ox h9 ?_
   cases c9
   ·refine ox h10 ?_
    cases c10 <;>
    ·exact fi
   exact fi
  exact ox h8 fi
 exact ox h8 fi
theorem X1 {p s:Int} {es:List ak} {op dst a b im:Int} {nm:List UInt8} {dx:ak} {k:Int} {tn:List UInt8} {ix:Int} {dt:ak} {ck ci:Int} {cs:List UInt8} (g2:dj dx) (g3:dj dt)
  {c1 c2 c3 c4 c5 c6 c7 c8 c9 c10 c11 c12 c13:Bool} (h1:aB op 12=c1) (h2:aB op 13=c2) (h3:aB op 3=c3) (h4:aB op 8=c4) (h5:aB op 17=c5) (h6:aB op 20=c6) (h7:aB op 22=c7)
  (h8:aF im 0=c8) (h9:aF im 1=c9) (h10:aF 7 im=c10) (h11:aF im 6=c11) (h12:aB im 0=c12) (h13:aF im (ofNat es.length)=c13) :
  ae 98 [.dat (aN p s (.slice es) nl),.dat (eH op dst a b im nm dx k tn ix dt ck ci cs)] (bv (ab9 c1 c2 c3 c4 c5 c6 c7 c8 c9 c10 c11 c12 c13 c8)):=by
 have q2:=@bw op dst a b im nm _ k tn ix _ ck ci cs g2 g3;clear g2 g3
 cases c8
 ·cases c9
  ·refine co [8,12,19,9,22,25,29,32,35,39,42,45,52,55,59,56,62] [3] (x:=.of Tryz.f98 xg sN) ?_;refine oo q2 (ob h1 ?_)
   cases c1
   ·refine ob h2 ?_
    cases c2
    ·refine ob h3 ?_
     cases c3
     ·refine ob h4 ?_
      cases c4
      ·refine ob h5 ?_
       cases c5
       ·refine ob h6 ?_
        cases c6
        ·refine ob h7 ?_
         cases c7
         ·refine ob h12 ?_
          cases c12 <;>
          ·exact fi
         exact ox h9 fi
        exact ox h9 fi
       exact ox h8 (ob h8 fi)
      refine ox h8 (ob h11 ?_)
      cases c11 <;>
      ·exact fi
     refine ox h9 (ox h10 ?_)
     cases c10 <;>
     ·exact fi
    refine ox h8 (ob h13 ?_)
    cases c13 <;>
    ·exact fi
   refine ox h8 (ob h13 ?_)
   cases c13 <;>
   ·exact fi
  refine co [8,12,19,9,22,25,32,35,39,42,45,52,55,59,56,62] [3] (x:=.of Tryz.f98 xg sN) ?_;refine oo q2 (ob h1 ?_)
  cases c1
  ·refine ob h2 ?_
   cases c2
   ·refine ob h3 ?_
    cases c3
    ·refine ob h4 ?_
     cases c4
     ·refine ob h5 ?_
      cases c5
      ·refine ob h6 ?_
       cases c6
       ·refine ob h7 ?_
        cases c7
        ·refine ob h12 ?_
         cases c12 <;>
         ·exact fi
        exact ox h9 fi
       exact ox h9 fi
      exact ox h8 (ob h8 fi)
     refine ox h8 (ob h11 ?_)
     cases c11 <;>
     ·exact fi
    exact ox h9 fi
   refine ox h8 (ob h13 ?_)
   cases c13 <;>
   ·exact fi
  refine ox h8 (ob h13 ?_)
  cases c13 <;>
  ·exact fi
 refine co [8,12,9,22,25,29,32,35,42,45,55,59,56,62] [3] (x:=.of Tryz.f98 xg sN) ?_;refine oo q2 (ob h1 ?_)
 cases c1
 ·refine ob h2 ?_
  cases c2
  ·refine ob h3 ?_
   cases c3
   ·refine ob h4 ?_
    cases c4
    ·refine ob h5 ?_
     cases c5
     ·refine ob h6 ?_
      cases c6
      ·refine ob h7 ?_
       cases c7
       ·refine ob h12 ?_
        cases c12 <;>
        ·exact fi
       refine ox h9 ?_
       cases c9 <;>
       ·exact fi
      refine ox h9 ?_
      cases c9 <;>
      ·exact fi
     exact ox h8 fi
    exact ox h8 fi
   refine ox h9 ?_
   cases c9
   ·refine ox h10 ?_
    cases c10 <;>
    ·exact fi
   exact fi
  exact ox h8 fi
 exact ox h8 fi
theorem adL {p s:Int} {es ed:List ak} (z:Bool) (x:Ins):ae 98 [.dat (aN p s (.slice es) (sx z ed)),.dat x.enc] (bv (GL (ofNat es.length) (ofNat ed.length) x.op x.im)):=by
 obtain⟨op,dst,a,b,im,nm,az,ar,⟨k,tn,ix,la⟩,ck,ci,cs⟩:=x
 cases ed with
 | nil=>
  cases z
  ·exact X1 (dq az (ar.map iN)) (dr (ax la)) rfl rfl rfl rfl rfl rfl rfl rfl rfl rfl rfl rfl rfl
  exact QV (ed:=[]) (dq az (ar.map iN)) (dr (ax la)) rfl rfl rfl rfl rfl rfl rfl rfl rfl rfl rfl rfl rfl rfl
 | cons y r=>exact QV (ed:=y::r) (dq az (ar.map iN)) (dr (ax la)) rfl rfl rfl rfl rfl rfl rfl rfl rfl rfl rfl rfl rfl rfl
def lI (k i:Int) (s:List UInt8):ak:=.agg [i64 k,i64 i,sb s,nl]
noncomputable def ach:Hints:=⟨bV,Ai,bi,rowsOf bi 102⟩
def K9 (k i:Int) (s:List UInt8):Heap:=[(.loc 1,.cells [iv k,iv i,.dat (sb s),.dat nl])]
def Ct (k i:Int) (s:List UInt8) (j:Int):ab:=⟨[(3,iv j),(1,.ptr (.loc 1) 0)],K9 k i s,[],0⟩
def Ip (k i:Int) (s:List UInt8):ab:=⟨[(43,bv false),(3,iv (ofNat s.length)),(1,.ptr (.loc 1) 0)],K9 k i s,[],0⟩
def Iq:ab:=⟨[(2,bv false)],[],[],0⟩
theorem Nh {k i:Int} {s:List UInt8} {j:Nat} {c:UInt8} {b:Bool} {T:ej} (h1:aF (ofNat j) (ofNat s.length)=true) (h2:qP ba 9 [.dat (sb s),.dat (.flat (.int .i64 (ofNat j)))]=some ⟨GC c.toNat,.keep⟩)
  (h3:ae 148 [GC c.toNat] (bv b)) (e1:b=true->T .normal ((Ct k i s (an .i64 (ofNat j+1))).al jX)) (e2:b=false->T .ret (Iq.al jX)) :
  KD (roundOf Tryz.f102 0) T ((Ct k i s (ofNat j)).al jX):=by
 refine aq [43] [49] (H:=ach) (live:=ur) (ob h1 (oo h2 (on h3 ?_)))
 cases b
 ·exact oe (e2 rfl)
 exact oe (e1 rfl)
theorem RH {k i:Int} {s:List UInt8} {T:ej} (e1:T (.exit 1) ((Ip k i s).al jX)) :
  KD (roundOf Tryz.f102 0) T ((Ct k i s (ofNat s.length)).al jX):=by
 have h1:=cj (i:=s.length) (L:=s.length) (by omega);exact aq [43] [] (H:=ach) (live:=ur) (ob h1 (oe e1))
theorem RG {k i:Int} {s:List UInt8} (hn:s.length < 1000000000) :
  KD (.loop (roundOf Tryz.f102 0)) (fun e q=>(e=.exit 1/\s.all (fun c=>eQ c.toNat)=true/\q=(Ip k i s).al jX)∨(e=.ret/\s.all (fun c=>eQ c.toNat)=false/\q=Iq.al jX)) ((Ct k i s (ofNat 0)).al jX):=by
 refine cV (St:=fun j=>(Ct k i s (ofNat j)).al jX) (fun j=>s.all (fun c=>eQ c.toNat)=(s.drop j).all (fun c=>eQ c.toNat)) s.length ?_ ?_ (i:=0) (Nat.zero_le _) rfl
 ·intro j hj hI;have hg:s[j]?=some s[j]:=List.getElem?_eq_getElem hj;have hd:(s.drop j).all (fun c=>eQ c.toNat)=(eQ s[j].toNat&&(s.drop (j+1)).all (fun c=>eQ c.toNat)):=by rw[List.drop_eq_getElem_cons hj];rfl
  have hw:an .i64 (ofNat j+1)=ofNat (j+1):=bb (by omega);have hc:=UU s[j];generalize s[j]=c at hg hd hc;generalize eQ c.toNat=tc at hd hc;rw[←hI] at hd;refine Nh (br hj) (nK hg) hc ?_ ?_
  ·rintro rfl;rw[hw];exact⟨rfl,hd⟩
  rintro rfl;exact .inr ⟨rfl,hd,rfl⟩
 intro hI;have h1:s.all (fun c=>eQ c.toNat)=true:=by rw[hI,List.drop_length];rfl
 exact RH (.inl ⟨rfl,h1,rfl⟩)
theorem UQ {k i:Int} {s:List UInt8} {c0 c1 c2 c3 c4 c5 c6 c7 d:Bool} (h0:aB k 0=c0) (h1:aB k 1=c1) (h2:aB k 2=c2) (h3:aB k 3=c3) (h4:aB i 0=c4) (h5:aB i 1=c5) (h6:jP s []=c6) (h7:aF 2000 (ofNat s.length)=c7)
  (hl:KD (.loop (roundOf Tryz.f102 0)) (fun e q=>(e=.exit 1/\d=true/\q=(Ip k i s).al jX)∨(e=.ret/\d=false/\q=Iq.al jX)) ((Ct k i s (ofNat 0)).al jX)) :
  ae 102 [.dat (lI k i s)] (bv (if (!c3&&!c6)=true then false else if c0=true then c4 else if c1=true then true else if c2=true then c4||c5 else if c3=true then d&&(c4&&!c7) else false)):=by
 cases c6
 ·refine co [11,21,24,26,28,31,35,38,54,59,15] [] (x:=.of Tryz.f102 Ai ur) ?_;refine ox h3 ?_
  cases c3
  ·exact ox h6 fi
  refine ob h0 ?_
  cases c0
  ·refine ob h1 ?_
   cases c1
   ·refine ob h2 ?_
    cases c2
    ·refine ob h3 ?_;refine lo hl ?_;rintro ex s (⟨rfl,rfl,rfl⟩|⟨rfl,rfl,rfl⟩)
     ·refine⟨_,rfl,?_⟩;refine ob h4 ?_
      cases c4
      ·exact fi
      refine ox h7 ?_
      cases c7 <;>
      ·exact fi
     refine⟨_,rfl,?_⟩;exact fi
    refine ob h4 ?_
    cases c4
    ·refine ob h5 ?_
     cases c5 <;>
     ·exact fi
    exact fi
   exact fi
  refine ob h4 ?_
  cases c4 <;>
  ·exact fi
 refine co [11,21,24,26,28,31,35,38,54,59,15] [] (x:=.of Tryz.f102 Ai ur) ?_;refine ox h3 ?_
 cases c3
 ·refine ox h6 (ob h0 ?_)
  cases c0
  ·refine ob h1 ?_
   cases c1
   ·refine ob h2 ?_
    cases c2
    ·exact ob h3 fi
    refine ob h4 ?_
    cases c4
    ·refine ob h5 ?_
     cases c5 <;>
     ·exact fi
    exact fi
   exact fi
  refine ob h4 ?_
  cases c4 <;>
  ·exact fi
 refine ob h0 ?_
 cases c0
 ·refine ob h1 ?_
  cases c1
  ·refine ob h2 ?_
   cases c2
   ·refine ob h3 ?_;refine lo hl ?_;rintro ex s (⟨rfl,rfl,rfl⟩|⟨rfl,rfl,rfl⟩)
    ·refine⟨_,rfl,?_⟩;refine ob h4 ?_
     cases c4
     ·exact fi
     refine ox h7 ?_
     cases c7 <;>
     ·exact fi
    refine⟨_,rfl,?_⟩;exact fi
   refine ob h4 ?_
   cases c4
   ·refine ob h5 ?_
    cases c5 <;>
    ·exact fi
   exact fi
  exact fi
 refine ob h4 ?_
 cases c4 <;>
 ·exact fi
theorem UZ {k i:Int} {s:List UInt8} (hn:s.length < 1000000000):ae 102 [.dat (lI k i s)] (bv (mN k i s)):=UQ rfl rfl rfl rfl rfl rfl rfl rfl (RG hn)
theorem RR {t:Ty} {v:Int} {fv:List Int} (h1:ae 146 [.dat t.enc] (iv v)) (h2:ae 147 [.dat t.enc] (.dat (sl (fv.map iN)))):ae 100 [.dat t.enc] (bv (aB v 0&&LD fv)):=by
 obtain⟨k,nm,ix,la⟩:=t;generalize h3:aB v 0=c
 rcases fv with _|⟨x,fv⟩
 ·rcases la with _|⟨y,la⟩ <;>
  ·refine co [5] [] (x:=.of Tryz.f100 Eg Ep) ?_;refine on h1 (ob h3 ?_)
   cases c
   ·exact fi
   exact on h2 fi
 have h4:aB (ofNat ((x::fv).map iN).length) 0=false:=rfl
 rcases la with _|⟨y,la⟩ <;>
 ·refine co [5] [] (x:=.of Tryz.f100 Eg Ep) ?_;refine on h1 (ob h3 ?_)
  cases c
  ·exact fi
  exact on h2 fi
theorem ET {t:Ty} {c:Bool} (h1:ae 82 [.dat t.enc,.dat (Ty.mk 0 [] 0 []).enc] (bv c)):ae 101 [.dat t.enc] (bv c):=by
 obtain⟨k,nm,ix,la⟩:=t
 rcases la with _|⟨y,la⟩ <;>
 ·refine co [] [] (x:=.of Tryz.f101 I8 Ly) ?_;exact on h1 fi
theorem aO (t:Bool) (l:Nat) {p s:Int} {d1 d2:ak} (h1:dj d1) (h2:dj d2):eB ba t 26 [.ptr (.loc l) 0] (some (.cells (cC p s d1 d2)))=some ⟨.dat (aN p s d1 d2),.keep⟩:=by
 cases t <;> rcases h1 with rfl|⟨e1,rfl⟩ <;> rcases h2 with rfl|⟨e2,rfl⟩ <;> kernel_rfl
theorem QJ (t:Bool) (l:Nat) {op dst a b im:Int} {nm:List UInt8} {dx:ak} {k:Int} {tn:List UInt8} {ix:Int} {dt:ak} {ck ci:Int} {cs:List UInt8} (h1:dj dx) (h2:dj dt):eB ba t 45 [.ptr (.loc l) 0] (some (.cells (cX op dst a b im nm dx k tn ix dt ck ci cs)))=some ⟨.dat (eH op dst a b im nm dx k tn ix dt ck ci cs),.keep⟩:=by
 cases t <;> rcases h1 with rfl|⟨e1,rfl⟩ <;> rcases h2 with rfl|⟨e2,rfl⟩ <;> kernel_rfl
theorem bD (t:Bool) (l:Nat) {op dst a b im:Int} {nm:List UInt8} {dx:ak} {k:Int} {tn:List UInt8} {ix:Int} {dt:ak} {ck ci:Int} {cs:List UInt8} (h1:dj dx) (h2:dj dt):eB ba t 40 [.ptr (.loc l) 7] (some (.cells (cX op dst a b im nm dx k tn ix dt ck ci cs)))=some ⟨.dat (.agg [i64 k,sb tn,i64 ix,dt]),.keep⟩:=by
 cases t <;> rcases h1 with rfl|⟨e1,rfl⟩ <;> rcases h2 with rfl|⟨e2,rfl⟩ <;> kernel_rfl
theorem bg (t:Bool) (l:Nat) {op dst a b im:Int} {nm:List UInt8} {dx:ak} {k:Int} {tn:List UInt8} {ix:Int} {dt:ak} {ck ci:Int} {cs:List UInt8} (h1:dj dx) (h2:dj dt):eB ba t 43 [.ptr (.loc l) 11] (some (.cells (cX op dst a b im nm dx k tn ix dt ck ci cs)))=some ⟨.dat (lI ck ci cs),.keep⟩:=by
 cases t <;> rcases h1 with rfl|⟨e1,rfl⟩ <;> rcases h2 with rfl|⟨e2,rfl⟩ <;> kernel_rfl
theorem Wb {p sl:Int} {d1 d2:ak} (g1:dj d1) (g2:dj d2) {op dst a b im:Int} {nm:List UInt8} {dx:ak} {k:Int} {tn:List UInt8} {ix:Int} {dt:ak} {ck ci:Int} {cs:List UInt8} (g3:dj dx) (g4:dj dt) {s:kG} {ok c1 c2 c3 c4 c5 c6 c7 c8:Bool}
  (h0:ae 58 [iv op] (.tup [.dat s.enc,bv ok])) (h1:ae 97 [.dat (aN p sl d1 d2),.dat (eH op dst a b im nm dx k tn ix dt ck ci cs),.dat s.enc] (bv c1)) (h2:ae 98 [.dat (aN p sl d1 d2),.dat (eH op dst a b im nm dx k tn ix dt ck ci cs)] (bv c2))
  (h3:ae 99 [.dat (sb nm)] (bv c3)) (h4:jP nm []=c4) (h5:ae 100 [.dat (.agg [i64 k,sb tn,i64 ix,dt])] (bv c5)) (h6:ae 101 [.dat (.agg [i64 k,sb tn,i64 ix,dt])] (bv c6))
  (h7:ae 102 [.dat (lI ck ci cs)] (bv c7)) (h8:aB ck 0=c8) :
  ae 67 [.dat (aN p sl d1 d2),.dat (eH op dst a b im nm dx k tn ix dt ck ci cs)] (bv (ok&&(c1&&(c2&&((if s.nm=true then c3 else c4)&&((if s.ty=true then c5 else c6)&&(c7&&(s.con||c8)))))))):=by
 have q1:=aS (p:=p) (s:=sl) g1 g2;have q2:=@bw op dst a b im nm dx k tn ix dt ck ci cs g3 g4;have q3:=aO false 2 (p:=p) (s:=sl) g1 g2;have q4:=@QJ false 3 op dst a b im nm dx k tn ix dt ck ci cs g3 g4;have q5:=@bD false 3 op dst a b im nm dx k tn ix dt ck ci cs g3 g4;have q6:=@bg false 3 op dst a b im nm dx k tn ix dt ck ci cs g3 g4;clear g1 g2 g3 g4;obtain⟨w,s1,s2,s3,s4,s5,s6,s7,s8,s9,s10,s11⟩:=s
 cases s5
 ·cases s7
  ·refine co [45,78] [2,3,17,18,24,25,63,69] (x:=.of Tryz.f67 CN Ax) ?_;refine oo q1 (oo q2 (on h0 ?_))
   cases ok
   ·exact fi
   refine oo q3 (oo q4 (on h1 ?_))
   cases c1
   ·exact fi
   refine oo q3 (oo q4 (on h2 ?_))
   cases c2
   ·exact fi
   refine ox h4 ?_
   cases c4
   ·exact fi
   refine oo q5 (on h6 ?_)
   cases c6
   ·exact fi
   refine oo q6 (on h7 ?_)
   cases c7
   ·exact fi
   cases s8
   ·refine ob h8 ?_
    cases c8 <;>
    ·exact fi
   exact fi
  refine co [45,78] [2,3,17,18,24,25,53,69] (x:=.of Tryz.f67 CN Ax) ?_;refine oo q1 (oo q2 (on h0 ?_))
  cases ok
  ·exact fi
  refine oo q3 (oo q4 (on h1 ?_))
  cases c1
  ·exact fi
  refine oo q3 (oo q4 (on h2 ?_))
  cases c2
  ·exact fi
  refine ox h4 ?_
  cases c4
  ·exact fi
  refine oo q5 (on h5 ?_)
  cases c5
  ·exact fi
  refine oo q6 (on h7 ?_)
  cases c7
  ·exact fi
  cases s8
  ·refine ob h8 ?_
   cases c8 <;>
   ·exact fi
  exact fi
 cases s7
 ·refine co [78] [2,3,17,18,24,25,63,69] (x:=.of Tryz.f67 CN Ax) ?_;refine oo q1 (oo q2 (on h0 ?_))
  cases ok
  ·exact fi
  refine oo q3 (oo q4 (on h1 ?_))
  cases c1
  ·exact fi
  refine oo q3 (oo q4 (on h2 ?_))
  cases c2
  ·exact fi
  refine on h3 ?_
  cases c3
  ·exact fi
  refine oo q5 (on h6 ?_)
  cases c6
  ·exact fi
  refine oo q6 (on h7 ?_)
  cases c7
  ·exact fi
  cases s8
  ·refine ob h8 ?_
   cases c8 <;>
   ·exact fi
  exact fi
 refine co [78] [2,3,17,18,24,25,53,69] (x:=.of Tryz.f67 CN Ax) ?_;refine oo q1 (oo q2 (on h0 ?_))
 cases ok
 ·exact fi
 refine oo q3 (oo q4 (on h1 ?_))
 cases c1
 ·exact fi
 refine oo q3 (oo q4 (on h2 ?_))
 cases c2
 ·exact fi
 refine on h3 ?_
 cases c3
 ·exact fi
 refine oo q5 (on h5 ?_)
 cases c5
 ·exact fi
 refine oo q6 (on h7 ?_)
 cases c7
 ·exact fi
 cases s8
 ·refine ob h8 ?_
  cases c8 <;>
  ·exact fi
 exact fi
def Ins.gN (x:Ins):Prop:=x.ty.gN/\x.ar.length < 1000000000/\x.cs.length < 1000000000
theorem ER {p sl:Int} {es ed:List ak} (z:Bool) {x:Ins} (h:x.gN) :
  ae 67 [.dat (aN p sl (.slice es) (sx z ed)),.dat x.enc] (bv (iJ (ofNat es.length) (ofNat ed.length) sl x)):=by
 obtain⟨ht,ha,hs⟩:=h;have h0:=uT x.op;have h1:=@adK p sl (.slice es) (sx z ed) (.inr ⟨_,rfl⟩) (dq z ed) x (lU (eO x.op)) ha;have h2:=@adL p sl es ed z x;have h3:=Dj x.nm;have h5:=RR (J1 x.ty (by have:=ht.1;omega)) (J4 (t:=x.ty) (by have:=ht.1;omega) ht.2);have h6:=ET (UY x.ty (.mk 0 [] 0 []) (by have:=ht.1;omega));have h7:=UZ (k:=x.ck) (i:=x.ci) hs;obtain⟨op,dst,a,b,im,nm,az,ar,⟨k,tn,ix,la⟩,ck,ci,cs⟩:=x;have h8:=Wb (d1:=.slice es) (d2:=sx z ed) (.inr ⟨_,rfl⟩) (dq z ed) (dq az (ar.map iN)) (dr (ax la)) h0 h1 h2 h3 rfl h5 h6 h7 rfl;have e:iJ (ofNat es.length) (ofNat ed.length) sl ⟨op,dst,a,b,im,nm,az,ar,⟨k,tn,ix,la⟩,ck,ci,cs⟩=(shS (eO op)&&(Ge sl ⟨op,dst,a,b,im,nm,az,ar,⟨k,tn,ix,la⟩,ck,ci,cs⟩ (lU (eO op))&&(GL (ofNat es.length) (ofNat ed.length) op im&&((if (lU (eO op)).nm=true then isIdent nm else jP nm [])&&((if (lU (eO op)).ty=true then (aB (Ty.mk k tn ix la).validate 0&&LD (Ty.mk k tn ix la).fv) else NC (Ty.mk k tn ix la) (.mk 0 [] 0 []))&&(mN ck ci cs&&((lU (eO op)).con||aB ck 0))))))):=by
  unfold iJ
  cases hq:eO op with
  | none=>rfl
  | some s=>rfl
 rw[e];exact h8
theorem Cw {s:List Int} {x:Int}:jc s x≠[]:=by
 unfold jc
 cases h:s.contains x with
 | true=>intro h2;dsimp only at h2;rw[h2] at h;simp at h
 | false=>exact GK
theorem OM {k ix:Int} {u:Nat} {s:List Int} (h:s≠[]):eP k ix u s≠[]:=by
 unfold eP
 cases aB k 5 with
 | false=>exact h
 | true=>
  cases aF ix (ofNat u) with
  | true=>exact h
  | false=>exact Cw
mutual
theorem adC:∀(t:Ty) (u:Nat) {s:List Int},s≠[]->t.cf u s≠[]
 | .mk k nm ix l,u,s,h=>by rw[Ty.cf];exact EP l u (OM h)
theorem EP {k:Int}:∀(l:List Ty) {j:Nat} (u:Nat) {s:List Int},s≠[]->se k l j u s≠[]
 | [],j,u,s,h=>by rw[se];exact h
 | t::r,j,u,s,h=>by rw[se];exact EP r u (adC t _ h)
end
mutual
theorem Dh:∀(t:Ty) (u:Nat),LD (t.cf u [])=t.closed u
 | .mk k nm ix l,u=>by
  rw[Ty.cf,Ty.closed]
  cases hk:aB k 5 with
  | false=>
   have e:eP k ix u []=[]:=by unfold eP;rw[hk]
   rw[e,Bool.false_and,Bool.not_false,Bool.true_and];exact sZ l u 0
  | true=>
   cases hg:aF ix (ofNat u) with
   | true=>
    have e:eP k ix u []=[]:=by unfold eP;rw[hk,hg]
    rw[e,Bool.not_true,Bool.and_false,Bool.not_false,Bool.true_and];exact sZ l u 0
   | false=>
    have e:eP k ix u []≠[]:=by unfold eP;rw[hk,hg];exact Cw
    have h2:=EP (k:=k) l (j:=0) u e;rw[Bool.not_false,Bool.true_and,Bool.not_true,Bool.false_and]
    cases h:se k l 0 u (eP k ix u []) with
    | nil=>exact absurd h h2
    | cons _ _=>rfl
theorem sZ {k:Int}:∀(l:List Ty) (u j:Nat),LD (se k l j u [])=fA k j l u
 | [],u,j=>by rw[se,fA];rfl
 | t::r,u,j=>by
  rw[se,fA];have h:=Dh t (u+ey k j)
  cases hc:t.closed (u+ey k j) with
  | true=>
   rw[hc] at h;have e:t.cf (u+ey k j) []=[]:=by cases h3:t.cf (u+ey k j) [] with|nil=>rfl|cons _ _=>rw[h3] at h;simp[LD] at h
   rw[e,Bool.true_and];exact sZ r u (j+1)
  | false=>
   rw[hc] at h;have e:t.cf (u+ey k j) []≠[]:=by intro h3;rw[h3] at h;simp[LD] at h
   have h2:=EP (k:=k) r (j:=j+1) u e;rw[Bool.false_and]
   cases h4:se k r (j+1) u (t.cf (u+ey k j) []) with
   | nil=>exact absurd h4 h2
   | cons _ _=>rfl
end
theorem CC {t:Ty} (h:t.gN):ae 108 [.dat t.enc] (bv (t.closed 0)):=by
 rw[←Dh t 0];exact FY h.1 h.2
noncomputable def hRP:Hints:=⟨bV,D5,bi,rowsOf bi 181⟩
def stP (lo:Heap) (i:Int):ab:=⟨[(3,iv i),(1,.ptr (.loc 1) 0)],lo,[],0⟩
def aaZ (lo:Heap) (i:Int):ab:=⟨[(15,bv false),(3,iv i),(1,.ptr (.loc 1) 0)],lo,[],0⟩
def aa0:ab:=⟨[(2,bv false)],[],[],0⟩
theorem OJ {k:Int} {nm:List UInt8} {ix:Int} {l:List Ty} {t:Ty} {i:Nat} {c:Bool} (hi:i < (ax l).length) (ht:l[i]?=some t) (hc:ae 181 [.dat t.enc] (bv c)) {T:ej}
  (e1:c=true->T .normal ((stP (kr 1 k nm ix (.slice (ax l))) (an .i64 (ofNat i+1))).al nZ)) (e2:c=false->T .ret (aa0.al nZ)) :
  KD (roundOf Tryz.f181 0) T ((stP (kr 1 k nm ix (.slice (ax l))) (ofNat i)).al nZ):=by
 have h1:=br hi;have h2:=pF ht;generalize ax l=es at *;clear ht hi;obtain⟨k2,nm2,ix2,a2⟩:=t
 rcases a2 with _|⟨b,d⟩ <;>
 ·refine aq [15] [21] (H:=hRP) (live:=uc) (ob h1 (oo h2 (on hc ?_)))
  cases c
  ·exact oe (e2 rfl)
  exact oe (e1 rfl)
theorem S9 {k:Int} {nm:List UInt8} {ix:Int} {l:List ak} {T:ej} (e:T (.exit 0) ((aaZ (kr 1 k nm ix (sl l)) (ofNat l.length)).al nZ)) :
  KD (roundOf Tryz.f181 0) T ((stP (kr 1 k nm ix (sl l)) (ofNat l.length)).al nZ):=by
 have h1:=cj (i:=l.length) (L:=l.length) (by omega)
 rcases l with _|⟨x,l⟩
 ·refine aq [] [] (H:=hRP) (live:=uc) ?_;exact oe e
 exact aq [15] [] (H:=hRP) (live:=uc) (ob h1 (oe e))
theorem Xm {k:Int} {nm:List UInt8} {ix:Int} {l:List ak} {c2 c5 cc ca:Bool} (h5:aB k 5=c5) (hc:ae 108 [.dat (.agg [i64 k,sb nm,i64 ix,sl l])] (bv cc)) (h2:aB k 2=c2)
  (hl:KD (.loop (roundOf Tryz.f181 0)) (fun e s=>(e=.exit 0/\ca=false/\s=(aaZ (kr 1 k nm ix (sl l)) (ofNat l.length)).al nZ)∨(e=.ret/\ca=true/\s=aa0.al nZ)) ((stP (kr 1 k nm ix (sl l)) (ofNat 0)).al nZ)) :
  ae 181 [.dat (.agg [i64 k,sb nm,i64 ix,sl l])] (bv (c5||cc||(c2&&!ca))):=by
 rcases l with _|⟨x,l⟩ <;>
 ·cases c2 <;>
  ·refine co [6,27] [] (x:=.of Tryz.f181 D5 uc) ?_;refine ob h5 ?_
   cases c5
   ·refine on hc ?_
    cases cc
    ·refine lo hl ?_;rintro ex s (⟨rfl,rfl,rfl⟩|⟨rfl,rfl,rfl⟩)
     ·refine⟨_,rfl,?_⟩;exact ob h2 fi
     refine⟨_,rfl,?_⟩;exact fi
    exact fi
   exact fi
theorem Bw {l:List Ty} {i:Nat} {t:Ty} (h:l[i]?=some t):gT (l.drop i)=(!t.plain||gT (l.drop (i+1))):=by rw[kT h,gT]
mutual
theorem Tn:∀t:Ty,t.gN->ae 181 [.dat t.enc] (bv t.plain)
 | .mk k nm ix l,h=>by
  have hc:=CC h;obtain⟨h1,h2⟩:=h;simp only[Ty.size] at h1;simp only[Ty.fY] at h2;have ih:=zR l (by omega) h2.2;have hlen:=gw l;rw[Ty.plain];refine Xm rfl hc rfl ?_;refine cV (St:=fun i=>(stP (kr 1 k nm ix (sl (ax l))) (ofNat i)).al nZ) (fun i=>gT l=gT (l.drop i)) (ax l).length ?_ ?_ (i:=0) (Nat.zero_le _) rfl
  ·intro i hi hI;obtain⟨t,ht,hm⟩:=get_mem hi;have hd:=Bw ht;rw[←hI] at hd;have hsl:=nR hi;have hw:an .i64 (ofNat i+1)=ofNat (i+1):=bb (by rw[aH] at hi;omega);have hc:=ih t hm;rw[hsl];generalize t.plain=c at hc hd;refine OJ hi ht hc ?_ ?_
   ·rintro rfl;rw[hw];exact⟨rfl,hd⟩
   rintro rfl;exact .inr ⟨rfl,hd,rfl⟩
  intro hI;refine S9 (.inl ⟨rfl,?_,rfl⟩);rw[hI,aH,List.drop_length,gT]
theorem zR:∀l:List Ty,aQ l < 100000000->fg l->∀t∈l,ae 181 [.dat t.enc] (bv t.plain)
 | [],_,_,t,ht=>by simp at ht
 | u::r,h,hx,t,ht=>by
  simp only[aQ] at h;simp only[fg] at hx
  rcases List.mem_cons.1 ht with h1|ht
  ·rw[h1];exact Tn u ⟨by omega,hx.1⟩
  exact zR r (by omega) hx.2 t ht
end
theorem FN:HI (fun n=>Bm (jA n) (X 149 [GC n] [] 0)) 256=true:=by kernel_rfl
theorem O3 (c:UInt8):ae 149 [GC c.toNat] (bv (jA c.toNat)):=dE _ _ _ _ _ (qD (rC FN _ c.toNat_lt))
theorem Mp:HI (fun n=>Bm (B6 n) (X 150 [GC n] [] 0)) 256=true:=by kernel_rfl
theorem Xw (c:UInt8):ae 150 [GC c.toNat] (bv (B6 c.toNat)):=dE _ _ _ _ _ (qD (rC Mp _ c.toNat_lt))
noncomputable def hRI:Hints:=⟨bV,Ah,bi,rowsOf bi 106⟩
def stJ (b:List UInt8) (i:Int):ab:=⟨[(3,iv i),(0,.dat (sb b))],[],[],0⟩
def aa2 (b:List UInt8) (i:Int):ab:=⟨[(21,bv false),(3,iv i),(0,.dat (sb b))],[],[],0⟩
def aa3:ab:=⟨[(2,bv false)],[],[],0⟩
theorem Ms {b:List UInt8} {c:UInt8} {i:Nat} {cw c3:Bool} {L:Int} (hL:ofNat b.length=L) (h1:aF (ofNat i) (ofNat b.length)=true) (h2:qP ba 9 [.dat (sb b),.dat (.flat (.int .i64 (ofNat i)))]=some ⟨GC c.toNat,.keep⟩) (h3:ae 150 [GC c.toNat] (bv cw)) (h4:aB (ofNat c.toNat) 45=c3) {T:ej}
  (e1:(cw&&!c3)=true->T .normal ((stJ b (an .i64 (ofNat i+1))).al og)) (e2:(cw&&!c3)=false->T .ret (aa3.al og)) :
  KD (roundOf Tryz.f106 0) T ((stJ b (ofNat i)).al og):=by
 refine aq [21,33] [26,32] (H:=hRI) (live:=um) (ob h1 (oo h2 (on h3 ?_)))
 cases cw
 ·exact oe (e2 rfl)
 refine oo h2 (ob h4 ?_)
 cases c3
 ·exact oe (e1 rfl)
 exact oe (e2 rfl)
theorem ON {b:List UInt8} {T:ej} (e:T (.exit 0) ((aa2 b (ofNat b.length)).al og)) :
  KD (roundOf Tryz.f106 0) T ((stJ b (ofNat b.length)).al og):=by
 have h1:=cj (i:=b.length) (L:=b.length) (by omega);exact aq [21] [] (H:=hRI) (live:=um) (ob h1 (oe e))
theorem Td {b:List UInt8} {c:UInt8} {c1 c2 ca:Bool} (h2:aF 24 (ofNat (c::b).length)=c1) (h3:ae 149 [GC c.toNat] (bv c2))
  (hl:c1=false->KD (.loop (roundOf Tryz.f106 0)) (fun e s=>(e=.exit 0/\ca=true/\s=(aa2 (c::b) (ofNat (c::b).length)).al og)∨(e=.ret/\ca=false/\s=aa3.al og)) ((stJ (c::b) (ofNat 0)).al og)) :
  ae 106 [.dat (sb (c::b))] (bv (!c1&&c2&&ca)):=by
 have g1:=nK (b:=c::b) (i:=0) rfl
 cases c1
 ·have hl2:=hl rfl;clear hl;refine co [10] [14] (x:=.of Tryz.f106 Ah um) ?_;refine ob h2 (oo g1 (on h3 ?_))
  cases c2
  ·exact fi
  refine lo hl2 ?_;rintro ex s (⟨rfl,rfl,rfl⟩|⟨rfl,rfl,rfl⟩) <;>
  ·refine⟨_,rfl,?_⟩;exact fi
 clear hl;refine co [10] [] (x:=.of Tryz.f106 Ah um) ?_;exact ob h2 fi
theorem Tc:ae 106 [.dat (sb [])] (bv false):=dE _ _ _ _ _ (by kernel_rfl)
theorem yj (b:List UInt8):ae 106 [.dat (sb b)] (bv (isIdent b)):=by
 cases b with
 | nil=>exact Tc
 | cons c b=>
  have h3:=O3 c;have e:isIdent (c::b)=(!aF 24 (ofNat (c::b).length)&&jA c.toNat&&(c::b).all (fun c=>eg c.toNat)):=by
   have e2:Nat.ble (b.length+1) 24=!aF 24 (ofNat (c::b).length):=by
    rw[show (24:Int)=ofNat 24 from rfl,gv]
    by_cases h:24 < (c::b).length
    ·rw[decide_eq_true h];simp at h ⊢;rw[Bool.eq_false_iff,ne_eq,Nat.ble_eq];omega
    rw[decide_eq_false h];simp at h ⊢;omega
   show (Nat.ble (b.length+1) 24&&jA c.toNat&&(c::b).all (fun c=>eg c.toNat))=_;rw[e2]
  rw[e];refine Td rfl h3 (fun hc=>?_);have hlen:(c::b).length < 1000:=by
   rw[show (24:Int)=ofNat 24 from rfl,gv] at hc;simp only[decide_eq_false_iff_not] at hc;omega
  obtain⟨l,hl⟩:∃l,l=c::b:=⟨_,rfl⟩;rw[←hl] at hlen ⊢;clear hl hc e h3;refine cV (St:=fun i=>(stJ l (ofNat i)).al og) (fun i=>l.all (fun c=>eg c.toNat)=(l.drop i).all (fun c=>eg c.toNat)) l.length ?_ ?_ (i:=0) (Nat.zero_le _) rfl
  ·intro i hi hI;have ht:l[i]?=some l[i]:=List.getElem?_eq_getElem hi;generalize l[i]=t at ht;have hd:(l.drop i).all (fun c=>eg c.toNat)=(eg t.toNat&&(l.drop (i+1)).all (fun c=>eg c.toNat)):=by rw[kT ht];rfl
   rw[←hI] at hd;have hw:an .i64 (ofNat i+1)=ofNat (i+1):=bb (by omega);have e2:eg t.toNat=(B6 t.toNat&&!(aB (ofNat t.toNat) 45)):=by
    show (!Nat.beq t.toNat 45&&B6 t.toNat)=(B6 t.toNat&&!(Nat.beq t.toNat 45));rw[Bool.and_comm]
   rw[e2] at hd;refine Ms rfl (br hi) (nK ht) (Xw t) rfl ?_ ?_
   ·intro h;rw[h] at hd;rw[hw];exact⟨rfl,hd⟩
   intro h;rw[h] at hd;exact .inr ⟨rfl,hd,rfl⟩
  intro hI;rw[List.drop_length] at hI;exact ON (.inl ⟨rfl,hI,rfl⟩)
theorem abO (b:List UInt8):ae 180 [.dat (sb b)] (bv (hJ b)):=by
 have e:hJ b=(jP b [65,110,121]||jP b [78,101,118,101,114]||jP b [116,117,112,108,101]||jP b [117,110,105,111,110]||jP b [101,120,105,115,116,115]):=by
  unfold hJ tG;simp only[List.any_cons,List.any_nil,Bool.or_false,Bool.or_assoc]
 rw[e];generalize h1:jP b [65,110,121]=c1;generalize h2:jP b [78,101,118,101,114]=c2;generalize h3:jP b [116,117,112,108,101]=c3;generalize h4:jP b [117,110,105,111,110]=c4;generalize h5:jP b [101,120,105,115,116,115]=c5;refine co [4,7,11,15,19] [] (x:=.of Tryz.f180 IT Lj) ?_;refine ob h1 ?_
 cases c1
 ·refine ob h2 ?_
  cases c2
  ·refine ob h3 ?_
   cases c3
   ·refine ob h4 ?_
    cases c4
    ·refine ob h5 ?_
     cases c5 <;>
     ·exact fi
    exact fi
   exact fi
  exact fi
 exact fi
end Go.Proofs.YtmpmgmmcaghacaaGreatDoor
