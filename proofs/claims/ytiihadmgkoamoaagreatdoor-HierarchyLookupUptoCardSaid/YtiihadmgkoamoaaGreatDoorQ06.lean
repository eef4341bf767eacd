/- HierarchyLookup returns true and changes nothing, for arguments of bulk at most 1048576 (the card of the second form; conditions: those of the given row). Names are shortened by a program, for the claim's bound. Part 6. -/
import Derived.Ground.Names2Prog
import Derived.Shelf.Lays2
import Derived.Test.YtiihadmgkoamoaaGreatDoorProg
import Derived.Shelf.Spec.SearchS
import Derived.Test.YtiihadmgkoamoaaGreatDoorQ05
set_option linter.unusedVariables false
set_option linter.unusedSimpArgs false
set_option maxRecDepth 100000
set_option maxHeartbeats 4000000
namespace Go.Proofs.YtiihadmgkoamoaaGreatDoor
open Go.Tp
def bU (nm:List UInt8) (ar k:Int) (tn:List UInt8) (ix:Int) (a:aq) (con:Bool) (b:aq):List ac:=[.dat (sb nm),iv ar,iv k,.dat (sb tn),iv ix,.dat a,.dat (bl con),.dat b]
noncomputable def hDE:Hints:=⟨an,zU,ap,rowsOf ap 37⟩
def DP (c1 c2:List ac):Heap:=[(.loc 3,.cells c2),(.loc 2,.cells c1)]
def MF (lo:Heap) (i:Int):ab:=⟨[(5,iv i),(3,.ptr (.loc 3) 0),(2,.ptr (.loc 2) 0)],lo,[],0⟩
def Ps (lo:Heap) (i:Int):ab:=⟨[(46,bv false),(5,iv i),(3,.ptr (.loc 3) 0),(2,.ptr (.loc 2) 0)],lo,[],0⟩
def Pt:ab:=⟨[(4,bv false)],[],[],0⟩
theorem TS {nm nm2 tn tn2:List UInt8} {ar ar2 k k2 ix ix2:Int} {A A2:aq} {con con2:Bool} {l l2:List dY} {t u:dY} {i:Nat} {c1 c2:Bool} {T:Exit->aa->Prop} (hi:i < (aN l).length) (ht:l[i]?=some t) (hu:l2[i]?=some u) (hn:dv t.nm u.nm=c1) (hc:ag 24 [.dat t.ty.enc,.dat u.ty.enc] (bv c2))
  (e1:(c1&&c2)=true->T .normal ((MF (DP (bU nm ar k tn ix A con (.slice (aN l))) (bU nm2 ar2 k2 tn2 ix2 A2 con2 (.slice (aN l2)))) (aG .i64 (Int.ofNat i+1))).aw Tryz.f37.ntmps)) (e2:(c1&&c2)=false->T .ret (Pt.aw Tryz.f37.ntmps)) :
  KD (roundOf Tryz.f37 0) T ((MF (DP (bU nm ar k tn ix A con (.slice (aN l))) (bU nm2 ar2 k2 tn2 ix2 A2 con2 (.slice (aN l2)))) (Int.ofNat i)).aw Tryz.f37.ntmps):=by
 have h1:=bd hi;have h2:=sG ht;have h3:=sG hu;generalize aN l=es at *;generalize aN l2=es2 at *;clear ht hi hu;obtain⟨fn,tk,tn',tix,ta⟩:=t;obtain⟨gn,uk,un,uix,ua⟩:=u
 rcases ta with _|⟨b,d⟩ <;>
 ·rcases ua with _|⟨b2,d2⟩ <;>
  ·refine aB [46,61] [52,58,66,72] (H:=hDE) (live:=pG) (by kernel_rfl) ?_;refine ob h1 ?_;refine oo h2 ?_;refine oo h3 ?_;refine ox hn ?_
   cases c1
   ·exact oe (e2 rfl)
   refine oo h2 ?_;refine oo h3 ?_;refine on hc ?_
   cases c2
   ·exact oe (e2 rfl)
   exact oe (e1 rfl)
theorem XR {nm nm2 tn tn2:List UInt8} {ar ar2 k k2 ix ix2:Int} {A A2 B:aq} {con con2:Bool} {l:List aq} {T:Exit->aa->Prop}
  (e:T (.exit 0) ((Ps (DP (bU nm ar k tn ix A con (sl l)) (bU nm2 ar2 k2 tn2 ix2 A2 con2 B)) (Int.ofNat l.length)).aw Tryz.f37.ntmps)) :
  KD (roundOf Tryz.f37 0) T ((MF (DP (bU nm ar k tn ix A con (sl l)) (bU nm2 ar2 k2 tn2 ix2 A2 con2 B)) (Int.ofNat l.length)).aw Tryz.f37.ntmps):=by
 have h1:=br (i:=l.length) (L:=l.length) (by omega)
 rcases l with _|⟨x,l⟩
 ·refine aB [] [] (H:=hDE) (live:=pG) (by kernel_rfl) ?_;exact oe e
 refine aB [46] [] (H:=hDE) (live:=pG) (by kernel_rfl) ?_;refine ob h1 ?_;exact oe e
theorem ac1 {nm nm2:List UInt8} {ar ar2 k ix k2 ix2:Int} {tn tn2:List UInt8} {la la2 lb lb2:List aq} {con con2:Bool} {c1 c2 c3 c4 c5 d:Bool} (h1:dv nm nm2=c1) (h2:aQ ar ar2=c2) (h3:(con==con2)=c3) (h4:ag 24 [.dat (.agg [i64 k,sb tn,i64 ix,sl la]),.dat (.agg [i64 k2,sb tn2,i64 ix2,sl la2])] (bv c4)) (h5:aQ (Int.ofNat lb.length) (Int.ofNat lb2.length)=c5)
  (hl:c5=true->KD (.loop (roundOf Tryz.f37 0)) (fun e s=>(e=.exit 0/\d=true/\s=(Ps (DP (bU nm ar k tn ix (sl la) con (sl lb)) (bU nm2 ar2 k2 tn2 ix2 (sl la2) con2 (sl lb2))) (Int.ofNat lb.length)).aw Tryz.f37.ntmps)∨(e=.ret/\d=false/\s=Pt.aw Tryz.f37.ntmps)) ((MF (DP (bU nm ar k tn ix (sl la) con (sl lb)) (bU nm2 ar2 k2 tn2 ix2 (sl la2) con2 (sl lb2))) (Int.ofNat 0)).aw Tryz.f37.ntmps)) :
  ag 37 [.dat (dw nm ar k tn ix la con lb),.dat (dw nm2 ar2 k2 tn2 ix2 la2 con2 lb2)] (bv (c1&&(c2&&(c3&&(c4&&(c5&&d)))))):=by
 have q1:=uG nm ar k tn ix la con lb;have q2:=uG nm2 ar2 k2 tn2 ix2 la2 con2 lb2;have q3:=D1 false 2 nm ar k tn ix la con lb;have q4:=D1 false 3 nm2 ar2 k2 tn2 ix2 la2 con2 lb2;subst h3
 rcases lb with _|⟨x,lb⟩
 ·rcases lb2 with _|⟨y,lb2⟩
  ·have z:c5=true:=h5.symm;subst z;have hl2:=hl rfl;clear hl h5;refine co [10,16] [2,3,27,29] (x:=.of Tryz.f37 zU pG) ?_;refine oo q1 ?_;refine oo q2 ?_;refine ox h1 ?_
   cases c1
   ·exact fi
   refine ox h2 ?_
   cases c2
   ·exact fi
   cases con
   ·cases con2
    ·refine oo q3 ?_;refine oo q4 ?_;refine on h4 ?_
     cases c4
     ·exact fi
     refine lo hl2 ?_;rintro ex s (⟨rfl,rfl,rfl⟩|⟨rfl,rfl,rfl⟩) <;>
     ·refine⟨_,rfl,?_⟩;exact fi
    exact fi
   cases con2
   ·exact fi
   refine oo q3 ?_;refine oo q4 ?_;refine on h4 ?_
   cases c4
   ·exact fi
   refine lo hl2 ?_;rintro ex s (⟨rfl,rfl,rfl⟩|⟨rfl,rfl,rfl⟩) <;>
   ·refine⟨_,rfl,?_⟩;exact fi
  have z:c5=false:=h5.symm;subst z;clear hl h5;refine co [10,16] [2,3,27,29] (x:=.of Tryz.f37 zU pG) ?_;refine oo q1 ?_;refine oo q2 ?_;refine ox h1 ?_
  cases c1
  ·exact fi
  refine ox h2 ?_
  cases c2
  ·exact fi
  cases con
  ·cases con2
   ·refine oo q3 ?_;refine oo q4 ?_;refine on h4 ?_
    cases c4 <;>
    ·exact fi
   exact fi
  cases con2
  ·exact fi
  refine oo q3 ?_;refine oo q4 ?_;refine on h4 ?_
  cases c4 <;>
  ·exact fi
 rcases lb2 with _|⟨y,lb2⟩
 ·have z:c5=false:=h5.symm;subst z;clear hl h5;refine co [10,16] [2,3,27,29] (x:=.of Tryz.f37 zU pG) ?_;refine oo q1 ?_;refine oo q2 ?_;refine ox h1 ?_
  cases c1
  ·exact fi
  refine ox h2 ?_
  cases c2
  ·exact fi
  cases con
  ·cases con2
   ·refine oo q3 ?_;refine oo q4 ?_;refine on h4 ?_
    cases c4 <;>
    ·exact fi
   exact fi
  cases con2
  ·exact fi
  refine oo q3 ?_;refine oo q4 ?_;refine on h4 ?_
  cases c4 <;>
  ·exact fi
 refine co [10,16,40] [2,3,27,29] (x:=.of Tryz.f37 zU pG) ?_;refine oo q1 ?_;refine oo q2 ?_;refine ox h1 ?_
 cases c1
 ·exact fi
 refine ox h2 ?_
 cases c2
 ·exact fi
 cases con
 ·cases con2
  ·refine oo q3 ?_;refine oo q4 ?_;refine on h4 ?_
   cases c4
   ·exact fi
   refine ox h5 ?_
   cases c5
   ·exact fi
   refine lo (hl rfl) ?_;rintro ex s (⟨rfl,rfl,rfl⟩|⟨rfl,rfl,rfl⟩) <;>
   ·refine⟨_,rfl,?_⟩;exact fi
  exact fi
 cases con2
 ·exact fi
 refine oo q3 ?_;refine oo q4 ?_;refine on h4 ?_
 cases c4
 ·exact fi
 refine ox h5 ?_
 cases c5
 ·exact fi
 refine lo (hl rfl) ?_;rintro ex s (⟨rfl,rfl,rfl⟩|⟨rfl,rfl,rfl⟩) <;>
 ·refine⟨_,rfl,?_⟩;exact fi
theorem wa (x:Int):fG x x=0:=by
 unfold fG;rw[show bn x x=false by rw[gr];simp]
theorem Gi:∀x:List UInt8,jE x x=false
 | []=>rfl
 | c::r=>by
  unfold jE;rw[show Nat.blt c.toNat c.toNat=false by simp[Nat.blt_eq,Bool.eq_false_iff],show Nat.beq c.toNat c.toNat=true by simp];exact Gi r
theorem Ob (x:List UInt8):qf x x=0:=by
 unfold qf;rw[Gi,hU];rfl
theorem Oa {x y:List UInt8} (h:qf x y=0):x=y:=by
 unfold qf at h
 cases h1:jE x y with
 | true=>rw[h1] at h;simp at h
 | false=>
  rw[h1] at h
  cases h2:dv x y with
  | true=>exact mz h2
  | false=>rw[h2] at h;simp at h
mutual
theorem CO:∀(t u:Ty),oA t u=0->t=u
 | .mk k nm ix l,.mk k2 nm2 ix2 l2,h=>by
  rw[oA] at h
  cases hz:aQ (Bu [fG k k2,qf nm nm2,fG ix ix2,fG (Int.ofNat (ax l).length) (Int.ofNat (ax l2).length)]) 0 with
  | true=>
   rw[hz] at h;have ho:=Ac (pZ hz);have h1:=vZ (ho (fG k k2) (by simp));have h2:=Oa (ho (qf nm nm2) (by simp));have h3:=vZ (ho (fG ix ix2) (by simp));have h4:=AA hz;rw[h1,h2,h3,CQ l l2 h4 h]
  | false=>
   rw[hz] at h;dsimp only at h;rw[h,ep] at hz;simp at hz
theorem CQ:∀(l l2:List Ty),l.length=l2.length->rp l l2=0->l=l2
 | [],[],_,_=>rfl
 | [],_::_,h,_=>by simp at h
 | _::_,[],h,_=>by simp at h
 | t::r,u::v,h,h2=>by
  rw[rp] at h2
  cases hz:aQ (oA t u) 0 with
  | true=>
   rw[hz] at h2;rw[CO t u (gU hz),CQ r v (by simpa using h) h2]
  | false=>
   rw[hz] at h2;dsimp only at h2;rw[h2,ep] at hz;simp at hz
end
mutual
theorem CP:∀t:Ty,oA t t=0
 | .mk k nm ix l=>by
  rw[oA,wa,Ob,wa,wa,CR l];rfl
theorem CR:∀l:List Ty,rp l l=0
 | []=>by simp[rp]
 | t::r=>by rw[rp,CP t,ep,CR r]
end
theorem yE {t u:Ty}:NP t u=true↔t=u:=by
 unfold NP
 constructor
 ·intro h;exact CO t u (gU h)
 rintro rfl;rw[CP,ep]
theorem Vt (t u:Ty):reT t u=NP t u:=by
 rw[Bool.eq_iff_iff,Vs,yE]
theorem zM (t u:Ty) (h:t.size < 1000000000):ag 24 [.dat t.enc,.dat u.enc] (bv (NP t u)):=by
 rw[←Vt];exact VC t u h
theorem XP {nm nm2 tn tn2:List UInt8} {ar ar2 k k2 ix ix2:Int} {A A2 B B2:aq} {con con2:Bool} {l l2:List dY} (ha:B=sl (aN l)) (hb:B2=sl (aN l2)) (hlen:l.length=l2.length) (hn:l.length < 1000000000) (hf:∀t∈l,t.ty.cX) :
  KD (.loop (roundOf Tryz.f37 0)) (fun e s=>(e=.exit 0/\sK l l2=true/\s=(Ps (DP (bU nm ar k tn ix A con B) (bU nm2 ar2 k2 tn2 ix2 A2 con2 B2)) (Int.ofNat (aN l).length)).aw Tryz.f37.ntmps)∨(e=.ret/\sK l l2=false/\s=Pt.aw Tryz.f37.ntmps))
   ((MF (DP (bU nm ar k tn ix A con B) (bU nm2 ar2 k2 tn2 ix2 A2 con2 B2)) (Int.ofNat 0)).aw Tryz.f37.ntmps):=by
 refine cE (St:=fun i=>(MF (DP (bU nm ar k tn ix A con B) (bU nm2 ar2 k2 tn2 ix2 A2 con2 B2)) (Int.ofNat i)).aw Tryz.f37.ntmps) (fun i=>sK l l2=sK (l.drop i) (l2.drop i)) (aN l).length ?_ ?_ (i:=0) (Nat.zero_le _) rfl
 ·intro i hi hI;obtain⟨t,ht,hm⟩:=gx hi;have hi2:=hi;rw[bc] at hi2;have hu:l2[i]?=some l2[i]:=List.getElem?_eq_getElem (by omega);generalize l2[i]=u at hu;have hd:=CL ht hu;rw[←hI] at hd;have hw:aG .i64 (Int.ofNat i+1)=Int.ofNat (i+1):=bb (by omega);have ha2:B=.slice (aN l):=by
   rw[ha]
   cases l with
   | nil=>simp at ht
   | cons x r=>rfl
  have hb2:B2=.slice (aN l2):=by
   rw[hb]
   cases l2 with
   | nil=>simp at hu
   | cons x r=>rfl
  subst ha2;subst hb2;refine TS hi ht hu (c1:=dv t.nm u.nm) (c2:=NP t.ty u.ty) rfl (zM _ _ (by have:=(hf t hm).1;omega)) ?_ ?_
  ·intro hc;rw[hw];refine⟨rfl,?_⟩;rw[hd];unfold dY.eq;rw[hc,Bool.true_and]
  intro hc;refine .inr ⟨rfl,?_,rfl⟩;rw[hd];unfold dY.eq;rw[hc,Bool.false_and]
 intro hI;rw[ha];refine XR (.inl ⟨rfl,?_,rfl⟩);rw[hI,bc,List.drop_length]
 cases l2.drop l.length <;> rfl
theorem zN {d o:aZ} (hd:d.cX):ag 37 [.dat d.enc,.dat o.enc] (bv (d.eq o)):=by
 have h4:=zM d.sup o.sup (by have:=hd.1.1;omega);have hf:=hd.2.1;have hn:=hd.2.2;obtain⟨nm,ar,⟨k,tn,ix,la⟩,con,fl⟩:=d;obtain⟨nm2,ar2,⟨k2,tn2,ix2,la2⟩,con2,fl2⟩:=o;refine ac1 rfl rfl rfl h4 rfl ?_;intro hc;exact XP rfl rfl (L5 rfl hc) hn hf
theorem aZ.eq_iff {d o:aZ}:d.eq o=true↔d=o:=by
 have hfl:∀l l2:List dY,l.length=l2.length->(sK l l2=true↔l=l2):=by
  intro l
  induction l with
  | nil=>intro l2 h;cases l2 with|nil=>simp[sK]|cons x r=>simp at h
  | cons x r ih=>
   intro l2 h
   cases l2 with
   | nil=>simp at h
   | cons y s=>
    simp only[sK,Bool.and_eq_true,ih s (by simpa using h),dY.eq,yE,io,beq_iff_eq,List.cons.injEq];obtain⟨a,b⟩:=x;obtain⟨c,d⟩:=y;simp
 obtain⟨nm,ar,t,con,fl⟩:=d;obtain⟨nm2,ar2,t2,con2,fl2⟩:=o;simp only[aZ.eq,acX,Bool.and_eq_true,io,gV,yE,beq_iff_eq,bc,aZ.mk.injEq]
 constructor
 ·rintro⟨h1,h2,h3,h4,h5,h6⟩;exact⟨h1,h2,h4,h3,(hfl _ _ (Int.ofNat.inj h5)).1 h6⟩
 rintro⟨h1,h2,h4,h3,rfl⟩;exact⟨h1,h2,h3,h4,rfl,(hfl _ _ rfl).2 rfl⟩
noncomputable def aeM:Hints:=⟨an,zV,ap,rowsOf ap 192⟩
def stN (es:List aq) (x k:Int):ab:=⟨[(5,iv k),(0,.dat (.slice es)),(1,iv x)],[],[],0⟩
def Z0 (es:List aq) (x k:Int):ab:=⟨[(17,bv false),(5,iv k),(0,.dat (.slice es)),(1,iv x)],[],[],0⟩
theorem vL {es:List aq} {x y:Int} {i:Nat} {c1 c2:Bool} (h1:bn (Int.ofNat i) (Int.ofNat es.length)=c1) (h2:c1=true->aJ (env au.aI) 22 [.dat (.slice es),.dat (.flat (.int .i64 (Int.ofNat i)))]=some ⟨.ref [iN y],.keep⟩) (h3:bn y x=c2) {T:Exit->aa->Prop}
  (e1:(c1&&c2)=true->T .normal ((stN es x (aG .i64 (Int.ofNat i+1))).aw Tryz.f192.ntmps)) (e2:(c1&&c2)=false->T (.exit 0) ((Z0 es x (Int.ofNat i)).aw Tryz.f192.ntmps)) :
  KD (roundOf Tryz.f192 0) T ((stN es x (Int.ofNat i)).aw Tryz.f192.ntmps):=by
 refine aB [9,16] [13] (H:=aeM) (live:=tR) (by kernel_rfl) ?_;refine ob h1 ?_
 cases c1
 ·exact oe (e2 rfl)
 refine oo (h2 rfl) ?_;refine ob h3 ?_
 cases c2
 ·exact oe (e2 rfl)
 exact oe (e1 rfl)
theorem qD {g:FuncId} {args:List ac} {heap:Heap} {next:Nat} {es:List aq} {h2:Heap} {m:Nat} (h:KC g args heap next (XQ ⟨.own es,h2,m⟩)):KC g args heap next (XQ ⟨.dat (.slice es),h2,m⟩):=by
 intro w R N cargs bsA bsH bsF ha hh hnd hnx hg hF;refine (h w R N cargs bsA bsH bsF ha hh hnd hnx hg hF).mono ?_;rintro e w' ⟨v,cv,h1,next',R',N',bsV,bsH',rfl,⟨rfl,rfl,rfl⟩,hv,hh',hnd',hnx',hk,hN⟩;refine⟨_,cv,_,_,R',N',[],bsH',rfl,⟨rfl,rfl,rfl⟩,bX (ct hv).rep,hh',?_,hnx',hk,hN⟩;exact (List.nodup_append.1 hnd').2.1
def ZZ (x k:Int):ab:=⟨[(5,iv k),(0,.dat nl),(1,iv x)],[],[],0⟩
def Yv (x k:Int):ab:=⟨[(17,bv false),(5,iv k),(0,.dat nl),(1,iv x)],[],[],0⟩
theorem Jv {x:Int} {T:Exit->aa->Prop} (e2:T (.exit 0) ((Yv x (Int.ofNat 0)).aw Tryz.f192.ntmps)) :
  KD (roundOf Tryz.f192 0) T ((ZZ x (Int.ofNat 0)).aw Tryz.f192.ntmps):=by
 refine aB [] [] (H:=aeM) (live:=tR) (by kernel_rfl) ?_;exact oe e2
theorem Xf {x:Int} (a2:cj (env au.aI) false 22 [.own [],.dat (.slice [iN x])] none=some ⟨.own [iN x],.keep⟩):ag 192 [.dat nl,iv x] (.own [iN x]):=by
 have hl:KD (.loop (roundOf Tryz.f192 0)) (fun e s=>e=.exit 0/\s=(Yv x (Int.ofNat 0)).aw Tryz.f192.ntmps) ((ZZ x (Int.ofNat 0)).aw Tryz.f192.ntmps):=
  ba (St:=fun _=>(ZZ x (Int.ofNat 0)).aw Tryz.f192.ntmps) 0 (fun i hi=>absurd hi (Nat.not_lt_zero i)) (Jv ⟨rfl,rfl⟩) (i:=0) (Nat.le_refl _)
 refine co [] [40,44] (x:=.of Tryz.f192 zV tR) ?_;refine lo hl ?_;rintro ex s ⟨rfl,rfl⟩;refine⟨_,rfl,?_⟩;refine oo a2 ?_;refine oo a2 ?_;exact fi
theorem LR {e0:aq} {es p q:List aq} {x y:Int} {i:Nat} {c1 c2:Bool} (h1:bn (Int.ofNat i) (Int.ofNat (e0::es).length)=c1) (h2:c1=true->aJ (env au.aI) 22 [.dat (.slice (e0::es)),.dat (.flat (.int .i64 (Int.ofNat i)))]=some ⟨.ref [iN y],.keep⟩) (h3:aQ y x=c2)
  (hl:KD (.loop (roundOf Tryz.f192 0)) (fun e s=>e=.exit 0/\s=(Z0 (e0::es) x (Int.ofNat i)).aw Tryz.f192.ntmps) ((stN (e0::es) x (Int.ofNat 0)).aw Tryz.f192.ntmps))
  (s1:ff (env au.aI) 22 none (some (.tmp 35)) none [.dat (.slice (e0::es)),iv (Int.ofNat i)]=some ⟨.dat (.slice p),.keep⟩)
  (s2:ff (env au.aI) 22 (some (.tmp 42)) none none [.dat (.slice (e0::es)),iv (Int.ofNat i)]=some ⟨.dat (.slice q),.keep⟩)
  (a1:cj (env au.aI) false 22 [.own [],.dat (.slice p)] none=some ⟨.own p,.keep⟩)
  (a2:cj (env au.aI) false 22 [.own p,.dat (.slice [iN x])] none=some ⟨.own (p++[iN x]),.keep⟩)
  (a3:cj (env au.aI) false 22 [.own (p++[iN x]),.dat (.slice q)] none=some ⟨.own (p++[iN x]++q),.keep⟩) :
  ag 192 [.dat (.slice (e0::es)),iv x] (match c1&&c2 with|true=>.dat (.slice (e0::es))|false=>.own (p++[iN x]++q)):=by
 refine co [23,30] [27,36,43,37,40,44] (x:=.of Tryz.f192 zV tR) ?_;refine lo hl ?_;rintro ex s ⟨rfl,rfl⟩;refine⟨_,rfl,?_⟩;refine ob h1 ?_
 cases c1
 ·refine oo s1 ?_;refine oo s2 ?_;refine oo a1 ?_;refine oo a2 ?_;refine oo a3 ?_;exact fi
 refine oo (h2 rfl) ?_;refine ob h3 ?_
 cases c2
 ·refine oo s1 ?_;refine oo s2 ?_;refine oo a1 ?_;refine oo a2 ?_;refine oo a3 ?_;exact fi
 exact fi
def kW:List Int->Int->Nat
 | [],_=>0
 | y::r,x=>match bn y x with|true=>kW r x+1|false=>0
theorem Y7:∀{l:List Int} {x:Int},kW l x<=l.length
 | [],_=>Nat.le_refl _
 | y::r,x=>by
  unfold kW
  split
  ·simp only[List.length_cons];have:=Y7 (l:=r) (x:=x);omega
  omega
theorem Y6:∀{l:List Int} {x:Int} {i:Nat} {y:Int},i < kW l x->l[i]?=some y->bn y x=true
 | [],x,i,y,h,h2=>by simp[kW] at h
 | z::r,x,i,y,h,h2=>by
  unfold kW at h
  cases hz:bn z x with
  | false=>rw[hz] at h;simp at h
  | true=>
   rw[hz] at h
   cases i with
   | zero=>simp at h2;subst h2;exact hz
   | succ i=>simp at h2;exact Y6 (by simp at h;omega) h2
theorem Y8:∀{l:List Int} {x:Int} {y:Int},l[kW l x]?=some y->bn y x=false
 | [],x,y,h=>by simp at h
 | z::r,x,y,h=>by
  unfold kW at h
  cases hz:bn z x with
  | false=>rw[hz] at h;simp at h;subst h;exact hz
  | true=>rw[hz] at h;simp at h;exact Y8 h
theorem Cy {l:List Int} {x:Int} (hs:l.Pairwise (·<=·)):kW l x=l.countP (· < x):=by
 induction l with
 | nil=>rfl
 | cons y r ih=>
  have ih:=ih (List.Pairwise.of_cons hs);unfold kW
  by_cases hy:y < x
  ·rw[gr,decide_eq_true hy,List.countP_cons_of_pos (by simpa using hy),ih]
  rw[gr,decide_eq_false hy];symm;dsimp only;rw[List.countP_eq_zero];intro z hz
  have:y<=z:=by
   rcases List.mem_cons.1 hz with rfl|hz
   ·exact Int.le_refl _
   exact List.rel_of_pairwise_cons hs hz
  simp only[decide_eq_true_eq];omega
def SX (l:List Int) (x:Int):List Int:=match l[kW l x]? with|some y=>(match aQ y x with|true=>l|false=>gO l (kW l x) x)|none=>gO l (kW l x) x
theorem Gx {l:List Int} {x:Int} (hs:l.Pairwise (·<=·)):SX l x=jk l x:=by
 obtain⟨c1,c2⟩:=countP_split (x:=x) hs;unfold SX jk;rw[←Cy hs];rw[←Cy hs] at c1 c2
 cases hc:l.contains x with
 | true=>
  have hm:x∈l:=by simpa using hc
  have hd:x∈l.drop (kW l x):=by
   rcases List.mem_append.1 ((List.take_append_drop (kW l x) l).symm ▸ hm) with h|h
   ·exact absurd (c1 x h) (Int.lt_irrefl x)
   exact h
  have hlt:kW l x < l.length:=by
   rcases Nat.lt_or_ge (kW l x) l.length with h|h
   ·exact h
   rw[List.drop_eq_nil_of_le h] at hd;simp at hd
  have hg:l[kW l x]?=some l[kW l x]:=List.getElem?_eq_getElem hlt;have hge:x<=l[kW l x]:=c2 _ (by rw[List.drop_eq_getElem_cons hlt];exact List.mem_cons_self);have hle:l[kW l x]<=x:=by
   have hp:(l.drop (kW l x)).Pairwise (·<=·):=hs.sublist (List.drop_sublist _ _);rw[List.drop_eq_getElem_cons hlt] at hp hd
   rcases List.mem_cons.1 hd with h|h
   ·omega
   exact List.rel_of_pairwise_cons hp h
  rw[hg];dsimp only;rw[show l[kW l x]=x by omega,ep]
 | false=>
  have hm:x∉l:=by intro h;rw[List.contains_iff_mem.2 h] at hc;simp at hc
  cases hg:l[kW l x]? with
  | none=>rfl
  | some y=>
   dsimp only
   have:aQ y x=false:=by
    rw[gV]
    have:y≠x:=by rintro rfl;exact hm (List.mem_of_getElem? hg)
    simpa using this
   rw[this]
theorem uM {a b:List Int} (h:a.length+b.length < 1000000000):cj (env au.aI) false 22 [.own (a.map iN),.dat (.slice (b.map iN))] none=some ⟨.own (a.map iN++b.map iN),.keep⟩:=by
 refine ra (i:=U3) (ds:=b.map iN) (k:=0) OV rfl pb ?_ ?_ (by kernel_rfl) ?_ ?_ ?_ (by simp)
 ·exact gF (fun d hd=>by obtain⟨x,_,rfl⟩:=List.mem_map.1 hd;rfl)
 ·exact gF (fun d hd=>by obtain⟨x,_,rfl⟩:=List.mem_map.1 hd;rfl)
 ·have h1:U3.bytes<=1000:=fH (by kernel_rfl);simp only[List.length_map]
  calc (a.length+b.length)*U3.bytes<=1000000000*1000:=Nat.mul_le_mul (by omega) h1
   _<=140737488355328:=by decide
 ·simp[lim];omega
 have hb:ez (a.map iN++b.map iN)=false:=by
  rw[←List.map_append]
  cases a++b with
  | nil=>rfl
  | cons x r=>rfl
 unfold fQ;rw[hb]
theorem zh (l:List Int):sizedB 1 (l.map iN)=true:=gF (fun d hd=>by obtain⟨x,_,rfl⟩:=List.mem_map.1 hd;rfl)
theorem PD {l:List Int} {i:Nat} (h:i<=l.length) (x:Operand):ff (env au.aI) 22 none (some x) none [.dat (.slice (l.map iN)),iv (Int.ofNat i)]=some ⟨.dat (.slice ((l.take i).map iN)),.keep⟩:=by
 have h1:au.aI.sub U3.size (l.map iN) none (some (Int.ofNat i))=some ((l.take i).map iN):=by
  rw[pb];show (match sizedB 1 (l.map iN),Nat.blt 0 1 with
   | true,true=>(match cP (some (Int.ofNat i)) (l.map iN).length,cP none 0 with
    | some h,some lo=>(match Nat.ble lo h,Nat.ble h (l.map iN).length with|true,true=>some (((l.map iN).take h).drop lo)|_,_=>none)
    | _,_=>none)
   | _,_=>none)=_
  rw[zh];have e1:cP (some (Int.ofNat i)) (l.map iN).length=some i:=rfl;have e2:Nat.ble i (l.map iN).length=true:=by rw[Nat.ble_eq];simpa using h
  rw[e1];dsimp only[cP];rw[e2];simp[Nat.ble,List.map_take];rfl
 have h2:ff (env au.aI) 22 none (some x) none [.dat (.slice (l.map iN)),iv (Int.ofNat i)]=uZ (match au.aI.sub U3.size (l.map iN) none (some (Int.ofNat i)) with|some r=>some (.dat (.slice r))|none=>none):=by kernel_rfl
 rw[h2,h1];rfl
theorem Ig {l:List Int} {i:Nat} (h:i<=l.length) (x:Operand):ff (env au.aI) 22 (some x) none none [.dat (.slice (l.map iN)),iv (Int.ofNat i)]=some ⟨.dat (.slice ((l.drop i).map iN)),.keep⟩:=by
 have h1:au.aI.sub U3.size (l.map iN) (some (Int.ofNat i)) none=some ((l.drop i).map iN):=by
  rw[pb];show (match sizedB 1 (l.map iN),Nat.blt 0 1 with
   | true,true=>(match cP none (l.map iN).length,cP (some (Int.ofNat i)) 0 with
    | some h,some lo=>(match Nat.ble lo h,Nat.ble h (l.map iN).length with|true,true=>some (((l.map iN).take h).drop lo)|_,_=>none)
    | _,_=>none)
   | _,_=>none)=_
  rw[zh];have e1:cP (some (Int.ofNat i)) 0=some i:=rfl;have e2:Nat.ble i (l.map iN).length=true:=by rw[Nat.ble_eq];simpa using h
  have e3:Nat.ble (l.map iN).length (l.map iN).length=true:=by rw[Nat.ble_eq];exact Nat.le_refl _
  rw[e1];dsimp only[cP];rw[e2,e3,List.take_length];simp[List.map_drop];rfl
 have h2:ff (env au.aI) 22 (some x) none none [.dat (.slice (l.map iN)),iv (Int.ofNat i)]=uZ (match au.aI.sub U3.size (l.map iN) (some (Int.ofNat i)) none with|some r=>some (.dat (.slice r))|none=>none):=by kernel_rfl
 rw[h2,h1];rfl
theorem aet {l:List Int} {x:Int} (hn:l.length < 100000000):ag 192 [.dat (sl (l.map iN)),iv x] (.dat (sl ((SX l x).map iN))):=by
 cases l with
 | nil=>exact qD (Xf (uM (a:=[]) (b:=[x]) (by simp)))
 | cons y0 r=>
  obtain⟨l,hl⟩:∃l,l=y0::r:=⟨_,rfl⟩;have hnl:(l.map iN)=iN y0::r.map iN:=by rw[hl];rfl
  have hne:sl (l.map iN)=.slice (l.map iN):=by rw[hnl];rfl
  rw[←hl] at hn ⊢;have hle:=Y7 (l:=l) (x:=x);have hloop:KD (.loop (roundOf Tryz.f192 0)) (fun e s=>e=.exit 0/\s=(Z0 (l.map iN) x (Int.ofNat (kW l x))).aw Tryz.f192.ntmps) ((stN (l.map iN) x (Int.ofNat 0)).aw Tryz.f192.ntmps):=by
   refine ba (St:=fun i=>(stN (l.map iN) x (Int.ofNat i)).aw Tryz.f192.ntmps) (kW l x) ?_ ?_ (i:=0) (Nat.zero_le _)
   ·intro i hi;have hil:i < l.length:=by omega
    have hg:l[i]?=some l[i]:=List.getElem?_eq_getElem hil;refine vL (y:=l[i]) (c1:=true) (c2:=true) (bd (by simpa using hil)) (fun _=>Nz hg) (Y6 hi hg) (fun _=>?_) (fun h=>by simp at h);rw[bb (by omega)];rfl
   cases hg:l[kW l x]? with
   | none=>
    have:l.length<=kW l x:=by simpa using hg
    exact vL (y:=0) (c1:=false) (c2:=bn 0 x) (br (by simp;omega)) (fun h=>by simp at h) rfl (fun h=>by simp at h) (fun _=>⟨rfl,rfl⟩)
   | some y=>
    have hil:=(List.getElem?_eq_some_iff.1 hg).1;exact vL (y:=y) (c1:=true) (c2:=false) (bd (by simpa using hil)) (fun _=>Nz hg) (Y8 hg) (fun h=>by simp at h) (fun _=>⟨rfl,rfl⟩)
  have s1:=PD (l:=l) hle (.tmp 35);have s2:=Ig (l:=l) hle (.tmp 42);have a1:=uM (a:=[]) (b:=l.take (kW l x)) (by simp;omega);have a2:=uM (a:=l.take (kW l x)) (b:=[x]) (by simp;omega);have a3:=uM (a:=l.take (kW l x)++[x]) (b:=l.drop (kW l x)) (by simp;omega);rw[List.map_append] at a3;have hins:sl ((gO l (kW l x) x).map iN)=.slice ((l.take (kW l x)).map iN++[x].map iN++(l.drop (kW l x)).map iN):=by
   have:(gO l (kW l x) x).map iN=(l.take (kW l x)).map iN++[x].map iN++(l.drop (kW l x)).map iN:=by simp[gO]
   rw[←this]
   cases h:(gO l (kW l x) x).map iN with
   | nil=>simp[gO] at h
   | cons _ _=>rfl
  rw[hnl] at s1 s2 hloop hne;rw[hnl,hne];unfold SX
  cases hg:l[kW l x]? with
  | none=>
   have:l.length<=kW l x:=by simpa using hg
   have h:=LR (y:=0) (c1:=false) (c2:=aQ 0 x) (br (by rw[←hnl];simp;omega)) (fun h=>by simp at h) rfl hloop s1 s2 a1 a2 a3;dsimp only;rw[hins];exact qD h
  | some y=>
   have hil:=(List.getElem?_eq_some_iff.1 hg).1;have h:=LR (y:=y) (c1:=true) (c2:=aQ y x) (bd (by rw[←hnl];simpa using hil)) (fun _=>by rw[←hnl];exact Nz hg) rfl hloop s1 s2 a1 a2 a3;dsimp only;generalize aQ y x=c at h
   cases c
   ·dsimp only;rw[hins];exact qD h
   dsimp only;rw[hnl];exact h
noncomputable def hRF:Hints:=⟨an,vx,ap,rowsOf ap 174⟩
def stF (lo:Heap) (u:Nat) (s:aq) (i:Int):ab:=⟨[(7,iv i),(3,.ptr (.loc 3) 0),(1,iv (Int.ofNat u)),(2,.dat s)],lo,[],0⟩
def Z2 (lo:Heap) (u:Nat) (s:aq) (i:Int):ab:=⟨[(27,bv false),(7,iv i),(3,.ptr (.loc 3) 0),(1,iv (Int.ofNat u)),(2,.dat s)],lo,[],0⟩
def adh (c6 c1:Bool):Int:=match c6 with|true=>(match c1 with|true=>1|false=>0)|false=>0
theorem Uq (k:Int) (i:Nat):Int.ofNat (dr k i)=adh (aQ k 6) (aQ (Int.ofNat i) (Int.ofNat 1)):=by
 unfold dr;rw[qa]
 cases aQ k 6
 ·simp[adh]
 by_cases h:i=1
 ·subst h;rfl
 simp[adh,h]
theorem rb (k:Int) (nm:List UInt8) (ix:Int) (a:List aq) (i:Nat):ag 127 [.dat (.agg [i64 k,sb nm,i64 ix,sl a]),iv (Int.ofNat i)] (iv (Int.ofNat (dr k i))):=by
 rw[Uq];generalize h6:aQ k 6=c6;generalize h1:aQ (Int.ofNat i) (Int.ofNat 1)=c1
 rcases a with _|⟨x,a⟩ <;>
 ·refine co [7,10] [] (x:=.of Tryz.f127 IL LD) ?_;refine ob h6 ?_
  cases c6
  ·exact fi
  refine ob h1 ?_
  cases c1 <;>
  ·exact fi
theorem PW {k:Int} {nm:List UInt8} {ix:Int} {x:aq} {es:List aq} {l:List Ty} {t:Ty} {i u b:Nat} {s s2:List aq} (hl:ax l=x::es) (hi:i < (ax l).length) (ht:l[i]?=some t)
  (hb:ag 127 [.dat (.agg [i64 k,sb nm,i64 ix,.slice (x::es)]),iv (Int.ofNat i)] (iv (Int.ofNat b)))
  (hc:ag 174 [.dat t.enc,iv (aG .i64 (Int.ofNat u+Int.ofNat b)),.dat (sl s)] (.dat (sl s2))) {T:Exit->aa->Prop}
  (e:T .normal ((stF (fX 3 k nm ix (.slice (x::es))) u (sl s2) (aG .i64 (Int.ofNat i+1))).aw Tryz.f174.ntmps)) :
  KD (roundOf Tryz.f174 0) T ((stF (fX 3 k nm ix (.slice (x::es))) u (sl s) (Int.ofNat i)).aw Tryz.f174.ntmps):=by
 have h1:=bd hi;have h2:=jU ht;rw[hl] at h1 h2;clear ht hi hl;obtain⟨k2,nm2,ix2,a2⟩:=t
 rcases a2 with _|⟨b2,d2⟩ <;>
 ·rcases s with _|⟨y,s⟩ <;>
  ·refine aB [27] [33] (H:=hRF) (live:=nR) (by kernel_rfl) ?_;refine ob h1 ?_;refine oo h2 ?_;refine on hb ?_;refine on hc ?_;exact oe e
theorem Vo {k:Int} {nm:List UInt8} {ix:Int} {l s:List aq} {u:Nat} {T:Exit->aa->Prop} (e:T (.exit 0) ((Z2 (fX 3 k nm ix (sl l)) u (sl s) (Int.ofNat l.length)).aw Tryz.f174.ntmps)) :
  KD (roundOf Tryz.f174 0) T ((stF (fX 3 k nm ix (sl l)) u (sl s) (Int.ofNat l.length)).aw Tryz.f174.ntmps):=by
 have h1:=br (i:=l.length) (L:=l.length) (by omega)
 rcases l with _|⟨x,l⟩
 ·refine aB [] [] (H:=hRF) (live:=nR) (by kernel_rfl) ?_;exact oe e
 refine aB [27] [] (H:=hRF) (live:=nR) (by kernel_rfl) ?_;refine ob h1 ?_;exact oe e
theorem PX {k:Int} {nm:List UInt8} {ix:Int} {l s s1 s2:List aq} {u:Nat} {ck cg:Bool} (hk:aQ k 5=ck) (hg:bn ix (Int.ofNat u)=cg)
  (ha:ck=true->cg=false->ag 192 [.dat (sl s),iv (aG .i64 (ix - Int.ofNat u))] (.dat (sl s1))) (he:ck=false∨cg=true->s1=s)
  (hl:KD (.loop (roundOf Tryz.f174 0)) (fun e s'=>e=.exit 0/\s'=(Z2 (fX 3 k nm ix (sl l)) u (sl s2) (Int.ofNat l.length)).aw Tryz.f174.ntmps) ((stF (fX 3 k nm ix (sl l)) u (sl s1) (Int.ofNat 0)).aw Tryz.f174.ntmps)) :
  ag 174 [.dat (.agg [i64 k,sb nm,i64 ix,sl l]),iv (Int.ofNat u),.dat (sl s)] (.dat (sl s2)):=by
 rcases l with _|⟨x,l⟩ <;>
 ·rcases s with _|⟨y,s⟩ <;>
  ·cases ck
   ·obtain rfl:=he (.inl rfl);clear he ha;refine co [10] [] (x:=.of Tryz.f174 vx nR) ?_;refine ob hk ?_;refine lo hl ?_;rintro ex s ⟨rfl,rfl⟩;refine⟨_,rfl,?_⟩;exact fi
   cases cg
   ·have ha2:=ha rfl rfl;clear he ha;refine co [10,15] [] (x:=.of Tryz.f174 vx nR) ?_;refine ob hk ?_;refine ox hg ?_;refine on ha2 ?_;refine lo hl ?_;rintro ex s ⟨rfl,rfl⟩;refine⟨_,rfl,?_⟩;exact fi
   obtain rfl:=he (.inr rfl);clear he ha;refine co [10,15] [] (x:=.of Tryz.f174 vx nR) ?_;refine ob hk ?_;refine ox hg ?_;refine lo hl ?_;rintro ex s ⟨rfl,rfl⟩;refine⟨_,rfl,?_⟩;exact fi
def PS (k ix:Int) (u:Nat) (s:List Int):List Int:=match aQ k 5 with|false=>s|true=>(match bn ix (Int.ofNat u) with|true=>s|false=>SX s (ix - Int.ofNat u))
theorem PR {k ix:Int} {u:Nat} {s:List Int} (h:s.Pairwise (·<=·)):PS k ix u s=eb k ix u s:=by
 unfold PS eb
 cases aQ k 5 <;> cases bn ix (Int.ofNat u) <;> first|rfl|exact Gx h
def RF (t:Ty) (u:Nat) (s:List Int):Prop:=ag 174 [.dat t.enc,iv (Int.ofNat u),.dat (sl (s.map iN))] (.dat (sl ((t.cf u s).map iN)))
theorem aah {k:Int} {nm:List UInt8} {ix:Int} {l:List Ty} {u b:Nat} {s:List Int} (hs:gm b s) (hbd:b+1+aS l < 100000000) (hu:u < 1000000000) (hix:aQ k 5=true->bn ix 100=true)
  (ih:∀t∈l,∀v s2,v<=u+1->gm (b+1+aS l) s2->(∃b2,gm b2 s2/\b2+t.size<=b+1+aS l)->RF t v s2):RF (.mk k nm ix l) u s:=by
 have hlen:=eh l;have hs1:=zv (k:=k) (ix:=ix) (u:=u) hs;have ha:aQ k 5=true->bn ix (Int.ofNat u)=false->ag 192 [.dat (sl (s.map iN)),iv (aG .i64 (ix - Int.ofNat u))] (.dat (sl ((eb k ix u s).map iN))):=by
  intro hk hg;rw[←PR hs.1];unfold PS;rw[hk,hg];have hix:=hix hk;rw[gr] at hg hix;simp only[decide_eq_false_iff_not,decide_eq_true_eq] at hg hix;have e:aG .i64 (ix - Int.ofNat u)=ix - Int.ofNat u:=by
   rw[dR];simp only[Int.ofNat_eq_natCast] at hg ⊢;exact wrap_i64 (by omega) (by omega)
  rw[e];exact aet (by have:=hs.2;omega)
 have he:aQ k 5=false∨bn ix (Int.ofNat u)=true->(eb k ix u s).map iN=s.map iN:=by
  unfold eb;rintro (h|h)
  ·rw[h]
  rw[h];cases aQ k 5 <;> rfl
 refine PX rfl rfl ha he ?_;refine ba (St:=fun i=>(stF (fX 3 k nm ix (sl (ax l))) u (sl ((rI k (l.take i) 0 u (eb k ix u s)).map iN)) (Int.ofNat i)).aw Tryz.f174.ntmps) (ax l).length ?_ ?_ (i:=0) (Nat.zero_le _)
 ·intro i hi;obtain⟨t,ht,hmem⟩:=get_mem hi;have hi2:=hi;rw[aE] at hi2;have hbn:dr k i<=1:=by unfold dr;split <;> omega
  obtain⟨x,es,hx⟩:∃x es,ax l=x::es:=by
   cases hl:ax l with
   | nil=>rw[hl] at hi;simp at hi
   | cons x es=>exact⟨x,es,rfl⟩
  have hst:=ij ht;have hsl:=mM (l:=l) (i+1);have hpre:gm (b+1+aS (l.take i)) (rI k (l.take i) 0 u (eb k ix u s)):=Ew _ u hs1;have hcf:=ih t hmem (u+dr k i) (rI k (l.take i) 0 u (eb k ix u s)) (by omega) ⟨hpre.1,by have:=hpre.2;omega⟩ ⟨_,hpre,by omega⟩;unfold RF at hcf;rw[←wrap_add (n:=u) (m:=dr k i) (by omega)] at hcf;have hbi:=rb k nm ix (x::es) i;have e:=PW (T:=iY (fun s'=>s'=(stF (fX 3 k nm ix (sl (ax l))) u (sl ((rI k (l.take (i+1)) 0 u (eb k ix u s)).map iN)) (Int.ofNat (i+1))).aw Tryz.f174.ntmps)
   (fun e s'=>e=.exit 0/\s'=(Z2 (fX 3 k nm ix (sl (ax l))) u (sl (((Ty.mk k nm ix l).cf u s).map iN)) (Int.ofNat (ax l).length)).aw Tryz.f174.ntmps)) hx hi ht hbi hcf (by
    rw[hx,bb (by omega),Hl ht];rfl)
  rw[hx];rw[hx] at e;exact e
 refine Vo ⟨rfl,?_⟩;rw[aE,List.take_length,Ty.cf]
mutual
theorem Qd:∀(t:Ty) (u:Nat) {b:Nat} {s:List Int},gm b s->b+t.size < 100000000->u+t.depth < 1000000000->t.eX->RF t u s
 | .mk k nm ix l,u,b,s,hs,hb,hu,hx=>by
  simp only[Ty.size] at hb;simp only[Ty.depth] at hu;simp only[Ty.eX] at hx;exact aah hs (by omega) (by omega) hx.1 (KP l u (by omega) (by omega) hx.2)
theorem KP:∀(l:List Ty) (u:Nat) {B:Nat},u+cK l+1 < 1000000000->B < 100000000->dE l->∀t∈l,∀v s2,v<=u+1->gm B s2->(∃b2,gm b2 s2/\b2+t.size<=B)->RF t v s2
 | [],u,B,hu,_,hx,t,ht,_,_,_,_,_=>by simp at ht
 | y::r,u,B,hu,hB,hx,t,ht,v,s2,hv,h1,h2=>by
  simp only[cK] at hu;simp only[dE] at hx
  rcases List.mem_cons.1 ht with h3|ht
  ·obtain⟨b2,h4,h5⟩:=h2;rw[h3] at h5 ⊢;exact Qd y v h4 (by omega) (by omega) hx.1
  exact KP r u (by omega) hB hx.2 t ht v s2 hv h1 h2
end
theorem aab {k:Int} {nm:List UInt8} {ix:Int} {l s:List aq} (h:ag 174 [.dat (.agg [i64 k,sb nm,i64 ix,sl l]),iv (Int.ofNat 0),.dat nl] (.dat (sl s))):ag 148 [.dat (.agg [i64 k,sb nm,i64 ix,sl l])] (.dat (sl s)):=by
 rcases l with _|⟨x,l⟩ <;>
 ·rcases s with _|⟨y,s⟩ <;>
  ·refine co [] [] (x:=.of Tryz.f148 IG Lx) ?_;refine on h ?_;exact fi
theorem zK {t:Ty} (hs:t.size < 100000000) (hx:t.eX):ag 148 [.dat t.enc] (.dat (sl (t.fv.map iN))):=by
 have h1:RF t 0 []:=Qd t 0 (b:=0) ⟨List.Pairwise.nil,Nat.le_refl 0⟩ (by omega) (by have:=ln t;omega) hx;unfold RF at h1;unfold Ty.fv;obtain⟨k,nm,ix,l⟩:=t;exact aab h1
def Oy {α:Type}:List α->Bool
 | []=>true
 | _=>false
theorem aak {k:Int} {nm:List UInt8} {ix:Int} {l s:List aq} (h:ag 148 [.dat (.agg [i64 k,sb nm,i64 ix,sl l])] (.dat (sl s))):ag 178 [.dat (.agg [i64 k,sb nm,i64 ix,sl l])] (bv (Oy s)):=by
 rcases l with _|⟨x,l⟩ <;>
 ·rcases s with _|⟨y,s⟩ <;>
  ·refine co [] [] (x:=.of Tryz.f178 Iz Lq) ?_;refine on h ?_;exact fi
theorem Qf {t:Ty} (hs:t.size < 100000000) (hx:t.eX):ag 178 [.dat t.enc] (bv (Oy t.fv)):=by
 have h:=zK hs hx;have e:Oy t.fv=Oy (t.fv.map iN):=by cases t.fv <;> rfl
 rw[e];obtain⟨k,nm,ix,l⟩:=t;exact aak h
theorem B4 {s:List Int} {x:Int}:jk s x≠[]:=by
 unfold jk
 cases h:s.contains x with
 | true=>intro h2;dsimp only at h2;rw[h2] at h;simp at h
 | false=>exact Gy
theorem PT {k ix:Int} {u:Nat} {s:List Int} (h:s≠[]):eb k ix u s≠[]:=by
 unfold eb
 cases aQ k 5 with
 | false=>exact h
 | true=>
  cases bn ix (Int.ofNat u) with
  | true=>exact h
  | false=>exact B4
mutual
theorem af8:∀(t:Ty) (u:Nat) {s:List Int},s≠[]->t.cf u s≠[]
 | .mk k nm ix l,u,s,h=>by rw[Ty.cf];exact Ex l u (PT h)
theorem Ex {k:Int}:∀(l:List Ty) {j:Nat} (u:Nat) {s:List Int},s≠[]->rI k l j u s≠[]
 | [],j,u,s,h=>by rw[rI];exact h
 | t::r,j,u,s,h=>by rw[rI];exact Ex r u (af8 t _ h)
end
mutual
theorem CS:∀(t:Ty) (u:Nat),Oy (t.cf u [])=t.closed u
 | .mk k nm ix l,u=>by
  rw[Ty.cf,Ty.closed]
  cases hk:aQ k 5 with
  | false=>
   have e:eb k ix u []=[]:=by unfold eb;rw[hk]
   rw[e,Bool.false_and,Bool.not_false,Bool.true_and];exact sN l u 0
  | true=>
   cases hg:bn ix (Int.ofNat u) with
   | true=>
    have e:eb k ix u []=[]:=by unfold eb;rw[hk,hg]
    rw[e,Bool.not_true,Bool.and_false,Bool.not_false,Bool.true_and];exact sN l u 0
   | false=>
    have e:eb k ix u []≠[]:=by unfold eb;rw[hk,hg];exact B4
    have h2:=Ex (k:=k) l (j:=0) u e;rw[Bool.not_false,Bool.true_and,Bool.not_true,Bool.false_and]
    cases h:rI k l 0 u (eb k ix u []) with
    | nil=>exact absurd h h2
    | cons _ _=>rfl
theorem sN {k:Int}:∀(l:List Ty) (u j:Nat),Oy (rI k l j u [])=eW k j l u
 | [],u,j=>by rw[rI,eW];rfl
 | t::r,u,j=>by
  rw[rI,eW];have h:=CS t (u+dr k j)
  cases hc:t.closed (u+dr k j) with
  | true=>
   rw[hc] at h;have e:t.cf (u+dr k j) []=[]:=by cases h3:t.cf (u+dr k j) [] with|nil=>rfl|cons _ _=>rw[h3] at h;simp[Oy] at h
   rw[e,Bool.true_and];exact sN r u (j+1)
  | false=>
   rw[hc] at h;have e:t.cf (u+dr k j) []≠[]:=by intro h3;rw[h3] at h;simp[Oy] at h
   have h2:=Ex (k:=k) r (j:=j+1) u e;rw[Bool.false_and]
   cases h4:rI k r (j+1) u (t.cf (u+dr k j) []) with
   | nil=>exact absurd h4 h2
   | cons _ _=>rfl
end
theorem Cb {t:Ty} (h:t.cX):ag 178 [.dat t.enc] (bv (t.closed 0)):=by
 rw[←CS t 0];exact Qf h.1 h.2
noncomputable def hRP:Hints:=⟨an,Dx,ap,rowsOf ap 150⟩
def stP (lo:Heap) (i:Int):ab:=⟨[(3,iv i),(1,.ptr (.loc 1) 0)],lo,[],0⟩
def ad3 (lo:Heap) (i:Int):ab:=⟨[(15,bv false),(3,iv i),(1,.ptr (.loc 1) 0)],lo,[],0⟩
def ad4:ab:=⟨[(2,bv false)],[],[],0⟩
theorem PQ {k:Int} {nm:List UInt8} {ix:Int} {l:List Ty} {t:Ty} {i:Nat} {c:Bool} (hi:i < (ax l).length) (ht:l[i]?=some t) (hc:ag 150 [.dat t.enc] (bv c)) {T:Exit->aa->Prop}
  (e1:c=true->T .normal ((stP (fX 1 k nm ix (.slice (ax l))) (aG .i64 (Int.ofNat i+1))).aw Tryz.f150.ntmps)) (e2:c=false->T .ret (ad4.aw Tryz.f150.ntmps)) :
  KD (roundOf Tryz.f150 0) T ((stP (fX 1 k nm ix (.slice (ax l))) (Int.ofNat i)).aw Tryz.f150.ntmps):=by
 have h1:=bd hi;have h2:=jU ht;generalize ax l=es at *;clear ht hi;obtain⟨k2,nm2,ix2,a2⟩:=t
 rcases a2 with _|⟨b,d⟩ <;>
 ·refine aB [15] [21] (H:=hRP) (live:=tU) (by kernel_rfl) ?_;refine ob h1 ?_;refine oo h2 ?_;refine on hc ?_
  cases c
  ·exact oe (e2 rfl)
  exact oe (e1 rfl)
theorem Vj {k:Int} {nm:List UInt8} {ix:Int} {l:List aq} {T:Exit->aa->Prop} (e:T (.exit 0) ((ad3 (fX 1 k nm ix (sl l)) (Int.ofNat l.length)).aw Tryz.f150.ntmps)) :
  KD (roundOf Tryz.f150 0) T ((stP (fX 1 k nm ix (sl l)) (Int.ofNat l.length)).aw Tryz.f150.ntmps):=by
 have h1:=br (i:=l.length) (L:=l.length) (by omega)
 rcases l with _|⟨x,l⟩
 ·refine aB [] [] (H:=hRP) (live:=tU) (by kernel_rfl) ?_;exact oe e
 refine aB [15] [] (H:=hRP) (live:=tU) (by kernel_rfl) ?_;refine ob h1 ?_;exact oe e
theorem aaf {k:Int} {nm:List UInt8} {ix:Int} {l:List aq} {c2 c5 cc ca:Bool} (h5:aQ k 5=c5) (hc:ag 178 [.dat (.agg [i64 k,sb nm,i64 ix,sl l])] (bv cc)) (h2:aQ k 2=c2)
  (hl:KD (.loop (roundOf Tryz.f150 0)) (fun e s=>(e=.exit 0/\ca=false/\s=(ad3 (fX 1 k nm ix (sl l)) (Int.ofNat l.length)).aw Tryz.f150.ntmps)∨(e=.ret/\ca=true/\s=ad4.aw Tryz.f150.ntmps)) ((stP (fX 1 k nm ix (sl l)) (Int.ofNat 0)).aw Tryz.f150.ntmps)) :
  ag 150 [.dat (.agg [i64 k,sb nm,i64 ix,sl l])] (bv (c5||cc||(c2&&!ca))):=by
 rcases l with _|⟨x,l⟩ <;>
 ·cases c2 <;>
  ·refine co [6,27] [] (x:=.of Tryz.f150 Dx tU) ?_;refine ob h5 ?_
   cases c5
   ·refine on hc ?_
    cases cc
    ·refine lo hl ?_;rintro ex s (⟨rfl,rfl,rfl⟩|⟨rfl,rfl,rfl⟩)
     ·refine⟨_,rfl,?_⟩;refine ob h2 ?_;exact fi
     refine⟨_,rfl,?_⟩;exact fi
    exact fi
   exact fi
theorem Bk {l:List Ty} {i:Nat} {t:Ty} (h:l[i]?=some t):hZ (l.drop i)=(!t.plain||hZ (l.drop (i+1))):=by rw[dC h,hZ]
mutual
theorem KN:∀t:Ty,t.cX->ag 150 [.dat t.enc] (bv t.plain)
 | .mk k nm ix l,h=>by
  have hc:=Cb h;obtain⟨h1,h2⟩:=h;simp only[Ty.size] at h1;simp only[Ty.eX] at h2;have ih:=zL l (by omega) h2.2;have hlen:=eh l;rw[Ty.plain];refine aaf rfl hc rfl ?_;refine cE (St:=fun i=>(stP (fX 1 k nm ix (sl (ax l))) (Int.ofNat i)).aw Tryz.f150.ntmps) (fun i=>hZ l=hZ (l.drop i)) (ax l).length ?_ ?_ (i:=0) (Nat.zero_le _) rfl
  ·intro i hi hI;obtain⟨t,ht,hm⟩:=get_mem hi;have hd:=Bk ht;rw[←hI] at hd;have hsl:=lG hi;have hw:aG .i64 (Int.ofNat i+1)=Int.ofNat (i+1):=bb (by rw[aE] at hi;omega);have hc:=ih t hm;rw[hsl];generalize t.plain=c at hc hd;refine PQ hi ht hc ?_ ?_
   ·rintro rfl;rw[hw];exact⟨rfl,hd⟩
   rintro rfl;exact .inr ⟨rfl,hd,rfl⟩
  intro hI;refine Vj (.inl ⟨rfl,?_,rfl⟩);rw[hI,aE,List.drop_length,hZ]
theorem zL:∀l:List Ty,aS l < 100000000->dE l->∀t∈l,ag 150 [.dat t.enc] (bv t.plain)
 | [],_,_,t,ht=>by simp at ht
 | u::r,h,hx,t,ht=>by
  simp only[aS] at h;simp only[dE] at hx
  rcases List.mem_cons.1 ht with h1|ht
  ·rw[h1];exact KN u ⟨by omega,hx.1⟩
  exact zL r (by omega) hx.2 t ht
end
theorem Ft:Kj (fun n=>CX (jF n) (X 146 [Ox n] [] 0)) 256=true:=by kernel_rfl
theorem Qc (c:UInt8):ag 146 [Ox c.toNat] (bv (jF c.toNat)):=aM _ _ _ _ _ (uI (uR Ft _ c.toNat_lt))
theorem MN:Kj (fun n=>CX (BM n) (X 147 [Ox n] [] 0)) 256=true:=by kernel_rfl
theorem aaq (c:UInt8):ag 147 [Ox c.toNat] (bv (BM c.toNat)):=aM _ _ _ _ _ (uI (uR MN _ c.toNat_lt))
noncomputable def hRI:Hints:=⟨an,Aa,ap,rowsOf ap 122⟩
def stJ (b:List UInt8) (i:Int):ab:=⟨[(3,iv i),(0,.dat (sb b))],[],[],0⟩
def aea (b:List UInt8) (i:Int):ab:=⟨[(21,bv false),(3,iv i),(0,.dat (sb b))],[],[],0⟩
def aeb:ab:=⟨[(2,bv false)],[],[],0⟩
theorem MQ {b:List UInt8} {c:UInt8} {i:Nat} {cw c3:Bool} {L:Int} (hL:Int.ofNat b.length=L) (h1:bn (Int.ofNat i) (Int.ofNat b.length)=true) (h2:wy (env au.aI) 9 [.dat (sb b),.dat (.flat (.int .i64 (Int.ofNat i)))]=some ⟨Ox c.toNat,.keep⟩) (h3:ag 147 [Ox c.toNat] (bv cw)) (h4:aQ (Int.ofNat c.toNat) 45=c3) {T:Exit->aa->Prop}
  (e1:(cw&&!c3)=true->T .normal ((stJ b (aG .i64 (Int.ofNat i+1))).aw Tryz.f122.ntmps)) (e2:(cw&&!c3)=false->T .ret (aeb.aw Tryz.f122.ntmps)) :
  KD (roundOf Tryz.f122 0) T ((stJ b (Int.ofNat i)).aw Tryz.f122.ntmps):=by
 refine aB [21,33] [26,32] (H:=hRI) (live:=tX) (by kernel_rfl) ?_;refine ob h1 ?_;refine oo h2 ?_;refine on h3 ?_
 cases cw
 ·exact oe (e2 rfl)
 refine oo h2 ?_;refine ob h4 ?_
 cases c3
 ·exact oe (e1 rfl)
 exact oe (e2 rfl)
theorem PV {b:List UInt8} {T:Exit->aa->Prop} (e:T (.exit 0) ((aea b (Int.ofNat b.length)).aw Tryz.f122.ntmps)) :
  KD (roundOf Tryz.f122 0) T ((stJ b (Int.ofNat b.length)).aw Tryz.f122.ntmps):=by
 have h1:=br (i:=b.length) (L:=b.length) (by omega);refine aB [21] [] (H:=hRI) (live:=tX) (by kernel_rfl) ?_;refine ob h1 ?_;exact oe e
theorem Vm {b:List UInt8} {c:UInt8} {c1 c2 ca:Bool} (h2:bn 24 (Int.ofNat (c::b).length)=c1) (h3:ag 146 [Ox c.toNat] (bv c2))
  (hl:c1=false->KD (.loop (roundOf Tryz.f122 0)) (fun e s=>(e=.exit 0/\ca=true/\s=(aea (c::b) (Int.ofNat (c::b).length)).aw Tryz.f122.ntmps)∨(e=.ret/\ca=false/\s=aeb.aw Tryz.f122.ntmps)) ((stJ (c::b) (Int.ofNat 0)).aw Tryz.f122.ntmps)) :
  ag 122 [.dat (sb (c::b))] (bv (!c1&&c2&&ca)):=by
 have g1:=uP (b:=c::b) (i:=0) rfl
 cases c1
 ·have hl2:=hl rfl;clear hl;refine co [10] [14] (x:=.of Tryz.f122 Aa tX) ?_;refine ob h2 ?_;refine oo g1 ?_;refine on h3 ?_
  cases c2
  ·exact fi
  refine lo hl2 ?_;rintro ex s (⟨rfl,rfl,rfl⟩|⟨rfl,rfl,rfl⟩) <;>
  ·refine⟨_,rfl,?_⟩;exact fi
 clear hl;refine co [10] [] (x:=.of Tryz.f122 Aa tX) ?_;refine ob h2 ?_;exact fi
theorem Vl:ag 122 [.dat (sb [])] (bv false):=aM _ _ _ _ _ (by kernel_rfl)
theorem Dp (b:List UInt8):ag 122 [.dat (sb b)] (bv (isIdent b)):=by
 cases b with
 | nil=>exact Vl
 | cons c b=>
  have h3:=Qc c;have e:isIdent (c::b)=(!bn 24 (Int.ofNat (c::b).length)&&jF c.toNat&&(c::b).all (fun c=>dQ c.toNat)):=by
   have e2:Nat.ble (b.length+1) 24=!bn 24 (Int.ofNat (c::b).length):=by
    rw[show (24:Int)=Int.ofNat 24 from rfl,iM]
    by_cases h:24 < (c::b).length
    ·rw[decide_eq_true h];simp at h ⊢;rw[Bool.eq_false_iff,ne_eq,Nat.ble_eq];omega
    rw[decide_eq_false h];simp at h ⊢;omega
   show (Nat.ble (b.length+1) 24&&jF c.toNat&&(c::b).all (fun c=>dQ c.toNat))=_;rw[e2]
  rw[e];refine Vm rfl h3 (fun hc=>?_);have hlen:(c::b).length < 1000:=by
   rw[show (24:Int)=Int.ofNat 24 from rfl,iM] at hc;simp only[decide_eq_false_iff_not] at hc;omega
  obtain⟨l,hl⟩:∃l,l=c::b:=⟨_,rfl⟩;rw[←hl] at hlen ⊢;clear hl hc e h3;refine cE (St:=fun i=>(stJ l (Int.ofNat i)).aw Tryz.f122.ntmps) (fun i=>l.all (fun c=>dQ c.toNat)=(l.drop i).all (fun c=>dQ c.toNat)) l.length ?_ ?_ (i:=0) (Nat.zero_le _) rfl
  ·intro i hi hI;have ht:l[i]?=some l[i]:=List.getElem?_eq_getElem hi;generalize l[i]=t at ht;have hd:(l.drop i).all (fun c=>dQ c.toNat)=(dQ t.toNat&&(l.drop (i+1)).all (fun c=>dQ c.toNat)):=by rw[dC ht];rfl
   rw[←hI] at hd;have hw:aG .i64 (Int.ofNat i+1)=Int.ofNat (i+1):=bb (by omega);have e2:dQ t.toNat=(BM t.toNat&&!(aQ (Int.ofNat t.toNat) 45)):=by
    show (!Nat.beq t.toNat 45&&BM t.toNat)=(BM t.toNat&&!(Nat.beq t.toNat 45));rw[Bool.and_comm]
   rw[e2] at hd;refine MQ rfl (bd hi) (uP ht) (aaq t) rfl ?_ ?_
   ·intro h;rw[h] at hd;rw[hw];exact⟨rfl,hd⟩
   intro h;rw[h] at hd;exact .inr ⟨rfl,hd,rfl⟩
  intro hI;rw[List.drop_length] at hI;exact PV (.inl ⟨rfl,hI,rfl⟩)
theorem YQ (b:List UInt8):ag 123 [.dat (sb b)] (bv (gS b)):=by
 have e:gS b=(dv b [65,110,121]||dv b [78,101,118,101,114]||dv b [116,117,112,108,101]||dv b [117,110,105,111,110]||dv b [101,120,105,115,116,115]):=by
  unfold gS oW;simp only[List.any_cons,List.any_nil,Bool.or_false,Bool.or_assoc]
 rw[e];generalize h1:dv b [65,110,121]=c1;generalize h2:dv b [78,101,118,101,114]=c2;generalize h3:dv b [116,117,112,108,101]=c3;generalize h4:dv b [117,110,105,111,110]=c4;generalize h5:dv b [101,120,105,115,116,115]=c5;refine co [4,7,11,15,19] [] (x:=.of Tryz.f123 IN LG) ?_;refine ob h1 ?_
 cases c1
 ·refine ob h2 ?_
  cases c2
  ·refine ob h3 ?_
   cases c3
   ·refine ob h4 ?_
    cases c4
    ·refine ob h5 ?_
     cases c5 <;>
     ·exact fi
    exact fi
   exact fi
  exact fi
 exact fi
theorem sJ {k j:Int} (h:k≠j):aQ k j=false:=by rw[gV];simpa using h
theorem kinds (k:Int) {c0 c1 c2 c3 c4 c5 c6:Bool} (h0:aQ k 0=c0) (h1:aQ k 1=c1) (h2:aQ k 2=c2) (h3:aQ k 3=c3) (h4:aQ k 4=c4) (h5:aQ k 5=c5) (h6:aQ k 6=c6) :
  (c0=true/\c1=false/\c2=false/\c3=false/\c4=false/\c5=false/\c6=false)∨(c0=false/\c1=true/\c2=false/\c3=false/\c4=false/\c5=false/\c6=false)∨(c0=false/\c1=false/\c2=true/\c3=false/\c4=false/\c5=false/\c6=false)∨(c0=false/\c1=false/\c2=false/\c3=true/\c4=false/\c5=false/\c6=false)∨(c0=false/\c1=false/\c2=false/\c3=false/\c4=true/\c5=false/\c6=false)∨(c0=false/\c1=false/\c2=false/\c3=false/\c4=false/\c5=true/\c6=false)∨(c0=false/\c1=false/\c2=false/\c3=false/\c4=false/\c5=false/\c6=true)∨(c0=false/\c1=false/\c2=false/\c3=false/\c4=false/\c5=false/\c6=false):=by
 subst h0 h1 h2 h3 h4 h5 h6
 by_cases q0:k=0
 ·subst q0;exact .inl ⟨rfl,rfl,rfl,rfl,rfl,rfl,rfl⟩
 by_cases q1:k=1
 ·subst q1;exact .inr (.inl ⟨rfl,rfl,rfl,rfl,rfl,rfl,rfl⟩)
 by_cases q2:k=2
 ·subst q2;exact .inr (.inr (.inl ⟨rfl,rfl,rfl,rfl,rfl,rfl,rfl⟩))
 by_cases q3:k=3
 ·subst q3;exact .inr (.inr (.inr (.inl ⟨rfl,rfl,rfl,rfl,rfl,rfl,rfl⟩)))
 by_cases q4:k=4
 ·subst q4;exact .inr (.inr (.inr (.inr (.inl ⟨rfl,rfl,rfl,rfl,rfl,rfl,rfl⟩))))
 by_cases q5:k=5
 ·subst q5;exact .inr (.inr (.inr (.inr (.inr (.inl ⟨rfl,rfl,rfl,rfl,rfl,rfl,rfl⟩)))))
 by_cases q6:k=6
 ·subst q6;exact .inr (.inr (.inr (.inr (.inr (.inr (.inl ⟨rfl,rfl,rfl,rfl,rfl,rfl,rfl⟩))))))
 exact .inr (.inr (.inr (.inr (.inr (.inr (.inr ⟨sJ q0,sJ q1,sJ q2,sJ q3,sJ q4,sJ q5,sJ q6⟩))))))
noncomputable def hRW:Hints:=⟨an,fD,ap,rowsOf ap 177⟩
def UH (j:Nat) (lo:Heap) (n:Nat) (i:Int):ab:=⟨[(j,iv i),(3,iv (Int.ofNat n)),(1,.ptr (.loc 1) 0)],lo,[],0⟩
def O9 (q j:Nat) (lo:Heap) (n:Nat) (i:Int):ab:=⟨[(q,bv false),(j,iv i),(3,iv (Int.ofNat n)),(1,.ptr (.loc 1) 0)],lo,[],0⟩
def U8:ab:=⟨[(2,bv false)],[],[],0⟩
theorem MP {k:Int} {nm:List UInt8} {ix:Int} {l:List Ty} {t:Ty} {i:Nat} {c:Bool} (hi:i < (ax l).length) (ht:l[i]?=some t) (hc:ag 150 [.dat t.enc] (bv c)) {T:Exit->aa->Prop}
  (e1:c=true->T .normal ((UH 4 (fX 1 k nm ix (.slice (ax l))) (ax l).length (aG .i64 (Int.ofNat i+1))).aw Tryz.f177.ntmps)) (e2:c=false->T .ret (U8.aw Tryz.f177.ntmps)) :
  KD (roundOf Tryz.f177 0) T ((UH 4 (fX 1 k nm ix (.slice (ax l))) (ax l).length (Int.ofNat i)).aw Tryz.f177.ntmps):=by
 have h1:=bd hi;have h2:=jU ht;generalize ax l=es at *;clear ht hi;obtain⟨k2,nm2,ix2,a2⟩:=t
 rcases a2 with _|⟨b,d⟩ <;>
 ·refine aB [65] [71] (H:=hRW) (live:=dm) (by kernel_rfl) ?_;refine ob h1 ?_;refine oo h2 ?_;refine on hc ?_
  cases c
  ·exact oe (e2 rfl)
  exact oe (e1 rfl)
theorem PN {k:Int} {nm:List UInt8} {ix:Int} {l:List aq} {T:Exit->aa->Prop} (e:T (.exit 1) ((O9 65 4 (fX 1 k nm ix (sl l)) l.length (Int.ofNat l.length)).aw Tryz.f177.ntmps)) :
  KD (roundOf Tryz.f177 0) T ((UH 4 (fX 1 k nm ix (sl l)) l.length (Int.ofNat l.length)).aw Tryz.f177.ntmps):=by
 have h1:=br (i:=l.length) (L:=l.length) (by omega)
 rcases l with _|⟨x,l⟩
 ·refine aB [] [] (H:=hRW) (live:=dm) (by kernel_rfl) ?_;exact oe e
 refine aB [65] [] (H:=hRW) (live:=dm) (by kernel_rfl) ?_;refine ob h1 ?_;exact oe e
theorem MO {k:Int} {nm:List UInt8} {ix:Int} {l:List Ty} {t:Ty} {i:Nat} {c:Bool} (hi:i < (ax l).length) (ht:l[i]?=some t) (hc:ag 177 [.dat t.enc] (bv c)) {T:Exit->aa->Prop}
  (e1:c=true->T .normal ((UH 5 (fX 1 k nm ix (.slice (ax l))) (ax l).length (aG .i64 (Int.ofNat i+1))).aw Tryz.f177.ntmps)) (e2:c=false->T .ret (U8.aw Tryz.f177.ntmps)) :
  KD (roundOf Tryz.f177 1) T ((UH 5 (fX 1 k nm ix (.slice (ax l))) (ax l).length (Int.ofNat i)).aw Tryz.f177.ntmps):=by
 have h1:=bd hi;have h2:=jU ht;generalize ax l=es at *;clear ht hi;obtain⟨k2,nm2,ix2,a2⟩:=t
 rcases a2 with _|⟨b,d⟩ <;>
 ·refine aB [97] [103] (H:=hRW) (live:=dm) (by kernel_rfl) ?_;refine ob h1 ?_;refine oo h2 ?_;refine on hc ?_
  cases c
  ·exact oe (e2 rfl)
  exact oe (e1 rfl)
theorem PM {k:Int} {nm:List UInt8} {ix:Int} {l:List aq} {T:Exit->aa->Prop} (e:T (.exit 3) ((O9 97 5 (fX 1 k nm ix (sl l)) l.length (Int.ofNat l.length)).aw Tryz.f177.ntmps)) :
  KD (roundOf Tryz.f177 1) T ((UH 5 (fX 1 k nm ix (sl l)) l.length (Int.ofNat l.length)).aw Tryz.f177.ntmps):=by
 have h1:=br (i:=l.length) (L:=l.length) (by omega)
 rcases l with _|⟨x,l⟩
 ·refine aB [] [] (H:=hRW) (live:=dm) (by kernel_rfl) ?_;exact oe e
 refine aB [97] [] (H:=hRW) (live:=dm) (by kernel_rfl) ?_;refine ob h1 ?_;exact oe e
theorem Z9 {k ix:Int} {nm:List UInt8} {l:List Ty} {cp ca:Bool} (hi:ag 122 [.dat (sb nm)] (bv (isIdent nm))) (hr:ag 123 [.dat (sb nm)] (bv (gS nm))) (hcp:hZ l=cp) (hnil:l=[]->ca=false)
  (hcl:∀t r,l=t::r->ag 178 [.dat t.enc] (bv (iz l)))
  (hl0:KD (.loop (roundOf Tryz.f177 0)) (fun e s=>(e=.exit 1/\cp=false/\s=(O9 65 4 (fX 1 k nm ix (sl (ax l))) (ax l).length (Int.ofNat (ax l).length)).aw Tryz.f177.ntmps)∨(e=.ret/\cp=true/\s=U8.aw Tryz.f177.ntmps)) ((UH 4 (fX 1 k nm ix (sl (ax l))) (ax l).length (Int.ofNat 0)).aw Tryz.f177.ntmps))
  (hl1:KD (.loop (roundOf Tryz.f177 1)) (fun e s=>(e=.exit 3/\ca=false/\s=(O9 97 5 (fX 1 k nm ix (sl (ax l))) (ax l).length (Int.ofNat (ax l).length)).aw Tryz.f177.ntmps)∨(e=.ret/\ca=true/\s=U8.aw Tryz.f177.ntmps)) ((UH 5 (fX 1 k nm ix (sl (ax l))) (ax l).length (Int.ofNat 0)).aw Tryz.f177.ntmps)) :
  ag 177 [.dat (Ty.mk k nm ix l).enc] (bv (jo k nm ix l&&!ca)):=by
 unfold jo;rw[hcp];clear hcp;generalize iz l=fc at hcl;generalize isIdent nm=ci at hi;generalize gS nm=cr at hr;generalize h0:aQ k 0=c0;generalize h1:aQ k 1=c1;generalize h2:aQ k 2=c2;generalize h3:aQ k 3=c3;generalize h4:aQ k 4=c4;generalize h5:aQ k 5=c5;generalize h6:aQ k 6=c6;generalize hn:dv nm []=cn;generalize hx:aQ ix 0=cx;generalize hl6:bn 6 (Int.ofNat (ax l).length)=l6;generalize hl2:bn (Int.ofNat (ax l).length) 2=l2;generalize he0:aQ (Int.ofNat (ax l).length) 0=e0;generalize he2:aQ (Int.ofNat (ax l).length) 2=e2;generalize hx0:bn ix 0=x0;generalize hx2:bn 200 ix=x2;have hk:=kinds k h0 h1 h2 h3 h4 h5 h6
 rcases l with _|⟨t,r⟩
 ·have hca:=hnil rfl;subst hca;have z6:l6=false:=hl6.symm;have z2:l2=true:=hl2.symm;have z0:e0=true:=he0.symm;have y2:e2=false:=he2.symm;subst z6;subst z2;subst z0;subst y2;have hl2':=hl1.mono (Q':=fun e s=>e=.exit 3/\s=(O9 97 5 (fX 1 k nm ix (sl (ax []))) (ax []).length (Int.ofNat (ax []).length)).aw Tryz.f177.ntmps) (by
   rintro e s (⟨q1,_,q2⟩|⟨_,q,_⟩)
   ·exact⟨q1,q2⟩
   simp at q)
  clear hcl hnil hl6 hl2 he0 he2 hl1
  rcases hk with⟨rfl,rfl,rfl,rfl,rfl,rfl,rfl⟩|⟨rfl,rfl,rfl,rfl,rfl,rfl,rfl⟩|⟨rfl,rfl,rfl,rfl,rfl,rfl,rfl⟩|⟨rfl,rfl,rfl,rfl,rfl,rfl,rfl⟩|⟨rfl,rfl,rfl,rfl,rfl,rfl,rfl⟩|⟨rfl,rfl,rfl,rfl,rfl,rfl,rfl⟩|⟨rfl,rfl,rfl,rfl,rfl,rfl,rfl⟩|⟨rfl,rfl,rfl,rfl,rfl,rfl,rfl⟩
  ·refine co [11,15,20,24,30] [] (x:=.of Tryz.f177 fD dm) ?_;refine ox h2 ?_;refine ox hn ?_
   cases cn
   ·exact fi
   refine ox h5 ?_;refine ox hx ?_
   cases cx
   ·exact fi
   refine ob h0 ?_;exact fi
  ·refine co [11,15,20,24,30,31] [] (x:=.of Tryz.f177 fD dm) ?_;refine ox h2 ?_;refine ox hn ?_
   cases cn
   ·exact fi
   refine ox h5 ?_;refine ox hx ?_
   cases cx
   ·exact fi
   refine ob h0 ?_;refine ob h1 ?_;exact fi
  ·refine co [11,20,24,30,31,35,49] [] (x:=.of Tryz.f177 fD dm) ?_;refine ox h2 ?_;refine ox h5 ?_;refine ox hx ?_
   cases cx
   ·exact fi
   refine ob h0 ?_;refine ob h1 ?_;refine ob h5 ?_;refine ob h2 ?_;refine on hi ?_
   cases ci
   ·exact fi
   refine on hr ?_
   cases cr
   ·refine lo hl0 ?_;rintro ex s (⟨rfl,rfl,rfl⟩|⟨rfl,rfl,rfl⟩)
    ·refine⟨_,rfl,?_⟩;refine lo hl2' ?_;rintro ex s ⟨rfl,rfl⟩;refine⟨_,rfl,?_⟩;exact fi
    refine⟨_,rfl,?_⟩;exact fi
   exact fi
  ·refine co [11,15,20,24,30,31,35,49,76] [] (x:=.of Tryz.f177 fD dm) ?_;refine ox h2 ?_;refine ox hn ?_
   cases cn
   ·exact fi
   refine ox h5 ?_;refine ox hx ?_
   cases cx
   ·exact fi
   refine ob h0 ?_;refine ob h1 ?_;refine ob h5 ?_;refine ob h2 ?_;refine ob h3 ?_;refine lo hl2' ?_;rintro ex s ⟨rfl,rfl⟩;refine⟨_,rfl,?_⟩;exact fi
  ·refine co [11,15,20,24,30,31,35,49,76,80] [] (x:=.of Tryz.f177 fD dm) ?_;refine ox h2 ?_;refine ox hn ?_
   cases cn
   ·exact fi
   refine ox h5 ?_;refine ox hx ?_
   cases cx
   ·exact fi
   refine ob h0 ?_;refine ob h1 ?_;refine ob h5 ?_;refine ob h2 ?_;refine ob h3 ?_;refine ob h4 ?_;exact fi
  ·refine co [11,15,20,30,31,35,41,46] [] (x:=.of Tryz.f177 fD dm) ?_;refine ox h2 ?_;refine ox hn ?_
   cases cn
   ·exact fi
   refine ox h5 ?_;refine ob h0 ?_;refine ob h1 ?_;refine ob h5 ?_;refine ox hx0 ?_
   cases x0
   ·refine ox hx2 ?_
    cases x2 <;>
    ·exact fi
   exact fi
  ·refine co [11,15,20,24,30,31,35,49,76,80,84] [] (x:=.of Tryz.f177 fD dm) ?_;refine ox h2 ?_;refine ox hn ?_
   cases cn
   ·exact fi
   refine ox h5 ?_;refine ox hx ?_
   cases cx
   ·exact fi
   refine ob h0 ?_;refine ob h1 ?_;refine ob h5 ?_;refine ob h2 ?_;refine ob h3 ?_;refine ob h4 ?_;refine ob h6 ?_;exact fi
  refine co [11,15,20,24,30,31,35,49,76,80,84] [] (x:=.of Tryz.f177 fD dm) ?_;refine ox h2 ?_;refine ox hn ?_
  cases cn
  ·exact fi
  refine ox h5 ?_;refine ox hx ?_
  cases cx
  ·exact fi
  refine ob h0 ?_;refine ob h1 ?_;refine ob h5 ?_;refine ob h2 ?_;refine ob h3 ?_;refine ob h4 ?_;refine ob h6 ?_;exact fi
 have hcl2:=hcl t r rfl;have z0:e0=false:=he0.symm;subst z0;have g0:=jU (l:=t::r) (i:=0) rfl;clear hcl hnil he0;obtain⟨tk,tn,tix,ta⟩:=t
 rcases ta with _|⟨y,ta⟩ <;>
 ·rcases hk with⟨rfl,rfl,rfl,rfl,rfl,rfl,rfl⟩|⟨rfl,rfl,rfl,rfl,rfl,rfl,rfl⟩|⟨rfl,rfl,rfl,rfl,rfl,rfl,rfl⟩|⟨rfl,rfl,rfl,rfl,rfl,rfl,rfl⟩|⟨rfl,rfl,rfl,rfl,rfl,rfl,rfl⟩|⟨rfl,rfl,rfl,rfl,rfl,rfl,rfl⟩|⟨rfl,rfl,rfl,rfl,rfl,rfl,rfl⟩|⟨rfl,rfl,rfl,rfl,rfl,rfl,rfl⟩
  ·refine co [11,15,20,24,30] [] (x:=.of Tryz.f177 fD dm) ?_;refine ox h2 ?_;refine ox hn ?_
   cases cn
   ·exact fi
   refine ox h5 ?_;refine ox hx ?_
   cases cx
   ·exact fi
   refine ob h0 ?_;exact fi
  ·refine co [11,15,20,24,30,31] [] (x:=.of Tryz.f177 fD dm) ?_;refine ox h2 ?_;refine ox hn ?_
   cases cn
   ·exact fi
   refine ox h5 ?_;refine ox hx ?_
   cases cx
   ·exact fi
   refine ob h0 ?_;refine ob h1 ?_;exact fi
  ·refine co [11,20,24,30,31,35,49,61] [] (x:=.of Tryz.f177 fD dm) ?_;refine ox h2 ?_;refine ox h5 ?_;refine ox hx ?_
   cases cx
   ·exact fi
   refine ob h0 ?_;refine ob h1 ?_;refine ob h5 ?_;refine ob h2 ?_;refine on hi ?_
   cases ci
   ·exact fi
   refine on hr ?_
   cases cr
   ·refine ob hl6 ?_
    cases l6
    ·refine lo hl0 ?_;rintro ex s (⟨rfl,rfl,rfl⟩|⟨rfl,rfl,rfl⟩)
     ·refine⟨_,rfl,?_⟩;refine lo hl1 ?_;rintro ex s (⟨rfl,rfl,rfl⟩|⟨rfl,rfl,rfl⟩) <;>
      ·refine⟨_,rfl,?_⟩;exact fi
     refine⟨_,rfl,?_⟩;exact fi
    exact fi
   exact fi
  ·refine co [11,15,20,24,30,31,35,49,76,78] [] (x:=.of Tryz.f177 fD dm) ?_;refine ox h2 ?_;refine ox hn ?_
   cases cn
   ·exact fi
   refine ox h5 ?_;refine ox hx ?_
   cases cx
   ·exact fi
   refine ob h0 ?_;refine ob h1 ?_;refine ob h5 ?_;refine ob h2 ?_;refine ob h3 ?_;refine ob hl6 ?_
   cases l6
   ·refine lo hl1 ?_;rintro ex s (⟨rfl,rfl,rfl⟩|⟨rfl,rfl,rfl⟩) <;>
    ·refine⟨_,rfl,?_⟩;exact fi
   exact fi
  ·refine co [11,15,20,24,30,31,35,49,76,80,82] [] (x:=.of Tryz.f177 fD dm) ?_;refine ox h2 ?_;refine ox hn ?_
   cases cn
   ·exact fi
   refine ox h5 ?_;refine ox hx ?_
   cases cx
   ·exact fi
   refine ob h0 ?_;refine ob h1 ?_;refine ob h5 ?_;refine ob h2 ?_;refine ob h3 ?_;refine ob h4 ?_;refine ob hl2 ?_
   cases l2
   ·refine lo hl1 ?_;rintro ex s (⟨rfl,rfl,rfl⟩|⟨rfl,rfl,rfl⟩) <;>
    ·refine⟨_,rfl,?_⟩;exact fi
   exact fi
  ·refine co [11,15,20,30,31,35] [] (x:=.of Tryz.f177 fD dm) ?_;refine ox h2 ?_;refine ox hn ?_
   cases cn
   ·exact fi
   refine ox h5 ?_;refine ob h0 ?_;refine ob h1 ?_;refine ob h5 ?_;exact fi
  ·refine co [11,15,20,24,30,31,35,49,76,80,84,86] [90] (x:=.of Tryz.f177 fD dm) ?_;refine ox h2 ?_;refine ox hn ?_
   cases cn
   ·exact fi
   refine ox h5 ?_;refine ox hx ?_
   cases cx
   ·exact fi
   refine ob h0 ?_;refine ob h1 ?_;refine ob h5 ?_;refine ob h2 ?_;refine ob h3 ?_;refine ob h4 ?_;refine ob h6 ?_;refine ox he2 ?_
   cases e2
   ·exact fi
   refine oo g0 ?_;refine on hcl2 ?_
   cases fc
   ·exact fi
   refine lo hl1 ?_;rintro ex s (⟨rfl,rfl,rfl⟩|⟨rfl,rfl,rfl⟩) <;>
   ·refine⟨_,rfl,?_⟩;exact fi
  refine co [11,15,20,24,30,31,35,49,76,80,84] [] (x:=.of Tryz.f177 fD dm) ?_;refine ox h2 ?_;refine ox hn ?_
  cases cn
  ·exact fi
  refine ox h5 ?_;refine ox hx ?_
  cases cx
  ·exact fi
  refine ob h0 ?_;refine ob h1 ?_;refine ob h5 ?_;refine ob h2 ?_;refine ob h3 ?_;refine ob h4 ?_;refine ob h6 ?_;exact fi
theorem Ki {l:List Ty} {i:Nat} {t:Ty} (h:l[i]?=some t):me (l.drop i)=(!t.valid||me (l.drop (i+1))):=by rw[dC h,me]
mutual
theorem P9:∀t:Ty,t.cX->ag 177 [.dat t.enc] (bv t.valid)
 | .mk k nm ix l,h=>by
  obtain⟨h1,h2⟩:=h;simp only[Ty.size] at h1;simp only[Ty.eX] at h2;have ih:=KK l (by omega) h2.2;have ihp:=zL l (by omega) h2.2;have hlen:=eh l;have hcl:∀t r,l=t::r->ag 178 [.dat t.enc] (bv (iz l)):=by
   rintro t r rfl;simp only[aS] at h1;simp only[dE] at h2;exact Cb ⟨by omega,h2.2.1⟩
  rw[Ty.valid];refine Z9 (cp:=hZ l) (Dp nm) (YQ nm) rfl (by rintro rfl;rw[me]) hcl ?_ ?_
  ·refine cE (St:=fun i=>(UH 4 (fX 1 k nm ix (sl (ax l))) (ax l).length (Int.ofNat i)).aw Tryz.f177.ntmps) (fun i=>hZ l=hZ (l.drop i)) (ax l).length ?_ ?_ (i:=0) (Nat.zero_le _) rfl
   ·intro i hi hI;obtain⟨t,ht,hm⟩:=get_mem hi;have hd:=Bk ht;rw[←hI] at hd;have hsl:=lG hi;have hw:aG .i64 (Int.ofNat i+1)=Int.ofNat (i+1):=bb (by rw[aE] at hi;omega);have hc:=ihp t hm;rw[hsl];generalize t.plain=c at hc hd;refine MP hi ht hc ?_ ?_
    ·rintro rfl;rw[hw];exact⟨rfl,hd⟩
    rintro rfl;exact .inr ⟨rfl,hd,rfl⟩
   intro hI;refine PN (.inl ⟨rfl,?_,rfl⟩);rw[hI,aE,List.drop_length,hZ]
  refine cE (St:=fun i=>(UH 5 (fX 1 k nm ix (sl (ax l))) (ax l).length (Int.ofNat i)).aw Tryz.f177.ntmps) (fun i=>me l=me (l.drop i)) (ax l).length ?_ ?_ (i:=0) (Nat.zero_le _) rfl
  ·intro i hi hI;obtain⟨t,ht,hm⟩:=get_mem hi;have hd:=Ki ht;rw[←hI] at hd;have hsl:=lG hi;have hw:aG .i64 (Int.ofNat i+1)=Int.ofNat (i+1):=bb (by rw[aE] at hi;omega);have hc:=ih t hm;rw[hsl];generalize t.valid=c at hc hd;refine MO hi ht hc ?_ ?_
   ·rintro rfl;rw[hw];exact⟨rfl,hd⟩
   rintro rfl;exact .inr ⟨rfl,hd,rfl⟩
  intro hI;refine PM (.inl ⟨rfl,?_,rfl⟩);rw[hI,aE,List.drop_length,me]
theorem KK:∀l:List Ty,aS l < 100000000->dE l->∀t∈l,ag 177 [.dat t.enc] (bv t.valid)
 | [],_,_,t,ht=>by simp at ht
 | u::r,h,hx,t,ht=>by
  simp only[aS] at h;simp only[dE] at hx
  rcases List.mem_cons.1 ht with h1|ht
  ·rw[h1];exact P9 u ⟨by omega,hx.1⟩
  exact KK r (by omega) hx.2 t ht
end
def HQ (cn cm c:Bool):Int:=match cn||cm with|true=>4|false=>(match c with|true=>0|false=>2)
theorem UX (t:Ty):t.validate=HQ (bn 200 (Int.ofNat t.size)) (bn 12 (Int.ofNat t.depth)) t.valid:=by
 unfold Ty.validate HQ
 cases (bn 200 (Int.ofNat t.size)||bn 12 (Int.ofNat t.depth)) <;> cases t.valid <;> rfl
theorem aen {k ix:Int} {nm:List UInt8} {l:List aq} {n m:Int} {cn cm c:Bool} (h1:ag 175 [.dat (.agg [i64 k,sb nm,i64 ix,sl l])] (iv n)) (hn:bn 200 n=cn) (h2:ag 176 [.dat (.agg [i64 k,sb nm,i64 ix,sl l])] (iv m)) (hm:bn 12 m=cm)
  (h3:ag 177 [.dat (.agg [i64 k,sb nm,i64 ix,sl l])] (bv c)):ag 149 [.dat (.agg [i64 k,sb nm,i64 ix,sl l])] (iv (HQ cn cm c)):=by
 rcases l with _|⟨x,l⟩ <;>
 ·refine co [6,10] [] (x:=.of Tryz.f149 IF Lw) ?_;refine on h1 ?_;refine ob hn ?_
  cases cn
  ·refine on h2 ?_;refine ob hm ?_
   cases cm
   ·refine on h3 ?_
    cases c <;>
    ·exact fi
   exact fi
  exact fi
theorem Ip {t:Ty} (h:t.cX):ag 149 [.dat t.enc] (iv t.validate):=by
 have h1:=Qa t (by have:=h.1;omega);have h2:=KQ t (by have:=h.1;omega);have h3:=P9 t h;rw[UX];obtain⟨k,nm,ix,l⟩:=t;exact aen h1 rfl h2 rfl h3
theorem aaa {k ix ar v y:Int} {nm:List UInt8} {l fv:List aq} {c1 c2 c3:Bool} (h0:ag 148 [.dat (.agg [i64 k,sb nm,i64 ix,sl l])] (.dat (sl fv))) (h1:ag 149 [.dat (.agg [i64 k,sb nm,i64 ix,sl l])] (iv v)) (hv:aQ v 0=c1)
  (h2:ag 150 [.dat (.agg [i64 k,sb nm,i64 ix,sl l])] (bv c2)) (hi:fv≠[]->aJ (env au.aI) 22 [.dat (.slice fv),.dat (.flat (.int .i64 (aG .i64 (Int.ofNat fv.length - 1))))]=some ⟨.ref [iN y],.keep⟩) (h3:bn y ar=c3) :
  ag 124 [.dat (.agg [i64 k,sb nm,i64 ix,sl l]),iv ar] (bv (c1&&(c2&&(Oy fv||c3)))):=by
 rcases fv with _|⟨x,fv⟩
 ·clear hi
  rcases l with _|⟨z,l⟩ <;>
  ·refine co [10] [] (x:=.of Tryz.f124 DC DV) ?_;refine on h0 ?_;refine on h1 ?_;refine ob hv ?_
   cases c1
   ·exact fi
   refine on h2 ?_
   cases c2 <;>
   ·exact fi
 have hj:=hi (by simp);clear hi
 rcases l with _|⟨z,l⟩ <;>
 ·refine co [10,27] [24] (x:=.of Tryz.f124 DC DV) ?_;refine on h0 ?_;refine on h1 ?_;refine ob hv ?_
  cases c1
  ·exact fi
  refine on h2 ?_
  cases c2
  ·exact fi
  refine oo hj ?_;refine ob h3 ?_
  cases c3 <;>
  ·exact fi
theorem Gp:∀{l:List Int} {y ar:Int},l.Pairwise (·<=·)->l.getLast?=some y->l.any (fun x=>!bn x ar)=!bn y ar
 | [],y,ar,_,h=>by simp at h
 | [x],y,ar,_,h=>by simp at h;subst h;simp
 | x::z::r,y,ar,hs,h=>by
  rw[List.getLast?_cons_cons] at h;rw[List.any_cons,Gp (List.pairwise_cons.1 hs).2 h];have hm:y∈z::r:=List.mem_of_getLast? h;have hxy:=(List.pairwise_cons.1 hs).1 y hm;rw[gr,gr]
  by_cases h1:y < ar
  ·rw[decide_eq_true h1,decide_eq_true (by omega)];rfl
  rw[decide_eq_false h1];simp
theorem aeu {t:Ty} {ar:Int} (h:t.cX):ag 124 [.dat t.enc,iv ar] (bv (t.over ar)):=by
 have h0:=zK h.1 h.2;have h1:=Ip h;have h2:=KN t h;have hs:=(D8 (t:=t)).1;have hlen:=(D8 (t:=t)).2;have hsz:=h.1;unfold Ty.over;generalize t.validate=v at *;generalize t.plain=c2 at *;generalize t.fv=fv at *;obtain⟨k,nm,ix,l⟩:=t;have key:∃y,(fv≠[]->fv.getLast?=some y):=by
  cases hf:fv.getLast? with
  | none=>exact⟨0,fun h=>absurd (List.getLast?_eq_none_iff.1 hf) h⟩
  | some y=>exact⟨y,fun _=>rfl⟩
 obtain⟨y,hy⟩:=key;have h:=aaa (y:=y) (ar:=ar) h0 h1 rfl h2 (fun hne=>by
  have hne2:fv≠[]:=by rintro rfl;exact hne rfl
  have hl:=hy hne2;have hw:aG .i64 (Int.ofNat (fv.map iN).length - 1)=Int.ofNat (fv.length - 1):=by
   have hp:0 < fv.length:=List.length_pos_iff.2 hne2;rw[List.length_map,dR,wrap_i64 (by simp;omega) (by simp;omega)];simp;omega
  rw[hw];exact Nz (by rw[List.getLast?_eq_getElem?] at hl;exact hl)) rfl
 have e:(Oy (fv.map iN)||bn y ar)=!(fv.any (fun x=>!bn x ar)):=by
  cases fv with
  | nil=>simp[Oy]
  | cons x r=>
   rw[Gp hs (hy (by simp))];simp[Oy]
 rw[e] at h;exact h
noncomputable def hVD:Hints:=⟨an,FV,ap,rowsOf ap 93⟩
def EQ (cs:List ac):Heap:=[(.loc 1,.cells cs)]
def Mw (lo:Heap) (i:Int):ab:=⟨[(3,iv i),(1,.ptr (.loc 1) 0)],lo,[],0⟩
def O8 (lo:Heap) (i:Int):ab:=⟨[(53,bv false),(3,iv i),(1,.ptr (.loc 1) 0)],lo,[],0⟩
def BX:ab:=⟨[(2,bv false)],[],[],0⟩
def Mv (lo:Heap) (i k:Int):ab:=⟨[(4,iv k),(3,iv i),(1,.ptr (.loc 1) 0)],lo,[],0⟩
def O7 (lo:Heap) (i k:Int):ab:=⟨[(78,bv false),(4,iv k),(3,iv i),(1,.ptr (.loc 1) 0)],lo,[],0⟩
theorem OK {nm nm2:List UInt8} {ar kk ix:Int} {A:aq} {con:Bool} {l:List dY} {t u:dY} {i k:Nat} {c:Bool} {T:Exit->aa->Prop} (hk:k < i) (ht:l[k]?=some t) (hu:l[i]?=some u) (hc:dv t.nm u.nm=c)
  (e1:c=false->T .normal ((Mv (EQ (bU nm ar kk nm2 ix A con (.slice (aN l)))) (Int.ofNat i) (aG .i64 (Int.ofNat k+1))).aw Tryz.f93.ntmps)) (e2:c=true->T .ret (BX.aw Tryz.f93.ntmps)) :
  KD (roundOf Tryz.f93 1) T ((Mv (EQ (bU nm ar kk nm2 ix A con (.slice (aN l)))) (Int.ofNat i) (Int.ofNat k)).aw Tryz.f93.ntmps):=by
 have h1:=bd hk;have h2:=sG ht;have h3:=sG hu;generalize aN l=es at *;clear ht hu hk;obtain⟨fn,tk,tn',tix,ta⟩:=t;obtain⟨gn,uk,un',uix,ua⟩:=u;refine aB [78,93] [84,90] (H:=hVD) (live:=pD) (by kernel_rfl) ?_;refine ob h1 ?_;refine oo h2 ?_;refine oo h3 ?_;refine ob hc ?_
 cases c
 ·exact oe (e1 rfl)
 exact oe (e2 rfl)
theorem UT {nm nm2:List UInt8} {ar kk ix:Int} {A B:aq} {con:Bool} {i:Nat} {T:Exit->aa->Prop} (e:T (.exit 2) ((O7 (EQ (bU nm ar kk nm2 ix A con B)) (Int.ofNat i) (Int.ofNat i)).aw Tryz.f93.ntmps)) :
  KD (roundOf Tryz.f93 1) T ((Mv (EQ (bU nm ar kk nm2 ix A con B)) (Int.ofNat i) (Int.ofNat i)).aw Tryz.f93.ntmps):=by
 have h1:=br (i:=i) (L:=i) (by omega);refine aB [78] [] (H:=hVD) (live:=pD) (by kernel_rfl) ?_;refine ob h1 ?_;exact oe e
def uN (nm:List UInt8) (l:List dY):Bool:=l.any (fun f=>dv f.nm nm)
theorem US {nm nm2:List UInt8} {ar kk ix:Int} {A:aq} {con:Bool} {l:List dY} {u:dY} {i:Nat} (hu:l[i]?=some u) (hn:l.length < 1000000000) :
  KD (.loop (roundOf Tryz.f93 1)) (fun e s=>(e=.exit 2/\uN u.nm (l.take i)=false/\s=(O7 (EQ (bU nm ar kk nm2 ix A con (.slice (aN l)))) (Int.ofNat i) (Int.ofNat i)).aw Tryz.f93.ntmps)∨(e=.ret/\uN u.nm (l.take i)=true/\s=BX.aw Tryz.f93.ntmps))
   ((Mv (EQ (bU nm ar kk nm2 ix A con (.slice (aN l)))) (Int.ofNat i) (Int.ofNat 0)).aw Tryz.f93.ntmps):=by
 have hil:=(List.getElem?_eq_some_iff.1 hu).1;refine cE (St:=fun k=>(Mv (EQ (bU nm ar kk nm2 ix A con (.slice (aN l)))) (Int.ofNat i) (Int.ofNat k)).aw Tryz.f93.ntmps) (fun k=>uN u.nm (l.take k)=false) i ?_ ?_ (i:=0) (Nat.zero_le _) rfl
 ·intro k hk hI;have ht:l[k]?=some l[k]:=List.getElem?_eq_getElem (by omega);have htk:=dZ ht;have hw:aG .i64 (Int.ofNat k+1)=Int.ofNat (k+1):=bb (by omega);refine OK hk ht hu rfl ?_ ?_
  ·intro hc;rw[hw];refine⟨rfl,?_⟩;rw[htk];unfold uN at hI ⊢;rw[List.any_append,hI];simp[hc]
  intro hc;refine .inr ⟨rfl,?_,rfl⟩;unfold uN;rw[List.any_eq_true];refine⟨l[k],?_,hc⟩;rw[List.mem_take_iff_getElem];exact⟨k,by omega,rfl⟩
 intro hI;exact UT (.inl ⟨rfl,hI,rfl⟩)
theorem OM {nm nm2:List UInt8} {ar k ix:Int} {A:aq} {con:Bool} {l:List dY} {t:dY} {i:Nat} {c1 c2 c3:Bool} {T:Exit->aa->Prop} (hi:i < (aN l).length) (ht:l[i]?=some t) (hn:ag 122 [.dat (sb t.nm)] (bv c1)) (hc:ag 124 [.dat t.ty.enc,iv ar] (bv c2))
  (hl:KD (.loop (roundOf Tryz.f93 1)) (fun e s=>(e=.exit 2/\c3=false/\s=(O7 (EQ (bU nm ar k nm2 ix A con (.slice (aN l)))) (Int.ofNat i) (Int.ofNat i)).aw Tryz.f93.ntmps)∨(e=.ret/\c3=true/\s=BX.aw Tryz.f93.ntmps))
   ((Mv (EQ (bU nm ar k nm2 ix A con (.slice (aN l)))) (Int.ofNat i) (Int.ofNat 0)).aw Tryz.f93.ntmps))
  (e1:(c1&&(c2&&!c3))=true->T .normal ((Mw (EQ (bU nm ar k nm2 ix A con (.slice (aN l)))) (aG .i64 (Int.ofNat i+1))).aw Tryz.f93.ntmps)) (e2:(c1&&(c2&&!c3))=false->T .ret (BX.aw Tryz.f93.ntmps)) :
  KD (roundOf Tryz.f93 0) T ((Mw (EQ (bU nm ar k nm2 ix A con (.slice (aN l)))) (Int.ofNat i)).aw Tryz.f93.ntmps):=by
 have h1:=bd hi;have h2:=sG ht;generalize aN l=es at *;clear ht hi;obtain⟨fn,tk,tn',tix,ta⟩:=t
 rcases ta with _|⟨b,d⟩ <;>
 ·refine aB [53] [59,68] (H:=hVD) (live:=pD) (by kernel_rfl) ?_;refine ob h1 ?_;refine oo h2 ?_;refine on hn ?_
  cases c1
  ·exact oe (e2 rfl)
  refine oo h2 ?_;refine on hc ?_
  cases c2
  ·exact oe (e2 rfl)
  refine lo hl ?_;rintro ex s (⟨rfl,rfl,rfl⟩|⟨rfl,rfl,rfl⟩)
  ·refine⟨_,rfl,?_⟩;exact oe (e1 rfl)
  refine⟨_,rfl,?_⟩;exact oe (e2 rfl)
theorem UW {nm nm2:List UInt8} {ar k ix:Int} {A:aq} {con:Bool} {l:List aq} {T:Exit->aa->Prop} (e:T (.exit 0) ((O8 (EQ (bU nm ar k nm2 ix A con (sl l))) (Int.ofNat l.length)).aw Tryz.f93.ntmps)) :
  KD (roundOf Tryz.f93 0) T ((Mw (EQ (bU nm ar k nm2 ix A con (sl l))) (Int.ofNat l.length)).aw Tryz.f93.ntmps):=by
 have h1:=br (i:=l.length) (L:=l.length) (by omega)
 rcases l with _|⟨x,l⟩
 ·refine aB [] [] (H:=hVD) (live:=pD) (by kernel_rfl) ?_;exact oe e
 refine aB [53] [] (H:=hVD) (live:=pD) (by kernel_rfl) ?_;refine ob h1 ?_;exact oe e
theorem Zu {nm nm2:List UInt8} {ar k ix:Int} {la lb:List aq} {con c1 c2 c3 c4 c5 c6 c7 d:Bool} (h1:ag 122 [.dat (sb nm)] (bv c1)) (h2:ag 123 [.dat (sb nm)] (bv c2)) (h3:bn ar 0=c3) (h4:SP lb=c4) (h5:aQ k 2=c5)
  (h6:ag 24 [.dat (.agg [i64 k,sb nm2,i64 ix,sl la]),.dat (Ty.mk 0 [] 0 []).enc] (bv c6)) (h7:ag 124 [.dat (.agg [i64 k,sb nm2,i64 ix,sl la]),iv ar] (bv c7))
  (hl:KD (.loop (roundOf Tryz.f93 0)) (fun e s=>(e=.exit 0/\d=true/\s=(O8 (EQ (bU nm ar k nm2 ix (sl la) con (sl lb))) (Int.ofNat lb.length)).aw Tryz.f93.ntmps)∨(e=.ret/\d=false/\s=BX.aw Tryz.f93.ntmps)) ((Mw (EQ (bU nm ar k nm2 ix (sl la) con (sl lb))) (Int.ofNat 0)).aw Tryz.f93.ntmps)) :
  ag 93 [.dat (dw nm ar k nm2 ix la con lb)] (bv (c1&&(!c2&&(!c3&&(!(!con&&c4)&&((c5||c6)&&(c7&&d))))))):=by
 have q1:=uG nm ar k nm2 ix la con lb;have q3:=D1 false 1 nm ar k nm2 ix la con lb;have q4:=AG
 rcases lb with _|⟨y,lb⟩
 ·have z:c4=false:=h4.symm;subst z;clear h4;refine co [17,33] [1,43,36] (x:=.of Tryz.f93 FV pD) ?_;refine oo q1 ?_;refine on h1 ?_
  cases c1
  ·exact fi
  refine on h2 ?_
  cases c2
  ·refine ob h3 ?_
   cases c3
   ·cases con <;>
    ·refine ox h5 ?_
     cases c5
     ·refine oo q3 ?_;refine on q4 ?_;refine on h6 ?_
      cases c6
      ·exact fi
      refine oo q3 ?_;refine on h7 ?_
      cases c7
      ·exact fi
      refine lo hl ?_;rintro ex s (⟨rfl,rfl,rfl⟩|⟨rfl,rfl,rfl⟩) <;>
      ·refine⟨_,rfl,?_⟩;exact fi
     refine oo q3 ?_;refine on h7 ?_
     cases c7
     ·exact fi
     refine lo hl ?_;rintro ex s (⟨rfl,rfl,rfl⟩|⟨rfl,rfl,rfl⟩) <;>
     ·refine⟨_,rfl,?_⟩;exact fi
   exact fi
  exact fi
 have z:c4=true:=h4.symm;subst z;clear h4;refine co [17,33] [1,43,36] (x:=.of Tryz.f93 FV pD) ?_;refine oo q1 ?_;refine on h1 ?_
 cases c1
 ·exact fi
 refine on h2 ?_
 cases c2
 ·refine ob h3 ?_
  cases c3
  ·cases con
   ·exact fi
   refine ox h5 ?_
   cases c5
   ·refine oo q3 ?_;refine on q4 ?_;refine on h6 ?_
    cases c6
    ·exact fi
    refine oo q3 ?_;refine on h7 ?_
    cases c7
    ·exact fi
    refine lo hl ?_;rintro ex s (⟨rfl,rfl,rfl⟩|⟨rfl,rfl,rfl⟩) <;>
    ·refine⟨_,rfl,?_⟩;exact fi
   refine oo q3 ?_;refine on h7 ?_
   cases c7
   ·exact fi
   refine lo hl ?_;rintro ex s (⟨rfl,rfl,rfl⟩|⟨rfl,rfl,rfl⟩) <;>
   ·refine⟨_,rfl,?_⟩;exact fi
  exact fi
 exact fi
theorem Fl (nm:List UInt8):∀l:List dY,oM l nm=uN nm l
 | []=>rfl
 | f::r=>by
  have ih:=Fl nm r;unfold uN at ih ⊢;unfold oM;rw[List.any_cons,←ih];have e:dv f.nm nm=dv nm f.nm:=by
   rw[Bool.eq_iff_iff,io,io,beq_iff_eq,beq_iff_eq];exact eq_comm
  rw[e]
  cases dv nm f.nm <;> rfl
theorem UU {nm nm2:List UInt8} {ar k ix:Int} {A B:aq} {con:Bool} {l:List dY} (hb:B=sl (aN l)) (hn:l.length < 1000000000) (hf:∀f∈l,f.ty.cX) :
  KD (.loop (roundOf Tryz.f93 0)) (fun e s=>(e=.exit 0/\HJ ar [] l=true/\s=(O8 (EQ (bU nm ar k nm2 ix A con B)) (Int.ofNat (aN l).length)).aw Tryz.f93.ntmps)∨(e=.ret/\HJ ar [] l=false/\s=BX.aw Tryz.f93.ntmps)) ((Mw (EQ (bU nm ar k nm2 ix A con B)) (Int.ofNat 0)).aw Tryz.f93.ntmps):=by
 refine cE (St:=fun i=>(Mw (EQ (bU nm ar k nm2 ix A con B)) (Int.ofNat i)).aw Tryz.f93.ntmps) (fun i=>HJ ar [] l=HJ ar (l.take i) (l.drop i)) (aN l).length ?_ ?_ (i:=0) (Nat.zero_le _) (by simp)
 ·intro i hi hI;obtain⟨t,ht,hm⟩:=gx hi;have hd:=ET (ar:=ar) ht;rw[←hI] at hd;have hw:aG .i64 (Int.ofNat i+1)=Int.ofNat (i+1):=bb (by rw[bc] at hi;omega);have hb2:B=.slice (aN l):=by
   rw[hb]
   cases l with
   | nil=>simp at ht
   | cons x r=>rfl
  subst hb2;have e:(isIdent t.nm&&(!oM (l.take i) t.nm&&t.ty.over ar))=(isIdent t.nm&&(t.ty.over ar&&!uN t.nm (l.take i))):=by
   rw[Fl,Bool.and_comm (!uN t.nm (l.take i))]
  rw[e] at hd;refine OM hi ht (Dp t.nm) (aeu (hf t hm)) (US ht hn) ?_ ?_
  ·intro hc;rw[hw];refine⟨rfl,?_⟩;rw[hd,hc,Bool.true_and]
  intro hc;refine .inr ⟨rfl,?_,rfl⟩;rw[hd,hc,Bool.false_and]
 intro hI;rw[hb];refine UW (.inl ⟨rfl,?_,rfl⟩);rw[hI,bc,List.drop_length];rfl
theorem Cj {t:Ty} {ar:Int} (h:t.over ar=true) (hk:aQ t.kind 0=true):t=.mk 0 [] 0 []:=by
 obtain⟨k,nm,ix,l⟩:=t;have hk2:k=0:=gU hk;subst hk2;unfold Ty.over at h;simp only[Bool.and_eq_true] at h;have h1:=gU h.1;unfold Ty.validate at h1
 split at h1
 ·simp at h1
 split at h1
 ·rename_i hv;rw[Ty.valid,Bool.and_eq_true] at hv;have hn:=hv.1;unfold jo at hn
  split at hn
  ·simp at hn
  rename_i g1
  split at hn
  ·simp at hn
  rename_i g2
  split at hn
  ·have g3:=gU hn;rw[aE] at g3;have g4:l=[]:=List.length_eq_zero_iff.1 (Int.ofNat.inj (g3.trans (show (0:Int)=Int.ofNat 0 from rfl)));subst g4;have g5:dv nm []=true:=by
    cases hh:dv nm [] with
    | true=>rfl
    | false=>exact absurd (by rw[hh];rfl) g1
   have g6:aQ ix 0=true:=by
    cases hh:aQ ix 0 with
    | true=>rfl
    | false=>exact absurd (by rw[hh];rfl) g2
   rw[mz g5,gU g6]
  rename_i g3;exact absurd (by rfl) g3
 simp at h1
theorem FB {d:aZ} (h:d.cX):ag 93 [.dat d.enc] (bv d.wf):=by
 have h6:=zM d.sup (.mk 0 [] 0 []) (by have:=h.1.1;omega);have h7:=aeu (ar:=d.ar) h.1;have hf:=h.2.1;have hn:=h.2.2;have e:((aQ d.sup.kind 2||NP d.sup (.mk 0 [] 0 []))&&(d.sup.over d.ar&&HJ d.ar [] d.fl))=((aQ d.sup.kind 0||aQ d.sup.kind 2)&&(d.sup.over d.ar&&HJ d.ar [] d.fl)):=by
  cases ho:d.sup.over d.ar with
  | false=>simp
  | true=>
   have hh:NP d.sup (.mk 0 [] 0 [])=aQ d.sup.kind 0:=by
    rw[Bool.eq_iff_iff,yE]
    constructor
    ·intro h;rw[h];rfl
    exact Cj ho
   rw[hh,Bool.or_comm]
 unfold aZ.wf;rw[←e];obtain⟨nm,ar,⟨k,tn,ix,la⟩,con,fl⟩:=d;exact Zu (Dp nm) (YQ nm) rfl rfl rfl h6 h7 (UU rfl hn hf)
def T3 (c1 c2 c3:Bool):Int:=match c1 with|false=>2|true=>match c2||c3 with|true=>4|false=>0
theorem af7 {nm nm2:List UInt8} {ar k ix:Int} {la lb:List aq} {con c1 c2 c3:Bool} (h1:ag 93 [.dat (dw nm ar k nm2 ix la con lb)] (bv c1)) (h2:bn 6 ar=c2) (h3:bn 6 (Int.ofNat lb.length)=c3) :
  ag 57 [.dat (dw nm ar k nm2 ix la con lb)] (iv (T3 c1 c2 c3)):=by
 have q1:=uG nm ar k nm2 ix la con lb
 rcases lb with _|⟨y,lb⟩
 ·have z:c3=false:=h3.symm;subst z;clear h3;refine co [8] [1] (x:=.of Tryz.f57 K4 Ja) ?_;refine oo q1 ?_
  rcases la with _|⟨v0,v1⟩ <;>
  ·refine on h1 ?_
   cases c1
   ·exact fi
   refine ob h2 ?_
   cases c2 <;>
   ·exact fi
 refine co [8,13] [1] (x:=.of Tryz.f57 K4 Ja) ?_;refine oo q1 ?_
 rcases la with _|⟨v0,v1⟩ <;>
 ·refine on h1 ?_
  cases c1
  ·exact fi
  refine ob h2 ?_
  cases c2
  ·refine ob h3 ?_
   cases c3 <;>
   ·exact fi
  exact fi
def aZ.chk (d:aZ):Int:=T3 d.wf (bn 6 d.ar) (bn 6 (Int.ofNat (aN d.fl).length))
theorem VD {d:aZ} (h:d.cX):ag 57 [.dat d.enc] (iv d.chk):=by
 have h1:=FB h;unfold aZ.chk;generalize d.wf=c1 at h1 ⊢;obtain⟨nm,ar,⟨k,tn,ix,la⟩,con,fl⟩:=d;exact af7 h1 rfl rfl
def rP (o:Nat):ac:=.ptr (.out o) 0
def hF (o:Nat) (es:List aq):Heap:=[(.out o,.cells [.dat (.slice es)])]
theorem aev:KC 45 [] [] 0 (XQ ⟨rP 0,hF 0 (aK cT),1⟩):=by
 exact aC.adC (aM _ _ _ _ ⟨rP 0,[(.out 0,.cells [.own (aK cT)])],1⟩ (by kernel_rfl)) (.refl _) (.cons (.cells (.cons (.own _) .nil) rfl) .nil)
noncomputable def hLk:Hints:=⟨an,Le,ap,rowsOf ap 36⟩
theorem X7 (k:Int) (tn:List UInt8) (ix:Int) (la:List aq) :
  Yp [.dat (.agg [i64 k,sb tn,i64 ix,sl la])]=some ⟨.undef,.new (.cells [iv k,.dat (sb tn),iv ix,.dat (sl la)])⟩:=by
 rcases la with _|⟨x,la⟩ <;> kernel_rfl
def loZ:Heap:=[(.loc 4,.cells (cellsD [] 0 0 [] 0 [] false []))]
def MC (es:List aq) (nm:List UInt8) (i:Int):ab:=⟨[(6,iv i),(4,.ptr (.loc 4) 0),(0,rP 0),(1,.dat (sb nm))],loZ,hF 0 es,1⟩
def Pk (es:List aq) (nm:List UInt8) (i:Int):ab:=⟨[(13,bv false),(6,iv i),(4,.ptr (.loc 4) 0),(0,rP 0),(1,.dat (sb nm))],loZ,hF 0 es,1⟩
def Pm (es:List aq) (d:aZ):ab:=⟨[(5,bv true),(4,.ptr (.loc 4) 0)],[(.loc 4,.cells (cellsD d.nm d.ar d.sup.kind d.sup.nm d.sup.Cz (ax d.sup.args) d.con (aN d.fl)))],hF 0 es,1⟩
theorem Sn {nm:List UInt8} {ds:List aZ} {i:Nat} {t:aZ} {c:Bool} (hi:i < (aK ds).length) (ht:ds[i]?=some t) (hc:dv t.nm nm=c) {T:Exit->aa->Prop}
  (e1:c=false->T .normal ((MC (aK ds) nm (aG .i64 (Int.ofNat i+1))).aw Tryz.f36.ntmps)) (e2:c=true->T .ret ((Pm (aK ds) t).aw Tryz.f36.ntmps)) :
  KD (roundOf Tryz.f36 0) T ((MC (aK ds) nm (Int.ofNat i)).aw Tryz.f36.ntmps):=by
 have h1:=bd hi;have h2:=uh ht;generalize aK ds=es at *;clear ht hi;obtain⟨dn,ar,⟨k,tn,ix,la⟩,con,fl⟩:=t;have q1:=cG 4 dn ar k tn ix (ax la) con (aN fl);refine aB [13,25] [21,31,100004] (H:=hLk) (live:=DS) (by kernel_rfl) ?_;refine ob h1 ?_;refine oo h2 ?_;refine ob hc ?_
 cases c
 ·exact oe (e1 rfl)
 refine oo h2 ?_;refine oo q1 ?_;exact oe (e2 rfl)
theorem V4 {nm:List UInt8} {es:List aq} {T:Exit->aa->Prop} (e:T (.exit 0) ((Pk es nm (Int.ofNat es.length)).aw Tryz.f36.ntmps)) :
  KD (roundOf Tryz.f36 0) T ((MC es nm (Int.ofNat es.length)).aw Tryz.f36.ntmps):=by
 have h1:=br (i:=es.length) (L:=es.length) (by omega);refine aB [13] [] (H:=hLk) (live:=DS) (by kernel_rfl) ?_;refine ob h1 ?_;exact oe e
theorem aaE {nm:List UInt8} {es:List aq} {o:Option aZ}
  (hl:KD (.loop (roundOf Tryz.f36 0)) (fun e s=>(e=.exit 0/\o=none/\s=(Pk es nm (Int.ofNat es.length)).aw Tryz.f36.ntmps)∨(∃d,e=.ret/\o=some d/\s=(Pm es d).aw Tryz.f36.ntmps)) ((MC es nm 0).aw Tryz.f36.ntmps)) :
  KC 36 [rP 0,.dat (sb nm)] (hF 0 es) 1 (XQ ⟨.tup [.dat (iZ o).enc,bv (fj o)],hF 0 es,1⟩):=by
 refine co [] [] (x:=.of Tryz.f36 Le DS) ?_;refine lo hl ?_;rintro ex s (⟨rfl,rfl,rfl⟩|⟨x0,rfl,rfl,rfl⟩)
 ·refine⟨_,rfl,?_⟩;exact fi
 refine⟨_,rfl,?_⟩;obtain⟨v1,v2,v3,v4,v5⟩:=x0;obtain⟨v6,v7,v8,v9⟩:=v3
 rcases v9 with _|⟨v12,v13⟩
 ·rcases v5 with _|⟨v10,v11⟩ <;>
  ·exact fi
 rcases v5 with _|⟨v14,v15⟩ <;>
 ·exact fi
noncomputable def hKn:Hints:=⟨an,Lb,ap,rowsOf ap 40⟩
def loK (k:Int) (nm:List UInt8) (ix:Int) (a:aq):Heap:=[(.loc 3,.cells [iv k,.dat (sb nm),iv ix,.dat a])]
def Pn (lo:Heap) (es:List aq) (i:Int):ab:=⟨[(7,iv i),(3,.ptr (.loc 3) 0),(0,rP 0)],lo,hF 0 es,1⟩
def Yx (lo:Heap) (es:List aq) (i:Int):ab:=⟨[(32,bv false),(7,iv i),(3,.ptr (.loc 3) 0),(0,rP 0)],lo,hF 0 es,1⟩
def Yy (es:List aq):ab:=⟨[(4,bv false)],[],hF 0 es,1⟩
theorem SS {k ix:Int} {nm:List UInt8} {es:List aq} {l:List Ty} {t:Ty} {i:Nat} {c:Bool} (hi:i < (ax l).length) (ht:l[i]?=some t) (hc:KC 40 [rP 0,.dat t.enc] (hF 0 es) 1 (XQ ⟨bv c,hF 0 es,1⟩)) {T:Exit->aa->Prop}
  (e1:c=true->T .normal ((Pn (loK k nm ix (.slice (ax l))) es (aG .i64 (Int.ofNat i+1))).aw Tryz.f40.ntmps)) (e2:c=false->T .ret ((Yy es).aw Tryz.f40.ntmps)) :
  KD (roundOf Tryz.f40 0) T ((Pn (loK k nm ix (.slice (ax l))) es (Int.ofNat i)).aw Tryz.f40.ntmps):=by
 have h1:=bd hi;have h2:=jU ht;generalize ax l=ls at *;clear ht hi;obtain⟨tk,tn,tix,ta⟩:=t
 rcases ta with _|⟨b,d⟩ <;>
 ·refine aB [32] [39] (H:=hKn) (live:=Ap) (by kernel_rfl) ?_;refine ob h1 ?_;refine oo h2 ?_;refine oh hc ?_
  cases c
  ·exact oe (e2 rfl)
  exact oe (e1 rfl)
theorem W8 {k ix:Int} {nm:List UInt8} {es l:List aq} {T:Exit->aa->Prop} (e:T (.exit 0) ((Yx (loK k nm ix (sl l)) es (Int.ofNat l.length)).aw Tryz.f40.ntmps)) :
  KD (roundOf Tryz.f40 0) T ((Pn (loK k nm ix (sl l)) es (Int.ofNat l.length)).aw Tryz.f40.ntmps):=by
 have h1:=br (i:=l.length) (L:=l.length) (by omega)
 rcases l with _|⟨x,l⟩
 ·refine aB [] [] (H:=hKn) (live:=Ap) (by kernel_rfl) ?_;exact oe e
 refine aB [32] [] (H:=hKn) (live:=Ap) (by kernel_rfl) ?_;refine ob h1 ?_;exact oe e
theorem aaQ {nm nm2 tn2:List UInt8} {es:List aq} {l la lb:List aq} {k ix ar2 k2 ix2:Int} {con2 cw c ck d:Bool} (h:aQ k 2=ck) (hf:KC 36 [rP 0,.dat (sb nm)] (hF 0 es) 1 (XQ ⟨.tup [.dat (dw nm2 ar2 k2 tn2 ix2 la con2 lb),bv cw],hF 0 es,1⟩)) (hc:aQ ar2 (Int.ofNat l.length)=c)
  (hl:KD (.loop (roundOf Tryz.f40 0)) (fun e s=>(e=.exit 0/\d=true/\s=(Yx (loK k nm ix (sl l)) es (Int.ofNat l.length)).aw Tryz.f40.ntmps)∨(e=.ret/\d=false/\s=(Yy es).aw Tryz.f40.ntmps)) ((Pn (loK k nm ix (sl l)) es (Int.ofNat 0)).aw Tryz.f40.ntmps)) :
  KC 40 [rP 0,.dat (.agg [i64 k,sb nm,i64 ix,sl l])] (hF 0 es) 1 (XQ ⟨bv (!(ck&&!(cw&&c))&&d),hF 0 es,1⟩):=by
 have q1:=X7 k nm ix l;have q4:=cG 5 nm2 ar2 k2 tn2 ix2 la con2 lb
 rcases l with _|⟨x,l⟩ <;>
 ·refine co [10,26] [3,100005] (x:=.of Tryz.f40 Lb Ap) ?_;refine oo q1 ?_;refine ob h ?_
  cases ck
  ·refine lo hl ?_;rintro ex s (⟨rfl,rfl,rfl⟩|⟨rfl,rfl,rfl⟩) <;>
   ·refine⟨_,rfl,?_⟩;exact fi
  refine oh hf ?_;refine oo q4 ?_
  cases cw
  ·exact fi
  refine ox hc ?_
  cases c
  ·exact fi
  refine lo hl ?_;rintro ex s (⟨rfl,rfl,rfl⟩|⟨rfl,rfl,rfl⟩) <;>
  ·refine⟨_,rfl,?_⟩;exact fi
theorem JM {ds:List aZ} {nm:List UInt8} {i:Nat} {t:aZ} (h:ds[i]?=some t):aF (ds.drop i) nm=(match dv nm t.nm with|true=>some t|false=>aF (ds.drop (i+1)) nm):=by rw[dC h];rfl
theorem V3 {nm:List UInt8} {ds:List aZ} (hn:ds.length < 1000000000) :
  KD (.loop (roundOf Tryz.f36 0)) (fun e s=>(e=.exit 0/\aF ds nm=none/\s=(Pk (aK ds) nm (Int.ofNat (aK ds).length)).aw Tryz.f36.ntmps)∨(∃d,e=.ret/\aF ds nm=some d/\s=(Pm (aK ds) d).aw Tryz.f36.ntmps)) ((MC (aK ds) nm (Int.ofNat 0)).aw Tryz.f36.ntmps):=by
 refine cE (St:=fun i=>(MC (aK ds) nm (Int.ofNat i)).aw Tryz.f36.ntmps) (fun i=>aF ds nm=aF (ds.drop i) nm) (aK ds).length ?_ ?_ (i:=0) (Nat.zero_le _) rfl
 ·intro i hi hI;obtain⟨t,ht,hm⟩:=lY hi;have hd:=JM (nm:=nm) ht;rw[←hI] at hd;have hw:aG .i64 (Int.ofNat i+1)=Int.ofNat (i+1):=bb (by rw[bi] at hi;omega);have e:dv t.nm nm=dv nm t.nm:=by
   rw[Bool.eq_iff_iff,io,io,beq_iff_eq,beq_iff_eq];exact eq_comm
  refine Sn hi ht e ?_ ?_
  ·intro hc;rw[hw];rw[hc] at hd;exact⟨rfl,hd⟩
  intro hc;rw[hc] at hd;exact .inr ⟨t,rfl,hd,rfl⟩
 intro hI;refine V4 (.inl ⟨rfl,?_,rfl⟩);rw[hI,bi,List.drop_length];rfl
theorem jN {ds:List aZ} (nm:List UInt8) (hn:ds.length < 1000000000):KC 36 [rP 0,.dat (sb nm)] (hF 0 (aK ds)) 1 (XQ ⟨.tup [.dat (iZ (aF ds nm)).enc,bv (fj (aF ds nm))],hF 0 (aK ds),1⟩):=aaE (V3 hn)
theorem F8 {ds:List aZ} {l:List Ty} {i:Nat} {t:Ty} (h:l[i]?=some t):kb ds (l.drop i)=(!cF ds t||kb ds (l.drop (i+1))):=by rw[dC h,kb]
mutual
theorem yi {ds:List aZ} (hn:ds.length < 1000000000):∀t:Ty,t.size < 1000000000->KC 40 [rP 0,.dat t.enc] (hF 0 (aK ds)) 1 (XQ ⟨bv (cF ds t),hF 0 (aK ds),1⟩)
 | .mk k nm ix l,hs=>by
  have hsl:aS l < 1000000000:=by simp only[Ty.size] at hs;omega
  have hlen:=eh l;have ih:=FD hn l hsl;have hf:=jN (ds:=ds) nm hn;have e:cF ds (.mk k nm ix l)=(!(aQ k 2&&!(fj (aF ds nm)&&aQ (iZ (aF ds nm)).ar (Int.ofNat (ax l).length)))&&!kb ds l):=by
   rw[cF];have e1:oS ds (.mk k nm ix l)=(fj (aF ds nm)&&aQ (iZ (aF ds nm)).ar (Int.ofNat (ax l).length)):=by
    show (match aF ds nm with|some d=>aQ d.ar (Int.ofNat (ax l).length)|none=>false)=_
    cases aF ds nm <;> rfl
   rw[e1]
  rw[e];generalize fj (aF ds nm)=cw at *;generalize iZ (aF ds nm)=o at *;obtain⟨nm2,ar2,⟨k2,tn2,ix2,la2⟩,con2,fl2⟩:=o;refine aaQ (la:=ax la2) (lb:=aN fl2) rfl hf rfl ?_;refine cE (St:=fun i=>(Pn (loK k nm ix (sl (ax l))) (aK ds) (Int.ofNat i)).aw Tryz.f40.ntmps) (fun i=>kb ds l=kb ds (l.drop i)) (ax l).length ?_ ?_ (i:=0) (Nat.zero_le _) rfl
  ·intro i hi hI;obtain⟨t,ht,hm⟩:=get_mem hi;have hd:=F8 (ds:=ds) ht;rw[←hI] at hd;have hsl:=lG hi;have hw:aG .i64 (Int.ofNat i+1)=Int.ofNat (i+1):=bb (by rw[aE] at hi;omega);have hc:=ih t hm;rw[hsl];generalize cF ds t=c at hc hd;refine SS hi ht hc ?_ ?_
   ·rintro rfl;rw[hw];exact⟨rfl,hd⟩
   rintro rfl;refine .inr ⟨rfl,?_,rfl⟩;rw[hd];rfl
  intro hI;refine W8 (.inl ⟨rfl,?_,rfl⟩);rw[hI,aE,List.drop_length,kb];rfl
theorem FD {ds:List aZ} (hn:ds.length < 1000000000):∀l:List Ty,aS l < 1000000000->∀t∈l,KC 40 [rP 0,.dat t.enc] (hF 0 (aK ds)) 1 (XQ ⟨bv (cF ds t),hF 0 (aK ds),1⟩)
 | [],_,t,ht=>by simp at ht
 | x::r,h,t,ht=>by
  simp only[aS] at h
  rcases List.mem_cons.1 ht with h1|ht
  ·rw[h1];exact yi hn x (by omega)
  exact FD hn r (by omega) t ht
end
theorem Om {a b:List aZ} (h:a.length+b.length < 100000000):cj (env au.aI) false 23 [.own (aK a),.dat (.slice (aK b))] none=some ⟨.own (aK (a++b)),.keep⟩:=by
 rw[uD];refine ra (i:=HU) (ds:=aK b) (k:=7) HT rfl tb (ow b) (ow a) (by kernel_rfl) ?_ ?_ ?_ ?_
 ·have h1:HU.bytes<=1000:=fH (by kernel_rfl);rw[bi,bi]
  calc (a.length+b.length)*HU.bytes<=100000000*1000:=Nat.mul_le_mul (by omega) h1
   _<=140737488355328:=by decide
 ·rw[bi,bi];simp[lim];omega
 ·unfold fQ;rw[show aK a++aK b=aK (a++b) by rw[uD],AS]
 simp
theorem Dq {ds:List aZ} (hn:ds.length < 1000000):KC 20 [rP 0] (hF 0 (aK ds)) 1 (XQ ⟨.own (aK ds),hF 0 (aK ds),1⟩):=by
 have h1:=Om (a:=[]) (b:=ds) (by simp;omega);rw[List.nil_append] at h1;have h2:aK ([]:List aZ)=[]:=rfl;rw[h2] at h1;generalize aK ds=es at *;refine co [] [8] (x:=.of Tryz.f20 Q3 SL) ?_;refine oo h1 ?_;exact fi
noncomputable def aaV:Hints:=⟨an,FZ,ap,rowsOf ap 17⟩
def UJ (a b:List aq):Heap:=[(.out 1,.cells [.own b]),(.out 0,.cells [.own a])]
def aeD (cs:List ac) (es:List aq):Heap:=[(.loc 40,.cells [.dat (.slice es)]),(.loc 3,.cells cs)]
def aeE (cs:List ac):Heap:=[(.loc 3,.cells cs)]
def ME (cs:List ac) (es es2:List aq) (i:Int):Nat->ab
 | 0=>⟨[(9,iv i),(8,.ptr (.loc 40) 0),(3,.ptr (.loc 3) 0),(0,rP 0)],aeD cs es2,hF 0 es,1⟩
 | _+1=>⟨[(9,iv i),(8,.ptr (.out 1) 0),(3,.ptr (.loc 3) 0),(0,rP 0)],aeE cs,hF 1 es2++hF 0 es,2⟩
def Pq (cs:List ac) (es es2:List aq) (i:Int):Nat->ab
 | 0=>⟨[(50,bv false),(9,iv i),(8,.ptr (.loc 40) 0),(3,.ptr (.loc 3) 0),(0,rP 0)],aeD cs es2,hF 0 es,1⟩
 | _+1=>⟨[(50,bv false),(9,iv i),(8,.ptr (.out 1) 0),(3,.ptr (.loc 3) 0),(0,rP 0)],aeE cs,hF 1 es2++hF 0 es,2⟩
def Pr (es es2:List aq):ab:=⟨[(4,iv 5)],[],hF 1 es2++hF 0 es,2⟩
theorem qB {g:FuncId} {args args2:List ac} {v:ac} {es es2:List aq} (o m:Nat) (pre post:Heap) (h:KC g args (hF 0 es) 1 (XQ ⟨v,hF 0 es2,1⟩)) (ha:dt 1 args=false) (he:fO (fun _=>o) args=args2) (hv:eN (gv (fun _=>o) 1 m) v=v) :
  KC g args2 (pre++(hF o es++post)) m (XQ ⟨v,pre++(hF o es2++post),m⟩):=by
 have e1:∀(es:List aq) (ρ:Nat->Nat),ρ 0=o->kK ρ (hF 0 es)=hF o es:=by
  intro es ρ h0;simp[hF,kK,mI,rf,fO,eN,h0]
 have hf:=aC.frame h (fun _=>o) (heap:=pre++(hF o es++post)) (rest:=pre++post) (next:=m) (by
  rw[e1 _ _ rfl];rw[←List.append_assoc,←List.append_assoc];exact List.Perm.append_right _ List.perm_append_comm) (by rfl) (by simp[cC,hF,ly,dt,du]) (by rfl) ha
 rw[he] at hf;refine aC.jm hf ?_;rintro v' h' m' ⟨v0,h1,n1,⟨rfl,rfl,rfl⟩,rfl,rfl,rfl⟩;rw[hv,e1 _ _ rfl];refine⟨pre++(hF o es2++post),?_,rfl,rfl,rfl⟩;rw[←List.append_assoc,←List.append_assoc];exact List.Perm.append_right _ List.perm_append_comm
theorem TU {nm nm2:List UInt8} {ar k ix:Int} {A:aq} {con:Bool} {es es2:List aq} {l:List dY} {t:dY} {i:Nat} {c:Bool} (hi:i < (aN l).length) (ht:l[i]?=some t) (hk:KC 40 [rP 1,.dat t.ty.enc] (hF 1 es2++hF 0 es) 2 (XQ ⟨bv c,hF 1 es2++hF 0 es,2⟩)) {T:Exit->aa->Prop}
  (e1:c=true->T .normal ((ME (bU nm ar k nm2 ix A con (.slice (aN l))) es es2 (aG .i64 (Int.ofNat i+1)) 1).aw Tryz.f17.ntmps)) (e2:c=false->T .ret ((Pr es es2).aw Tryz.f17.ntmps)) :
  KD (roundOf Tryz.f17 0) T ((ME (bU nm ar k nm2 ix A con (.slice (aN l))) es es2 (Int.ofNat i) i).aw Tryz.f17.ntmps):=by
 have h1:=bd hi;have h2:=sG ht;generalize aN l=ls at *;clear ht hi;obtain⟨fn,tk,tn,tix,ta⟩:=t
 rcases i with _|i <;>
 ·rcases ta with _|⟨b,d⟩ <;>
  ·refine aB [50] [57] (H:=aaV) (live:=vH) (by kernel_rfl) ?_;refine ob h1 ?_;refine oo h2 ?_;refine oh hk ?_
   cases c
   ·exact oe (e2 rfl)
   exact oe (e1 rfl)
theorem XT {nm nm2:List UInt8} {ar k ix:Int} {A:aq} {con:Bool} {es es2 l:List aq} {T:Exit->aa->Prop} (e:T (.exit 0) ((Pq (bU nm ar k nm2 ix A con (sl l)) es es2 (Int.ofNat l.length) l.length).aw Tryz.f17.ntmps)) :
  KD (roundOf Tryz.f17 0) T ((ME (bU nm ar k nm2 ix A con (sl l)) es es2 (Int.ofNat l.length) l.length).aw Tryz.f17.ntmps):=by
 have h1:=br (i:=l.length) (L:=l.length) (by omega)
 rcases l with _|⟨x,l⟩
 ·refine aB [] [] (H:=aaV) (live:=vH) (by kernel_rfl) ?_;exact oe e
 refine aB [50] [] (H:=aaV) (live:=vH) (by kernel_rfl) ?_;refine ob h1 ?_;exact oe e
def Zg (v:Int) (c0 oex c1 c3 c4 d c6:Bool):Int:=match c0 with
 | false=>v
 | true=>match oex with
  | true=>(match c1 with|true=>0|false=>6)
  | false=>match c3 with
   | false=>8
   | true=>match c4 with
    | false=>5
    | true=>match d with
     | false=>5
     | true=>match c6 with|true=>10|false=>0
def af6 (es es2:List aq) (c0 oex c3 c4 d c6:Bool):List aq:=match c0 with
 | false=>es
 | true=>match oex with
  | true=>es
  | false=>match c3 with
   | false=>es
   | true=>match c4 with
    | false=>es
    | true=>match d with
     | false=>es
     | true=>match c6 with|true=>es|false=>es2
theorem ac2 {nm nm2 onm otn snm stn:List UInt8} {ar k ix oar ok oix sar sk six v:Int} {la lb ola olb sla slb es es2:List aq} {con ocon c0 oex c1 c3 c4 d sc sex:Bool} (h0:ag 57 [.dat (dw nm ar k nm2 ix la con lb)] (iv v)) (hv:aQ v 0=c0)
  (hl:KC 36 [rP 0,.dat (sb nm)] (hF 0 es) 1 (XQ ⟨.tup [.dat (dw onm oar ok otn oix ola ocon olb),bv oex],hF 0 es,1⟩)) (he:ag 37 [.dat (dw onm oar ok otn oix ola ocon olb),.dat (dw nm ar k nm2 ix la con lb)] (bv c1))
  (hn:bn (Int.ofNat es.length) 60=c3) (hd:KC 20 [rP 0] (hF 0 es) 1 (XQ ⟨.own es,hF 0 es,1⟩)) (ha:cj (env au.aI) false 23 [.own es,.dat (.slice [dw nm ar k nm2 ix la con lb])] none=some ⟨.own es2,.keep⟩)
  (hk:KC 40 [rP 0,.dat (.agg [i64 k,sb nm2,i64 ix,sl la])] (hF 0 es) 1 (XQ ⟨bv c4,hF 0 es,1⟩))
  (hlp:KD (.loop (roundOf Tryz.f17 0)) (fun e s=>(e=.exit 0/\d=true/\s=(Pq (bU nm ar k nm2 ix (sl la) con (sl lb)) es es2 (Int.ofNat lb.length) lb.length).aw Tryz.f17.ntmps)∨(e=.ret/\d=false/\s=(Pr es es2).aw Tryz.f17.ntmps)) ((ME (bU nm ar k nm2 ix (sl la) con (sl lb)) es es2 (Int.ofNat 0) 0).aw Tryz.f17.ntmps))
  (hs:KC 36 [rP 0,.dat (sb nm2)] (hF 0 es) 1 (XQ ⟨.tup [.dat (dw snm sar sk stn six sla sc slb),bv sex],hF 0 es,1⟩))
  (hs2:KC 36 [rP 0,.dat (sb nm2)] (hF 1 es2++hF 0 es) 2 (XQ ⟨.tup [.dat (dw snm sar sk stn six sla sc slb),bv sex],hF 1 es2++hF 0 es,2⟩)) :
  KC 17 [rP 0,.dat (dw nm ar k nm2 ix la con lb)] (hF 0 es) 1 (XQ ⟨iv (Zg v c0 oex c1 c3 c4 d (sex&&sc)),hF 0 (af6 es es2 c0 oex c3 c4 d (sex&&sc)),1⟩):=by
 have q1:=uG nm ar k nm2 ix la con lb;have q3:=D1 false 3 nm ar k nm2 ix la con lb;have q5:=iP false 3 nm ar k nm2 ix la con lb;have q6:=iP true 3 nm ar k nm2 ix la con lb;have q4:=cG 6 onm oar ok otn oix ola ocon olb;have q7:=cG 10 snm sar sk stn six sla sc slb
 rcases lb with _|⟨y,lb⟩
 ·refine co [15,33] [3,12,100006,26,36,38,43,100010] (x:=.of Tryz.f17 FZ vH) ?_;refine oo q1 ?_;refine oo q5 ?_;refine on h0 ?_;refine ox hv ?_
  cases c0
  ·exact fi
  refine oh hl ?_;refine oo q4 ?_
  cases oex
  ·refine ox hn ?_
   cases c3
   ·exact fi
   refine oo q5 ?_;refine oh hd ?_;refine oo ha ?_;refine oo q3 ?_;refine oh hk ?_
   cases c4
   ·exact fi
   refine lo hlp ?_;rintro ex s (⟨rfl,rfl,rfl⟩|⟨rfl,rfl,rfl⟩)
   ·refine⟨_,rfl,?_⟩;refine oh hs ?_;refine oo q7 ?_
    cases sex
    ·exact fi
    cases sc <;>
    ·exact fi
   refine⟨_,rfl,?_⟩;exact fi
  refine oo q5 ?_
  rcases ola with _|⟨v2,v3⟩
  ·rcases olb with _|⟨v0,v1⟩ <;>
   ·refine on he ?_
    cases c1 <;>
    ·exact fi
  rcases olb with _|⟨v4,v5⟩ <;>
  ·refine on he ?_
   cases c1 <;>
   ·exact fi
 refine co [15,33] [3,12,100006,26,36,38,43,100010] (x:=.of Tryz.f17 FZ vH) ?_;refine oo q1 ?_;refine oo q5 ?_;refine on h0 ?_;refine ox hv ?_
 cases c0
 ·exact fi
 refine oh hl ?_;refine oo q4 ?_
 cases oex
 ·refine ox hn ?_
  cases c3
  ·exact fi
  refine oo q5 ?_;refine oh hd ?_;refine oo ha ?_;refine oo q3 ?_;refine oh hk ?_
  cases c4
  ·exact fi
  refine lo hlp ?_;rintro ex s (⟨rfl,rfl,rfl⟩|⟨rfl,rfl,rfl⟩)
  ·refine⟨_,rfl,?_⟩;refine oh hs2 ?_;refine oo q7 ?_
   cases sex
   ·exact fi
   cases sc <;>
   ·exact fi
  refine⟨_,rfl,?_⟩;exact fi
 refine oo q5 ?_
 rcases ola with _|⟨v2,v3⟩
 ·rcases olb with _|⟨v0,v1⟩ <;>
  ·refine on he ?_
   cases c1 <;>
   ·exact fi
 rcases olb with _|⟨v4,v5⟩ <;>
 ·refine on he ?_
  cases c1 <;>
  ·exact fi
theorem NM {a b:List aZ} {nm:List UInt8} {o:aZ}:aF a nm=some o->aF (a++b) nm=some o:=by
 induction a with
 | nil=>intro h;simp[aF] at h
 | cons d r ih=>
  intro h;rw[List.cons_append];unfold aF at h ⊢
  split at h
  ·exact h
  exact ih h
theorem Oo {ds:List aZ} {l:List dY} {i:Nat} {f:dY} (h:l[i]?=some f):(l.drop i).any (fun f=>!cF ds f.ty)=(!cF ds f.ty||(l.drop (i+1)).any (fun f=>!cF ds f.ty)):=by rw[dC h,List.any_cons]
theorem XS {ds:List aZ} {nm nm2:List UInt8} {ar k ix:Int} {A B:aq} {con:Bool} {es:List aq} {l:List dY} (hb:B=sl (aN l)) (hn:l.length < 1000000000) (hf:∀f∈l,f.ty.cX) (hds:ds.length < 1000000) :
  KD (.loop (roundOf Tryz.f17 0)) (fun e s=>(e=.exit 0/\(!(l.any (fun f=>!cF ds f.ty)))=true/\s=(Pq (bU nm ar k nm2 ix A con B) es (aK ds) (Int.ofNat (aN l).length) (aN l).length).aw Tryz.f17.ntmps)∨(e=.ret/\(!(l.any (fun f=>!cF ds f.ty)))=false/\s=(Pr es (aK ds)).aw Tryz.f17.ntmps)) ((ME (bU nm ar k nm2 ix A con B) es (aK ds) (Int.ofNat 0) 0).aw Tryz.f17.ntmps):=by
 refine cE (St:=fun i=>(ME (bU nm ar k nm2 ix A con B) es (aK ds) (Int.ofNat i) i).aw Tryz.f17.ntmps) (fun i=>l.any (fun f=>!cF ds f.ty)=(l.drop i).any (fun f=>!cF ds f.ty)) (aN l).length ?_ ?_ (i:=0) (Nat.zero_le _) rfl
 ·intro i hi hI;obtain⟨t,ht,hm⟩:=gx hi;have hd:=Oo (ds:=ds) ht;rw[←hI] at hd;have hw:aG .i64 (Int.ofNat i+1)=Int.ofNat (i+1):=bb (by rw[bc] at hi;omega);have hb2:B=.slice (aN l):=by
   rw[hb]
   cases l with
   | nil=>simp at ht
   | cons x r=>rfl
  subst hb2;have hk:=yi (ds:=ds) (by omega) t.ty (by have:=(hf t hm).1;omega);have hk2:=qB 1 2 [] (hF 0 es) hk (args2:=[rP 1,.dat t.ty.enc]) rfl rfl rfl;refine TU hi ht hk2 ?_ ?_
  ·intro hc;rw[hw];refine⟨rfl,?_⟩;rw[hd,hc];rfl
  intro hc;refine .inr ⟨rfl,?_,rfl⟩;rw[hd,hc];rfl
 intro hI;rw[hb];refine XT (.inl ⟨rfl,?_,rfl⟩);rw[hI,bc,List.drop_length];rfl
theorem TP {ds:List aZ} {d:aZ} (h0:aF ds []=none) :
  (fV ds d).1=Zg d.chk (aQ d.chk 0) (fj (aF ds d.nm)) ((iZ (aF ds d.nm)).eq d) (bn (Int.ofNat (aK ds).length) 60) (cF ds d.sup) (!(d.fl.any (fun f=>!cF (ds++[d]) f.ty))) (fj (aF ds d.sup.nm)&&(iZ (aF ds d.sup.nm)).con) ∧
   aK (fV ds d).2=af6 (aK ds) (aK (ds++[d])) (aQ d.chk 0) (fj (aF ds d.nm)) (bn (Int.ofNat (aK ds).length) 60) (cF ds d.sup) (!(d.fl.any (fun f=>!cF (ds++[d]) f.ty))) (fj (aF ds d.sup.nm)&&(iZ (aF ds d.sup.nm)).con):=by
 unfold fV aZ.chk;rw[bi]
 cases hw:d.wf with
 | false=>exact⟨rfl,rfl⟩
 | true=>
  cases h1:bn 6 d.ar with
  | true=>exact⟨rfl,rfl⟩
  | false=>
   cases h2:bn 6 (Int.ofNat (aN d.fl).length) with
   | true=>exact⟨rfl,rfl⟩
   | false=>
    cases hf:aF ds d.nm with
    | some o=>
     cases h3:o.eq d with
     | true=>exact⟨by simp only[h3,iZ,fj];rfl,by simp only[h3,iZ,fj];rfl⟩
     | false=>exact⟨by simp only[h3,iZ,fj];rfl,by simp only[h3,iZ,fj];rfl⟩
    | none=>
     cases h4:bn (Int.ofNat ds.length) 60 with
     | false=>exact⟨rfl,rfl⟩
     | true=>
      cases h5:cF ds d.sup with
      | false=>exact⟨rfl,rfl⟩
      | true=>
       cases h6:d.fl.any (fun f=>!cF (ds++[d]) f.ty) with
       | true=>exact⟨rfl,rfl⟩
       | false=>
        have hwf:=hw;unfold aZ.wf at hwf;simp only[Bool.and_eq_true] at hwf;have hkd:=hwf.2.2.2.2.1;have hov:=hwf.2.2.2.2.2.1
        cases h7:aQ d.sup.kind 2 with
        | false=>
         rw[h7,Bool.or_false] at hkd;have hs:=Cj hov hkd;rw[hs];rw[show Ty.nm (.mk 0 [] 0 [])=[] from rfl,h0];exact⟨rfl,rfl⟩
        | true=>
         have hsm:∃o,aF ds d.sup.nm=some o:=by
          have hh:=h5;generalize d.sup=su at hh h7 ⊢;obtain⟨kk,nn,ii,ll⟩:=su;rw[cF,Bool.and_eq_true] at hh;have h8:=hh.1;rw[show aQ kk 2=true from h7] at h8;have h9:oS ds (.mk kk nn ii ll)=true:=by
           cases hq:oS ds (.mk kk nn ii ll) with
           | true=>rfl
           | false=>rw[hq] at h8;simp at h8
          unfold oS at h9;dsimp only at h9;show ∃o,aF ds nn=some o
          cases hq:aF ds nn with
          | some o=>exact⟨o,rfl⟩
          | none=>rw[hq] at h9;simp at h9
         obtain⟨o,hso⟩:=hsm;rw[NM hso,hso]
         cases hcon:o.con with
         | true=>exact⟨by simp only[iZ,fj,hcon];rfl,by simp only[iZ,fj,hcon];rfl⟩
         | false=>exact⟨by simp only[iZ,fj,hcon];rfl,by simp only[iZ,fj,hcon];rfl⟩
theorem MZ {ds:List aZ} {d:aZ} (hd:d.cX) (hds:∀o∈ds,o.cX) (hn:ds.length < 1000) (h0:aF ds []=none) :
  KC 17 [rP 0,.dat d.enc] (hF 0 (aK ds)) 1 (XQ ⟨iv (fV ds d).1,hF 0 (aK (fV ds d).2),1⟩):=by
 have hck:=VD hd;have hl:=jN (ds:=ds) d.nm (by omega);have ho:(iZ (aF ds d.nm)).cX:=by
  cases h:aF ds d.nm with
  | none=>exact vd
  | some o=>exact hds o (na h)
 have he:=zN (o:=d) ho;have hdc:=Dq (ds:=ds) (by omega);have ha:=EH (pre:=ds) (t:=d) (by omega);have hk:=yi (ds:=ds) (by omega) d.sup (by have:=hd.1.1;omega);have hs:=jN (ds:=ds) d.sup.nm (by omega);have hs2:=qB 0 2 (hF 1 (aK (ds++[d]))) [] hs (args2:=[rP 0,.dat (sb d.sup.nm)]) rfl rfl rfl;rw[List.append_nil] at hs2;have hlp:=fun nm ar k nm2 ix A con=>XS (ds:=ds++[d]) (nm:=nm) (ar:=ar) (k:=k) (nm2:=nm2) (ix:=ix) (A:=A) (con:=con) (es:=aK ds) (B:=sl (aN d.fl)) rfl hd.2.2 hd.2.1 (by simp;omega)
 have e:=TP (d:=d) h0;rw[e.1,e.2];clear e ho hds h0;generalize (iZ (aF ds d.nm)).eq d=c1 at *;generalize cF ds d.sup=c4 at *;generalize d.chk=v at *;generalize fj (aF ds d.nm)=oex at *;generalize fj (aF ds d.sup.nm)=sex at *;generalize iZ (aF ds d.nm)=o at *;generalize iZ (aF ds d.sup.nm)=so at *;have hlp2:=hlp;clear hlp;generalize (!(d.fl.any (fun f=>!cF (ds++[d]) f.ty)))=c6 at *;generalize aK (ds++[d])=es2 at *;generalize aK ds=es at *;obtain⟨nm,ar,⟨k,tn,ix,la⟩,con,fl⟩:=d;obtain⟨onm,oar,⟨ok,otn,oix,ola⟩,ocon,ofl⟩:=o;obtain⟨snm,sar,⟨sk,stn,six,sla⟩,scon,sfl⟩:=so;exact ac2 hck rfl hl he rfl hdc ha hk (hlp2 _ _ _ _ _ _ _) hs hs2
theorem Nk {α:Type} {c:Code} {T:Exit->aa->Prop} (St:α->aa) (rk:α->Nat) (Inv:α->Prop)
  (round:∀a,Inv a->KD c (iY (fun s=>∃b,s=St b/\Inv b/\rk b < rk a) T) (St a)) {a:α} (h:Inv a):KD (.loop c) T (St a):=by
 refine Sj (I:=fun m s=>∃a,Inv a/\m=rk a/\s=St a) ?_ (m:=rk a) ⟨a,h,rfl,rfl⟩;rintro m s ⟨a,hI,rfl,rfl⟩;refine (round a hI).mono ?_;intro e s hs
 cases e with
 | normal=>
  obtain⟨b,h1,h2,h3⟩:=hs;exact⟨rk b,h3,b,h2,rfl,h1⟩
 | _=>exact hs
structure Up (ds:List aZ):Prop where
 up:∀(i:Nat) (d:aZ),ds[i]?=some d->aQ d.sup.kind 2=true->∃j,gH ds d.sup.nm=some j/\j < i
 nv:∀d∈ds,aQ d.sup.kind 5=false
theorem KW {ds:List aZ} {nm:List UInt8} {p:Nat} (h:gH ds nm=some p):p < ds.length:=by
 obtain⟨d,hd,_⟩:=iK h
 rcases Nat.lt_or_ge p ds.length with h|h
 ·exact h
 rw[List.getElem?_eq_none h] at hd;simp at hd
theorem N5 {ds:List aZ} {t:Ty} (h:oS ds t=true):∃p d,gH ds t.nm=some p/\ds[p]?=some d/\aF ds t.nm=some d/\aQ d.ar (Int.ofNat (ax t.args).length)=true:=by
 obtain⟨k,nm,ix,l⟩:=t
 cases hp:gH ds nm with
 | none=>
  have h2:oS ds (.mk k nm ix l)=(match aF ds nm with|some d=>aQ d.ar (Int.ofNat (ax l).length)|none=>false):=rfl;rw[h2,qC hp] at h;simp at h
 | some p=>
  obtain⟨d,h1,h2,_⟩:=iK hp;have h3:oS ds (.mk k nm ix l)=(match aF ds nm with|some d=>aQ d.ar (Int.ofNat (ax l).length)|none=>false):=rfl;rw[h3,h2] at h;exact⟨p,d,hp,h1,h2,h⟩
theorem Hg {ds:List aZ} (hds:∀o∈ds,o.cX) (nm:List UInt8):(iZ (aF ds nm)).cX:=by
 cases h:aF ds nm with
 | none=>exact vd
 | some o=>exact hds o (na h)
abbrev eB (g:FuncId) (args:List ac) (es:List aq) (v:ac):Prop:=KC g args (hF 0 es) 1 (XQ ⟨v,hF 0 es,1⟩)
def G7:List aZ->List aZ->Bool
 | f::r,g::s=>f.eq g&&G7 r s
 | _,_=>true
def vX (a b:List aZ):Bool:=aQ (Int.ofNat (aK a).length) (Int.ofNat (aK b).length)&&G7 a b
noncomputable def hDs:Hints:=⟨an,Lh,ap,rowsOf ap 18⟩
def Pp (a b:List aq) (i:Int):ab:=⟨[(5,iv i),(0,.dat (.slice a)),(1,.dat (.slice b))],[],[],0⟩
def YF (a b:List aq) (i:Int):ab:=⟨[(14,bv false),(5,iv i),(0,.dat (.slice a)),(1,.dat (.slice b))],[],[],0⟩
def YG:ab:=⟨[(4,bv false)],[],[],0⟩
theorem NX {a b:List aZ} {t u:aZ} {i:Nat} {c:Bool} {T:Exit->aa->Prop} (hi:i < (aK a).length) (ht:a[i]?=some t) (hu:b[i]?=some u) (hc:ag 37 [.dat t.enc,.dat u.enc] (bv c))
  (e1:c=true->T .normal ((Pp (aK a) (aK b) (aG .i64 (Int.ofNat i+1))).aw Tryz.f18.ntmps)) (e2:c=false->T .ret (YG.aw Tryz.f18.ntmps)) :
  KD (roundOf Tryz.f18 0) T ((Pp (aK a) (aK b) (Int.ofNat i)).aw Tryz.f18.ntmps):=by
 have h1:=bd hi;have h2:=uh ht;have h3:=uh hu;generalize aK a=es at *;generalize aK b=es2 at *;clear ht hi hu;obtain⟨dn,ar,⟨k,tn,ix,la⟩,con,fl⟩:=t;obtain⟨dn2,ar2,⟨k2,tn2,ix2,la2⟩,con2,fl2⟩:=u;refine aB [14] [19,23] (H:=hDs) (live:=DU) (by kernel_rfl) ?_;refine ob h1 ?_;refine oo h2 ?_;refine oo h3 ?_;refine on hc ?_
 cases c
 ·exact oe (e2 rfl)
 exact oe (e1 rfl)
theorem TH {a b:List aq} {T:Exit->aa->Prop} (e:T (.exit 0) ((YF a b (Int.ofNat a.length)).aw Tryz.f18.ntmps)) :
  KD (roundOf Tryz.f18 0) T ((Pp a b (Int.ofNat a.length)).aw Tryz.f18.ntmps):=by
 have h1:=br (i:=a.length) (L:=a.length) (by omega);refine aB [14] [] (H:=hDs) (live:=DU) (by kernel_rfl) ?_;refine ob h1 ?_;exact oe e
theorem XL {a b:List aq} {c d:Bool} (h1:aQ (Int.ofNat a.length) (Int.ofNat b.length)=c)
  (hl:c=true->KD (.loop (roundOf Tryz.f18 0)) (fun e s=>(e=.exit 0/\d=true/\s=(YF a b (Int.ofNat a.length)).aw Tryz.f18.ntmps)∨(e=.ret/\d=false/\s=YG.aw Tryz.f18.ntmps)) ((Pp a b (Int.ofNat 0)).aw Tryz.f18.ntmps)) :
  ag 18 [.dat (.slice a),.dat (.slice b)] (bv (c&&d)):=by
 refine co [10] [] (x:=.of Tryz.f18 Lh DU) ?_;refine ox h1 ?_
 cases c
 ·exact fi
 refine lo (hl rfl) ?_;rintro ex s (⟨rfl,rfl,rfl⟩|⟨rfl,rfl,rfl⟩) <;>
 ·refine⟨_,rfl,?_⟩;exact fi
theorem NT {l l2:List aZ} {i:Nat} {t u:aZ} (ht:l[i]?=some t) (hu:l2[i]?=some u):G7 (l.drop i) (l2.drop i)=(t.eq u&&G7 (l.drop (i+1)) (l2.drop (i+1))):=by rw[dC ht,dC hu];rfl
theorem MY {a b:List aZ} (ha:∀d∈a,d.cX) (hn:a.length < 1000000):ag 18 [.dat (.slice (aK a)),.dat (.slice (aK b))] (bv (vX a b)):=by
 refine XL rfl ?_;intro hc;have hlen:a.length=b.length:=by
  rw[bi,bi] at hc;exact Int.ofNat.inj (gU hc)
 refine cE (St:=fun i=>(Pp (aK a) (aK b) (Int.ofNat i)).aw Tryz.f18.ntmps) (fun i=>G7 a b=G7 (a.drop i) (b.drop i)) (aK a).length ?_ ?_ (i:=0) (Nat.zero_le _) rfl
 ·intro i hi hI;obtain⟨t,ht,hm⟩:=lY hi;have hi2:=hi;rw[bi] at hi2;have hu:b[i]?=some b[i]:=List.getElem?_eq_getElem (by omega);generalize b[i]=u at hu;have hd:=NT ht hu;rw[←hI] at hd;have hw:aG .i64 (Int.ofNat i+1)=Int.ofNat (i+1):=bb (by omega);refine NX hi ht hu (zN (ha t hm)) ?_ ?_
  ·intro hc;rw[hw];rw[hc,Bool.true_and] at hd;exact⟨rfl,hd⟩
  intro hc;rw[hc,Bool.false_and] at hd;exact .inr ⟨rfl,hd,rfl⟩
 intro hI;refine TH (.inl ⟨rfl,?_,rfl⟩);rw[hI,bi,List.drop_length]
 cases b.drop a.length <;> rfl
theorem NS (a:List aZ):vX a a=true:=by
 have h:∀l:List aZ,G7 l l=true:=by
  intro l
  induction l with
  | nil=>rfl
  | cons x r ih=>rw[G7,ih,aZ.eq_iff.2 rfl];rfl
 unfold vX;rw[h a,ep];rfl
theorem IZ {g:FuncId} {args args2:List ac} {v:ac} {h:Heap} {n:Nat} (m:Nat) (heap:Heap) (hc:KC g args [] 0 (XQ ⟨v,h,n⟩)) (ha:dt 0 args=false) (he:fO (fun o=>o) args=args2) :
  KC g args2 heap m (XQ ⟨eN (fun o=>m+o) v,kK (fun o=>m+o) h++heap,m+n⟩):=by
 have hf:=aC.frame hc (fun o=>o) (heap:=heap) (rest:=heap) (next:=m) (List.Perm.refl _) rfl rfl rfl ha;rw[he] at hf;refine hf.mono ?_;rintro v' h' m' ⟨v0,h1,n1,⟨rfl,rfl,rfl⟩,rfl,rfl,rfl⟩;have e:gv (fun o=>o) 0 m=fun o=>m+o:=by
  funext o
  show (match Nat.blt o 0 with|true=>o|false=>m+(o - 0))=m+o;rfl
 rw[e];exact⟨rfl,rfl,rfl⟩
theorem VE:KC 45 [] (hH 2 cT []) 3 (XQ ⟨rP 3,hF 3 (aK cT)++hH 2 cT [],4⟩):=IZ 3 (hH 2 cT []) aev rfl rfl
def M0:Nat->Nat
 | 0=>2
 | i+1=>i+4
theorem N7 {x:aq} {ds ds2:List aZ} {tl tl2:List aq} {c:Int} (r m:Nat) (pre post:Heap) (h:KC 16 [hP,.dat x] (hH 2 ds tl) 3 (XQ ⟨iv c,hH 3 ds2 tl2,4⟩)) :
  KC 16 [hP,.dat x] (pre++(hH r ds tl++post)) m (XQ ⟨iv c,pre++(hH m ds2 tl2++post),m+1⟩):=by
 have e1:∀(cs:List aq) (es:List (Go.Value×aq)) (n q:Nat) (ρ:Nat->Nat),ρ 0=0->ρ 1=1->kK ρ (hG q (av cs) es n)=hG (ρ q) (av cs) es n:=by
  intro cs es n q ρ h0 h1;simp[hG,kK,mI,rf,rW,fO,eN,h0,h1]
 have hf:=aC.frame h (Ov r) (heap:=pre++(hH r ds tl++post)) (rest:=pre++post) (next:=m) (by
  unfold hH;rw[e1 _ _ _ _ _ rfl rfl];rw[←List.append_assoc,←List.append_assoc];exact List.Perm.append_right _ List.perm_append_comm) (by rfl) (by simp[cC,hH,hG,ly,jD,dt,du];exact⟨rfl,rfl⟩) (by rfl) (by rfl)
 rw[show fO (Ov r) [hP,.dat x]=[hP,.dat x] from rfl] at hf;refine aC.jm hf ?_;rintro v' h' m' ⟨v0,h1,n1,⟨rfl,rfl,rfl⟩,rfl,rfl,rfl⟩;unfold hH;rw[e1 _ _ _ _ _ rfl rfl];refine⟨pre++(hG m (av (bL ds2++tl2)) (bH ds2 0) ds2.length++post),?_,rfl,?_,rfl⟩
 ·rw[←List.append_assoc,←List.append_assoc];exact List.Perm.append_right _ List.perm_append_comm
 rfl
theorem TR {d:aZ} {ds ds2:List aZ} {tl tl2:List aq} {c:Int} (r m:Nat) (pre post:Heap) (h:KC 16 [hP,.dat d.enc] (hH 2 ds tl) 3 (XQ ⟨iv c,hH 3 ds2 tl2,4⟩)) :
  KC 16 [hP,.dat d.enc] (pre++(hH r ds tl++post)) m (XQ ⟨iv c,pre++(hH m ds2 tl2++post),m+1⟩):=N7 r m pre post h
noncomputable def hHs:Hints:=⟨an,Lj,ap,rowsOf ap 10⟩
def Bw (l:List aq) (H:Heap) (m:Nat) (i:Int):ab:=⟨[(7,iv i),(6,rP 3),(5,hP),(0,.dat (.slice l))],[],H,m⟩
def Kz (l:List aq) (H:Heap) (m:Nat) (i:Int):ab:=⟨[(16,bv false),(7,iv i),(6,rP 3),(5,hP),(0,.dat (.slice l))],[],H,m⟩
theorem SY {l:List aq} {d:aZ} {i:Nat} {c:Int} {H1 H2 H3:Heap} {m1 m2 m3:Nat} (h1:bn (Int.ofNat i) (Int.ofNat l.length)=true) (h2:aJ (env au.aI) 23 [.dat (.slice l),.dat (.flat (.int .i64 (Int.ofNat i)))]=some ⟨.ref d.cells,.keep⟩)
  (hd:KC 16 [hP,.dat d.enc] H1 m1 (XQ ⟨iv c,H2,m2⟩)) (hr:KC 17 [rP 3,.dat d.enc] H2 m2 (XQ ⟨iv c,H3,m3⟩)) {T:Exit->aa->Prop}
  (e:T .normal ((Bw l H3 m3 (aG .i64 (Int.ofNat i+1))).aw Tryz.f10.ntmps)) :
  KD (roundOf Tryz.f10 0) T ((Bw l H1 m1 (Int.ofNat i)).aw Tryz.f10.ntmps):=by
 obtain⟨dn,ar,⟨k,tn,ix,la⟩,con,fl⟩:=d;have h3:aQ c c=true:=ep c;refine aB [16,31] [22,28] (H:=hHs) (live:=DY) (by kernel_rfl) ?_;refine ob h1 ?_;refine oo h2 ?_;refine oo h2 ?_;refine oh hd ?_;refine oh hr ?_;refine ox h3 ?_;exact oe e
theorem Xh {l:List aq} {H:Heap} {m:Nat} {T:Exit->aa->Prop} (e:T (.exit 0) ((Kz l H m (Int.ofNat l.length)).aw Tryz.f10.ntmps)) :
  KD (roundOf Tryz.f10 0) T ((Bw l H m (Int.ofNat l.length)).aw Tryz.f10.ntmps):=by
 have h1:=br (i:=l.length) (L:=l.length) (by omega);refine aB [16] [] (H:=hHs) (live:=DY) (by kernel_rfl) ?_;refine ob h1 ?_;exact oe e
theorem aaU {l bs es2:List aq} {H:Heap} {m:Nat}
  (h1:KC 44 [] [] 0 (XQ ⟨hP,hH 2 cT [],3⟩)) (h2:KC 45 [] (hH 2 cT []) 3 (XQ ⟨rP 3,hF 3 bs++hH 2 cT [],4⟩))
  (hl:KD (.loop (roundOf Tryz.f10 0)) (fun e s=>e=.exit 0/\s=(Kz l H m (Int.ofNat l.length)).aw Tryz.f10.ntmps) ((Bw l (hF 3 bs++hH 2 cT []) 4 (Int.ofNat 0)).aw Tryz.f10.ntmps))
  (h3:KC 19 [hP] H m (XQ ⟨.own es2,H,m⟩)) (h4:KC 20 [rP 3] H m (XQ ⟨.own es2,H,m⟩)) (h5:ag 18 [.dat (.slice es2),.dat (.slice es2)] (bv true)) :
  KC 10 [.dat (.slice l)] [] 0 (XQ ⟨.tup [hP,rP 3,bv true],H,m⟩):=by
 unfold hH at h1 h2 hl;generalize bL cT++[]=cs at *;generalize bH cT 0=es at *;generalize cT.length=n at *;refine aY [] [] (x:=fL.of Tryz.f10 Lj DY) (by kernel_rfl) ?_;refine oh h1 ?_;refine oh h2 ?_;refine lo hl ?_;rintro ex s ⟨rfl,rfl⟩;refine⟨_,rfl,?_⟩;refine oh h3 ?_;refine oh h4 ?_;refine on h5 ?_;exact fi
def eU (l:List aZ):List aZ:=l.foldl (fun ds d=>(fV ds d).2) cT
theorem ng {l:List aZ} {i:Nat} {d:aZ} (h:l[i]?=some d):eU (l.take (i+1))=(fV (eU (l.take i)) d).2:=by
 rw[dZ h];unfold eU;rw[List.foldl_append];rfl
theorem qe (ds:List aZ) (d:aZ):(fV ds d).2=ds∨((fV ds d).2=ds++[d]/\d.wf=true):=by
 unfold fV
 cases hw:d.wf with
 | false=>exact .inl rfl
 | true=>
  cases bn 6 d.ar with
  | true=>exact .inl rfl
  | false=>
   cases bn 6 (Int.ofNat (aN d.fl).length) with
   | true=>exact .inl rfl
   | false=>
    cases aF ds d.nm with
    | some o=>dsimp only;cases o.eq d <;> exact .inl rfl
    | none=>
     cases bn (Int.ofNat ds.length) 60 with
     | false=>exact .inl rfl
     | true=>
      cases cF ds d.sup with
      | false=>exact .inl rfl
      | true=>
       cases d.fl.any (fun f=>!cF (ds++[d]) f.ty) with
       | true=>exact .inl rfl
       | false=>
        cases aQ d.sup.kind 2 with
        | false=>exact .inr ⟨rfl,rfl⟩
        | true=>
         dsimp only
         cases (iZ (aF (ds++[d]) d.sup.nm)).con with
         | true=>exact .inl rfl
         | false=>exact .inr ⟨rfl,rfl⟩
structure HOk (ds:List aZ):Prop where
 cX:∀o∈ds,o.cX
 nm:∀o∈ds,isIdent o.nm=true
 ne:ds≠[]
theorem HOk.none {ds:List aZ} (h:HOk ds):aF ds []=none:=by
 cases hf:aF ds [] with
 | none=>rfl
 | some o=>
  have hm:=na hf;have hi:=h.nm o hm;have key:∀{l:List aZ} {o:aZ},aF l []=some o->o.nm=[]:=by
   intro l
   induction l with
   | nil=>intro o h;simp[aF] at h
   | cons d r ih=>
    intro o h;unfold aF at h
    split at h
    ·rename_i he;simp at h;subst h;exact (mz he).symm
    exact ih h
  rw[key hf] at hi;simp[isIdent] at hi
theorem Oh:HOk cT where
 cX:=by
  intro o ho;simp only[cT,gw,List.map_cons,List.map_nil,List.mem_cons,List.mem_nil_iff,or_false] at ho
  rcases ho with rfl|rfl|rfl|rfl <;> exact⟨⟨by simp[sO,Ty.size,aS],by simp[sO,Ty.eX,dE,aQ]⟩,by simp[sO],by simp[sO]⟩
 nm:=by
  intro o ho;simp only[cT,gw,List.map_cons,List.map_nil,List.mem_cons,List.mem_nil_iff,or_false] at ho
  rcases ho with rfl|rfl|rfl|rfl <;> decide
 ne:=by simp[cT,gw]
theorem HOk.step {ds:List aZ} (h:HOk ds) {d:aZ} (hd:d.cX):HOk (fV ds d).2:=by
 rcases qe ds d with e|⟨e,hw⟩
 ·rw[e];exact h
 rw[e];refine⟨?_,?_,by simp⟩
 ·intro o ho
  rcases List.mem_append.1 ho with ho|ho
  ·exact h.cX o ho
  rw[List.mem_singleton.1 ho];exact hd
 intro o ho
 rcases List.mem_append.1 ho with ho|ho
 ·exact h.nm o ho
 rw[List.mem_singleton.1 ho];unfold aZ.wf at hw;rw[Bool.and_eq_true] at hw;exact hw.1
theorem AT:∀(i:Nat) (l:List aZ),(eU (l.take i)).length<=4+i:=by
 intro i l
 induction i with
 | zero=>simp[eU,cT,gw]
 | succ i ih=>
  cases hg:l[i]? with
  | none=>rw[List.take_of_length_le (by have:=List.getElem?_eq_none_iff.1 hg;omega)];rw[List.take_of_length_le (by have:=List.getElem?_eq_none_iff.1 hg;omega)] at ih;omega
  | some d=>
   rw[ng hg]
   rcases qe (eU (l.take i)) d with e|⟨e,_⟩
   ·rw[e];omega
   rw[e,List.length_append,List.length_singleton];omega
theorem El {l:List aZ} (hl:∀d∈l,d.cX):∀i:Nat,HOk (eU (l.take i)):=by
 intro i
 induction i with
 | zero=>exact Oh
 | succ i ih=>
  cases hg:l[i]? with
  | none=>rw[List.take_of_length_le (by have:=List.getElem?_eq_none_iff.1 hg;omega)];rw[List.take_of_length_le (by have:=List.getElem?_eq_none_iff.1 hg;omega)] at ih;exact ih
  | some d=>rw[ng hg];exact ih.step (hl d (List.mem_of_getElem? hg))
theorem Xg {l:List aZ} (hl:∀d∈l,d.cX) (hn:l.length < 900):∃tl:List aq,
  KD (.loop (roundOf Tryz.f10 0)) (fun e s=>e=.exit 0/\s=(Kz (aK l) (hF 3 (aK (eU l))++hH (M0 l.length) (eU l) tl) (4+l.length) (Int.ofNat (aK l).length)).aw Tryz.f10.ntmps) ((Bw (aK l) (hF 3 (aK cT)++hH 2 cT []) 4 (Int.ofNat 0)).aw Tryz.f10.ntmps):=by
 obtain⟨f,f0,fI,fR⟩:=T5 (α:=List aq) (n:=l.length) (Inv:=fun _ _=>True)
  (R:=fun i a b=>∀T:Exit->aa->Prop,T .normal ((Bw (aK l) (hF 3 (aK (eU (l.take (i+1))))++hH (M0 (i+1)) (eU (l.take (i+1))) b) (4+(i+1)) (Int.ofNat (i+1))).aw Tryz.f10.ntmps)->
   KD (roundOf Tryz.f10 0) T ((Bw (aK l) (hF 3 (aK (eU (l.take i)))++hH (M0 i) (eU (l.take i)) a) (4+i) (Int.ofNat i)).aw Tryz.f10.ntmps))
  [] trivial (by
   intro i a hi _;have hg:l[i]?=some l[i]:=List.getElem?_eq_getElem hi;have hm:l[i]∈l:=List.getElem_mem hi;generalize l[i]=d at hg hm;have hlen:=AT i l;have hok:=El hl i;obtain⟨b,hc⟩:=Oe (tl:=a) (hl d hm) hok.cX (by omega);refine⟨b,?_,trivial⟩;intro T hT;have h1:=TR (M0 i) (4+i) (hF 3 (aK (eU (l.take i)))) [] hc;simp only[List.append_nil] at h1;have h2:=qB 3 (4+i+1) [] (hH (4+i) (fV (eU (l.take i)) d).2 b) (MZ (hl d hm) hok.cX (by omega) hok.none) (args2:=[rP 3,.dat d.enc]) rfl rfl rfl;simp only[List.nil_append] at h2;refine SY (gq (by rw[bi];exact hi)) (uh hg) h1 h2 ?_;rw[bb (by omega)];rw[ng hg] at hT;rw[show M0 (i+1)=4+i by show i+4=4+i;omega] at hT;exact hT)
 refine⟨f l.length,?_⟩;have e0:Bw (aK l) (hF 3 (aK cT)++hH 2 cT []) 4 (Int.ofNat 0)=Bw (aK l) (hF 3 (aK (eU (l.take 0)))++hH (M0 0) (eU (l.take 0)) (f 0)) (4+0) (Int.ofNat 0):=by rw[f0];rfl
 rw[e0];refine ba (St:=fun i=>(Bw (aK l) (hF 3 (aK (eU (l.take i)))++hH (M0 i) (eU (l.take i)) (f i)) (4+i) (Int.ofNat i)).aw Tryz.f10.ntmps) l.length ?_ ?_ (i:=0) (Nat.zero_le _)
 ·intro i hi;exact fR i hi _ rfl
 have e1:=Xh (l:=aK l) (H:=hF 3 (aK (eU l))++hH (M0 l.length) (eU l) (f l.length)) (m:=4+l.length) (T:=iY (fun _=>False) (fun e s=>e=.exit 0/\s=(Kz (aK l) (hF 3 (aK (eU l))++hH (M0 l.length) (eU l) (f l.length)) (4+l.length) (Int.ofNat (aK l).length)).aw Tryz.f10.ntmps)) ⟨rfl,rfl⟩;rw[bi] at e1;rw[List.take_length];rw[bi];exact e1
theorem PU {args:List ac} {g:FuncId} {c:Bool} {bs cs:List aq} {es:List (Go.Value×aq)} {n k m:Nat} (h:KC g args [] 0 (XQ ⟨.tup [hP,rP 3,bv c],hF 3 bs++hG (M0 k) (av cs) es n,m⟩)) :
  KC g args [] 0 (XQ ⟨.tup [hP,rP 3,bv c],hF 3 bs++hG 2 (av cs) es n,4⟩):=by
 refine aC.rn h ?_;rintro v hp m' ⟨rfl,rfl,rfl⟩;have hr:∃r,r=M0 k/\Nat.beq r 0=false/\Nat.beq 0 r=false/\Nat.beq r 1=false/\Nat.beq 1 r=false/\Nat.beq r 3=false/\Nat.beq 3 r=false/\Nat.beq r r=true/\Nat.blt r 0=false:=by
  cases k with
  | zero=>exact⟨2,rfl,rfl,rfl,rfl,rfl,rfl,rfl,rfl,rfl⟩
  | succ k=>exact⟨k+4,rfl,rfl,rfl,rfl,rfl,rfl,rfl,Nat.beq_refl _,rfl⟩
 obtain⟨r,e,h1,h2,h3,h4,h5,h6,h7,h8⟩:=hr;rw[←e];have g1:Nat.blt 0 0=false:=rfl;have g2:Nat.blt 1 0=false:=rfl;have g3:Nat.blt 3 0=false:=rfl;have g4:Nat.beq 0 0=true:=rfl;have g5:Nat.beq 1 0=false:=rfl;have g6:Nat.beq 3 0=false:=rfl;have g7:Nat.beq 1 1=true:=rfl;have g8:Nat.beq 3 1=false:=rfl;have g9:Nat.beq 3 3=true:=rfl;have ga:Nat.beq 0 1=false:=rfl;have gb:Nat.beq 0 3=false:=rfl;have gc:Nat.beq 1 3=false:=rfl;have k0:dP 0 [0,1,r,3] 0=true:=rfl;have k1:dP 0 [0,1,r,3] 1=true:=rfl;have k3:dP 0 [0,1,r,3] 3=true:=by simp only[dP,gI,h1,h2,h3,h4,h5,h6,h7,h8,g1,g2,g3,g4,g5,g6,g7,g8,g9,ga,gb,gc,Bool.false_or]
 have kr:dP 0 [0,1,r,3] r=true:=by simp only[dP,gI,h1,h2,h3,h4,h5,h6,h7,h8,g1,g2,g3,g4,g5,g6,g7,g8,g9,ga,gb,gc,Bool.false_or]
 have q0:kj 0 [0,1,r,3] 0=0:=rfl;have q1:kj 0 [0,1,r,3] 1=1:=rfl;have q3:kj 0 [0,1,r,3] 3=3:=by simp only[kj,gI,oX,h1,h2,h3,h4,h5,h6,h7,h8,g1,g2,g3,g4,g5,g6,g7,g8,g9,ga,gb,gc]
 have qr:kj 0 [0,1,r,3] r=2:=by simp only[kj,gI,oX,h1,h2,h3,h4,h5,h6,h7,h8,g1,g2,g3,g4,g5,g6,g7,g8,g9,ga,gb,gc]
 have er:bI (dP 0 [0,1,r,3]) (hF 3 bs++hG r (av cs) es n)=hF 3 bs++hG r (av cs) es n:=by
  simp only[hF,hG,List.cons_append,List.nil_append,bI,k0,k1,k3,kr]
 refine⟨[0,1,r,3],?_,?_,?_⟩
 ·simp only[Bv,gR,hP,rP,bv,k1,k3,Bool.and_self]
 ·rw[er];simp only[hF,hG,List.cons_append,List.nil_append,F6,IW,gR,Bv,yn,k0,k1,k3,kr,Bool.and_self]
 rw[er];simp only[XQ,hF,hG,List.cons_append,List.nil_append,kK,mI,rf,fO,eN,rW,q0,q1,q3,qr,hP,rP,bv];exact⟨trivial,trivial,rfl⟩
theorem Xr {l:List aZ} (hl:∀d∈l,d.cX) (hn:l.length < 900):∃tl:List aq,KC 10 [.dat (.slice (aK l))] [] 0 (XQ ⟨.tup [hP,rP 3,bv true],hF 3 (aK (eU l))++hH 2 (eU l) tl,4⟩):=by
 obtain⟨tl,hlp⟩:=Xg hl hn;have hok:=El hl l.length;have hlen:=AT l.length l;rw[List.take_length] at hok hlen;have h3:=X6 (M0 l.length) (4+l.length) (hF 3 (aK (eU l))) (ds:=eU l) (tl:=tl) hok.cX (by omega);have eo:FR (eU l)=.own (aK (eU l)):=by
  have:=hok.ne
  cases hd:eU l with
  | nil=>rw[hd] at this;exact absurd rfl this
  | cons x r=>rfl
 rw[eo] at h3;have h4:=qB 3 (4+l.length) [] (hH (M0 l.length) (eU l) tl) (Dq (ds:=eU l) (by omega)) (args2:=[rP 3]) rfl rfl rfl;simp only[List.nil_append] at h4;have h5:=MY (a:=eU l) (b:=eU l) hok.cX (by omega);rw[NS] at h5;exact⟨tl,PU (aaU agc VE hlp h3 h4 h5)⟩
theorem N6 (ds:List aZ) (d:aZ):(fV ds d).2=ds∨((fV ds d).2=ds++[d]/\d.wf=true/\cF ds d.sup=true/\aF ds d.nm=none/\d.fl.any (fun f=>!cF (ds++[d]) f.ty)=false):=by
 unfold fV
 cases hw:d.wf with
 | false=>exact .inl rfl
 | true=>
  cases bn 6 d.ar with
  | true=>exact .inl rfl
  | false=>
   cases bn 6 (Int.ofNat (aN d.fl).length) with
   | true=>exact .inl rfl
   | false=>
    cases hf:aF ds d.nm with
    | some o=>dsimp only;cases o.eq d <;> exact .inl rfl
    | none=>
     cases bn (Int.ofNat ds.length) 60 with
     | false=>exact .inl rfl
     | true=>
      cases hk:cF ds d.sup with
      | false=>exact .inl rfl
      | true=>
       cases ha:d.fl.any (fun f=>!cF (ds++[d]) f.ty) with
       | true=>exact .inl rfl
       | false=>
        cases aQ d.sup.kind 2 with
        | false=>exact .inr ⟨rfl,rfl,rfl,rfl,rfl⟩
        | true=>
         dsimp only
         cases (iZ (aF (ds++[d]) d.sup.nm)).con with
         | true=>exact .inl rfl
         | false=>exact .inr ⟨rfl,rfl,rfl,rfl,rfl⟩
theorem zS {d:aZ}:∀{ds:List aZ} {nm:List UInt8} {j:Nat},gH ds nm=some j->gH (ds++[d]) nm=some j
 | [],nm,j,h=>by simp[gH] at h
 | x::r,nm,j,h=>by
  rw[List.cons_append];unfold gH at h ⊢
  cases he:dv nm x.nm with
  | true=>rw[he] at h;exact h
  | false=>
   rw[he] at h;simp only[Option.map_eq_some_iff] at h ⊢;obtain⟨k,hk,rfl⟩:=h;exact⟨k,zS hk,rfl⟩
theorem Of:Up cT where
 up:=by
  intro i d h hk;have hm:=List.mem_of_getElem? h;simp only[cT,gw,List.map_cons,List.map_nil,List.mem_cons,List.mem_nil_iff,or_false] at hm
  rcases hm with rfl|rfl|rfl|rfl <;> exact absurd hk (by decide)
 nv:=by
  intro d hm;simp only[cT,gw,List.map_cons,List.map_nil,List.mem_cons,List.mem_nil_iff,or_false] at hm
  rcases hm with rfl|rfl|rfl|rfl <;> decide
theorem Jh {ds:List aZ} {t:Ty} (h:cF ds t=true) (hk:aQ t.kind 2=true):oS ds t=true:=by
 obtain⟨k,nm,ix,l⟩:=t;have hk:aQ k 2=true:=hk;rw[cF,hk] at h
 cases hd:oS ds (.mk k nm ix l) with
 | true=>rfl
 | false=>rw[hd] at h;simp at h
theorem Up.step {ds:List aZ} (h:Up ds) (d:aZ):Up (fV ds d).2:=by
 rcases N6 ds d with e|⟨e,hw,hk,_,_⟩
 ·rw[e];exact h
 rw[e];refine⟨?_,?_⟩
 ·intro i o ho hk2
  rcases Nat.lt_or_ge i ds.length with hi|hi
  ·rw[List.getElem?_append_left hi] at ho;obtain⟨j,h1,h2⟩:=h.up i o ho hk2;exact⟨j,zS h1,h2⟩
  rw[List.getElem?_append_right hi] at ho
  cases hx:i - ds.length with
  | succ m=>rw[hx] at ho;simp at ho
  | zero=>
   rw[hx] at ho;simp at ho;subst ho;obtain⟨p,d2,h1,h2,_,_⟩:=N5 (Jh hk hk2);exact⟨p,zS h1,by have:=KW h1;omega⟩
 intro o ho
 rcases List.mem_append.1 ho with ho|ho
 ·exact h.nv o ho
 rw[List.mem_singleton.1 ho];unfold aZ.wf at hw;simp only[Bool.and_eq_true,Bool.or_eq_true] at hw;obtain⟨_,_,_,_,h0,_⟩:=hw
 rcases h0 with h0|h0 <;> rw[gU h0] <;> rfl
theorem XM (l:List aZ):∀i:Nat,Up (eU (l.take i)):=by
 intro i
 induction i with
 | zero=>exact Of
 | succ i ih=>
  cases hg:l[i]? with
  | none=>rw[List.take_of_length_le (by have:=List.getElem?_eq_none_iff.1 hg;omega)];rw[List.take_of_length_le (by have:=List.getElem?_eq_none_iff.1 hg;omega)] at ih;exact ih
  | some d=>rw[ng hg];exact ih.step d
theorem TJ (l:List aZ):Up (eU l):=by
 have h:=XM l l.length;rw[List.take_length] at h;exact h
def VZ:Ty:=.mk 2 [76,105,115,116] 0 [.mk 5 [] 0 []]
def Sh:List Bt:=[⟨119,[.dat VZ.enc],.dat (sl (VZ.fv.map iN))⟩]
theorem Sg:∀m∈Sh,m.ok=true/\KC m.fn m.args [] 0 (XQ ⟨m.val,[],0⟩):=by
 intro m hm;rw[List.mem_singleton.1 hm];exact⟨rfl,Bb (by simp[VZ,Ty.size,aS]) (by simp[VZ,Ty.eX,dE,aQ,bn])⟩
noncomputable def X2:jB:=AO (env au.aI) cJ an ap JG.find (sq Sh) 3000 60
theorem agh:HI Tryz.prog cJ X2:=fun f args heap next r h=>pV 3000 G8 um (M:=sq Sh) (Ch Sg) 60 f args heap next r h
theorem X5:ag 11 [] (bv true):=agh _ _ _ _ _ (by kernel_rfl)
def jW (o:Nat) (l:List aq) (k:Int):Heap:=[(.out o,.cells [.dat (.slice l),iv k])]
theorem U7 {g:FuncId} {args args2:List ac} {v:ac} {l:List aq} {k k2:Int} (o m:Nat) (H:Heap) (h:KC g args (fy l k) 1 (XQ ⟨v,fy l k2,1⟩)) (ha:dt 1 args=false) (he:fO (fun _=>o) args=args2) (hv:eN (gv (fun _=>o) 1 m) v=v) :
  KC g args2 (jW o l k++H) m (XQ ⟨v,jW o l k2++H,m⟩):=by
 have e1:∀(k:Int) (ρ:Nat->Nat),ρ 0=o->kK ρ (fy l k)=jW o l k:=by
  intro k ρ h0;simp[fy,jW,kK,mI,rf,fO,eN,h0]
 have hf:=aC.frame h (fun _=>o) (heap:=jW o l k++H) (rest:=H) (next:=m) (by rw[e1 _ _ rfl]) (by rfl) (by simp[cC,fy,ly,dt,du]) (by rfl) ha;rw[he] at hf;refine hf.mono ?_;rintro v' h' m' ⟨v0,h1,n1,⟨rfl,rfl,rfl⟩,rfl,rfl,rfl⟩;rw[hv,e1 _ _ rfl];exact⟨rfl,rfl,rfl⟩
theorem Lm (x:Int) {n:Nat} (hn:0 < n):∃j:Nat,x % Int.ofNat n=Int.ofNat j/\j < n:=by
 have h0:=Int.emod_nonneg x (show Int.ofNat n≠0 from fun h=>absurd (Int.ofNat.inj (h.trans (show (0:Int)=Int.ofNat 0 from rfl))) (by omega));have h2:=Int.emod_lt_of_pos x (show (0:Int) < Int.ofNat n from Int.ofNat_lt.2 hn);exact⟨(x % Int.ofNat n).toNat,(Int.toNat_of_nonneg h0).symm,(Int.toNat_lt h0).2 h2⟩
theorem O4 {g:FuncId} {args args2:List ac} {v:ac} {l:List aq} {k k2:Int} (o m:Nat) (pre post:Heap) (h:KC g args (fy l k) 1 (XQ ⟨v,fy l k2,1⟩)) (ha:dt 1 args=false) (he:fO (fun _=>o) args=args2) (hv:eN (gv (fun _=>o) 1 m) v=v) :
  KC g args2 (pre++(jW o l k++post)) m (XQ ⟨v,pre++(jW o l k2++post),m⟩):=by
 have e1:∀(k:Int) (ρ:Nat->Nat),ρ 0=o->kK ρ (fy l k)=jW o l k:=by
  intro k ρ h0;simp[fy,jW,kK,mI,rf,fO,eN,h0]
 have hf:=aC.frame h (fun _=>o) (heap:=pre++(jW o l k++post)) (rest:=pre++post) (next:=m) (by
  rw[e1 _ _ rfl];rw[←List.append_assoc,←List.append_assoc];exact List.Perm.append_right _ List.perm_append_comm) (by rfl) (by simp[cC,fy,ly,dt,du]) (by rfl) ha
 rw[he] at hf;refine aC.jm hf ?_;rintro v' h' m' ⟨v0,h1,n1,⟨rfl,rfl,rfl⟩,rfl,rfl,rfl⟩;rw[hv,e1 _ _ rfl];refine⟨pre++(jW o l k2++post),?_,rfl,rfl,rfl⟩;rw[←List.append_assoc,←List.append_assoc];exact List.Perm.append_right _ List.perm_append_comm
def ru:List UInt8:=[65,110,121]
noncomputable def Xl:Hints:=⟨an,Co,ap,rowsOf ap 25⟩
def tQ (dn:List UInt8) (ar k:Int) (sn:List UInt8) (ix:Int) (sa:List aq) (con:Bool) (lb:List aq):Heap:=[(.loc 7,.cells [.dat (sb dn),iv ar,iv k,.dat (sb sn),iv ix,.dat (sl sa),bv con,.dat (sl lb)])]
def tg (cs:List aq) (es:List (Go.Value×aq)) (n:Nat) (nm:List UInt8) (ok:Bool) (lo:Heap):ab:=
 ⟨[(8,bv ok),(7,.ptr (.loc 7) 0),(1,.dat (sb nm)),(0,hP)],lo,hG 2 (av cs) es n,3⟩
def Ic (cs:List aq) (es:List (Go.Value×aq)) (n:Nat) (nm:List UInt8) (ok:Bool) (lo:Heap):ab:=
 ⟨[(27,bv false),(8,bv ok),(7,.ptr (.loc 7) 0),(1,.dat (sb nm)),(0,hP)],lo,hG 2 (av cs) es n,3⟩
theorem UA {cs:List aq} {es:List (Go.Value×aq)} {n:Nat} {nm dn sn:List UInt8} {ar k ix:Int} {sa lb:List aq} {con:Bool} {T:Exit->aa->Prop}
  (e:T (.exit 0) ((Ic cs es n nm false (tQ dn ar k sn ix sa con lb)).aw Tryz.f25.ntmps)) :
  KD (roundOf Tryz.f25 0) T ((tg cs es n nm false (tQ dn ar k sn ix sa con lb)).aw Tryz.f25.ntmps):=by
 refine aB [] [] (H:=Xl) (live:=pH) (by kernel_rfl) ?_;exact oe e
theorem Yh {cs:List aq} {es:List (Go.Value×aq)} {n:Nat} {nm dn sn:List UInt8} {ar k ix:Int} {sa lb:List aq} {con c d:Bool} (h1:dv dn nm=c) (h2:aQ k 2=d) (h3:(!c&&d)=false) {T:Exit->aa->Prop}
  (e:T (.exit 0) ((Ic cs es n nm true (tQ dn ar k sn ix sa con lb)).aw Tryz.f25.ntmps)) :
  KD (roundOf Tryz.f25 0) T ((tg cs es n nm true (tQ dn ar k sn ix sa con lb)).aw Tryz.f25.ntmps):=by
 cases c
 ·have h3:d=false:=h3;subst h3;refine aB [20,26] [] (H:=Xl) (live:=pH) (by kernel_rfl) ?_;refine ox h1 ?_;refine ob h2 ?_;exact oe e
 clear h2 h3;refine aB [20] [] (H:=Xl) (live:=pH) (by kernel_rfl) ?_;refine ox h1 ?_;exact oe e
theorem adj {cs:List aq} {es:List (Go.Value×aq)} {n:Nat} {nm dn sn dn2 sn2:List UInt8} {ar k ix ar2 k2 ix2:Int} {sa lb sa2 lb2:List aq} {con con2 ok2:Bool} (h1:dv dn nm=false) (h2:aQ k 2=true)
  (hf:eS 49 [hP,.dat (sb sn)] cs es n (.tup [.dat (dw dn2 ar2 k2 sn2 ix2 sa2 con2 lb2),bv ok2])) {T:Exit->aa->Prop}
  (e:T .normal ((tg cs es n nm ok2 (tQ dn2 ar2 k2 sn2 ix2 sa2 con2 lb2)).aw Tryz.f25.ntmps)) :
  KD (roundOf Tryz.f25 0) T ((tg cs es n nm true (tQ dn ar k sn ix sa con lb)).aw Tryz.f25.ntmps):=by
 refine aB [20,26] [] (H:=Xl) (live:=pH) (by kernel_rfl) ?_;refine ox h1 ?_;refine ob h2 ?_;refine oh hf ?_
 rcases sa2 with _|⟨v2,v3⟩
 ·rcases lb2 with _|⟨v0,v1⟩ <;>
  ·exact oe e
 rcases lb2 with _|⟨v4,v5⟩ <;>
 ·exact oe e
theorem Yi {cs:List aq} {es:List (Go.Value×aq)} {n:Nat} {nm of dn sn dn2 sn2:List UInt8} {ar k ix ar2 k2 ix2:Int} {sa lb sa2 lb2:List aq} {con con2 ok ok2 c a:Bool}
  (hf:eS 49 [hP,.dat (sb of)] cs es n (.tup [.dat (dw dn ar k sn ix sa con lb),bv ok]))
  (hl:KD (.loop (roundOf Tryz.f25 0)) (fun e s=>e=.exit 0/\s=(Ic cs es n nm ok2 (tQ dn2 ar2 k2 sn2 ix2 sa2 con2 lb2)).aw Tryz.f25.ntmps) ((tg cs es n nm ok (tQ dn ar k sn ix sa con lb)).aw Tryz.f25.ntmps))
  (h1:dv dn2 nm=c) (h2:dv nm ru=a) :
  eS 25 [hP,.dat (sb nm),.dat (sb of)] cs es n (bv (ok2&&(c||a))):=by
 have hg:=fun b=>gcB (bv b) cs es n rfl
 have hg1:=hg true;have hg2:=hg false
 cases ok2 with
 | false=>
  clear h1 h2;refine co [] [] (x:=.of Tryz.f25 Co pH) ?_;refine oh hf ?_
  rcases sa with _|⟨v2,v3⟩
  ·rcases lb with _|⟨v0,v1⟩ <;>
   ·refine lo hl ?_;rintro ex s ⟨rfl,rfl⟩;refine⟨_,rfl,?_⟩;exact bB (by kernel_rfl) hg2
  rcases lb with _|⟨v4,v5⟩ <;>
  ·refine lo hl ?_;rintro ex s ⟨rfl,rfl⟩;refine⟨_,rfl,?_⟩;exact bB (by kernel_rfl) hg2
 | true=>
  cases c
  ·have h3:ri 3 ⟨bv a,hG 2 (av cs) es n,3⟩=⟨bv a,hG 2 (av cs) es n,3⟩:=hg a;refine co [41,44] [] (x:=.of Tryz.f25 Co pH) ?_;refine oh hf ?_
   rcases sa with _|⟨v2,v3⟩
   ·rcases lb with _|⟨v0,v1⟩ <;>
    ·refine lo hl ?_;rintro ex s ⟨rfl,rfl⟩;refine⟨_,rfl,?_⟩;refine ob h1 ?_;refine ob h2 ?_
     cases a
     ·exact bB (by kernel_rfl) hg2
     exact bB (by kernel_rfl) hg1
   rcases lb with _|⟨v4,v5⟩ <;>
   ·refine lo hl ?_;rintro ex s ⟨rfl,rfl⟩;refine⟨_,rfl,?_⟩;refine ob h1 ?_;refine ob h2 ?_
    cases a
    ·exact bB (by kernel_rfl) hg2
    exact bB (by kernel_rfl) hg1
  clear h2;refine co [41] [] (x:=.of Tryz.f25 Co pH) ?_;refine oh hf ?_
  rcases sa with _|⟨v2,v3⟩
  ·rcases lb with _|⟨v0,v1⟩ <;>
   ·refine lo hl ?_;rintro ex s ⟨rfl,rfl⟩;refine⟨_,rfl,?_⟩;refine ob h1 ?_;exact bB (by kernel_rfl) hg1
  rcases lb with _|⟨v4,v5⟩ <;>
  ·refine lo hl ?_;rintro ex s ⟨rfl,rfl⟩;refine⟨_,rfl,?_⟩;refine ob h1 ?_;exact bB (by kernel_rfl) hg1
def lc (ds:List aZ) (of:List UInt8):Nat->List UInt8
 | 0=>of
 | i+1=>(iZ (aF ds (lc ds of i))).sup.nm
theorem FN (ds:List aZ) (of:List UInt8):∀i,lc ds (iZ (aF ds of)).sup.nm i=lc ds of (i+1)
 | 0=>rfl
 | i+1=>by
  show (iZ (aF ds (lc ds (iZ (aF ds of)).sup.nm i))).sup.nm=_;rw[FN ds of i];rfl
def wo (ds:List aZ):Nat->List UInt8->List UInt8->Bool
 | 0,_,_=>false
 | f+1,nm,of=>match aF ds of with
  | none=>false
  | some d=>match dv d.nm nm with
   | true=>true
   | false=>match aQ d.sup.kind 2 with
    | true=>wo ds f nm d.sup.nm
    | false=>dv nm ru
def Ot (ds:List aZ) (nm of:List UInt8):Bool:=wo ds (ds.length+1) nm of
def mP (ds:List aZ) (of:List UInt8):Nat:=match gH ds of with|some p=>p+1|none=>0
theorem tB (ds:List aZ) (of:List UInt8):mP ds of < ds.length+1:=by
 unfold mP
 cases h:gH ds of with
 | none=>exact Nat.succ_pos _
 | some p=>have:=KW h;show p+1 < _;omega
theorem uy {ds:List aZ} {nm:List UInt8} {d:aZ} (h:aF ds nm=some d):∃p,gH ds nm=some p/\ds[p]?=some d:=by
 cases hp:gH ds nm with
 | none=>rw[qC hp] at h;simp at h
 | some p=>
  obtain⟨e,h1,h2,_⟩:=iK hp;rw[h2] at h;simp at h;subst h;exact⟨p,rfl,h1⟩
theorem po {ds:List aZ} (hu:Up ds) {of:List UInt8} {d:aZ} (h:aF ds of=some d) (hk:aQ d.sup.kind 2=true):mP ds d.sup.nm < mP ds of:=by
 obtain⟨p,h1,h2⟩:=uy h;obtain⟨j,h3,h4⟩:=hu.up p d h2 hk;unfold mP;rw[h1,h3];show j+1 < p+1;omega
theorem HE {ds:List aZ} (hu:Up ds) (nm:List UInt8):∀(f:Nat) (of:List UInt8),mP ds of < f->∃n,n < f ∧
  (∀i,i < n->∃d,aF ds (lc ds of i)=some d/\dv d.nm nm=false/\aQ d.sup.kind 2=true) ∧
  ((aF ds (lc ds of n)=none/\wo ds f nm of=false)∨∃d,aF ds (lc ds of n)=some d/\(!(dv d.nm nm)&&aQ d.sup.kind 2)=false/\wo ds f nm of=(dv d.nm nm||dv nm ru))
 | 0,of,h=>by omega
 | f+1,of,h=>by
  cases hf:aF ds of with
  | none=>exact⟨0,by omega,fun i hi=>by omega,.inl ⟨hf,by rw[wo,hf]⟩⟩
  | some d=>
   cases hc:dv d.nm nm with
   | true=>exact⟨0,by omega,fun i hi=>by omega,.inr ⟨d,hf,by rw[hc];rfl,by rw[wo,hf];simp only[hc,Bool.true_or]⟩⟩
   | false=>
    cases hk:aQ d.sup.kind 2 with
    | false=>exact⟨0,by omega,fun i hi=>by omega,.inr ⟨d,hf,by rw[hk];simp,by rw[wo,hf];simp only[hc,hk,Bool.false_or]⟩⟩
    | true=>
     have hr:=po hu hf hk;obtain⟨n,h1,h2,h3⟩:=HE hu nm f d.sup.nm (by omega);have e:∀i,lc ds d.sup.nm i=lc ds of (i+1):=fun i=>by
      have:=FN ds of i
      rw[hf] at this;exact this
     refine⟨n+1,by omega,?_,?_⟩
     ·intro i hi
      cases i with
      | zero=>exact⟨d,hf,hc,hk⟩
      | succ i=>rw[←e];exact h2 i (by omega)
     rw[←e,wo,hf];simp only[hc,hk];exact h3
theorem Mh {ds:List aZ} {tl:List aq} (hu:Up ds) (nm of:List UInt8):oH 25 [hP,.dat (sb nm),.dat (sb of)] ds tl (bv (Ot ds nm of)):=by
 obtain⟨n,hn2,hg,he⟩:=HE hu nm (ds.length+1) of (tB ds of)
 let lo (d:aZ):Heap:=tQ d.nm d.ar d.sup.kind d.sup.nm d.sup.Cz (ax d.sup.args) d.con (aN d.fl)
 let fd (i:Nat):Option aZ:=aF ds (lc ds of i)
 have main:∀{T:Exit->aa->Prop},(KD (roundOf Tryz.f25 0) (iY (fun _=>False) T) ((tg (bL ds++tl) (bH ds 0) ds.length nm (fj (fd n)) (lo (iZ (fd n)))).aw Tryz.f25.ntmps))->
   KD (.loop (roundOf Tryz.f25 0)) T ((tg (bL ds++tl) (bH ds 0) ds.length nm (fj (fd 0)) (lo (iZ (fd 0)))).aw Tryz.f25.ntmps):=by
  intro T hlast;refine ba (St:=fun i=>(tg (bL ds++tl) (bH ds 0) ds.length nm (fj (fd i)) (lo (iZ (fd i)))).aw Tryz.f25.ntmps) n ?_ hlast (i:=0) (Nat.zero_le _);intro i hi;obtain⟨d,g1,g2,g3⟩:=hg i hi;have hf:=qX ds tl d.sup.nm;have e:fd (i+1)=aF ds d.sup.nm:=by
   show aF ds (iZ (aF ds (lc ds of i))).sup.nm=_;rw[g1];rfl
  rw[e,show fd i=some d from g1];generalize aF ds d.sup.nm=o at hf;show KD (roundOf Tryz.f25 0) _ ((tg (bL ds++tl) (bH ds 0) ds.length nm true (lo d)).aw Tryz.f25.ntmps);generalize fj o=ok2 at hf;generalize iZ o=d2 at hf;obtain⟨dn,ar,⟨sk,sn,six,sa⟩,con,fl⟩:=d;obtain⟨dn2,ar2,⟨sk2,sn2,six2,sa2⟩,con2,fl2⟩:=d2;exact adj g2 g3 hf rfl
 have hf0:=qX ds tl of;unfold Ot;have all:∀{ok2 c a:Bool} {d2:aZ},fj (fd n)=ok2->iZ (fd n)=d2->dv d2.nm nm=c->dv nm ru=a->(ok2=true->(!c&&aQ d2.sup.kind 2)=false)->
   oH 25 [hP,.dat (sb nm),.dat (sb of)] ds tl (bv (ok2&&(c||a))):=by
  intro ok2 c a d2 e1 e2 e3 e4 e5;have m:=@main;rw[e1,e2] at m;have hf0:eS 49 [hP,.dat (sb of)] (bL ds++tl) (bH ds 0) ds.length (.tup [.dat (iZ (fd 0)).enc,bv (fj (fd 0))]):=hf0;generalize iZ (fd 0)=d0 at m hf0;generalize fj (fd 0)=ok0 at m hf0;obtain⟨dn,ar,⟨sk,sn,six,sa⟩,con,fl⟩:=d0;obtain⟨dn2,ar2,⟨sk2,sn2,six2,sa2⟩,con2,fl2⟩:=d2;refine Yi (dn2:=dn2) (sn2:=sn2) (ar2:=ar2) (k2:=sk2) (ix2:=six2) (sa2:=ax sa2) (con2:=con2) (lb2:=aN fl2) hf0 (m ?_) e3 e4
  cases ok2 with
  | false=>exact UA ⟨rfl,rfl⟩
  | true=>exact Yh e3 rfl (e5 rfl) ⟨rfl,rfl⟩
 rcases he with⟨g1,e⟩|⟨d,g1,g2,e⟩
 ·rw[e];have h:=all (ok2:=false) (d2:=aZ.zero) (by show fj (aF ds (lc ds of n))=_;rw[g1];rfl) (by show iZ (aF ds (lc ds of n))=_;rw[g1];rfl) rfl rfl (fun h=>by simp at h);exact h
 rw[e];have h:=all (ok2:=true) (d2:=d) (by show fj (aF ds (lc ds of n))=_;rw[g1];rfl) (by show iZ (aF ds (lc ds of n))=_;rw[g1];rfl) rfl rfl (fun _=>g2);exact h
end Go.Proofs.YtiihadmgkoamoaaGreatDoor
namespace Go.Proofs
open Go.Shelf
def Tryz.Nw:Go.Shelf.Ren:=⟨fun|22=>180|29=>194|30=>195|36=>203|17=>205|n=>n,fun|24=>60|9=>9|3=>3|4=>4|0=>0|n=>n,fun|n=>n⟩
theorem Tryz.Y9:Go.Proofs.Lays2.n22 Tryz.prog Tryz.Nw:={
 mixed:=by kernel_rfl
 f17:=Tryz.func205.trans (congrArg some (by kernel_rfl))
 f22:=Tryz.func180.trans (congrArg some (by kernel_rfl))
 f29:=Tryz.func194.trans (congrArg some (by kernel_rfl))
 f30:=Tryz.func195.trans (congrArg some (by kernel_rfl))
 f36:=Tryz.func203.trans (congrArg some (by kernel_rfl))
 t0:=Tryz.underlying0
 a0:=Tryz.isAgg0
 z0:=Tryz.sizeOf0
 v0:=Tryz.zeroValue0
 t3:=Tryz.underlying3
 a3:=Tryz.isAgg3
 z3:=Tryz.sizeOf3
 v3:=Tryz.zeroValue3
 t4:=Tryz.underlying4
 a4:=Tryz.isAgg4
 z4:=Tryz.sizeOf4
 v4:=Tryz.zeroValue4
 t9:=Tryz.underlying9
 a9:=Tryz.isAgg9
 z9:=Tryz.sizeOf9
 v9:=Tryz.zeroValue9
 t24:=Tryz.underlying60
 a24:=Tryz.isAgg60
 z24:=Tryz.sizeOf60
 v24:=Tryz.zeroValue60
 i9:=by kernel_rfl }
def Tryz.Uk:Go.Shelf.Ren:=⟨fun|26=>179|33=>158|34=>193|38=>172|n=>n,fun|24=>60|9=>9|3=>3|4=>4|40=>157|0=>0|n=>n,fun|n=>n⟩
theorem Tryz.agV:Go.Proofs.Lays2.n26 Tryz.prog Tryz.Uk:={
 mixed:=by kernel_rfl
 f26:=Tryz.func179.trans (congrArg some (by kernel_rfl))
 f33:=Tryz.func158.trans (congrArg some (by kernel_rfl))
 f34:=Tryz.func193.trans (congrArg some (by kernel_rfl))
 f38:=Tryz.func172.trans (congrArg some (by kernel_rfl))
 t0:=Tryz.underlying0
 a0:=Tryz.isAgg0
 z0:=Tryz.sizeOf0
 v0:=Tryz.zeroValue0
 t3:=Tryz.underlying3
 a3:=Tryz.isAgg3
 z3:=Tryz.sizeOf3
 v3:=Tryz.zeroValue3
 t4:=Tryz.underlying4
 a4:=Tryz.isAgg4
 z4:=Tryz.sizeOf4
 v4:=Tryz.zeroValue4
 t9:=Tryz.underlying9
 a9:=Tryz.isAgg9
 z9:=Tryz.sizeOf9
 v9:=Tryz.zeroValue9
 t24:=Tryz.underlying60
 a24:=Tryz.isAgg60
 z24:=Tryz.sizeOf60
 v24:=Tryz.zeroValue60
 t40:=Tryz.underlying157
 a40:=Tryz.isAgg157
 z40:=Tryz.sizeOf157
 v40:=Tryz.zeroValue157 }
end Go.Proofs
namespace Go.Tp
open Go.Proofs Go.Shelf Go.RowKit
theorem Aj:∀x y:List UInt8,jE x y=decide (x < y)
 | [],[]=>by simp[jE]
 | [],_::_=>by simp[jE]
 | _::_,[]=>by simp[jE]
 | a::x,b::y=>by
  have ih:=Aj x y;simp only[jE,Um,Ke,ih]
  by_cases h1:a < b
  ·simp[h1,List.cons_lt_cons_iff]
  by_cases h2:a=b
  ·subst h2;simp[List.cons_lt_cons_iff]
  have h3:(a==b)=false:=by simpa using h2
  simp[h1,h2,h3,List.cons_lt_cons_iff]
theorem vE {x y z:List UInt8} (h:jE x y=true) (k:jE y z=true):jE x z=true:=by
 simp only[Aj,decide_eq_true_eq] at *;exact List.lt_trans h k
theorem DM (x:List UInt8):jE x x=false:=by
 simp only[Aj,decide_eq_false_iff_not];exact List.lt_irrefl x
theorem Lo {x y:List UInt8} (h:jE x y=false) (k:jE y x=false):x=y:=by
 simp only[Aj,decide_eq_false_iff_not,List.not_lt] at *;exact List.le_antisymm k h
def kh (l:List (List UInt8)):Prop:=l.Pairwise (fun a b=>jE a b=true)
def ja (l:List (List UInt8)) (x:List UInt8):Nat:=l.countP (fun y=>jE y x)
theorem uE {l:List (List UInt8)} {x:List UInt8}:ja l x<=l.length:=List.countP_le_length
theorem oz {l:List (List UInt8)} {x:List UInt8} (hs:kh l):∀{t:Nat} {y:List UInt8},l[t]?=some y->jE y x=decide (t < ja l x):=by
 induction l with
 | nil=>intro t y h;simp at h
 | cons a r ih=>
  have ih:=fun {t y}=>@ih (List.Pairwise.of_cons hs) t y
  intro t y h;unfold ja at ih ⊢
  cases ha:jE a x with
  | true=>
   rw[List.countP_cons_of_pos (p:=fun y=>jE y x) ha]
   cases t with
   | zero=>simp at h;subst h;rw[ha];simp
   | succ t=>simp at h;rw[ih h];simp
  | false=>
   have h0:∀y∈a::r,jE y x=false:=by
    intro y hy
    rcases List.mem_cons.1 hy with rfl|hy
    ·exact ha
    have h1:jE a y=true:=List.rel_of_pairwise_cons hs hy
    cases h2:jE y x with
    | false=>rfl
    | true=>rw[vE h1 h2] at ha;exact absurd ha (by simp)
   have e:(a::r).countP (fun y=>jE y x)=0:=by
    rw[List.countP_eq_zero];intro y hy;rw[h0 y hy];simp
   rw[e,h0 y (List.mem_of_getElem? h)];simp
theorem SZ {l:List (List UInt8)} {x:List UInt8} (hs:kh l):l.contains x=decide (l[ja l x]?=some x):=by
 cases hc:l.contains x with
 | true=>
  have hm:x∈l:=by simpa using hc
  obtain⟨t,ht,he⟩:=List.mem_iff_getElem.1 hm;have ht':l[t]?=some x:=by rw[List.getElem?_eq_getElem ht,he]
  have h1:=oz (x:=x) hs ht';rw[DM] at h1;have h1:¬t < ja l x:=by simpa using h1.symm
  rcases Nat.lt_or_ge (ja l x) t with h2|h2
  ·have hlt:ja l x < l.length:=by omega
   have h3:jE l[ja l x] l[t]=true:=List.pairwise_iff_getElem.1 hs _ _ hlt ht h2;have h4:=oz (x:=x) hs (List.getElem?_eq_getElem hlt);rw[he] at h3;rw[h3] at h4;simp at h4
  have:ja l x=t:=by omega
  rw[this,ht'];simp
 | false=>
  symm;rw[decide_eq_false_iff_not];intro h;have hm:x∈l:=List.mem_of_getElem? h;rw[List.contains_iff_mem.2 hm] at hc;simp at hc
theorem EE {p:Nat->Bool} {c n:Nat} (h1:∀t,t < c->p t=true) (h2:∀t,c<=t->t < n->p t=false):∀(f lo hi:Nat),lo<=c->c<=hi->hi<=n->hi - lo<=f->Lib.bsGo p f lo hi=c
 | 0,lo,hi,a,b,d,e=>by simp only[Lib.bsGo];omega
 | f+1,lo,hi,a,b,d,e=>by
  by_cases hlt:lo < hi
  ·simp only[Lib.bsGo,hlt,if_true]
   rcases Nat.lt_or_ge ((lo+hi) / 2) c with h|h
   ·rw[h1 _ h];simp only[if_true];exact EE h1 h2 f _ _ (by omega) b d (by omega)
   rw[h2 _ h (by omega)];simp only[Bool.false_eq_true,if_false];exact EE h1 h2 f _ _ a h (by omega) (by omega)
  simp only[Lib.bsGo,hlt,if_false];omega
def xL (l:List (List UInt8)):List ac:=l.map (fun s=>.dat (.flat (.string ⟨⟨s⟩⟩)))
def cD (l:List (List UInt8)):List Value:=l.map (fun s=>Value.string ⟨⟨s⟩⟩)
section
variable {w:World} {R:Own} {N:Name->Option Nat}
theorem ju:∀{l:List (List UInt8)} {us:List Value} {bs:List Nat},ak w R N (xL l) us bs->us=cD l/\bs=[]/\∀x∈l,bE (.string ⟨⟨x⟩⟩)=true
 | [],us,bs,h=>by obtain⟨rfl,rfl⟩:=aR h;simp[cD]
 | x::l,us,bs,h=>by
  have h:ak w R N (.dat (.flat (.string ⟨⟨x⟩⟩))::xL l) us bs:=h;obtain⟨v,vs',b1,b2,rfl,rfl,h1,h2⟩:=az h;obtain⟨rfl,rfl,h3⟩:=ju h2;simp only[al] at h1;obtain⟨rfl,h1⟩:=h1;have h1:dN w R v (.flat (.string ⟨⟨x⟩⟩)):=h1
  cases h1 with
  | flat hf=>exact⟨rfl,rfl,by rintro y hy;rcases List.mem_cons.1 hy with rfl|hy;exact hf;exact h3 y hy⟩
theorem Aw:∀{l:List (List UInt8)},(∀x∈l,bE (.string ⟨⟨x⟩⟩)=true)->ak w R N (xL l) (cD l) []
 | [],_=>aX
 | x::l,h=>by
  have h1:al w R N (.dat (.flat (.string ⟨⟨x⟩⟩))) (.string ⟨⟨x⟩⟩) []:=by
   simp only[al];exact⟨trivial,.flat (h x (by simp))⟩
  exact aH (b1:=[]) (b2:=[]) h1 (Aw (l:=l) (fun y hy=>h y (by simp[hy])))
theorem nZ {l:List (List UInt8)}:∀v∈cD l,v.oneCell'=true:=by
 intro v hv;obtain⟨x,_,rfl⟩:=List.mem_map.1 hv;rfl
theorem aaS {l:List (List UInt8)} {j:Nat} {v:Value} (h:(cD l)[j]?=some v):∃x,l[j]?=some x/\v=.string ⟨⟨x⟩⟩:=by
 simp only[cD,List.getElem?_map,Option.map_eq_some_iff] at h;obtain⟨x,h1,h2⟩:=h;exact⟨x,h1,h2.symm⟩
end
section
variable {P:Program} {ρ:Ren} {G:bJ}
theorem J3 (L:Lays2.n26 P ρ) {l:List (List UInt8)} {x:List UInt8} (hs:kh l) (hn:l.length < 1000000000) :
  aC P G (ρ.f 26) [.win (.out 0) 1 0 l.length,.dat (.flat (.string ⟨⟨x⟩⟩))] [(.out 0,.cells (xL l))] 1 (XQ ⟨.tup [iv (Int.ofNat (ja l x)),bv (l.contains x)],[(.out 0,.cells (xL l))],1⟩):=by
 intro w R N cargs bsA bsH bsF hargs hheap hnd hnx hglob hF;obtain⟨v0,r1,c0,d1,rfl,rfl,h0,hr1⟩:=az hargs;obtain⟨v1,r2,c1,d2,rfl,rfl,h1,hr2⟩:=az hr1;obtain⟨rfl,rfl⟩:=aR hr2;have hheap0:=hheap;obtain⟨b,b1,b2,rfl,hb,hobj,hrest⟩:=hheap;have hrest:b2=[]:=hrest;subst hrest;obtain⟨vs,elem,sp,hblk,hrv,hRv,_⟩:=hobj;simp only[al] at h0 h1;obtain⟨rfl,b',cap,hb',rfl,hcap,_,hblt,hrow⟩:=h0
 have:b'=b:=by rw[hb] at hb';simpa using hb'.symm
 subst this;obtain⟨rfl,h1⟩:=h1;have h1:dN w R v1 (.flat (.string ⟨⟨x⟩⟩)):=h1;have e1:v1=.string ⟨⟨x⟩⟩:=by cases h1 with|flat _=>rfl
 have hfx:bE (.string ⟨⟨x⟩⟩)=true:=by cases h1 with|flat h=>exact h
 subst e1;obtain⟨us1,us2,q1,q2,hus,rfl,hr1,_⟩:=cV hrv;obtain⟨rfl,rfl,hfl⟩:=ju hr1;have hcell:∀j,j < l.length->w.cell? ⟨b',0+j,none⟩=some (.string ⟨⟨l.getD j []⟩⟩):=by
  intro j hj;refine eK hblk ?_;rw[hus,Nat.zero_add,List.getElem?_append_left (by simp[cD];exact hj)];simp[cD,hj]
 refine (Any2.slices_BinarySearch_string L b' 0 l.length cap (fun j=>⟨⟨l.getD j []⟩⟩) ⟨⟨x⟩⟩ w (by omega) hcell).mono ?_;rintro e w' ⟨rfl,q,rfl⟩;have hp:(fun t=>Op.bytesLess ((fun j=>(⟨⟨l.getD j []⟩⟩:ByteArray)) t).toList (⟨⟨x⟩⟩:ByteArray).toList)=fun t=>jE (l.getD t []) x:=by
  funext t
  rw[toList_data,toList_data,I2]
 have hI:Lib.bsGo (fun t=>Op.bytesLess ((fun j=>(⟨⟨l.getD j []⟩⟩:ByteArray)) t).toList (⟨⟨x⟩⟩:ByteArray).toList) l.length 0 l.length=ja l x:=by
  rw[hp];refine EE (fun t ht=>?_) (fun t h1 h2=>?_) _ _ _ (Nat.zero_le _) uE (Nat.le_refl _) (by omega)
  ·have hl:t < l.length:=Nat.lt_of_lt_of_le ht uE;have hg:=List.getElem?_eq_getElem hl;rw[List.getD_eq_getElem?_getD,hg,Option.getD_some,oz hs hg];simpa using ht
  have hg:=List.getElem?_eq_getElem h2;rw[List.getD_eq_getElem?_getD,hg,Option.getD_some,oz hs hg];simpa using h1
 rw[hI];have hD:decide (ja l x < l.length/\(fun j=>(⟨⟨l.getD j []⟩⟩:ByteArray)) (ja l x)=⟨⟨x⟩⟩)=l.contains x:=by
  rw[SZ hs];show decide (ja l x < l.length/\(⟨⟨l.getD (ja l x) []⟩⟩:ByteArray)=⟨⟨x⟩⟩)=_
  by_cases hl:ja l x < l.length
  ·have hg:=List.getElem?_eq_getElem hl;rw[List.getD_eq_getElem?_getD,hg,Option.getD_some];simp[hl]
  rw[List.getElem?_eq_none (by omega)];simp[hl]
 rw[hD];have hk:∀bs,bA w R (w.drewN q) R bs:=As q;refine⟨_,_,_,1,R,N,[],_,rfl,⟨rfl,rfl,rfl⟩,?_,hheap0.keep (hk _),by simpa using hnd,hnx,hk _,fun _ _ h=>h⟩;have hi:∀n:Nat,n < 9223372036854775808->bE (.int .i64 (Int.ofNat n))=true:=by
  intro n hn;simp[bE,IntKind.min,IntKind.max,IntKind.signed,IntKind.bits];omega
 have hcnt:ja l x<=l.length:=uE;simp only[al];refine⟨[.int .i64 (Int.ofNat (ja l x)),.bool (l.contains x)],rfl,?_⟩;refine aH (b1:=[]) (b2:=[]) ?_ (aH (b1:=[]) (b2:=[]) ?_ aX)
 ·simp only[al];exact⟨trivial,.flat (hi _ (by omega))⟩
 simp only[al];exact⟨trivial,.flat rfl⟩
def cZ (l:List (List UInt8)) (i:Nat) (x:List UInt8):List (List UInt8):=l.take i++x::l.drop i
theorem pJ {l:List (List UInt8)} {i:Nat} {x:List UInt8} (h:i<=l.length):(cZ l i x).length=l.length+1:=by simp[cZ];omega
theorem ky {l:List (List UInt8)} {i:Nat} {x:List UInt8}:cD (cZ l i x)=(cD l).take i++.string ⟨⟨x⟩⟩::(cD l).drop i:=by simp[cZ,cD,List.map_take,List.map_drop]
theorem D3 {l:List (List UInt8)} {i:Nat} {x:List UInt8} (h:∀y∈l,bE (.string ⟨⟨y⟩⟩)=true) (hx:bE (.string ⟨⟨x⟩⟩)=true):∀y∈cZ l i x,bE (.string ⟨⟨y⟩⟩)=true:=by
 intro y hy;simp only[cZ,List.mem_append,List.mem_cons] at hy
 rcases hy with hy|rfl|hy
 ·exact h y (List.mem_of_mem_take hy)
 ·exact hx
 exact h y (List.mem_of_mem_drop hy)
theorem Nt (l:List (List UInt8)):cN (xL l)=false:=by
 rcases l with _|⟨a,_|⟨b,_|⟨c,r⟩⟩⟩ <;> rfl
theorem qM {w w':World} {R R':Own} {N:Name->Option Nat} {vb g cap:Nat} {elem:TypeId} {arr rest:List Value} {l2:List (List UInt8)} {x:List UInt8} {bsF:List Nat}
  (hnx:∀o b,N (.out o)=some b->o < 2) (hk:∀bs,g∉bs->bA w R w' R' bs) (hgF:g∉bsF) (hgv:g≠vb) (hnd:(vb::bsF).Nodup)
  (hg:w'.heap[g]?=some (.cells arr.toArray elem (0,0))) (harr:arr=cD l2++rest) (hfl:∀y∈l2,bE (.string ⟨⟨y⟩⟩)=true) (hR':∀j,j < arr.length->R' g j) (hcap:arr.length=cap) (hcm:cap<=gX) (hl2:l2.length<=cap)
  (hv:ao w R (outs N) [(.out 1,.cells [.dat (.flat (.string ⟨⟨x⟩⟩))])] [vb]) (cv:Value) (hcv:cv=.slice (some ⟨g,0,none⟩) l2.length cap) :
  ∃v cv' heap' next' R2 N' bsV bsH',Ending.returned cv=.returned cv'/\XQ ⟨.win (.out 2) 1 0 l2.length,[(.out 2,.cells (xL l2)),(.out 1,.cells [.dat (.flat (.string ⟨⟨x⟩⟩))])],3⟩ v heap' next'/\al w' R2 (outs N') v cv' bsV/\ao w' R2 (outs N') heap' bsH' ∧
   (bsV++(bsH'++bsF)).Nodup/\(∀o b,N' (.out o)=some b->o < next')/\bA w R w' R2 bsF/\(∀o b,N (.out o)=some b->N' (.out o)=some b):=by
 have hext:=tt (N:=N) (b:=g) hnx;have hlt:g < w'.heap.size:=bw hg;refine⟨_,cv,_,3,R',bK N (.out 2) g,[],[g,vb],rfl,⟨rfl,rfl,rfl⟩,?_,?_,?_,?_,hk bsF hgF,fun o b h=>hext _ _ h⟩
 ·simp only[al];refine⟨trivial,g,cap,by simp[outs,bK],hcv,hl2,⟨by decide,hcm⟩,hlt,?_⟩;rw[di hg];simp[hcap]
 ·refine⟨g,[],[vb],rfl,by simp[outs,bK],?_,(hv.keep (hk _ (by simpa using hgv))).ext (tH hext)⟩;refine⟨arr.toArray,elem,rest.length,hg,?_,fun j hj=>hR' j (by simpa using hj),fun h=>by rw[Nt] at h;simp at h⟩;have h1:ak w' R' (outs (bK N (.out 2) g)) (xL l2) (cD l2) []:=Aw hfl;have h2:=eF (w:=w') (R:=R') (N:=outs (bK N (.out 2) g)) rest;simpa [harr] using cA h1 h2
 ·simp only[List.nil_append,List.cons_append];refine List.nodup_cons.2 ⟨?_,hnd⟩;simp only[List.mem_cons,not_or];exact⟨hgv,hgF⟩
 intro o c ho
 by_cases hne:o=2
 ·omega
 have:N (.out o)=some c:=by simpa [bK,hne] using ho
 have:=hnx o c this
 omega
theorem J5 (L:Lays2.n22 P ρ) {l:List (List UInt8)} {x:List UInt8} {i:Nat} (hi:i<=l.length) (hn:l.length < 1000000000) :
  aC P G (ρ.f 22) [.win (.out 0) 1 0 l.length,iv (Int.ofNat i),.win (.out 1) 1 0 1] [(.out 0,.cells (xL l)),(.out 1,.cells [.dat (.flat (.string ⟨⟨x⟩⟩))])] 2
   (XQ ⟨.win (.out 2) 1 0 (cZ l i x).length,[(.out 2,.cells (xL (cZ l i x))),(.out 1,.cells [.dat (.flat (.string ⟨⟨x⟩⟩))])],3⟩):=by
 intro w R N cargs bsA bsH bsF hargs hheap hnd hnx hglob hF;obtain⟨v0,r1,c0,d1,rfl,rfl,h0,hr1⟩:=az hargs;obtain⟨v1,r2,c1,d2,rfl,rfl,h1,hr2⟩:=az hr1;obtain⟨v2,r3,c2,d3,rfl,rfl,h2,hr3⟩:=az hr2;obtain⟨rfl,rfl⟩:=aR hr3;obtain⟨b,b1,b2,rfl,hb,hobj,hrest⟩:=hheap;have hrest0:=hrest;obtain⟨vb,b3,b4,rfl,hvb,hobjv,hrest⟩:=hrest;have hrest:b4=[]:=hrest;subst hrest;obtain⟨vs,elem,sp,hblk,hrv,hRv,_⟩:=hobj;obtain⟨vs2,elem2,sp2,hblk2,hrv2,hRv2,_⟩:=hobjv;simp only[al] at h0 h1 h2;obtain⟨rfl,b',cap,hb',rfl,hcap,⟨_,hcm⟩,hblt,hrow⟩:=h0
 have:b'=b:=by rw[hb] at hb';simpa using hb'.symm
 subst this;obtain⟨rfl,vb',vc,hvb',rfl,hvc,_,hvlt,hvrow⟩:=h2
 have:vb'=vb:=by rw[hvb] at hvb';simpa using hvb'.symm
 subst this;obtain⟨rfl,h1⟩:=h1;have h1:dN w R v1 (.flat (.int .i64 (Int.ofNat i))):=h1;have e1:v1=.int .i64 (Int.ofNat i):=by cases h1 with|flat _=>rfl
 subst e1;obtain⟨us1,us2,q1,q2,hus,rfl,hr1,hq2⟩:=cV hrv;obtain⟨rfl,rfl,hfl⟩:=ju hr1;obtain⟨ws1,ws2,q3,q4,hws,rfl,hr2,hq4⟩:=cV hrv2;obtain⟨rfl,rfl,hfx⟩:=ju (l:=[x]) hr2;have hfx:=hfx x (by simp);obtain⟨rfl,_⟩:=jd hq2;obtain⟨rfl,_⟩:=jd hq4;simp only[List.nil_append,List.append_nil,List.cons_append] at hnd;have hvb0:b'≠vb':=by
  have:=(List.nodup_cons.1 hnd).1
  simp only[List.mem_cons,not_or] at this;exact this.1
 have hbF:b'∉bsF:=by
  have:=(List.nodup_cons.1 hnd).1
  simp only[List.mem_cons,not_or] at this;exact this.2
 have hnd2:(vb'::bsF).Nodup:=(List.nodup_cons.1 hnd).2;have hsz:vs.size=cap:=by rw[di hblk] at hrow;omega
 have hlen:(cD l).length=l.length:=by simp[cD]
 have hl2:(cZ l i x).length=l.length+1:=pJ hi;have hfl2:=D3 (i:=i) hfl hfx;have hvs:∀j v,[Value.string ⟨⟨x⟩⟩][j]?=some v->w.cell? ⟨vb',0+j,none⟩=some v:=by
  intro j v hj;refine eK hblk2 ?_;rw[hws]
  cases j with
  | zero=>simpa [cD] using hj
  | succ j=>simp at hj
 have hcs:∀j v,(cD l)[j]?=some v->w.cell? ⟨b',0+j,none⟩=some v:=by
  intro j v hj;refine eK hblk ?_
  have:j < (cD l).length:=(List.getElem?_eq_some_iff.1 hj).1
  rw[hus,Nat.zero_add,List.getElem?_append_left this];exact hj
 have h1v:∀v∈[Value.string ⟨⟨x⟩⟩],v.oneCell'=true:=by intro v hv;simp at hv;subst hv;rfl
 have hsome:∀j,j < cap->(w.cell? ⟨b',0+j,none⟩).isSome=true:=by
  intro j hj;have hj2:j < vs.toList.length:=by simp;omega
  rw[eK hblk (v:=vs.toList[j]) (by rw[Nat.zero_add];exact List.getElem?_eq_getElem hj2)];rfl
 have hfroz:∀j,w.frozen? ⟨b',j,none⟩=false:=by intro j;simp[World.frozen?,hblk]
 have hus2:us2.length=cap - l.length:=by
  have:=congrArg List.length hus
  simp[hlen] at this;omega
 by_cases hroom:l.length+1<=cap
 ·
  obtain⟨u0,us3,rfl⟩:∃u0 us3,us2=u0::us3:=by
   cases us2 with
   | nil=>simp at hus2;omega
   | cons a r=>exact⟨a,r,rfl⟩
  rcases Nat.lt_or_ge i l.length with hlt|hge
  ·refine (Any2.slices_Insert_string_shift L b' 0 l.length cap i vb' 0 1 vc (cD l) [.string ⟨⟨x⟩⟩] w hlt (by decide) hroom ?_ (Ne.symm hvb0) hlen rfl hcs (fun j hj=>hsome j (by omega)) (fun j _=>hfroz _) hvs nZ h1v elem2 elem vs2.size vs.size ?_ ?_ ?_ ?_ ?_).mono ?_
   ·exact hcm
   ·simp[World.shape?,hblk2]
   ·simp[World.shape?,hblk]
   ·omega
   ·simp[World.frozen?,hblk2]
   ·simp[World.frozen?,hblk2]
   rintro e w' ⟨rfl,rfl⟩;have hg1:(w.drew).heap[b']?=some (.cells vs elem (0,0)):=hblk;have hd:((cD l).drop i).length=l.length - i:=by simp[hlen]
   rw[dG (w:=w.drew) b' (0+(i+1)) elem ((cD l).drop i) vs hg1 (by rw[hd];omega) (fun u hu=>nZ u (List.mem_of_mem_drop hu))];obtain⟨ar1,har1⟩:∃ar1,ar1=vs.toList.take (0+(i+1))++(cD l).drop i++vs.toList.drop (0+(i+1)+((cD l).drop i).length):=⟨_,rfl⟩;rw[←har1];have hl1:ar1.length=cap:=by
    rw[har1];simp[hlen];omega
   have hg2:=setRow_heap w.drew b' vs ar1.toArray elem (0,0) hg1;rw[dG (w:=w.drew.setRow b' ar1.toArray) b' (0+i) elem [.string ⟨⟨x⟩⟩] ar1.toArray hg2 (by simp[hl1];omega) h1v];obtain⟨ar2,har2⟩:∃ar2,ar2=ar1.toArray.toList.take (0+i)++[.string ⟨⟨x⟩⟩]++ar1.toArray.toList.drop (0+i+[Value.string ⟨⟨x⟩⟩].length):=⟨_,rfl⟩;rw[←har2];have hl3:ar2.length=cap:=by
    rw[har2];simp[hl1];omega
   have hg3:=setRow_heap (w.drew.setRow b' ar1.toArray) b' ar1.toArray ar2.toArray elem (0,0) hg2;refine qM (g:=b') (vb:=vb') (cap:=cap) (arr:=ar2) (rest:=us3) (R':=R) hnx (fun bs hb=>?_) hbF hvb0 hnd2 hg3 ?_ hfl2 (fun j hj=>hRv j (by omega)) hl3 hcm (by rw[hl2];exact hroom) hrest0 _ (by rw[hl2])
   ·refine kP (bA.trans (hJ hg1 ar1.toArray (by simp[hl1,hsz]) hRv (by omega) bs hb) (hJ hg2 ar2.toArray (by simp[hl1,hl3]) (fun j hj=>hRv j (by simp[hl1] at hj;omega)) (by simp[hl1];omega) bs hb))
   -- the cells
   have hv:vs.toList=cD l++(u0::us3):=hus;rw[har2,har1,hv,ky];simp only[Nat.zero_add,List.toList_toArray,List.length_singleton];exact CA (cD l) u0 (.string ⟨⟨x⟩⟩) us3 i (by rw[hlen];omega)
  have hil:i=l.length:=by omega
  subst hil;refine (Any2.slices_Insert_string_end_room L b' 0 l.length cap vb' 0 1 vc [.string ⟨⟨x⟩⟩] w (by decide) hroom hcm rfl (fun j hj=>?_) (fun j _=>hfroz _) hvs h1v).mono ?_
  ·rw[Nat.add_assoc];exact hsome _ (by omega)
  rintro e w' ⟨rfl,rfl⟩;rw[dG (w:=w) b' (0+l.length) elem [.string ⟨⟨x⟩⟩] vs hblk (by simp;omega) h1v];obtain⟨ar2,har2⟩:∃ar2,ar2=vs.toList.take (0+l.length)++[.string ⟨⟨x⟩⟩]++vs.toList.drop (0+l.length+[Value.string ⟨⟨x⟩⟩].length):=⟨_,rfl⟩;rw[←har2];have hl3:ar2.length=cap:=by
   rw[har2];simp;omega
  have hg3:=setRow_heap w b' vs ar2.toArray elem (0,0) hblk;refine qM (g:=b') (vb:=vb') (cap:=cap) (arr:=ar2) (rest:=us3) (R':=R) hnx (fun bs hb=>hJ hblk ar2.toArray (by simp[hl3,hsz]) hRv (by omega) bs hb) hbF hvb0 hnd2 hg3 ?_ hfl2 (fun j hj=>hRv j (by omega)) hl3 hcm (by rw[hl2];exact hroom) hrest0 _ (by rw[hl2]);have hv:vs.toList=cD l++(u0::us3):=hus;rw[har2,hv,ky,Nat.zero_add,←hlen,List.take_left,List.take_length,List.drop_length,List.length_singleton,List.drop_length_add_append];simp
 -- a new row
 have hcl:cap=l.length:=by omega
 subst hcl;have hge:=grownCap_ge w (l.length+1) l.length (ρ.t 9);have hgm:grownCap w (l.length+1) l.length (ρ.t 9)<=gX:=Nat.le_trans (grownCap_le_maxLen w (l.length+1) l.length (ρ.t 9) (by unfold maxLen;omega)) (by decide);generalize hgc:grownCap w (l.length+1) l.length (ρ.t 9)=gc at hge hgm;have hltb:b' < w.heap.size:=bw hblk;have hltv:vb' < w.heap.size:=bw hblk2;have hzs:∀n,(Builtin.zeroCells (Value.string ⟨#[]⟩).cells n).toList.length=n:=fun n=>by simp[Builtin.zeroCells,Value.cells]
 have UJ:w.heap.size∉bsF:=fun h=>by have:=hF _ h;omega
 have hRm:∀j,R.more w.heap.size w.heap.size j:=fun j=>.inl rfl
 rcases Nat.lt_or_ge i l.length with hlt|hge2
 ·refine (Any2.slices_Insert_string_grow L b' 0 l.length l.length i vb' 0 1 vc (cD l) [.string ⟨⟨x⟩⟩] w hlt (by decide) (Nat.le_refl _) (by omega) (by omega) hlen rfl hcs hvs nZ h1v).mono ?_;rw[hgc];rintro e w' ⟨rfl,rfl⟩;obtain⟨z1,hz1⟩:∃z1,z1=(Builtin.zeroCells (Value.string ⟨#[]⟩).cells (l.length+1 - i)).toList:=⟨_,rfl⟩;obtain⟨z2,hz2⟩:∃z2,z2=(Builtin.zeroCells (Value.string ⟨#[]⟩).cells (gc - (l.length+1))).toList:=⟨_,rfl⟩;have hl1:z1.length=l.length+1 - i:=by rw[hz1,hzs]
  have hl2':z2.length=gc - (l.length+1):=by rw[hz2,hzs]
  obtain⟨ar0,har0⟩:∃ar0,ar0=(cD l).take i++z1++z2:=⟨_,rfl⟩;have hc0:(((cD l).take i).toArray++Builtin.zeroCells (Value.string ⟨#[]⟩).cells (l.length+1 - i)++Builtin.zeroCells (Value.string ⟨#[]⟩).cells (gc - (l.length+1)))=ar0.toArray:=by rw[har0,hz1,hz2];simp
  rw[hc0];have hl0:ar0.length=gc:=by rw[har0];simp[hl1,hl2',hlen];omega
  have hg0:((w.alloc (.cells ar0.toArray (ρ.t 9))).drew).heap[w.heap.size]?=some (.cells ar0.toArray (ρ.t 9) (0,0)):=heap_alloc_new w _;rw[dG (w:=(w.alloc (.cells ar0.toArray (ρ.t 9))).drew) w.heap.size i (ρ.t 9) [.string ⟨⟨x⟩⟩] ar0.toArray hg0 (by simp[hl0];omega) h1v];obtain⟨ar1,har1⟩:∃ar1,ar1=ar0.toArray.toList.take i++[.string ⟨⟨x⟩⟩]++ar0.toArray.toList.drop (i+[Value.string ⟨⟨x⟩⟩].length):=⟨_,rfl⟩;rw[←har1];have hl3:ar1.length=gc:=by rw[har1];simp[hl0];omega
  have hg1:=setRow_heap (w.alloc (.cells ar0.toArray (ρ.t 9))).drew w.heap.size ar0.toArray ar1.toArray (ρ.t 9) (0,0) hg0;have hg1':(((w.alloc (.cells ar0.toArray (ρ.t 9))).drew.setRow w.heap.size ar1.toArray).drew).heap[w.heap.size]?=some (.cells ar1.toArray (ρ.t 9) (0,0)):=hg1;have hd:((cD l).drop i).length=l.length - i:=by simp[hlen]
  rw[dG (w:=((w.alloc (.cells ar0.toArray (ρ.t 9))).drew.setRow w.heap.size ar1.toArray).drew) w.heap.size (i+1) (ρ.t 9) ((cD l).drop i) ar1.toArray hg1' (by rw[hd];simp[hl3];omega) (fun u hu=>nZ u (List.mem_of_mem_drop hu))];obtain⟨ar2,har2⟩:∃ar2,ar2=ar1.toArray.toList.take (i+1)++(cD l).drop i++ar1.toArray.toList.drop (i+1+((cD l).drop i).length):=⟨_,rfl⟩;rw[←har2];have hl4:ar2.length=gc:=by rw[har2];simp[hl3,hlen];omega
  have hg2:=setRow_heap ((w.alloc (.cells ar0.toArray (ρ.t 9))).drew.setRow w.heap.size ar1.toArray).drew w.heap.size ar1.toArray ar2.toArray (ρ.t 9) (0,0) hg1';refine qM (g:=w.heap.size) (vb:=vb') (cap:=gc) (arr:=ar2) (rest:=z2) (R':=R.more w.heap.size) hnx (fun bs hb=>?_) UJ (by omega) hnd2 hg2 ?_ hfl2 (fun j _=>hRm j) hl4 hgm (by rw[hl2];exact hge) hrest0 _ (by rw[hl2])
  ·have k1:bA w R (w.alloc (.cells ar0.toArray (ρ.t 9))) (R.more w.heap.size) bs:=fE _ (fun b off hb=>Own.jQ hb) bs;have k2:=hJ (R:=R.more w.heap.size) hg0 ar1.toArray (by simp[hl0,hl3]) (fun j _=>hRm j) (by simp[hl0];omega) bs hb;have k3:=hJ (R:=R.more w.heap.size) hg1' ar2.toArray (by simp[hl4,hl3]) (fun j _=>hRm j) (by simp[hl3];omega) bs hb;exact k1.trans (kP (k2.trans (kP k3)))
  have e0:((cD l).take i).length=i:=by simp[hlen];omega
  obtain⟨zz,z1',hz⟩:∃zz z1',z1=zz::z1':=by
   cases z1 with
   | nil=>simp at hl1;omega
   | cons a r=>exact⟨a,r,rfl⟩
  have hl5:z1'.length=l.length - i:=by rw[hz] at hl1;simp at hl1;omega
  have e1:ar1=(cD l).take i++.string ⟨⟨x⟩⟩::(z1'++z2):=by
   rw[har1,har0,hz];simp only[List.toList_toArray,List.length_singleton];exact LQ _ z1' z2 (.string ⟨⟨x⟩⟩) zz i e0
  rw[har2,e1,ky];simp only[List.toList_toArray];have e2:((cD l).take i++.string ⟨⟨x⟩⟩::(z1'++z2)).take (i+1)=(cD l).take i++[.string ⟨⟨x⟩⟩]:=by
   rw[List.take_append,e0];simp[List.take_take]
  have e3:((cD l).take i++.string ⟨⟨x⟩⟩::(z1'++z2)).drop (i+1+((cD l).drop i).length)=z2:=by
   have:i+1+((cD l).drop i).length=((cD l).take i).length+(1+z1'.length):=by rw[e0,hd,hl5];omega
   rw[this,List.drop_length_add_append,Nat.add_comm 1,List.drop_succ_cons,List.drop_left]
  rw[e2,e3];simp
 have hil:i=l.length:=by omega
 subst hil;refine (Any2.slices_Insert_string_end_grow L (some ⟨b',0,none⟩) l.length l.length vb' 0 1 vc (cD l) [.string ⟨⟨x⟩⟩] w (by decide) (Nat.le_refl _) (by omega) (by omega) hlen rfl (by simp) (fun a ha j v hj=>?_) hvs h1v).mono ?_
 ·simp only[Option.some.injEq] at ha;subst ha;rw[add_plain];exact hcs j v hj
 rw[hgc];rintro e w' ⟨rfl,rfl⟩;obtain⟨ar2,har2⟩:∃ar2,ar2=(cD l++[.string ⟨⟨x⟩⟩])++(Builtin.zeroCells (Value.string ⟨#[]⟩).cells (gc - (l.length+1))).toList:=⟨_,rfl⟩;have hcells:((cD l++[Value.string ⟨⟨x⟩⟩]).toArray++Builtin.zeroCells (Value.string ⟨#[]⟩).cells (gc - (l.length+1)))=ar2.toArray:=by rw[har2];simp
 rw[hcells];have hl3:ar2.length=gc:=by rw[har2,List.length_append,hzs];simp[hlen];omega
 have hg3:(w.drew.alloc (.cells ar2.toArray (ρ.t 9))).heap[w.heap.size]?=some (.cells ar2.toArray (ρ.t 9) (0,0)):=heap_alloc_new w.drew _;refine qM (g:=w.heap.size) (vb:=vb') (cap:=gc) (arr:=ar2) (rest:=(Builtin.zeroCells (Value.string ⟨#[]⟩).cells (gc - (l.length+1))).toList) (R':=R.more w.heap.size) hnx (fun bs hb=>eE _ (fun b off hb=>Own.jQ hb) bs) UJ (by omega) hnd2 hg3 ?_ hfl2 (fun j _=>hRm j) hl3 hgm (by rw[hl2];exact hge) hrest0 _ (by rw[hl2]);rw[har2,ky,←hlen,List.take_length,List.drop_length]
theorem A7 (L:Lays2.n22 P ρ) {x:List UInt8} :
  aC P G (ρ.f 22) [.dat (.flat (.slice none 0 0)),iv (Int.ofNat 0),.win (.out 0) 1 0 1] [(.out 0,.cells [.dat (.flat (.string ⟨⟨x⟩⟩))])] 1
   (XQ ⟨.win (.out 1) 1 0 1,[(.out 1,.cells [.dat (.flat (.string ⟨⟨x⟩⟩))]),(.out 0,.cells [.dat (.flat (.string ⟨⟨x⟩⟩))])],2⟩):=by
 intro w R N cargs bsA bsH bsF hargs hheap hnd hnx hglob hF;obtain⟨v0,r1,c0,d1,rfl,rfl,h0,hr1⟩:=az hargs;obtain⟨v1,r2,c1,d2,rfl,rfl,h1,hr2⟩:=az hr1;obtain⟨v2,r3,c2,d3,rfl,rfl,h2,hr3⟩:=az hr2;obtain⟨rfl,rfl⟩:=aR hr3;have hheap0:=hheap;obtain⟨vb,b3,b4,rfl,hvb,hobjv,hrest⟩:=hheap;have hrest:b4=[]:=hrest;subst hrest;obtain⟨vs2,elem2,sp2,hblk2,hrv2,hRv2,_⟩:=hobjv;simp only[al] at h0 h1 h2;obtain⟨rfl,h0⟩:=h0;have hv:v0=.slice none 0 0:=by
  have h0:dN w R v0 (.flat (.slice none 0 0)):=h0
  cases h0 with|flat _=>rfl
 subst hv;obtain⟨rfl,vb',vc,hvb',rfl,hvc,_,hvlt,hvrow⟩:=h2
 have:vb'=vb:=by rw[hvb] at hvb';simpa using hvb'.symm
 subst this;obtain⟨rfl,h1⟩:=h1;have h1:dN w R v1 (.flat (.int .i64 (Int.ofNat 0))):=h1;have e1:v1=.int .i64 (Int.ofNat 0):=by cases h1 with|flat _=>rfl
 subst e1;obtain⟨ws1,ws2,q3,q4,hws,rfl,hr2,hq4⟩:=cV hrv2;obtain⟨rfl,rfl,hfx⟩:=ju (l:=[x]) hr2;obtain⟨rfl,_⟩:=jd hq4;simp only[List.nil_append,List.append_nil] at hnd;have hvs:∀j v,[Value.string ⟨⟨x⟩⟩][j]?=some v->w.cell? ⟨vb',0+j,none⟩=some v:=by
  intro j v hj;refine eK hblk2 ?_;rw[hws]
  cases j with
  | zero=>simpa [cD] using hj
  | succ j=>simp at hj
 have h1v:∀v∈[Value.string ⟨⟨x⟩⟩],v.oneCell'=true:=by intro v hv;simp at hv;subst hv;rfl
 have hltv:vb' < w.heap.size:=bw hblk2;have UJ:w.heap.size∉bsF:=fun h=>by have:=hF _ h;omega
 refine (Any2.slices_Insert_string_end_grow L none 0 0 vb' 0 1 vc [] [.string ⟨⟨x⟩⟩] w (by decide) (Nat.le_refl _) (by omega) (by omega) rfl rfl (by simp) (by simp) hvs h1v).mono ?_;have hge:=grownCap_ge w (0+1) 0 (ρ.t 9);have hgm:grownCap w (0+1) 0 (ρ.t 9)<=gX:=Nat.le_trans (grownCap_le_maxLen w (0+1) 0 (ρ.t 9) (by unfold maxLen;omega)) (by decide);generalize hgc:grownCap w (0+1) 0 (ρ.t 9)=gc at hge hgm;have hzs:∀n,(Builtin.zeroCells (Value.string ⟨#[]⟩).cells n).toList.length=n:=fun n=>by simp[Builtin.zeroCells,Value.cells]
 rintro e w' ⟨rfl,rfl⟩;obtain⟨ar2,har2⟩:∃ar2,ar2=Value.string ⟨⟨x⟩⟩::(Builtin.zeroCells (Value.string ⟨#[]⟩).cells (gc - (0+1))).toList:=⟨_,rfl⟩;have hcells:(([]++[Value.string ⟨⟨x⟩⟩]).toArray++Builtin.zeroCells (Value.string ⟨#[]⟩).cells (gc - (0+1)))=ar2.toArray:=by
  apply Array.toList_inj.1
  rw[har2];simp
 rw[hcells];have hl3:ar2.length=gc:=by rw[har2,List.length_cons,hzs];omega
 have hg3:(w.drew.alloc (.cells ar2.toArray (ρ.t 9))).heap[w.heap.size]?=some (.cells ar2.toArray (ρ.t 9) (0,0)):=heap_alloc_new w.drew _;have hk:∀bs,bA w R (w.drew.alloc (.cells ar2.toArray (ρ.t 9))) (R.more w.heap.size) bs:=fun bs=>eE _ (fun b off hb=>Own.jQ hb) bs
 have hext:=tt (N:=N) (b:=w.heap.size) hnx;refine⟨_,_,_,2,R.more w.heap.size,bK N (.out 1) w.heap.size,[],[w.heap.size,vb'],rfl,⟨rfl,rfl,rfl⟩,?_,?_,?_,?_,hk bsF,fun o b h=>hext _ _ h⟩
 ·simp only[al];refine⟨trivial,w.heap.size,gc,by simp[outs,bK],rfl,hge,⟨by decide,hgm⟩,bw hg3,?_⟩;rw[di hg3];simp[hl3]
 ·refine⟨w.heap.size,[],[vb'],rfl,by simp[outs,bK],?_,((by simpa using hheap0:ao w R (outs N) _ [vb']).keep (hk _)).ext (tH hext)⟩;refine⟨ar2.toArray,ρ.t 9,(Builtin.zeroCells (Value.string ⟨#[]⟩).cells (gc - (0+1))).toList.length,hg3,?_,fun j _=>.inl rfl,fun h=>by simp[cN] at h⟩;have h2:=eF (w:=w.drew.alloc (.cells ar2.toArray (ρ.t 9))) (R:=R.more w.heap.size) (N:=outs (bK N (.out 1) w.heap.size)) (Builtin.zeroCells (Value.string ⟨#[]⟩).cells (gc - (0+1))).toList;have h3:ak (w.drew.alloc (.cells ar2.toArray (ρ.t 9))) (R.more w.heap.size) (outs (bK N (.out 1) w.heap.size)) (xL [x]) (cD [x]) []:=Aw hfx;have h4:=cA h3 h2;have e:ar2.toArray.toList=cD [x]++(Builtin.zeroCells (Value.string ⟨#[]⟩).cells (gc - (0+1))).toList:=by rw[har2];rfl
  rw[e];exact h4
 ·simp only[List.nil_append,List.cons_append];refine List.nodup_cons.2 ⟨?_,hnd⟩;simp only[List.mem_cons,not_or];exact⟨by omega,UJ⟩
 intro o c ho
 by_cases hne:o=1
 ·omega
 have:N (.out o)=some c:=by simpa [bK,hne] using ho
 have:=hnx o c this
 omega
theorem aC.agn {g:FuncId} {args:List ac} {r m:Nat} {l:List (List UInt8)} {rest:Heap} (h:aC P G g args [] 0 (XQ ⟨.win (.out r) 1 0 l.length,(.out r,.cells (xL l))::rest,m⟩)) (hn:l.length<=lim) :
  aC P G g args [] 0 (XQ ⟨.dat (.slice (l.map fun x=>.flat (.string ⟨⟨x⟩⟩))),[],0⟩):=by
 intro w R N cargs bsA bsH bsF ha hh hnd hnx hg hF;refine (h w R N cargs bsA bsH bsF ha hh hnd hnx hg hF).mono ?_;rintro e w' ⟨v,cv,hp,m',R',N',bsV,bsH',rfl,⟨rfl,rfl,rfl⟩,hv,hh',hnd',hnx',hk,hN⟩;simp only[al] at hv;obtain⟨rfl,b,cap,hb,rfl,hcap,_,hblt,hrow⟩:=hv;obtain⟨b',b1,b2,rfl,hb',hobj,hrest⟩:=hh'
 have:b'=b:=by rw[hb] at hb';simpa using hb'.symm
 subst this;obtain⟨vs,elem,sp,hblk,hrv,hRv,_⟩:=hobj;obtain⟨us1,us2,q1,q2,hus,rfl,hr1,_⟩:=cV hrv;obtain⟨rfl,rfl,hfl⟩:=ju hr1;have hbF:b'∉bsF:=by
  intro hm;have h1:(b'::((([]++q2)++b2)++bsF)).Nodup:=by simpa using hnd'
  exact (List.nodup_cons.1 h1).1 (List.mem_append_right _ hm)
 let R2:Own:=fun c off=>c≠b'/\R' c off
 have hk2:bA w' R' w' R2 bsF:=⟨⟨rfl,rfl,rfl,Nat.le_refl _,fun c _ hno=>⟨rfl,fun off h=>hno off h.2⟩,fun c off _ hno=>⟨fun h=>hno h.2,rfl⟩,fun _ _=>rfl⟩,fun c hc _=>⟨rfl,fun off h=>⟨fun e=>hbF (e ▸ hc),h⟩⟩⟩;refine⟨_,_,_,0,R2,fun m=>match m with|.loc i=>N' (.loc i)|.out _=>none,[],[],rfl,⟨rfl,rfl,rfl⟩,?_,rfl,?_,by intro o c ho;simp at ho,hk.trans hk2,?_⟩
 ·simp only[al];refine⟨trivial,?_⟩;have hl:l.length=(l.map fun x=>aq.flat (.string ⟨⟨x⟩⟩)).length:=by simp
  rw[hl];refine dN.slice b' 0 cap 1 _ (fun i _=>.string ⟨⟨l.getD i []⟩⟩) (by decide) ?_ (by simpa using hcap) (by simpa using hn) ?_ ?_
  ·intro e he;obtain⟨x,_,rfl⟩:=List.mem_map.1 he;rfl
  ·intro i j hi hj
   have:j=0:=by omega
   subst this;simp only[List.length_map] at hi;refine⟨?_,fun h=>h.1 rfl⟩;refine eK hblk ?_;rw[hus,show 0+i*1+0=i by omega,List.getElem?_append_left (by simp[cD];exact hi)];simp[cD,hi]
  intro i j e c he hc;simp only[List.getElem?_map,Option.map_eq_some_iff] at he;obtain⟨x,hx,rfl⟩:=he;have hc2:c=.flat (.string ⟨⟨x⟩⟩):=by
   have hc:[aq.flat (.string ⟨⟨x⟩⟩)][j]?=some c:=hc
   cases j with
   | zero=>simpa using hc.symm
   | succ j=>simp at hc
  subst hc2;obtain⟨hi,rfl⟩:=List.getElem?_eq_some_iff.1 hx
  have:l.getD i []=l[i]:=by simp[hi]
  rw[this];exact .flat (hfl _ (List.getElem_mem hi))
 ·have h1:(b'::((([]++q2)++b2)++bsF)).Nodup:=by simpa using hnd'
  have h2:=(List.nodup_cons.1 h1).2;simpa using (List.nodup_append.1 h2).2.1
 intro o c ho
 have:=hnx o c ho
 omega
theorem aC.agA {g:FuncId} {args:List ac} {r m:Nat} {l:List (List UInt8)} {rest:Heap} (hne:l≠[]) (h:aC P G g args [] 0 (XQ ⟨.win (.out r) 1 0 l.length,(.out r,.cells (xL l))::rest,m⟩)) (hn:l.length<=lim) :
  aC P G g args [] 0 (XQ ⟨.own (l.map fun x=>.flat (.string ⟨⟨x⟩⟩)),[],0⟩):=by
 intro w R N cargs bsA bsH bsF ha hh hnd hnx hg hF;refine (h w R N cargs bsA bsH bsF ha hh hnd hnx hg hF).mono ?_;rintro e w' ⟨v,cv,hp,m',R',N',bsV,bsH',rfl,⟨rfl,rfl,rfl⟩,hv,hh',hnd',hnx',hk,hN⟩;simp only[al] at hv;obtain⟨rfl,b,cap,hb,rfl,hcap,_,hblt,hrow⟩:=hv;obtain⟨b',b1,b2,rfl,hb',hobj,hrest⟩:=hh'
 have:b'=b:=by rw[hb] at hb';simpa using hb'.symm
 subst this;obtain⟨vs,elem,sp,hblk,hrv,hRv,_⟩:=hobj;obtain⟨us1,us2,q1,q2,hus,rfl,hr1,_⟩:=cV hrv;obtain⟨rfl,rfl,hfl⟩:=ju hr1;have hbF:b'∉bsF:=by
  intro hm;have h1:(b'::((([]++q2)++b2)++bsF)).Nodup:=by simpa using hnd'
  exact (List.nodup_cons.1 h1).1 (List.mem_append_right _ hm)
 let R2:Own:=fun c off=>(c=b'->l.length<=off)/\R' c off
 have hk2:bA w' R' w' R2 bsF:=⟨⟨rfl,rfl,rfl,Nat.le_refl _,fun c _ hno=>⟨rfl,fun off h=>hno off h.2⟩,fun c off _ hno=>⟨fun h=>hno h.2,rfl⟩,fun _ _=>rfl⟩,fun c hc _=>⟨rfl,fun off h=>⟨fun e=>absurd (e ▸ hc) hbF,h⟩⟩⟩;have hsz:cap=vs.size:=by rw[di hblk] at hrow;omega
 refine⟨_,_,_,0,R2,fun m=>match m with|.loc i=>N' (.loc i)|.out _=>none,[b'],[],rfl,⟨rfl,rfl,rfl⟩,?_,rfl,?_,by intro o c ho;simp at ho,hk.trans hk2,?_⟩
 ·simp only[al];have hl:l.length=(l.map fun x=>aq.flat (.string ⟨⟨x⟩⟩)).length:=by simp
  have hes:∀e∈l.map fun x=>aq.flat (.string ⟨⟨x⟩⟩),e.cells.length=1:=by
   intro e he;obtain⟨x,_,rfl⟩:=List.mem_map.1 he;rfl
  rw[hl];refine iu.row b' cap 1 _ vs elem hblk (by decide) hes (by simpa using hcap) (fun h=>absurd (List.map_eq_nil_iff.1 h) hne) (by omega) ?_ (fun x h1 h2=>⟨fun _=>by simpa using h1,hRv x (by omega)⟩) (fun h=>?_)
  rotate_left
  ·cases l with
   | nil=>exact absurd rfl hne
   | cons x r=>simp[ez] at h
  refine dN.slice b' 0 cap 1 _ (fun i _=>.string ⟨⟨l.getD i []⟩⟩) (by decide) ?_ (by simpa using hcap) (by simpa using hn) ?_ ?_
  ·intro e he;obtain⟨x,_,rfl⟩:=List.mem_map.1 he;rfl
  ·intro i j hi hj
   have:j=0:=by omega
   subst this;simp only[List.length_map] at hi;refine⟨?_,fun h=>by have:=h.1 rfl;omega⟩;refine eK hblk ?_;rw[hus,show 0+i*1+0=i by omega,List.getElem?_append_left (by simp[cD];exact hi)];simp[cD,hi]
  intro i j e c he hc;simp only[List.getElem?_map,Option.map_eq_some_iff] at he;obtain⟨x,hx,rfl⟩:=he;have hc2:c=.flat (.string ⟨⟨x⟩⟩):=by
   have hc:[aq.flat (.string ⟨⟨x⟩⟩)][j]?=some c:=hc
   cases j with
   | zero=>simpa using hc.symm
   | succ j=>simp at hc
  subst hc2;obtain⟨hi,rfl⟩:=List.getElem?_eq_some_iff.1 hx
  have:l.getD i []=l[i]:=by simp[hi]
  rw[this];exact .flat (hfl _ (List.getElem_mem hi))
 ·have h1:(b'::((([]++q2)++b2)++bsF)).Nodup:=by simpa using hnd'
  obtain⟨h3,h2⟩:=List.nodup_cons.1 h1;have h4:=(List.nodup_append.1 h2).2.1;simp only[List.mem_append,not_or] at h3;simp only[List.nil_append,List.cons_append];exact List.nodup_cons.2 ⟨h3.2,h4⟩
 intro o c ho
 have:=hnx o c ho
 omega
end
end Go.Tp
namespace Go.Proofs.YtiihadmgkoamoaaGreatDoor
open Go.Tp
theorem qF (k:Nat):∀l:List (List UInt8),dt k (xL l)=false
 | []=>rfl
 | d::r=>by show (du k (.dat (sb d))||dt k (xL r))=false;rw[qF k r];rfl
theorem gk (ρ:Nat->Nat):∀l:List (List UInt8),fO ρ (xL l)=xL l
 | []=>rfl
 | d::r=>by show eN ρ (.dat (sb d))::fO ρ (xL r)=_;rw[gk ρ r];rfl
theorem qE (p:Nat->Bool):∀l:List (List UInt8),gR p (xL l)=true
 | []=>rfl
 | d::r=>by show (Bv p (.dat (sb d))&&gR p (xL r))=true;rw[qE p r];rfl
def xh (r:Nat):List (List UInt8)->Heap
 | []=>[(.out 0,.cells [.dat nl])]
 | x::l=>[(.out r,.cells (xL (x::l))),(.out 0,.cells [.win (.out r) 1 0 (x::l).length])]
def sW (r:Nat) (l:List (List UInt8)) (n:Nat):Heap:=[(.out r,.cells (xL l)),(.out 0,.cells [.win (.out r) 1 0 n])]
theorem GF {r:Nat} {l:List (List UInt8)} (h:l≠[]):xh r l=sW r l l.length:=by cases l with|nil=>exact absurd rfl h|cons x l=>rfl
theorem Ii {l:List (List UInt8)} {x:List UInt8} {n:Nat} (hs:kh l) (hn:l.length < 1000000000) (hl:n=l.length) :
  KC 179 [.win (.out 1) 1 0 n,.dat (sb x)] (sW 1 l n) 2 (XQ ⟨.tup [iv (Int.ofNat (ja l x)),bv (l.contains x)],sW 1 l n,2⟩):=by
 subst hl;have h:=aC.frame (J3 (G:=cJ) Tryz.agV (x:=x) hs hn) (fun _=>1) (heap:=sW 1 l l.length) (rest:=[(.out 0,.cells [.win (.out 1) 1 0 l.length])]) (next:=2) (by simp[sW,kK,mI,rf,gk]) rfl (by simp[cC,ly,qF]) rfl rfl;refine jm h ?_;rintro v h m ⟨v0,h1,n1,⟨rfl,rfl,rfl⟩,rfl,rfl,rfl⟩;refine⟨sW 1 l l.length,?_,rfl,rfl,rfl⟩;simp[sW,kK,mI,rf,gk,gv];exact List.Perm.refl _
theorem Jw {l:List (List UInt8)} {x:List UInt8} {i n:Nat} (hi:i<=l.length) (hn:l.length < 1000000000) (hl:n=l.length) :
  KC 180 [.win (.out 1) 1 0 n,iv (Int.ofNat i),.win (.out 2) 1 0 1] ((.out 2,.cells [.dat (sb x)])::sW 1 l n) 3
   (XQ ⟨.win (.out 3) 1 0 (cZ l i x).length,[(.out 3,.cells (xL (cZ l i x))),(.out 2,.cells [.dat (sb x)]),(.out 0,.cells [.win (.out 1) 1 0 n])],4⟩):=by
 subst hl;have h:=aC.frame (J5 (G:=cJ) Tryz.Y9 (x:=x) hi hn) (fun o=>o+1) (heap:=(.out 2,.cells [.dat (sb x)])::sW 1 l l.length) (rest:=[(.out 0,.cells [.win (.out 1) 1 0 l.length])]) (next:=3) (by simp[sW,kK,mI,rf,gk,fO,eN];exact List.Perm.swap _ _ _) rfl (by simp[cC,ly,qF,dt,du]) rfl rfl;refine jm h ?_;rintro v h m ⟨v0,h1,n1,⟨rfl,rfl,rfl⟩,rfl,rfl,rfl⟩;refine⟨_,List.Perm.refl _,rfl,?_,rfl⟩;simp[kK,mI,rf,gk,fO,eN,gv]
 (and_intros <;> rfl)
theorem Gu {x:List UInt8} :
  KC 180 [.dat nl,iv (Int.ofNat 0),.win (.out 1) 1 0 1] [(.out 1,.cells [.dat (sb x)]),(.out 0,.cells [.dat nl])] 2
   (XQ ⟨.win (.out 2) 1 0 1,[(.out 2,.cells [.dat (sb x)]),(.out 1,.cells [.dat (sb x)]),(.out 0,.cells [.dat nl])],3⟩):=by
 have h:=aC.frame (A7 (G:=cJ) Tryz.Y9 (x:=x)) (fun o=>o+1) (heap:=[(.out 1,.cells [.dat (sb x)]),(.out 0,.cells [.dat nl])]) (rest:=[(.out 0,.cells [.dat nl])]) (next:=2) (by rfl) rfl rfl rfl rfl;refine jm h ?_;rintro v h m ⟨v0,h1,n1,⟨rfl,rfl,rfl⟩,rfl,rfl,rfl⟩;exact⟨_,List.Perm.refl _,rfl,rfl,rfl⟩
theorem Fm {x:List UInt8}:ag 179 [.dat nl,.dat (sb x)] (.tup [iv (Int.ofNat 0),bv false]):=aM _ _ _ _ _ (by kernel_rfl)
theorem UC {x:List UInt8}:KC 151 [sP,.dat (sb x)] [(.out 0,.cells [.dat nl])] 1 (XQ ⟨.tup [],[(.out 2,.cells [.dat (sb x)]),(.out 1,.cells [.dat (sb x)]),(.out 0,.cells [.win (.out 2) 1 0 1])],3⟩):=by
 have h1:=Fm (x:=x);have h2:=Gu (x:=x);refine aY [] [] (x:=fL.of Tryz.f151 zX yq) (by kernel_rfl) ?_;refine on h1 ?_;refine oh h2 ?_;exact fi
theorem UD {l l2:List (List UInt8)} {x:List UInt8} {i n n2:Nat} (h1:KC 179 [.win (.out 1) 1 0 n,.dat (sb x)] (sW 1 l n) 2 (XQ ⟨.tup [iv (Int.ofNat i),bv false],sW 1 l n,2⟩))
  (h2:KC 180 [.win (.out 1) 1 0 n,iv (Int.ofNat i),.win (.out 2) 1 0 1] ((.out 2,.cells [.dat (sb x)])::sW 1 l n) 3
   (XQ ⟨.win (.out 3) 1 0 n2,[(.out 3,.cells (xL l2)),(.out 2,.cells [.dat (sb x)]),(.out 0,.cells [.win (.out 1) 1 0 n])],4⟩)) :
  KC 151 [sP,.dat (sb x)] (sW 1 l n) 2 (XQ ⟨.tup [],[(.out 3,.cells (xL l2)),(.out 2,.cells [.dat (sb x)]),(.out 0,.cells [.win (.out 3) 1 0 n2])],4⟩):=by
 refine aY [] [] (x:=fL.of Tryz.f151 zX yq) (by kernel_rfl) ?_;refine oh h1 ?_;refine oh h2 ?_;exact fi
theorem UB {l:List (List UInt8)} {x:List UInt8} {i n:Nat} (h1:KC 179 [.win (.out 1) 1 0 n,.dat (sb x)] (sW 1 l n) 2 (XQ ⟨.tup [iv (Int.ofNat i),bv true],sW 1 l n,2⟩)) :
  KC 151 [sP,.dat (sb x)] (sW 1 l n) 2 (XQ ⟨.tup [],sW 1 l n,2⟩):=by
 refine aY [] [] (x:=fL.of Tryz.f151 zX yq) (by kernel_rfl) ?_;refine oh h1 ?_;exact fi
def cH (l:List (List UInt8)) (x:List UInt8):List (List UInt8):=match l.contains x with|true=>l|false=>cZ l (ja l x) x
theorem Nv {l:List (List UInt8)} {i:Nat} {x:List UInt8}:cZ l i x≠[]:=by simp[cZ]
theorem UE {l:List (List UInt8)} {x:List UInt8} (h0:l≠[]) (hs:kh l) (hn:l.length < 1000000000) :
  KC 151 [sP,.dat (sb x)] (sW 1 l l.length) 2 (XQ ⟨.tup [],sW 2 (cH l x) (cH l x).length,3⟩):=by
 have h1:=Ii (x:=x) hs hn rfl;unfold cH;generalize hc:l.contains x=c at h1
 cases c
 ·have h2:=Jw (x:=x) (i:=ja l x) uE hn rfl;refine aC.rn (UD h1 h2) ?_;rintro v hp m ⟨rfl,rfl,rfl⟩;refine⟨[3],rfl,?_,?_⟩
  ·simp[sW,bI,F6,IW,gR,Bv,dP,gI,qE];rfl
  simp[sW,bI,kK,mI,rf,fO,eN,dP,gI,kj,oX,gk]
  (and_intros <;> rfl)
 refine aC.rn (UB h1) ?_;rintro v hp m ⟨rfl,rfl,rfl⟩;refine⟨[1],rfl,?_,?_⟩
 ·simp[sW,bI,F6,IW,gR,Bv,dP,gI,qE];rfl
 simp[sW,bI,kK,mI,rf,fO,eN,dP,gI,kj,oX,gk]
 (and_intros <;> rfl)
theorem EJ {x:List UInt8}:KC 151 [sP,.dat (sb x)] [(.out 0,.cells [.dat nl])] 1 (XQ ⟨.tup [],sW 1 [x] 1,2⟩):=by
 refine aC.rn (UC (x:=x)) ?_;rintro v hp m ⟨rfl,rfl,rfl⟩;exact⟨[2],rfl,rfl,rfl,rfl,rfl⟩
theorem ada {l:List (List UInt8)} {x:List UInt8} (hs:kh l) (hn:l.length < 1000000000) (r m:Nat) :
  KC 151 [sP,.dat (sb x)] (xh r l) m (XQ ⟨.tup [],xh m (cH l x),m+1⟩):=by
 cases l with
 | nil=>
  have h:=aC.frame (EJ (x:=x)) (fun o=>o) (heap:=xh r []) (rest:=[]) (next:=m) (by rfl) rfl rfl rfl rfl;refine h.mono ?_;rintro v h m' ⟨v0,h1,n1,⟨rfl,rfl,rfl⟩,rfl,rfl,rfl⟩;refine⟨rfl,?_,rfl⟩;show _=xh m [x];simp[xh,sW,kK,mI,rf,fO,eN,gk,gv]
  (and_intros <;> rfl)
 | cons y l=>
  have h2:cH (y::l) x≠[]:=by
   unfold cH
   cases (y::l).contains x with
   | true=>simp
   | false=>exact Nv
  rw[GF (by simp:(y::l)≠[]),GF h2];have h:=aC.frame (UE (x:=x) (by simp:(y::l)≠[]) hs hn) (fun o=>match o with|0=>0|_=>r) (heap:=sW r (y::l) (y::l).length) (rest:=[]) (next:=m) (by simp[sW,kK,mI,rf,gk,fO,eN]) (by rfl) (by simp[cC,sW,ly,qF,dt,du];rfl) (by rfl) rfl;refine h.mono ?_;rintro v h m' ⟨v0,h1,n1,⟨rfl,rfl,rfl⟩,rfl,rfl,rfl⟩;refine⟨rfl,?_,rfl⟩;simp[sW,kK,mI,rf,fO,eN,gk,gv]
  (and_intros <;> rfl)
noncomputable def hCn:Hints:=⟨an,zZ,ap,rowsOf ap 128⟩
def Ib (a:aq) (n:Nat) (H:Heap) (m:Nat) (i:Int):ab:=⟨[(16,iv i),(15,iv (Int.ofNat n)),(14,.dat a),(1,sP)],[],H,m⟩
def KE (a:aq) (n:Nat) (H:Heap) (m:Nat) (i:Int):ab:=⟨[(17,bv false),(16,iv i),(15,iv (Int.ofNat n)),(14,.dat a),(1,sP)],[],H,m⟩
theorem T0 {x:aq} {es:List aq} {l:List Ty} {t:Ty} {i m m2:Nat} {H H2:Heap} (hl:ax l=x::es) (hi:i < (ax l).length) (ht:l[i]?=some t)
  (hc:KC 128 [.dat t.enc,sP] H m (XQ ⟨.tup [],H2,m2⟩)) {T:Exit->aa->Prop}
  (e:T .normal ((Ib (.slice (x::es)) (x::es).length H2 m2 (aG .i64 (Int.ofNat i+1))).aw Tryz.f128.ntmps)) :
  KD (roundOf Tryz.f128 0) T ((Ib (.slice (x::es)) (x::es).length H m (Int.ofNat i)).aw Tryz.f128.ntmps):=by
 have h1:=bd hi;have h2:=jU ht;rw[hl] at h1 h2;clear ht hi hl;obtain⟨k2,nm2,ix2,a2⟩:=t
 rcases a2 with _|⟨b2,d2⟩ <;>
 ·refine aB [17] [18] (H:=hCn) (live:=tW) (by kernel_rfl) ?_;refine ob h1 ?_;refine oo h2 ?_;refine oh hc ?_;exact oe e
theorem XX {a:aq} {n m:Nat} {H:Heap} {T:Exit->aa->Prop} (e:T (.exit 0) ((KE a n H m (Int.ofNat n)).aw Tryz.f128.ntmps)) :
  KD (roundOf Tryz.f128 0) T ((Ib a n H m (Int.ofNat n)).aw Tryz.f128.ntmps):=by
 have h1:=br (i:=n) (L:=n) (by omega);refine aB [17] [] (H:=hCn) (live:=tW) (by kernel_rfl) ?_;refine ob h1 ?_;exact oe e
def gZ (k:Int) (nm:List UInt8) (s:List (List UInt8)):List (List UInt8):=match aQ k 2 with|false=>s|true=>cH s nm
mutual
def Ty.cn:Ty->List (List UInt8)->List (List UInt8)
 | .mk k nm _ args,s=>AY args (gZ k nm s)
def AY:List Ty->List (List UInt8)->List (List UInt8)
 | [],s=>s
 | t::r,s=>AY r (t.cn s)
end
theorem L7 {b:List Ty}:∀{a:List Ty} {s:List (List UInt8)},AY (a++b) s=AY b (AY a s)
 | [],s=>rfl
 | t::r,s=>by simp only[List.cons_append,AY];rw[L7]
theorem Hi {l:List Ty} {i:Nat} {t:Ty} {s:List (List UInt8)} (h:l[i]?=some t):AY (l.take (i+1)) s=t.cn (AY (l.take i) s):=by
 rw[List.take_add_one,h,Option.toList_some,L7,AY,AY]
theorem T1 {k:Int} {nm:List UInt8} {ix:Int} {l:List aq} {m m2 m3:Nat} {ck:Bool} {H H2 H3:Heap} (hk:aQ k 2=ck)
  (ha:ck=true->KC 151 [sP,.dat (sb nm)] H m (XQ ⟨.tup [],H2,m2⟩)) (he:ck=false->H2=H/\m2=m)
  (hl:KD (.loop (roundOf Tryz.f128 0)) (fun e s=>e=.exit 0/\s=(KE (sl l) l.length H3 m3 (Int.ofNat l.length)).aw Tryz.f128.ntmps) ((Ib (sl l) l.length H2 m2 (Int.ofNat 0)).aw Tryz.f128.ntmps)) :
  KC 128 [.dat (.agg [i64 k,sb nm,i64 ix,sl l]),sP] H m (XQ ⟨.tup [],H3,m3⟩):=by
 cases ck
 ·obtain⟨rfl,rfl⟩:=he rfl;clear he ha
  rcases l with _|⟨x,l⟩ <;>
  ·refine aY [8] [] (x:=fL.of Tryz.f128 zZ tW) (by kernel_rfl) ?_;refine ob hk ?_;refine lo hl ?_;rintro ex s ⟨rfl,rfl⟩;refine⟨_,rfl,?_⟩;exact fi
 have ha2:=ha rfl;clear he ha
 rcases l with _|⟨x,l⟩ <;>
 ·refine aY [8] [] (x:=fL.of Tryz.f128 zZ tW) (by kernel_rfl) ?_;refine ob hk ?_;refine oh ha2 ?_;refine lo hl ?_;rintro ex s ⟨rfl,rfl⟩;refine⟨_,rfl,?_⟩;exact fi
def gl (b:Nat) (s:List (List UInt8)):Prop:=kh s/\s.length<=b
theorem J0 {l:List (List UInt8)} {x:List UInt8} (hs:kh l):(∀y∈l.take (ja l x),jE y x=true)/\(∀y∈l.drop (ja l x),jE y x=false):=by
 constructor
 ·intro y hy;obtain⟨t,ht,he⟩:=List.mem_iff_getElem.1 hy;rw[List.getElem_take] at he;rw[List.length_take] at ht;have hg:l[t]?=some y:=by rw[List.getElem?_eq_getElem (by omega),he]
  rw[oz hs hg];simp;omega
 intro y hy;obtain⟨t,ht,he⟩:=List.mem_iff_getElem.1 hy;rw[List.getElem_drop] at he;rw[List.length_drop] at ht;have hg:l[ja l x+t]?=some y:=by rw[List.getElem?_eq_getElem (by omega),he]
 rw[oz hs hg];simp
theorem lH {s:List (List UInt8)} {x:List UInt8} (h1:kh s):kh (cH s x):=by
 unfold cH
 cases hc:s.contains x with
 | true=>exact h1
 | false=>
  obtain⟨c1,c2⟩:=J0 (x:=x) h1;have hx:x∉s:=by intro h;rw[List.contains_iff_mem.2 h] at hc;simp at hc
  unfold cZ kh;dsimp only;rw[List.pairwise_append];refine⟨List.Pairwise.sublist (List.take_sublist _ _) h1,?_,?_⟩
  ·rw[List.pairwise_cons];refine⟨?_,List.Pairwise.sublist (List.drop_sublist _ _) h1⟩;intro y hy
   cases hxy:jE x y with
   | true=>rfl
   | false=>
    have:=Lo (c2 y hy) hxy
    exact absurd (this ▸ List.mem_of_mem_drop hy) hx
  intro y hy z hz;have h3:=c1 y hy
  rcases List.mem_cons.1 hz with rfl|hz
  ·exact h3
  cases hxz:jE x z with
  | true=>exact vE h3 hxz
  | false=>
   have:=Lo (c2 z hz) hxz
   exact absurd (this ▸ List.mem_of_mem_drop hz) hx
theorem gi {s:List (List UInt8)} {x y:List UInt8}:y∈cH s x↔y∈s∨y=x:=by
 unfold cH
 cases hc:s.contains x with
 | true=>
  have hx:x∈s:=by simpa using hc
  dsimp only
  constructor
  ·exact .inl
  rintro (h|rfl)
  ·exact h
  exact hx
 | false=>
  dsimp only[cZ];have e:s=s.take (ja s x)++s.drop (ja s x):=(List.take_append_drop _ _).symm
  constructor
  ·intro h
   rcases List.mem_append.1 h with h|h
   ·exact .inl (List.mem_of_mem_take h)
   rcases List.mem_cons.1 h with h|h
   ·exact .inr h
   exact .inl (List.mem_of_mem_drop h)
  rintro (h|rfl)
  ·rw[e] at h
   rcases List.mem_append.1 h with h|h
   ·exact List.mem_append_left _ h
   exact List.mem_append_right _ (List.mem_cons_of_mem _ h)
  exact List.mem_append_right _ List.mem_cons_self
theorem Fk {s:List (List UInt8)} {x:List UInt8}:(cH s x).length<=s.length+1:=by
 unfold cH
 cases s.contains x with
 | true=>exact Nat.le_succ _
 | false=>dsimp only;rw[pJ uE];exact Nat.le_refl _
theorem zu {b:Nat} {k:Int} {nm:List UInt8} {s:List (List UInt8)} (h:gl b s):gl (b+1) (gZ k nm s):=by
 unfold gZ
 cases aQ k 2 with
 | false=>exact⟨h.1,Nat.le_succ_of_le h.2⟩
 | true=>exact⟨lH h.1,Nat.le_trans Fk (Nat.succ_le_succ h.2)⟩
mutual
theorem Zk:∀(t:Ty) {b:Nat} {s:List (List UInt8)},gl b s->gl (b+t.size) (t.cn s)
 | .mk k nm ix l,b,s,h=>by
  rw[Ty.cn,Ty.size,show b+(aS l+1)=b+1+aS l by omega];exact Er l (zu h)
theorem Er:∀(l:List Ty) {b:Nat} {s:List (List UInt8)},gl b s->gl (b+aS l) (AY l s)
 | [],b,s,h=>by simpa [AY,aS] using h
 | t::r,b,s,h=>by
  rw[AY,aS,←Nat.add_assoc];exact Er r (Zk t h)
end
def CN (t:Ty) (s:List (List UInt8)):Prop:=∀r m,0 < r->0 < m->KC 128 [.dat t.enc,sP] (xh r s) m (XQ ⟨.tup [],xh m (t.cn s),m+1⟩)
theorem Vk {f:FuncId} {args:List ac} {h0:Heap} {m q mm:Nat} {s:List (List UInt8)} (hm:0 < m) (hq:0 < q) (h:KC f args h0 m (XQ ⟨.tup [],xh q s,mm⟩)):KC f args h0 m (XQ ⟨.tup [],xh m s,m+1⟩):=by
 refine aC.rn h ?_;rintro v hp m' ⟨rfl,rfl,rfl⟩;refine⟨[q],rfl,?_,?_⟩
 all_goals
  have e1:gI 0 [q]=false:=by cases q with|zero=>omega|succ q=>rfl
  have e2:gI q [q]=true:=by simp[gI]
  have e3:dP m [q] 0=true:=by simp[dP,Nat.blt_eq,hm]
  have e4:dP m [q] q=true:=by simp[dP,e2]
  have e5:kj m [q] 0=0:=by simp[kj,e1]
  have e6:kj m [q] q=m:=by simp[kj,e2,oX]
 ·cases s with
  | nil=>simp[xh,bI,F6,IW,gR,Bv,e3]
  | cons x l=>simp[xh,bI,F6,IW,gR,Bv,e3,e4,qE]
 ·cases s with
  | nil=>simp[xh,bI,kK,mI,rf,fO,eN,e3,e5];(and_intros <;> rfl)
  | cons x l=>simp[xh,bI,kK,mI,rf,fO,eN,e3,e4,e5,e6,gk];(and_intros <;> rfl)
theorem ac4 {k:Int} {nm:List UInt8} {ix:Int} {l:List Ty} {b:Nat} {s:List (List UInt8)} (hs:gl b s) (hbd:b+1+aS l < 1000000000)
  (ih:∀t∈l,∀s2,(∃b2,gl b2 s2/\b2+t.size<=b+1+aS l)->CN t s2):CN (.mk k nm ix l) s:=by
 intro r m hr hm;have hlen:=eh l;obtain⟨r2,m2,hr2,hm2,hH2⟩:∃r2 m2,0 < r2/\0 < m2/\((aQ k 2=true->KC 151 [sP,.dat (sb nm)] (xh r s) m (XQ ⟨.tup [],xh r2 (gZ k nm s),m2⟩))/\(aQ k 2=false->xh r2 (gZ k nm s)=xh r s/\m2=m)):=by
  unfold gZ
  cases hk:aQ k 2 with
  | false=>exact⟨r,m,hr,hm,by simp,fun _=>⟨rfl,rfl⟩⟩
  | true=>exact⟨m,m+1,hm,by omega,fun _=>ada hs.1 (by have:=hs.2;omega) r m,by simp⟩
 have hs1:=zu (k:=k) (nm:=nm) hs;refine Vk (q:=tx r2 m2 l.length) (mm:=m2+l.length) hm (tw hr2 hm2) ?_;have hl:KD (.loop (roundOf Tryz.f128 0)) (fun e s'=>e=.exit 0/\s'=(KE (sl (ax l)) (ax l).length (xh (tx r2 m2 l.length) (AY l (gZ k nm s))) (m2+l.length) (Int.ofNat (ax l).length)).aw Tryz.f128.ntmps)
   ((Ib (sl (ax l)) (ax l).length (xh r2 (gZ k nm s)) m2 (Int.ofNat 0)).aw Tryz.f128.ntmps):=by
  refine ba (St:=fun i=>(Ib (sl (ax l)) (ax l).length (xh (tx r2 m2 i) (AY (l.take i) (gZ k nm s))) (m2+i) (Int.ofNat i)).aw Tryz.f128.ntmps) (ax l).length ?_ ?_ (i:=0) (Nat.zero_le _)
  ·intro i hi;obtain⟨t,ht,hmem⟩:=get_mem hi;have hi2:=hi;rw[aE] at hi2;obtain⟨x,es,hx⟩:∃x es,ax l=x::es:=by
    cases hl:ax l with
    | nil=>rw[hl] at hi;simp at hi
    | cons x es=>exact⟨x,es,rfl⟩
   have hst:=ij ht;have hsl:=mM (l:=l) (i+1);have hpre:gl (b+1+aS (l.take i)) (AY (l.take i) (gZ k nm s)):=Er _ hs1;have hcf:=ih t hmem (AY (l.take i) (gZ k nm s)) ⟨_,hpre,by omega⟩ (tx r2 m2 i) (m2+i) (tw hr2 hm2) (by omega);have e:=T0 (T:=iY (fun s'=>s'=(Ib (sl (ax l)) (ax l).length (xh (tx r2 m2 (i+1)) (AY (l.take (i+1)) (gZ k nm s))) (m2+(i+1)) (Int.ofNat (i+1))).aw Tryz.f128.ntmps)
    (fun e s'=>e=.exit 0/\s'=(KE (sl (ax l)) (ax l).length (xh (tx r2 m2 l.length) (AY l (gZ k nm s))) (m2+l.length) (Int.ofNat (ax l).length)).aw Tryz.f128.ntmps)) hx hi ht hcf (by
     rw[hx,bb (by omega),Hi ht];rfl)
   rw[hx];rw[hx] at e;exact e
  refine XX ⟨rfl,?_⟩;rw[aE,List.take_length]
 exact T1 rfl hH2.1 hH2.2 hl
mutual
theorem A9:∀(t:Ty) {b:Nat} {s:List (List UInt8)},gl b s->b+t.size < 1000000000->CN t s
 | .mk k nm ix l,b,s,hs,hb=>by
  simp only[Ty.size] at hb;exact ac4 hs (by omega) (xB l (by omega))
theorem xB:∀(l:List Ty) {B:Nat},B < 1000000000->∀t∈l,∀s2,(∃b2,gl b2 s2/\b2+t.size<=B)->CN t s2
 | [],B,_,t,ht,_,_=>by simp at ht
 | y::r,B,hB,t,ht,s2,h2=>by
  rcases List.mem_cons.1 ht with h3|ht
  ·obtain⟨b2,h4,h5⟩:=h2;rw[h3] at h5 ⊢;exact A9 y h4 (by omega)
  exact xB r hB t ht s2 h2
end
theorem Ng {k:Int} {nm:List UInt8} {ix:Int} {l:List aq} {s:List (List UInt8)} (h:KC 128 [.dat (.agg [i64 k,sb nm,i64 ix,sl l]),sP] [(.out 0,.cells [.dat nl])] 1 (XQ ⟨.tup [],xh 1 s,2⟩)) :
  KC 100 [.dat (.agg [i64 k,sb nm,i64 ix,sl l])] [] 0 (XQ (match s with|[]=>⟨.dat nl,xh 1 [],2⟩|x::r=>⟨.win (.out 1) 1 0 (x::r).length,xh 1 (x::r),2⟩)):=by
 rcases l with _|⟨y,l⟩ <;>
 ·cases s with
  | nil=>
   refine aY [] [] (x:=fL.of Tryz.f100 DI DX) (by kernel_rfl) ?_;refine oh h ?_;exact fi
  | cons x r=>
   refine aY [] [] (x:=fL.of Tryz.f100 DI DX) (by kernel_rfl) ?_;refine oh h ?_;exact fi
def Ty.yo (t:Ty):List (List UInt8):=t.cn []
theorem R8 {t:Ty}:gl (0+t.size) t.yo:=Zk t ⟨List.Pairwise.nil,Nat.le_refl _⟩
theorem VV {g:FuncId} {args:List ac} {heap h2:Heap} {next m:Nat} (h:KC g args heap next (XQ ⟨.dat nl,h2,m⟩)):KC g args heap next (XQ ⟨.own [],h2,m⟩):=by
 intro w R N cargs bsA bsH bsF ha hh hnd hnx hg hF;refine (h w R N cargs bsA bsH bsF ha hh hnd hnx hg hF).mono ?_;rintro e w' ⟨v,cv,h1,next',R',N',bsV,bsH',rfl,⟨rfl,rfl,rfl⟩,hv,hh',hnd',hnx',hk,hN⟩;simp only[al] at hv;obtain⟨rfl,hv⟩:=hv;have hv:dN w' R' cv (.flat (.slice none 0 0)):=hv;have e1:cv=.slice none 0 0:=by cases hv with|flat _=>rfl
 subst e1;exact⟨_,_,_,_,R',N',[],bsH',rfl,⟨rfl,rfl,rfl⟩,by simp only[al];exact .nil,hh',hnd',hnx',hk,hN⟩
theorem Mg {t:Ty} (hs:t.size < 400000000):ag 100 [.dat t.enc] (.own (t.yo.map sb)):=by
 have h1:=A9 t (s:=[]) ⟨List.Pairwise.nil,Nat.le_refl 0⟩ (by omega) 1 1 (by decide) (by decide);have h2:=R8 (t:=t);unfold Ty.yo at h2 ⊢;generalize t.cn []=s at h1 h2;obtain⟨k,nm,ix,l⟩:=t;have h3:=Ng h1
 cases s with
 | nil=>
  refine VV (aC.rn h3 ?_);rintro v hp m ⟨rfl,rfl,rfl⟩;exact⟨[],rfl,rfl,rfl,rfl,rfl⟩
 | cons x r=>exact aC.agA (by simp) h3 (by have:=h2.2;simp only[lim];omega)
end Go.Proofs.YtiihadmgkoamoaaGreatDoor
