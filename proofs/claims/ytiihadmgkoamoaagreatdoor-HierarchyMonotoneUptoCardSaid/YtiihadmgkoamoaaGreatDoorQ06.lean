/- HierarchyMonotone returns true and changes nothing, for arguments of bulk at most 1048576 (the card of the second form; conditions: those of the given row). Names are shortened by a program, for the claim's bound. Part 6. -/
import Derived.Ground.Names2Prog
import Derived.Shelf.Lays2
import Derived.Test.YtiihadmgkoamoaaGreatDoorProg
import Derived.Shelf.Spec.SearchS
import Derived.Test.YtiihadmgkoamoaaGreatDoorQ05
set_option linter.unusedVariables false
set_option linter.unusedSimpArgs false
set_option maxRecDepth 100000
set_option maxHeartbeats 4000000
namespace Go.Proofs.YtiihadmgkoamoaaGreatDoor
open Go.Tp
def bW (nm:List UInt8) (ar k:Int) (tn:List UInt8) (ix:Int) (a:ap) (con:Bool) (b:ap):List ac:=[.dat (sb nm),iv ar,iv k,.dat (sb tn),iv ix,.dat a,.dat (bl con),.dat b]
noncomputable def hDE:Hints:=⟨ao,zR,aq,rowsOf aq 37⟩
def Ed (c1 c2:List ac):Heap:=[(.loc 3,.cells c2),(.loc 2,.cells c1)]
def MX (lo:Heap) (i:Int):ab:=⟨[(5,iv i),(3,.ptr (.loc 3) 0),(2,.ptr (.loc 2) 0)],lo,[],0⟩
def PF (lo:Heap) (i:Int):ab:=⟨[(46,bv false),(5,iv i),(3,.ptr (.loc 3) 0),(2,.ptr (.loc 2) 0)],lo,[],0⟩
def PG:ab:=⟨[(4,bv false)],[],[],0⟩
theorem TV {nm nm2 tn tn2:List UInt8} {ar ar2 k k2 ix ix2:Int} {A A2:ap} {con con2:Bool} {l l2:List dq} {t u:dq} {i:Nat} {c1 c2:Bool} {T:Exit->aa->Prop} (hi:i < (aJ l).length) (ht:l[i]?=some t) (hu:l2[i]?=some u) (hn:dU t.nm u.nm=c1) (hc:ag 24 [.dat t.ty.enc,.dat u.ty.enc] (bv c2))
  (e1:(c1&&c2)=true->T .normal ((MX (Ed (bW nm ar k tn ix A con (.slice (aJ l))) (bW nm2 ar2 k2 tn2 ix2 A2 con2 (.slice (aJ l2)))) (aH .i64 (Int.ofNat i+1))).aw Tryz.f37.ntmps)) (e2:(c1&&c2)=false->T .ret (PG.aw Tryz.f37.ntmps)) :
  KD (roundOf Tryz.f37 0) T ((MX (Ed (bW nm ar k tn ix A con (.slice (aJ l))) (bW nm2 ar2 k2 tn2 ix2 A2 con2 (.slice (aJ l2)))) (Int.ofNat i)).aw Tryz.f37.ntmps):=by
 have h1:=bA hi;have h2:=rZ ht;have h3:=rZ hu;generalize aJ l=es at *;generalize aJ l2=es2 at *;clear ht hi hu;obtain⟨fn,tk,tn',tix,ta⟩:=t;obtain⟨gn,uk,un,uix,ua⟩:=u
 rcases ta with _|⟨b,d⟩ <;>
 ·rcases ua with _|⟨b2,d2⟩ <;>
  ·refine aC [46,61] [52,58,66,72] (H:=hDE) (live:=pg) (by kernel_rfl) ?_;refine ob h1 ?_;refine oo h2 ?_;refine oo h3 ?_;refine ox hn ?_
   cases c1
   ·exact oe (e2 rfl)
   refine oo h2 ?_;refine oo h3 ?_;refine on hc ?_
   cases c2
   ·exact oe (e2 rfl)
   exact oe (e1 rfl)
theorem XN {nm nm2 tn tn2:List UInt8} {ar ar2 k k2 ix ix2:Int} {A A2 B:ap} {con con2:Bool} {l:List ap} {T:Exit->aa->Prop}
  (e:T (.exit 0) ((PF (Ed (bW nm ar k tn ix A con (sl l)) (bW nm2 ar2 k2 tn2 ix2 A2 con2 B)) (Int.ofNat l.length)).aw Tryz.f37.ntmps)) :
  KD (roundOf Tryz.f37 0) T ((MX (Ed (bW nm ar k tn ix A con (sl l)) (bW nm2 ar2 k2 tn2 ix2 A2 con2 B)) (Int.ofNat l.length)).aw Tryz.f37.ntmps):=by
 have h1:=bC (i:=l.length) (L:=l.length) (by omega)
 rcases l with _|⟨x,l⟩
 ·refine aC [] [] (H:=hDE) (live:=pg) (by kernel_rfl) ?_;exact oe e
 refine aC [46] [] (H:=hDE) (live:=pg) (by kernel_rfl) ?_;refine ob h1 ?_;exact oe e
theorem acF {nm nm2:List UInt8} {ar ar2 k ix k2 ix2:Int} {tn tn2:List UInt8} {la la2 lb lb2:List ap} {con con2:Bool} {c1 c2 c3 c4 c5 d:Bool} (h1:dU nm nm2=c1) (h2:aP ar ar2=c2) (h3:(con==con2)=c3) (h4:ag 24 [.dat (.agg [i64 k,sb tn,i64 ix,sl la]),.dat (.agg [i64 k2,sb tn2,i64 ix2,sl la2])] (bv c4)) (h5:aP (Int.ofNat lb.length) (Int.ofNat lb2.length)=c5)
  (hl:c5=true->KD (.loop (roundOf Tryz.f37 0)) (fun e s=>(e=.exit 0/\d=true/\s=(PF (Ed (bW nm ar k tn ix (sl la) con (sl lb)) (bW nm2 ar2 k2 tn2 ix2 (sl la2) con2 (sl lb2))) (Int.ofNat lb.length)).aw Tryz.f37.ntmps)∨(e=.ret/\d=false/\s=PG.aw Tryz.f37.ntmps)) ((MX (Ed (bW nm ar k tn ix (sl la) con (sl lb)) (bW nm2 ar2 k2 tn2 ix2 (sl la2) con2 (sl lb2))) (Int.ofNat 0)).aw Tryz.f37.ntmps)) :
  ag 37 [.dat (eh nm ar k tn ix la con lb),.dat (eh nm2 ar2 k2 tn2 ix2 la2 con2 lb2)] (bv (c1&&(c2&&(c3&&(c4&&(c5&&d)))))):=by
 have q1:=uu nm ar k tn ix la con lb;have q2:=uu nm2 ar2 k2 tn2 ix2 la2 con2 lb2;have q3:=Er false 2 nm ar k tn ix la con lb;have q4:=Er false 3 nm2 ar2 k2 tn2 ix2 la2 con2 lb2;subst h3
 rcases lb with _|⟨x,lb⟩
 ·rcases lb2 with _|⟨y,lb2⟩
  ·have z:c5=true:=h5.symm;subst z;have hl2:=hl rfl;clear hl h5;refine co [10,16] [2,3,27,29] (x:=.of Tryz.f37 zR pg) ?_;refine oo q1 ?_;refine oo q2 ?_;refine ox h1 ?_
   cases c1
   ·exact fi
   refine ox h2 ?_
   cases c2
   ·exact fi
   cases con
   ·cases con2
    ·refine oo q3 ?_;refine oo q4 ?_;refine on h4 ?_
     cases c4
     ·exact fi
     refine lo hl2 ?_;rintro ex s (⟨rfl,rfl,rfl⟩|⟨rfl,rfl,rfl⟩) <;>
     ·refine⟨_,rfl,?_⟩;exact fi
    exact fi
   cases con2
   ·exact fi
   refine oo q3 ?_;refine oo q4 ?_;refine on h4 ?_
   cases c4
   ·exact fi
   refine lo hl2 ?_;rintro ex s (⟨rfl,rfl,rfl⟩|⟨rfl,rfl,rfl⟩) <;>
   ·refine⟨_,rfl,?_⟩;exact fi
  have z:c5=false:=h5.symm;subst z;clear hl h5;refine co [10,16] [2,3,27,29] (x:=.of Tryz.f37 zR pg) ?_;refine oo q1 ?_;refine oo q2 ?_;refine ox h1 ?_
  cases c1
  ·exact fi
  refine ox h2 ?_
  cases c2
  ·exact fi
  cases con
  ·cases con2
   ·refine oo q3 ?_;refine oo q4 ?_;refine on h4 ?_
    cases c4 <;>
    ·exact fi
   exact fi
  cases con2
  ·exact fi
  refine oo q3 ?_;refine oo q4 ?_;refine on h4 ?_
  cases c4 <;>
  ·exact fi
 rcases lb2 with _|⟨y,lb2⟩
 ·have z:c5=false:=h5.symm;subst z;clear hl h5;refine co [10,16] [2,3,27,29] (x:=.of Tryz.f37 zR pg) ?_;refine oo q1 ?_;refine oo q2 ?_;refine ox h1 ?_
  cases c1
  ·exact fi
  refine ox h2 ?_
  cases c2
  ·exact fi
  cases con
  ·cases con2
   ·refine oo q3 ?_;refine oo q4 ?_;refine on h4 ?_
    cases c4 <;>
    ·exact fi
   exact fi
  cases con2
  ·exact fi
  refine oo q3 ?_;refine oo q4 ?_;refine on h4 ?_
  cases c4 <;>
  ·exact fi
 refine co [10,16,40] [2,3,27,29] (x:=.of Tryz.f37 zR pg) ?_;refine oo q1 ?_;refine oo q2 ?_;refine ox h1 ?_
 cases c1
 ·exact fi
 refine ox h2 ?_
 cases c2
 ·exact fi
 cases con
 ·cases con2
  ·refine oo q3 ?_;refine oo q4 ?_;refine on h4 ?_
   cases c4
   ·exact fi
   refine ox h5 ?_
   cases c5
   ·exact fi
   refine lo (hl rfl) ?_;rintro ex s (⟨rfl,rfl,rfl⟩|⟨rfl,rfl,rfl⟩) <;>
   ·refine⟨_,rfl,?_⟩;exact fi
  exact fi
 cases con2
 ·exact fi
 refine oo q3 ?_;refine oo q4 ?_;refine on h4 ?_
 cases c4
 ·exact fi
 refine ox h5 ?_
 cases c5
 ·exact fi
 refine lo (hl rfl) ?_;rintro ex s (⟨rfl,rfl,rfl⟩|⟨rfl,rfl,rfl⟩) <;>
 ·refine⟨_,rfl,?_⟩;exact fi
theorem vP (x:Int):fG x x=0:=by
 unfold fG;rw[show bq x x=false by rw[gr];simp]
theorem GO:∀x:List UInt8,mu x x=false
 | []=>rfl
 | c::r=>by
  unfold mu;rw[show Nat.blt c.toNat c.toNat=false by simp[Nat.blt_eq,Bool.eq_false_iff],show Nat.beq c.toNat c.toNat=true by simp];exact GO r
theorem Oo (x:List UInt8):pJ x x=0:=by
 unfold pJ;rw[GO,jT];rfl
theorem On {x y:List UInt8} (h:pJ x y=0):x=y:=by
 unfold pJ at h
 cases h1:mu x y with
 | true=>rw[h1] at h;simp at h
 | false=>
  rw[h1] at h
  cases h2:dU x y with
  | true=>exact si h2
  | false=>rw[h2] at h;simp at h
mutual
theorem C4:∀(t u:Ty),nS t u=0->t=u
 | .mk k nm ix l,.mk k2 nm2 ix2 l2,h=>by
  rw[nS] at h
  cases hz:aP (BF [fG k k2,pJ nm nm2,fG ix ix2,fG (Int.ofNat (au l).length) (Int.ofNat (au l2).length)]) 0 with
  | true=>
   rw[hz] at h;have ho:=Aa (pE hz);have h1:=vO (ho (fG k k2) (by simp));have h2:=On (ho (pJ nm nm2) (by simp));have h3:=vO (ho (fG ix ix2) (by simp));have h4:=AB hz;rw[h1,h2,h3,C6 l l2 h4 h]
  | false=>
   rw[hz] at h;dsimp only at h;rw[h,dG] at hz;simp at hz
theorem C6:∀(l l2:List Ty),l.length=l2.length->qN l l2=0->l=l2
 | [],[],_,_=>rfl
 | [],_::_,h,_=>by simp at h
 | _::_,[],h,_=>by simp at h
 | t::r,u::v,h,h2=>by
  rw[qN] at h2
  cases hz:aP (nS t u) 0 with
  | true=>
   rw[hz] at h2;rw[C4 t u (eY hz),C6 r v (by simpa using h) h2]
  | false=>
   rw[hz] at h2;dsimp only at h2;rw[h2,dG] at hz;simp at hz
end
mutual
theorem C5:∀t:Ty,nS t t=0
 | .mk k nm ix l=>by
  rw[nS,vP,Oo,vP,vP,C7 l];rfl
theorem C7:∀l:List Ty,qN l l=0
 | []=>by simp[qN]
 | t::r=>by rw[qN,C5 t,dG,C7 r]
end
theorem yy {t u:Ty}:N6 t u=true↔t=u:=by
 unfold N6
 constructor
 ·intro h;exact C4 t u (eY h)
 rintro rfl;rw[C5,dG]
theorem Vw (t u:Ty):reT t u=N6 t u:=by
 rw[Bool.eq_iff_iff,DH,yy]
theorem zI (t u:Ty) (h:t.size < 1000000000):ag 24 [.dat t.enc,.dat u.enc] (bv (N6 t u)):=by
 rw[←Vw];exact VB t u h
theorem XM {nm nm2 tn tn2:List UInt8} {ar ar2 k k2 ix ix2:Int} {A A2 B B2:ap} {con con2:Bool} {l l2:List dq} (ha:B=sl (aJ l)) (hb:B2=sl (aJ l2)) (hlen:l.length=l2.length) (hn:l.length < 1000000000) (hf:∀t∈l,t.ty.cB) :
  KD (.loop (roundOf Tryz.f37 0)) (fun e s=>(e=.exit 0/\sh l l2=true/\s=(PF (Ed (bW nm ar k tn ix A con B) (bW nm2 ar2 k2 tn2 ix2 A2 con2 B2)) (Int.ofNat (aJ l).length)).aw Tryz.f37.ntmps)∨(e=.ret/\sh l l2=false/\s=PG.aw Tryz.f37.ntmps))
   ((MX (Ed (bW nm ar k tn ix A con B) (bW nm2 ar2 k2 tn2 ix2 A2 con2 B2)) (Int.ofNat 0)).aw Tryz.f37.ntmps):=by
 refine cI (St:=fun i=>(MX (Ed (bW nm ar k tn ix A con B) (bW nm2 ar2 k2 tn2 ix2 A2 con2 B2)) (Int.ofNat i)).aw Tryz.f37.ntmps) (fun i=>sh l l2=sh (l.drop i) (l2.drop i)) (aJ l).length ?_ ?_ (i:=0) (Nat.zero_le _) rfl
 ·intro i hi hI;obtain⟨t,ht,hm⟩:=gv hi;have hi2:=hi;rw[bd] at hi2;have hu:l2[i]?=some l2[i]:=List.getElem?_eq_getElem (by omega);generalize l2[i]=u at hu;have hd:=C0 ht hu;rw[←hI] at hd;have hw:aH .i64 (Int.ofNat i+1)=Int.ofNat (i+1):=bg (by omega);have ha2:B=.slice (aJ l):=by
   rw[ha]
   cases l with
   | nil=>simp at ht
   | cons x r=>rfl
  have hb2:B2=.slice (aJ l2):=by
   rw[hb]
   cases l2 with
   | nil=>simp at hu
   | cons x r=>rfl
  subst ha2;subst hb2;refine TV hi ht hu (c1:=dU t.nm u.nm) (c2:=N6 t.ty u.ty) rfl (zI _ _ (by have:=(hf t hm).1;omega)) ?_ ?_
  ·intro hc;rw[hw];refine⟨rfl,?_⟩;rw[hd];unfold dq.eq;rw[hc,Bool.true_and]
  intro hc;refine .inr ⟨rfl,?_,rfl⟩;rw[hd];unfold dq.eq;rw[hc,Bool.false_and]
 intro hI;rw[ha];refine XN (.inl ⟨rfl,?_,rfl⟩);rw[hI,bd,List.drop_length]
 cases l2.drop l.length <;> rfl
theorem F8 {d o:aQ} (hd:d.cB):ag 37 [.dat d.enc,.dat o.enc] (bv (d.eq o)):=by
 have h4:=zI d.sup o.sup (by have:=hd.1.1;omega);have hf:=hd.2.1;have hn:=hd.2.2;obtain⟨nm,ar,⟨k,tn,ix,la⟩,con,fl⟩:=d;obtain⟨nm2,ar2,⟨k2,tn2,ix2,la2⟩,con2,fl2⟩:=o;refine acF rfl rfl rfl h4 rfl ?_;intro hc;exact XM rfl rfl (Mn rfl hc) hn hf
theorem aQ.eq_iff {d o:aQ}:d.eq o=true↔d=o:=by
 have hfl:∀l l2:List dq,l.length=l2.length->(sh l l2=true↔l=l2):=by
  intro l
  induction l with
  | nil=>intro l2 h;cases l2 with|nil=>simp[sh]|cons x r=>simp at h
  | cons x r ih=>
   intro l2 h
   cases l2 with
   | nil=>simp at h
   | cons y s=>
    simp only[sh,Bool.and_eq_true,ih s (by simpa using h),dq.eq,yy,jo,beq_iff_eq,List.cons.injEq];obtain⟨a,b⟩:=x;obtain⟨c,d⟩:=y;simp
 obtain⟨nm,ar,t,con,fl⟩:=d;obtain⟨nm2,ar2,t2,con2,fl2⟩:=o;simp only[aQ.eq,acB,Bool.and_eq_true,jo,gQ,yy,beq_iff_eq,bd,aQ.mk.injEq]
 constructor
 ·rintro⟨h1,h2,h3,h4,h5,h6⟩;exact⟨h1,h2,h4,h3,(hfl _ _ (Int.ofNat.inj h5)).1 h6⟩
 rintro⟨h1,h2,h4,h3,rfl⟩;exact⟨h1,h2,h3,h4,rfl,(hfl _ _ rfl).2 rfl⟩
noncomputable def ael:Hints:=⟨ao,zT,aq,rowsOf aq 192⟩
def stN (es:List ap) (x k:Int):ab:=⟨[(5,iv k),(0,.dat (.slice es)),(1,iv x)],[],[],0⟩
def ZR (es:List ap) (x k:Int):ab:=⟨[(17,bv false),(5,iv k),(0,.dat (.slice es)),(1,iv x)],[],[],0⟩
theorem vz {es:List ap} {x y:Int} {i:Nat} {c1 c2:Bool} (h1:bq (Int.ofNat i) (Int.ofNat es.length)=c1) (h2:c1=true->aK (env ay.aN) 22 [.dat (.slice es),.dat (.flat (.int .i64 (Int.ofNat i)))]=some ⟨.ref [iN y],.keep⟩) (h3:bq y x=c2) {T:Exit->aa->Prop}
  (e1:(c1&&c2)=true->T .normal ((stN es x (aH .i64 (Int.ofNat i+1))).aw Tryz.f192.ntmps)) (e2:(c1&&c2)=false->T (.exit 0) ((ZR es x (Int.ofNat i)).aw Tryz.f192.ntmps)) :
  KD (roundOf Tryz.f192 0) T ((stN es x (Int.ofNat i)).aw Tryz.f192.ntmps):=by
 refine aC [9,16] [13] (H:=ael) (live:=tG) (by kernel_rfl) ?_;refine ob h1 ?_
 cases c1
 ·exact oe (e2 rfl)
 refine oo (h2 rfl) ?_;refine ob h3 ?_
 cases c2
 ·exact oe (e2 rfl)
 exact oe (e1 rfl)
theorem DQ {g:FuncId} {args:List ac} {heap:Heap} {next:Nat} {es:List ap} {h2:Heap} {m:Nat} (h:KC g args heap next (XQ ⟨.own es,h2,m⟩)):KC g args heap next (XQ ⟨.dat (.slice es),h2,m⟩):=by
 intro w R N cargs bsA bsH bsF ha hh hnd hnx hg hF;refine (h w R N cargs bsA bsH bsF ha hh hnd hnx hg hF).mono ?_;rintro e w' ⟨v,cv,h1,next',R',N',bsV,bsH',rfl,⟨rfl,rfl,rfl⟩,hv,hh',hnd',hnx',hk,hN⟩;refine⟨_,cv,_,_,R',N',[],bsH',rfl,⟨rfl,rfl,rfl⟩,bZ (cA hv).rep,hh',?_,hnx',hk,hN⟩;exact (List.nodup_append.1 hnd').2.1
def ZQ (x k:Int):ab:=⟨[(5,iv k),(0,.dat nl),(1,iv x)],[],[],0⟩
def Yt (x k:Int):ab:=⟨[(17,bv false),(5,iv k),(0,.dat nl),(1,iv x)],[],[],0⟩
theorem JQ {x:Int} {T:Exit->aa->Prop} (e2:T (.exit 0) ((Yt x (Int.ofNat 0)).aw Tryz.f192.ntmps)) :
  KD (roundOf Tryz.f192 0) T ((ZQ x (Int.ofNat 0)).aw Tryz.f192.ntmps):=by
 refine aC [] [] (H:=ael) (live:=tG) (by kernel_rfl) ?_;exact oe e2
theorem Xb {x:Int} (a2:cJ (env ay.aN) false 22 [.own [],.dat (.slice [iN x])] none=some ⟨.own [iN x],.keep⟩):ag 192 [.dat nl,iv x] (.own [iN x]):=by
 have hl:KD (.loop (roundOf Tryz.f192 0)) (fun e s=>e=.exit 0/\s=(Yt x (Int.ofNat 0)).aw Tryz.f192.ntmps) ((ZQ x (Int.ofNat 0)).aw Tryz.f192.ntmps):=
  bb (St:=fun _=>(ZQ x (Int.ofNat 0)).aw Tryz.f192.ntmps) 0 (fun i hi=>absurd hi (Nat.not_lt_zero i)) (JQ ⟨rfl,rfl⟩) (i:=0) (Nat.le_refl _)
 refine co [] [40,44] (x:=.of Tryz.f192 zT tG) ?_;refine lo hl ?_;rintro ex s ⟨rfl,rfl⟩;refine⟨_,rfl,?_⟩;refine oo a2 ?_;refine oo a2 ?_;exact fi
theorem Md {e0:ap} {es p q:List ap} {x y:Int} {i:Nat} {c1 c2:Bool} (h1:bq (Int.ofNat i) (Int.ofNat (e0::es).length)=c1) (h2:c1=true->aK (env ay.aN) 22 [.dat (.slice (e0::es)),.dat (.flat (.int .i64 (Int.ofNat i)))]=some ⟨.ref [iN y],.keep⟩) (h3:aP y x=c2)
  (hl:KD (.loop (roundOf Tryz.f192 0)) (fun e s=>e=.exit 0/\s=(ZR (e0::es) x (Int.ofNat i)).aw Tryz.f192.ntmps) ((stN (e0::es) x (Int.ofNat 0)).aw Tryz.f192.ntmps))
  (s1:kc (env ay.aN) 22 none (some (.tmp 35)) none [.dat (.slice (e0::es)),iv (Int.ofNat i)]=some ⟨.dat (.slice p),.keep⟩)
  (s2:kc (env ay.aN) 22 (some (.tmp 42)) none none [.dat (.slice (e0::es)),iv (Int.ofNat i)]=some ⟨.dat (.slice q),.keep⟩)
  (a1:cJ (env ay.aN) false 22 [.own [],.dat (.slice p)] none=some ⟨.own p,.keep⟩)
  (a2:cJ (env ay.aN) false 22 [.own p,.dat (.slice [iN x])] none=some ⟨.own (p++[iN x]),.keep⟩)
  (a3:cJ (env ay.aN) false 22 [.own (p++[iN x]),.dat (.slice q)] none=some ⟨.own (p++[iN x]++q),.keep⟩) :
  ag 192 [.dat (.slice (e0::es)),iv x] (match c1&&c2 with|true=>.dat (.slice (e0::es))|false=>.own (p++[iN x]++q)):=by
 refine co [23,30] [27,36,43,37,40,44] (x:=.of Tryz.f192 zT tG) ?_;refine lo hl ?_;rintro ex s ⟨rfl,rfl⟩;refine⟨_,rfl,?_⟩;refine ob h1 ?_
 cases c1
 ·refine oo s1 ?_;refine oo s2 ?_;refine oo a1 ?_;refine oo a2 ?_;refine oo a3 ?_;exact fi
 refine oo (h2 rfl) ?_;refine ob h3 ?_
 cases c2
 ·refine oo s1 ?_;refine oo s2 ?_;refine oo a1 ?_;refine oo a2 ?_;refine oo a3 ?_;exact fi
 exact fi
def kW:List Int->Int->Nat
 | [],_=>0
 | y::r,x=>match bq y x with|true=>kW r x+1|false=>0
theorem YW:∀{l:List Int} {x:Int},kW l x<=l.length
 | [],_=>Nat.le_refl _
 | y::r,x=>by
  unfold kW
  split
  ·simp only[List.length_cons];have:=YW (l:=r) (x:=x);omega
  omega
theorem YV:∀{l:List Int} {x:Int} {i:Nat} {y:Int},i < kW l x->l[i]?=some y->bq y x=true
 | [],x,i,y,h,h2=>by simp[kW] at h
 | z::r,x,i,y,h,h2=>by
  unfold kW at h
  cases hz:bq z x with
  | false=>rw[hz] at h;simp at h
  | true=>
   rw[hz] at h
   cases i with
   | zero=>simp at h2;subst h2;exact hz
   | succ i=>simp at h2;exact YV (by simp at h;omega) h2
theorem YX:∀{l:List Int} {x:Int} {y:Int},l[kW l x]?=some y->bq y x=false
 | [],x,y,h=>by simp at h
 | z::r,x,y,h=>by
  unfold kW at h
  cases hz:bq z x with
  | false=>rw[hz] at h;simp at h;subst h;exact hz
  | true=>rw[hz] at h;simp at h;exact YX h
theorem CP {l:List Int} {x:Int} (hs:l.Pairwise (·<=·)):kW l x=l.countP (· < x):=by
 induction l with
 | nil=>rfl
 | cons y r ih=>
  have ih:=ih (List.Pairwise.of_cons hs);unfold kW
  by_cases hy:y < x
  ·rw[gr,decide_eq_true hy,List.countP_cons_of_pos (by simpa using hy),ih]
  rw[gr,decide_eq_false hy];symm;dsimp only;rw[List.countP_eq_zero];intro z hz
  have:y<=z:=by
   rcases List.mem_cons.1 hz with rfl|hz
   ·exact Int.le_refl _
   exact List.rel_of_pairwise_cons hs hz
  simp only[decide_eq_true_eq];omega
def S1 (l:List Int) (x:Int):List Int:=match l[kW l x]? with|some y=>(match aP y x with|true=>l|false=>gK l (kW l x) x)|none=>gK l (kW l x) x
theorem GZ {l:List Int} {x:Int} (hs:l.Pairwise (·<=·)):S1 l x=jc l x:=by
 obtain⟨c1,c2⟩:=countP_split (x:=x) hs;unfold S1 jc;rw[←CP hs];rw[←CP hs] at c1 c2
 cases hc:l.contains x with
 | true=>
  have hm:x∈l:=by simpa using hc
  have hd:x∈l.drop (kW l x):=by
   rcases List.mem_append.1 ((List.take_append_drop (kW l x) l).symm ▸ hm) with h|h
   ·exact absurd (c1 x h) (Int.lt_irrefl x)
   exact h
  have hlt:kW l x < l.length:=by
   rcases Nat.lt_or_ge (kW l x) l.length with h|h
   ·exact h
   rw[List.drop_eq_nil_of_le h] at hd;simp at hd
  have hg:l[kW l x]?=some l[kW l x]:=List.getElem?_eq_getElem hlt;have hge:x<=l[kW l x]:=c2 _ (by rw[List.drop_eq_getElem_cons hlt];exact List.mem_cons_self);have hle:l[kW l x]<=x:=by
   have hp:(l.drop (kW l x)).Pairwise (·<=·):=hs.sublist (List.drop_sublist _ _);rw[List.drop_eq_getElem_cons hlt] at hp hd
   rcases List.mem_cons.1 hd with h|h
   ·omega
   exact List.rel_of_pairwise_cons hp h
  rw[hg];dsimp only;rw[show l[kW l x]=x by omega,dG]
 | false=>
  have hm:x∉l:=by intro h;rw[List.contains_iff_mem.2 h] at hc;simp at hc
  cases hg:l[kW l x]? with
  | none=>rfl
  | some y=>
   dsimp only
   have:aP y x=false:=by
    rw[gQ]
    have:y≠x:=by rintro rfl;exact hm (List.mem_of_getElem? hg)
    simpa using this
   rw[this]
theorem mY {a b:List Int} (h:a.length+b.length < 1000000000):cJ (env ay.aN) false 22 [.own (a.map iN),.dat (.slice (b.map iN))] none=some ⟨.own (a.map iN++b.map iN),.keep⟩:=by
 refine qF (i:=Va) (ds:=b.map iN) (k:=0) O6 rfl oJ ?_ ?_ (by kernel_rfl) ?_ ?_ ?_ (by simp)
 ·exact ig (fun d hd=>by obtain⟨x,_,rfl⟩:=List.mem_map.1 hd;rfl)
 ·exact ig (fun d hd=>by obtain⟨x,_,rfl⟩:=List.mem_map.1 hd;rfl)
 ·have h1:Va.bytes<=1000:=fe (by kernel_rfl);simp only[List.length_map]
  calc (a.length+b.length)*Va.bytes<=1000000000*1000:=Nat.mul_le_mul (by omega) h1
   _<=140737488355328:=by decide
 ·simp[lim];omega
 have hb:ew (a.map iN++b.map iN)=false:=by
  rw[←List.map_append]
  cases a++b with
  | nil=>rfl
  | cons x r=>rfl
 unfold fQ;rw[hb]
theorem zc (l:List Int):sizedB 1 (l.map iN)=true:=ig (fun d hd=>by obtain⟨x,_,rfl⟩:=List.mem_map.1 hd;rfl)
theorem PQ {l:List Int} {i:Nat} (h:i<=l.length) (x:Operand):kc (env ay.aN) 22 none (some x) none [.dat (.slice (l.map iN)),iv (Int.ofNat i)]=some ⟨.dat (.slice ((l.take i).map iN)),.keep⟩:=by
 have h1:ay.aN.sub Va.size (l.map iN) none (some (Int.ofNat i))=some ((l.take i).map iN):=by
  rw[oJ];show (match sizedB 1 (l.map iN),Nat.blt 0 1 with
   | true,true=>(match dW (some (Int.ofNat i)) (l.map iN).length,dW none 0 with
    | some h,some lo=>(match Nat.ble lo h,Nat.ble h (l.map iN).length with|true,true=>some (((l.map iN).take h).drop lo)|_,_=>none)
    | _,_=>none)
   | _,_=>none)=_
  rw[zc];have e1:dW (some (Int.ofNat i)) (l.map iN).length=some i:=rfl;have e2:Nat.ble i (l.map iN).length=true:=by rw[Nat.ble_eq];simpa using h
  rw[e1];dsimp only[dW];rw[e2];simp[Nat.ble,List.map_take];rfl
 have h2:kc (env ay.aN) 22 none (some x) none [.dat (.slice (l.map iN)),iv (Int.ofNat i)]=wM (match ay.aN.sub Va.size (l.map iN) none (some (Int.ofNat i)) with|some r=>some (.dat (.slice r))|none=>none):=by kernel_rfl
 rw[h2,h1];rfl
theorem IJ {l:List Int} {i:Nat} (h:i<=l.length) (x:Operand):kc (env ay.aN) 22 (some x) none none [.dat (.slice (l.map iN)),iv (Int.ofNat i)]=some ⟨.dat (.slice ((l.drop i).map iN)),.keep⟩:=by
 have h1:ay.aN.sub Va.size (l.map iN) (some (Int.ofNat i)) none=some ((l.drop i).map iN):=by
  rw[oJ];show (match sizedB 1 (l.map iN),Nat.blt 0 1 with
   | true,true=>(match dW none (l.map iN).length,dW (some (Int.ofNat i)) 0 with
    | some h,some lo=>(match Nat.ble lo h,Nat.ble h (l.map iN).length with|true,true=>some (((l.map iN).take h).drop lo)|_,_=>none)
    | _,_=>none)
   | _,_=>none)=_
  rw[zc];have e1:dW (some (Int.ofNat i)) 0=some i:=rfl;have e2:Nat.ble i (l.map iN).length=true:=by rw[Nat.ble_eq];simpa using h
  have e3:Nat.ble (l.map iN).length (l.map iN).length=true:=by rw[Nat.ble_eq];exact Nat.le_refl _
  rw[e1];dsimp only[dW];rw[e2,e3,List.take_length];simp[List.map_drop];rfl
 have h2:kc (env ay.aN) 22 (some x) none none [.dat (.slice (l.map iN)),iv (Int.ofNat i)]=wM (match ay.aN.sub Va.size (l.map iN) (some (Int.ofNat i)) none with|some r=>some (.dat (.slice r))|none=>none):=by kernel_rfl
 rw[h2,h1];rfl
theorem ad3 {l:List Int} {x:Int} (hn:l.length < 100000000):ag 192 [.dat (sl (l.map iN)),iv x] (.dat (sl ((S1 l x).map iN))):=by
 cases l with
 | nil=>exact DQ (Xb (mY (a:=[]) (b:=[x]) (by simp)))
 | cons y0 r=>
  obtain⟨l,hl⟩:∃l,l=y0::r:=⟨_,rfl⟩;have hnl:(l.map iN)=iN y0::r.map iN:=by rw[hl];rfl
  have hne:sl (l.map iN)=.slice (l.map iN):=by rw[hnl];rfl
  rw[←hl] at hn ⊢;have hle:=YW (l:=l) (x:=x);have hloop:KD (.loop (roundOf Tryz.f192 0)) (fun e s=>e=.exit 0/\s=(ZR (l.map iN) x (Int.ofNat (kW l x))).aw Tryz.f192.ntmps) ((stN (l.map iN) x (Int.ofNat 0)).aw Tryz.f192.ntmps):=by
   refine bb (St:=fun i=>(stN (l.map iN) x (Int.ofNat i)).aw Tryz.f192.ntmps) (kW l x) ?_ ?_ (i:=0) (Nat.zero_le _)
   ·intro i hi;have hil:i < l.length:=by omega
    have hg:l[i]?=some l[i]:=List.getElem?_eq_getElem hil;refine vz (y:=l[i]) (c1:=true) (c2:=true) (bA (by simpa using hil)) (fun _=>NO hg) (YV hi hg) (fun _=>?_) (fun h=>by simp at h);rw[bg (by omega)];rfl
   cases hg:l[kW l x]? with
   | none=>
    have:l.length<=kW l x:=by simpa using hg
    exact vz (y:=0) (c1:=false) (c2:=bq 0 x) (bC (by simp;omega)) (fun h=>by simp at h) rfl (fun h=>by simp at h) (fun _=>⟨rfl,rfl⟩)
   | some y=>
    have hil:=(List.getElem?_eq_some_iff.1 hg).1;exact vz (y:=y) (c1:=true) (c2:=false) (bA (by simpa using hil)) (fun _=>NO hg) (YX hg) (fun h=>by simp at h) (fun _=>⟨rfl,rfl⟩)
  have s1:=PQ (l:=l) hle (.tmp 35);have s2:=IJ (l:=l) hle (.tmp 42);have a1:=mY (a:=[]) (b:=l.take (kW l x)) (by simp;omega);have a2:=mY (a:=l.take (kW l x)) (b:=[x]) (by simp;omega);have a3:=mY (a:=l.take (kW l x)++[x]) (b:=l.drop (kW l x)) (by simp;omega);rw[List.map_append] at a3;have hins:sl ((gK l (kW l x) x).map iN)=.slice ((l.take (kW l x)).map iN++[x].map iN++(l.drop (kW l x)).map iN):=by
   have:(gK l (kW l x) x).map iN=(l.take (kW l x)).map iN++[x].map iN++(l.drop (kW l x)).map iN:=by simp[gK]
   rw[←this]
   cases h:(gK l (kW l x) x).map iN with
   | nil=>simp[gK] at h
   | cons _ _=>rfl
  rw[hnl] at s1 s2 hloop hne;rw[hnl,hne];unfold S1
  cases hg:l[kW l x]? with
  | none=>
   have:l.length<=kW l x:=by simpa using hg
   have h:=Md (y:=0) (c1:=false) (c2:=aP 0 x) (bC (by rw[←hnl];simp;omega)) (fun h=>by simp at h) rfl hloop s1 s2 a1 a2 a3;dsimp only;rw[hins];exact DQ h
  | some y=>
   have hil:=(List.getElem?_eq_some_iff.1 hg).1;have h:=Md (y:=y) (c1:=true) (c2:=aP y x) (bA (by rw[←hnl];simpa using hil)) (fun _=>by rw[←hnl];exact NO hg) rfl hloop s1 s2 a1 a2 a3;dsimp only;generalize aP y x=c at h
   cases c
   ·dsimp only;rw[hins];exact DQ h
   dsimp only;rw[hnl];exact h
noncomputable def hRF:Hints:=⟨ao,vl,aq,rowsOf aq 174⟩
def stF (lo:Heap) (u:Nat) (s:ap) (i:Int):ab:=⟨[(7,iv i),(3,.ptr (.loc 3) 0),(1,iv (Int.ofNat u)),(2,.dat s)],lo,[],0⟩
def ZT (lo:Heap) (u:Nat) (s:ap) (i:Int):ab:=⟨[(27,bv false),(7,iv i),(3,.ptr (.loc 3) 0),(1,iv (Int.ofNat u)),(2,.dat s)],lo,[],0⟩
def acS (c6 c1:Bool):Int:=match c6 with|true=>(match c1 with|true=>1|false=>0)|false=>0
theorem Uu (k:Int) (i:Nat):Int.ofNat (db k i)=acS (aP k 6) (aP (Int.ofNat i) (Int.ofNat 1)):=by
 unfold db;rw[sf]
 cases aP k 6
 ·simp[acS]
 by_cases h:i=1
 ·subst h;rfl
 simp[acS,h]
theorem rb (k:Int) (nm:List UInt8) (ix:Int) (a:List ap) (i:Nat):ag 127 [.dat (.agg [i64 k,sb nm,i64 ix,sl a]),iv (Int.ofNat i)] (iv (Int.ofNat (db k i))):=by
 rw[Uu];generalize h6:aP k 6=c6;generalize h1:aP (Int.ofNat i) (Int.ofNat 1)=c1
 rcases a with _|⟨x,a⟩ <;>
 ·refine co [7,10] [] (x:=.of Tryz.f127 Jd L0) ?_;refine ob h6 ?_
  cases c6
  ·exact fi
  refine ob h1 ?_
  cases c1 <;>
  ·exact fi
theorem P9 {k:Int} {nm:List UInt8} {ix:Int} {x:ap} {es:List ap} {l:List Ty} {t:Ty} {i u b:Nat} {s s2:List ap} (hl:au l=x::es) (hi:i < (au l).length) (ht:l[i]?=some t)
  (hb:ag 127 [.dat (.agg [i64 k,sb nm,i64 ix,.slice (x::es)]),iv (Int.ofNat i)] (iv (Int.ofNat b)))
  (hc:ag 174 [.dat t.enc,iv (aH .i64 (Int.ofNat u+Int.ofNat b)),.dat (sl s)] (.dat (sl s2))) {T:Exit->aa->Prop}
  (e:T .normal ((stF (km 3 k nm ix (.slice (x::es))) u (sl s2) (aH .i64 (Int.ofNat i+1))).aw Tryz.f174.ntmps)) :
  KD (roundOf Tryz.f174 0) T ((stF (km 3 k nm ix (.slice (x::es))) u (sl s) (Int.ofNat i)).aw Tryz.f174.ntmps):=by
 have h1:=bA hi;have h2:=jZ ht;rw[hl] at h1 h2;clear ht hi hl;obtain⟨k2,nm2,ix2,a2⟩:=t
 rcases a2 with _|⟨b2,d2⟩ <;>
 ·rcases s with _|⟨y,s⟩ <;>
  ·refine aC [27] [33] (H:=hRF) (live:=nB) (by kernel_rfl) ?_;refine ob h1 ?_;refine oo h2 ?_;refine on hb ?_;refine on hc ?_;exact oe e
theorem Vt {k:Int} {nm:List UInt8} {ix:Int} {l s:List ap} {u:Nat} {T:Exit->aa->Prop} (e:T (.exit 0) ((ZT (km 3 k nm ix (sl l)) u (sl s) (Int.ofNat l.length)).aw Tryz.f174.ntmps)) :
  KD (roundOf Tryz.f174 0) T ((stF (km 3 k nm ix (sl l)) u (sl s) (Int.ofNat l.length)).aw Tryz.f174.ntmps):=by
 have h1:=bC (i:=l.length) (L:=l.length) (by omega)
 rcases l with _|⟨x,l⟩
 ·refine aC [] [] (H:=hRF) (live:=nB) (by kernel_rfl) ?_;exact oe e
 refine aC [27] [] (H:=hRF) (live:=nB) (by kernel_rfl) ?_;refine ob h1 ?_;exact oe e
theorem Qa {k:Int} {nm:List UInt8} {ix:Int} {l s s1 s2:List ap} {u:Nat} {ck cg:Bool} (hk:aP k 5=ck) (hg:bq ix (Int.ofNat u)=cg)
  (ha:ck=true->cg=false->ag 192 [.dat (sl s),iv (aH .i64 (ix - Int.ofNat u))] (.dat (sl s1))) (he:ck=false∨cg=true->s1=s)
  (hl:KD (.loop (roundOf Tryz.f174 0)) (fun e s'=>e=.exit 0/\s'=(ZT (km 3 k nm ix (sl l)) u (sl s2) (Int.ofNat l.length)).aw Tryz.f174.ntmps) ((stF (km 3 k nm ix (sl l)) u (sl s1) (Int.ofNat 0)).aw Tryz.f174.ntmps)) :
  ag 174 [.dat (.agg [i64 k,sb nm,i64 ix,sl l]),iv (Int.ofNat u),.dat (sl s)] (.dat (sl s2)):=by
 rcases l with _|⟨x,l⟩ <;>
 ·rcases s with _|⟨y,s⟩ <;>
  ·cases ck
   ·obtain rfl:=he (.inl rfl);clear he ha;refine co [10] [] (x:=.of Tryz.f174 vl nB) ?_;refine ob hk ?_;refine lo hl ?_;rintro ex s ⟨rfl,rfl⟩;refine⟨_,rfl,?_⟩;exact fi
   cases cg
   ·have ha2:=ha rfl rfl;clear he ha;refine co [10,15] [] (x:=.of Tryz.f174 vl nB) ?_;refine ob hk ?_;refine ox hg ?_;refine on ha2 ?_;refine lo hl ?_;rintro ex s ⟨rfl,rfl⟩;refine⟨_,rfl,?_⟩;exact fi
   obtain rfl:=he (.inr rfl);clear he ha;refine co [10,15] [] (x:=.of Tryz.f174 vl nB) ?_;refine ob hk ?_;refine ox hg ?_;refine lo hl ?_;rintro ex s ⟨rfl,rfl⟩;refine⟨_,rfl,?_⟩;exact fi
def P4 (k ix:Int) (u:Nat) (s:List Int):List Int:=match aP k 5 with|false=>s|true=>(match bq ix (Int.ofNat u) with|true=>s|false=>S1 s (ix - Int.ofNat u))
theorem P3 {k ix:Int} {u:Nat} {s:List Int} (h:s.Pairwise (·<=·)):P4 k ix u s=dZ k ix u s:=by
 unfold P4 dZ
 cases aP k 5 <;> cases bq ix (Int.ofNat u) <;> first|rfl|exact GZ h
def RF (t:Ty) (u:Nat) (s:List Int):Prop:=ag 174 [.dat t.enc,iv (Int.ofNat u),.dat (sl (s.map iN))] (.dat (sl ((t.cf u s).map iN)))
theorem Z7 {k:Int} {nm:List UInt8} {ix:Int} {l:List Ty} {u b:Nat} {s:List Int} (hs:gp b s) (hbd:b+1+aU l < 100000000) (hu:u < 1000000000) (hix:aP k 5=true->bq ix 100=true)
  (ih:∀t∈l,∀v s2,v<=u+1->gp (b+1+aU l) s2->(∃b2,gp b2 s2/\b2+t.size<=b+1+aU l)->RF t v s2):RF (.mk k nm ix l) u s:=by
 have hlen:=eG l;have hs1:=zo (k:=k) (ix:=ix) (u:=u) hs;have ha:aP k 5=true->bq ix (Int.ofNat u)=false->ag 192 [.dat (sl (s.map iN)),iv (aH .i64 (ix - Int.ofNat u))] (.dat (sl ((dZ k ix u s).map iN))):=by
  intro hk hg;rw[←P3 hs.1];unfold P4;rw[hk,hg];have hix:=hix hk;rw[gr] at hg hix;simp only[decide_eq_false_iff_not,decide_eq_true_eq] at hg hix;have e:aH .i64 (ix - Int.ofNat u)=ix - Int.ofNat u:=by
   rw[dP];simp only[Int.ofNat_eq_natCast] at hg ⊢;exact wrap_i64 (by omega) (by omega)
  rw[e];exact ad3 (by have:=hs.2;omega)
 have he:aP k 5=false∨bq ix (Int.ofNat u)=true->(dZ k ix u s).map iN=s.map iN:=by
  unfold dZ;rintro (h|h)
  ·rw[h]
  rw[h];cases aP k 5 <;> rfl
 refine Qa rfl rfl ha he ?_;refine bb (St:=fun i=>(stF (km 3 k nm ix (sl (au l))) u (sl ((rf k (l.take i) 0 u (dZ k ix u s)).map iN)) (Int.ofNat i)).aw Tryz.f174.ntmps) (au l).length ?_ ?_ (i:=0) (Nat.zero_le _)
 ·intro i hi;obtain⟨t,ht,hmem⟩:=get_mem hi;have hi2:=hi;rw[aF] at hi2;have hbn:db k i<=1:=by unfold db;split <;> omega
  obtain⟨x,es,hx⟩:∃x es,au l=x::es:=by
   cases hl:au l with
   | nil=>rw[hl] at hi;simp at hi
   | cons x es=>exact⟨x,es,rfl⟩
  have hst:=jb ht;have hsl:=oQ (l:=l) (i+1);have hpre:gp (b+1+aU (l.take i)) (rf k (l.take i) 0 u (dZ k ix u s)):=EZ _ u hs1;have hcf:=ih t hmem (u+db k i) (rf k (l.take i) 0 u (dZ k ix u s)) (by omega) ⟨hpre.1,by have:=hpre.2;omega⟩ ⟨_,hpre,by omega⟩;unfold RF at hcf;rw[←wrap_add (n:=u) (m:=db k i) (by omega)] at hcf;have hbi:=rb k nm ix (x::es) i;have e:=P9 (T:=lm (fun s'=>s'=(stF (km 3 k nm ix (sl (au l))) u (sl ((rf k (l.take (i+1)) 0 u (dZ k ix u s)).map iN)) (Int.ofNat (i+1))).aw Tryz.f174.ntmps)
   (fun e s'=>e=.exit 0/\s'=(ZT (km 3 k nm ix (sl (au l))) u (sl (((Ty.mk k nm ix l).cf u s).map iN)) (Int.ofNat (au l).length)).aw Tryz.f174.ntmps)) hx hi ht hbi hcf (by
    rw[hx,bg (by omega),HL ht];rfl)
  rw[hx];rw[hx] at e;exact e
 refine Vt ⟨rfl,?_⟩;rw[aF,List.take_length,Ty.cf]
mutual
theorem Ql:∀(t:Ty) (u:Nat) {b:Nat} {s:List Int},gp b s->b+t.size < 100000000->u+t.depth < 1000000000->t.dR->RF t u s
 | .mk k nm ix l,u,b,s,hs,hb,hu,hx=>by
  simp only[Ty.size] at hb;simp only[Ty.depth] at hu;simp only[Ty.dR] at hx;exact Z7 hs (by omega) (by omega) hx.1 (Lb l u (by omega) (by omega) hx.2)
theorem Lb:∀(l:List Ty) (u:Nat) {B:Nat},u+bV l+1 < 1000000000->B < 100000000->cV l->∀t∈l,∀v s2,v<=u+1->gp B s2->(∃b2,gp b2 s2/\b2+t.size<=B)->RF t v s2
 | [],u,B,hu,_,hx,t,ht,_,_,_,_,_=>by simp at ht
 | y::r,u,B,hu,hB,hx,t,ht,v,s2,hv,h1,h2=>by
  simp only[bV] at hu;simp only[cV] at hx
  rcases List.mem_cons.1 ht with h3|ht
  ·obtain⟨b2,h4,h5⟩:=h2;rw[h3] at h5 ⊢;exact Ql y v h4 (by omega) (by omega) hx.1
  exact Lb r u (by omega) hB hx.2 t ht v s2 hv h1 h2
end
theorem Z3 {k:Int} {nm:List UInt8} {ix:Int} {l s:List ap} (h:ag 174 [.dat (.agg [i64 k,sb nm,i64 ix,sl l]),iv (Int.ofNat 0),.dat nl] (.dat (sl s))):ag 148 [.dat (.agg [i64 k,sb nm,i64 ix,sl l])] (.dat (sl s)):=by
 rcases l with _|⟨x,l⟩ <;>
 ·rcases s with _|⟨y,s⟩ <;>
  ·refine co [] [] (x:=.of Tryz.f148 I8 LV) ?_;refine on h ?_;exact fi
theorem zF {t:Ty} (hs:t.size < 100000000) (hx:t.dR):ag 148 [.dat t.enc] (.dat (sl (t.fv.map iN))):=by
 have h1:RF t 0 []:=Ql t 0 (b:=0) ⟨List.Pairwise.nil,Nat.le_refl 0⟩ (by omega) (by have:=jr t;omega) hx;unfold RF at h1;unfold Ty.fv;obtain⟨k,nm,ix,l⟩:=t;exact Z3 h1
def OM {α:Type}:List α->Bool
 | []=>true
 | _=>false
theorem aaa {k:Int} {nm:List UInt8} {ix:Int} {l s:List ap} (h:ag 148 [.dat (.agg [i64 k,sb nm,i64 ix,sl l])] (.dat (sl s))):ag 178 [.dat (.agg [i64 k,sb nm,i64 ix,sl l])] (bv (OM s)):=by
 rcases l with _|⟨x,l⟩ <;>
 ·rcases s with _|⟨y,s⟩ <;>
  ·refine co [] [] (x:=.of Tryz.f178 I1 LN) ?_;refine on h ?_;exact fi
theorem Qm {t:Ty} (hs:t.size < 100000000) (hx:t.dR):ag 178 [.dat t.enc] (bv (OM t.fv)):=by
 have h:=zF hs hx;have e:OM t.fv=OM (t.fv.map iN):=by cases t.fv <;> rfl
 rw[e];obtain⟨k,nm,ix,l⟩:=t;exact aaa h
theorem Ch {s:List Int} {x:Int}:jc s x≠[]:=by
 unfold jc
 cases h:s.contains x with
 | true=>intro h2;dsimp only at h2;rw[h2] at h;simp at h
 | false=>exact G0
theorem P5 {k ix:Int} {u:Nat} {s:List Int} (h:s≠[]):dZ k ix u s≠[]:=by
 unfold dZ
 cases aP k 5 with
 | false=>exact h
 | true=>
  cases bq ix (Int.ofNat u) with
  | true=>exact h
  | false=>exact Ch
mutual
theorem afF:∀(t:Ty) (u:Nat) {s:List Int},s≠[]->t.cf u s≠[]
 | .mk k nm ix l,u,s,h=>by rw[Ty.cf];exact E0 l u (P5 h)
theorem E0 {k:Int}:∀(l:List Ty) {j:Nat} (u:Nat) {s:List Int},s≠[]->rf k l j u s≠[]
 | [],j,u,s,h=>by rw[rf];exact h
 | t::r,j,u,s,h=>by rw[rf];exact E0 r u (afF t _ h)
end
mutual
theorem C8:∀(t:Ty) (u:Nat),OM (t.cf u [])=t.closed u
 | .mk k nm ix l,u=>by
  rw[Ty.cf,Ty.closed]
  cases hk:aP k 5 with
  | false=>
   have e:dZ k ix u []=[]:=by unfold dZ;rw[hk]
   rw[e,Bool.false_and,Bool.not_false,Bool.true_and];exact sv l u 0
  | true=>
   cases hg:bq ix (Int.ofNat u) with
   | true=>
    have e:dZ k ix u []=[]:=by unfold dZ;rw[hk,hg]
    rw[e,Bool.not_true,Bool.and_false,Bool.not_false,Bool.true_and];exact sv l u 0
   | false=>
    have e:dZ k ix u []≠[]:=by unfold dZ;rw[hk,hg];exact Ch
    have h2:=E0 (k:=k) l (j:=0) u e;rw[Bool.not_false,Bool.true_and,Bool.not_true,Bool.false_and]
    cases h:rf k l 0 u (dZ k ix u []) with
    | nil=>exact absurd h h2
    | cons _ _=>rfl
theorem sv {k:Int}:∀(l:List Ty) (u j:Nat),OM (rf k l j u [])=eV k j l u
 | [],u,j=>by rw[rf,eV];rfl
 | t::r,u,j=>by
  rw[rf,eV];have h:=C8 t (u+db k j)
  cases hc:t.closed (u+db k j) with
  | true=>
   rw[hc] at h;have e:t.cf (u+db k j) []=[]:=by cases h3:t.cf (u+db k j) [] with|nil=>rfl|cons _ _=>rw[h3] at h;simp[OM] at h
   rw[e,Bool.true_and];exact sv r u (j+1)
  | false=>
   rw[hc] at h;have e:t.cf (u+db k j) []≠[]:=by intro h3;rw[h3] at h;simp[OM] at h
   have h2:=E0 (k:=k) r (j:=j+1) u e;rw[Bool.false_and]
   cases h4:rf k r (j+1) u (t.cf (u+db k j) []) with
   | nil=>exact absurd h4 h2
   | cons _ _=>rfl
end
theorem Cp {t:Ty} (h:t.cB):ag 178 [.dat t.enc] (bv (t.closed 0)):=by
 rw[←C8 t 0];exact Qm h.1 h.2
noncomputable def hRP:Hints:=⟨ao,DT,aq,rowsOf aq 150⟩
def stP (lo:Heap) (i:Int):ab:=⟨[(3,iv i),(1,.ptr (.loc 1) 0)],lo,[],0⟩
def adG (lo:Heap) (i:Int):ab:=⟨[(15,bv false),(3,iv i),(1,.ptr (.loc 1) 0)],lo,[],0⟩
def adH:ab:=⟨[(2,bv false)],[],[],0⟩
theorem P2 {k:Int} {nm:List UInt8} {ix:Int} {l:List Ty} {t:Ty} {i:Nat} {c:Bool} (hi:i < (au l).length) (ht:l[i]?=some t) (hc:ag 150 [.dat t.enc] (bv c)) {T:Exit->aa->Prop}
  (e1:c=true->T .normal ((stP (km 1 k nm ix (.slice (au l))) (aH .i64 (Int.ofNat i+1))).aw Tryz.f150.ntmps)) (e2:c=false->T .ret (adH.aw Tryz.f150.ntmps)) :
  KD (roundOf Tryz.f150 0) T ((stP (km 1 k nm ix (.slice (au l))) (Int.ofNat i)).aw Tryz.f150.ntmps):=by
 have h1:=bA hi;have h2:=jZ ht;generalize au l=es at *;clear ht hi;obtain⟨k2,nm2,ix2,a2⟩:=t
 rcases a2 with _|⟨b,d⟩ <;>
 ·refine aC [15] [21] (H:=hRP) (live:=tJ) (by kernel_rfl) ?_;refine ob h1 ?_;refine oo h2 ?_;refine on hc ?_
  cases c
  ·exact oe (e2 rfl)
  exact oe (e1 rfl)
theorem Vp {k:Int} {nm:List UInt8} {ix:Int} {l:List ap} {T:Exit->aa->Prop} (e:T (.exit 0) ((adG (km 1 k nm ix (sl l)) (Int.ofNat l.length)).aw Tryz.f150.ntmps)) :
  KD (roundOf Tryz.f150 0) T ((stP (km 1 k nm ix (sl l)) (Int.ofNat l.length)).aw Tryz.f150.ntmps):=by
 have h1:=bC (i:=l.length) (L:=l.length) (by omega)
 rcases l with _|⟨x,l⟩
 ·refine aC [] [] (H:=hRP) (live:=tJ) (by kernel_rfl) ?_;exact oe e
 refine aC [15] [] (H:=hRP) (live:=tJ) (by kernel_rfl) ?_;refine ob h1 ?_;exact oe e
theorem Z5 {k:Int} {nm:List UInt8} {ix:Int} {l:List ap} {c2 c5 cc ca:Bool} (h5:aP k 5=c5) (hc:ag 178 [.dat (.agg [i64 k,sb nm,i64 ix,sl l])] (bv cc)) (h2:aP k 2=c2)
  (hl:KD (.loop (roundOf Tryz.f150 0)) (fun e s=>(e=.exit 0/\ca=false/\s=(adG (km 1 k nm ix (sl l)) (Int.ofNat l.length)).aw Tryz.f150.ntmps)∨(e=.ret/\ca=true/\s=adH.aw Tryz.f150.ntmps)) ((stP (km 1 k nm ix (sl l)) (Int.ofNat 0)).aw Tryz.f150.ntmps)) :
  ag 150 [.dat (.agg [i64 k,sb nm,i64 ix,sl l])] (bv (c5||cc||(c2&&!ca))):=by
 rcases l with _|⟨x,l⟩ <;>
 ·cases c2 <;>
  ·refine co [6,27] [] (x:=.of Tryz.f150 DT tJ) ?_;refine ob h5 ?_
   cases c5
   ·refine on hc ?_
    cases cc
    ·refine lo hl ?_;rintro ex s (⟨rfl,rfl,rfl⟩|⟨rfl,rfl,rfl⟩)
     ·refine⟨_,rfl,?_⟩;refine ob h2 ?_;exact fi
     refine⟨_,rfl,?_⟩;exact fi
    exact fi
   exact fi
theorem Bv {l:List Ty} {i:Nat} {t:Ty} (h:l[i]?=some t):gZ (l.drop i)=(!t.plain||gZ (l.drop (i+1))):=by rw[dL h,gZ]
mutual
theorem K9:∀t:Ty,t.cB->ag 150 [.dat t.enc] (bv t.plain)
 | .mk k nm ix l,h=>by
  have hc:=Cp h;obtain⟨h1,h2⟩:=h;simp only[Ty.size] at h1;simp only[Ty.dR] at h2;have ih:=zG l (by omega) h2.2;have hlen:=eG l;rw[Ty.plain];refine Z5 rfl hc rfl ?_;refine cI (St:=fun i=>(stP (km 1 k nm ix (sl (au l))) (Int.ofNat i)).aw Tryz.f150.ntmps) (fun i=>gZ l=gZ (l.drop i)) (au l).length ?_ ?_ (i:=0) (Nat.zero_le _) rfl
  ·intro i hi hI;obtain⟨t,ht,hm⟩:=get_mem hi;have hd:=Bv ht;rw[←hI] at hd;have hsl:=lx hi;have hw:aH .i64 (Int.ofNat i+1)=Int.ofNat (i+1):=bg (by rw[aF] at hi;omega);have hc:=ih t hm;rw[hsl];generalize t.plain=c at hc hd;refine P2 hi ht hc ?_ ?_
   ·rintro rfl;rw[hw];exact⟨rfl,hd⟩
   rintro rfl;exact .inr ⟨rfl,hd,rfl⟩
  intro hI;refine Vp (.inl ⟨rfl,?_,rfl⟩);rw[hI,aF,List.drop_length,gZ]
theorem zG:∀l:List Ty,aU l < 100000000->cV l->∀t∈l,ag 150 [.dat t.enc] (bv t.plain)
 | [],_,_,t,ht=>by simp at ht
 | u::r,h,hx,t,ht=>by
  simp only[aU] at h;simp only[cV] at hx
  rcases List.mem_cons.1 ht with h1|ht
  ·rw[h1];exact K9 u ⟨by omega,hx.1⟩
  exact zG r (by omega) hx.2 t ht
end
theorem FW:KL (fun n=>Df (jA n) (X 146 [OL n] [] 0)) 256=true:=by kernel_rfl
theorem Qk (c:UInt8):ag 146 [OL c.toNat] (bv (jA c.toNat)):=br _ _ _ _ _ (uw (uE FW _ c.toNat_lt))
theorem M6:KL (fun n=>Df (BZ n) (X 147 [OL n] [] 0)) 256=true:=by kernel_rfl
theorem aad (c:UInt8):ag 147 [OL c.toNat] (bv (BZ c.toNat)):=br _ _ _ _ _ (uw (uE M6 _ c.toNat_lt))
noncomputable def hRI:Hints:=⟨ao,zY,aq,rowsOf aq 122⟩
def stJ (b:List UInt8) (i:Int):ab:=⟨[(3,iv i),(0,.dat (sb b))],[],[],0⟩
def adN (b:List UInt8) (i:Int):ab:=⟨[(21,bv false),(3,iv i),(0,.dat (sb b))],[],[],0⟩
def adO:ab:=⟨[(2,bv false)],[],[],0⟩
theorem M9 {b:List UInt8} {c:UInt8} {i:Nat} {cw c3:Bool} {L:Int} (hL:Int.ofNat b.length=L) (h1:bq (Int.ofNat i) (Int.ofNat b.length)=true) (h2:we (env ay.aN) 9 [.dat (sb b),.dat (.flat (.int .i64 (Int.ofNat i)))]=some ⟨OL c.toNat,.keep⟩) (h3:ag 147 [OL c.toNat] (bv cw)) (h4:aP (Int.ofNat c.toNat) 45=c3) {T:Exit->aa->Prop}
  (e1:(cw&&!c3)=true->T .normal ((stJ b (aH .i64 (Int.ofNat i+1))).aw Tryz.f122.ntmps)) (e2:(cw&&!c3)=false->T .ret (adO.aw Tryz.f122.ntmps)) :
  KD (roundOf Tryz.f122 0) T ((stJ b (Int.ofNat i)).aw Tryz.f122.ntmps):=by
 refine aC [21,33] [26,32] (H:=hRI) (live:=tM) (by kernel_rfl) ?_;refine ob h1 ?_;refine oo h2 ?_;refine on h3 ?_
 cases cw
 ·exact oe (e2 rfl)
 refine oo h2 ?_;refine ob h4 ?_
 cases c3
 ·exact oe (e1 rfl)
 exact oe (e2 rfl)
theorem P8 {b:List UInt8} {T:Exit->aa->Prop} (e:T (.exit 0) ((adN b (Int.ofNat b.length)).aw Tryz.f122.ntmps)) :
  KD (roundOf Tryz.f122 0) T ((stJ b (Int.ofNat b.length)).aw Tryz.f122.ntmps):=by
 have h1:=bC (i:=b.length) (L:=b.length) (by omega);refine aC [21] [] (H:=hRI) (live:=tM) (by kernel_rfl) ?_;refine ob h1 ?_;exact oe e
theorem Vs {b:List UInt8} {c:UInt8} {c1 c2 ca:Bool} (h2:bq 24 (Int.ofNat (c::b).length)=c1) (h3:ag 146 [OL c.toNat] (bv c2))
  (hl:c1=false->KD (.loop (roundOf Tryz.f122 0)) (fun e s=>(e=.exit 0/\ca=true/\s=(adN (c::b) (Int.ofNat (c::b).length)).aw Tryz.f122.ntmps)∨(e=.ret/\ca=false/\s=adO.aw Tryz.f122.ntmps)) ((stJ (c::b) (Int.ofNat 0)).aw Tryz.f122.ntmps)) :
  ag 122 [.dat (sb (c::b))] (bv (!c1&&c2&&ca)):=by
 have g1:=uC (b:=c::b) (i:=0) rfl
 cases c1
 ·have hl2:=hl rfl;clear hl;refine co [10] [14] (x:=.of Tryz.f122 zY tM) ?_;refine ob h2 ?_;refine oo g1 ?_;refine on h3 ?_
  cases c2
  ·exact fi
  refine lo hl2 ?_;rintro ex s (⟨rfl,rfl,rfl⟩|⟨rfl,rfl,rfl⟩) <;>
  ·refine⟨_,rfl,?_⟩;exact fi
 clear hl;refine co [10] [] (x:=.of Tryz.f122 zY tM) ?_;refine ob h2 ?_;exact fi
theorem Vr:ag 122 [.dat (sb [])] (bv false):=br _ _ _ _ _ (by kernel_rfl)
theorem DI (b:List UInt8):ag 122 [.dat (sb b)] (bv (isIdent b)):=by
 cases b with
 | nil=>exact Vr
 | cons c b=>
  have h3:=Qk c;have e:isIdent (c::b)=(!bq 24 (Int.ofNat (c::b).length)&&jA c.toNat&&(c::b).all (fun c=>dN c.toNat)):=by
   have e2:Nat.ble (b.length+1) 24=!bq 24 (Int.ofNat (c::b).length):=by
    rw[show (24:Int)=Int.ofNat 24 from rfl,iE]
    by_cases h:24 < (c::b).length
    ·rw[decide_eq_true h];simp at h ⊢;rw[Bool.eq_false_iff,ne_eq,Nat.ble_eq];omega
    rw[decide_eq_false h];simp at h ⊢;omega
   show (Nat.ble (b.length+1) 24&&jA c.toNat&&(c::b).all (fun c=>dN c.toNat))=_;rw[e2]
  rw[e];refine Vs rfl h3 (fun hc=>?_);have hlen:(c::b).length < 1000:=by
   rw[show (24:Int)=Int.ofNat 24 from rfl,iE] at hc;simp only[decide_eq_false_iff_not] at hc;omega
  obtain⟨l,hl⟩:∃l,l=c::b:=⟨_,rfl⟩;rw[←hl] at hlen ⊢;clear hl hc e h3;refine cI (St:=fun i=>(stJ l (Int.ofNat i)).aw Tryz.f122.ntmps) (fun i=>l.all (fun c=>dN c.toNat)=(l.drop i).all (fun c=>dN c.toNat)) l.length ?_ ?_ (i:=0) (Nat.zero_le _) rfl
  ·intro i hi hI;have ht:l[i]?=some l[i]:=List.getElem?_eq_getElem hi;generalize l[i]=t at ht;have hd:(l.drop i).all (fun c=>dN c.toNat)=(dN t.toNat&&(l.drop (i+1)).all (fun c=>dN c.toNat)):=by rw[dL ht];rfl
   rw[←hI] at hd;have hw:aH .i64 (Int.ofNat i+1)=Int.ofNat (i+1):=bg (by omega);have e2:dN t.toNat=(BZ t.toNat&&!(aP (Int.ofNat t.toNat) 45)):=by
    show (!Nat.beq t.toNat 45&&BZ t.toNat)=(BZ t.toNat&&!(Nat.beq t.toNat 45));rw[Bool.and_comm]
   rw[e2] at hd;refine M9 rfl (bA hi) (uC ht) (aad t) rfl ?_ ?_
   ·intro h;rw[h] at hd;rw[hw];exact⟨rfl,hd⟩
   intro h;rw[h] at hd;exact .inr ⟨rfl,hd,rfl⟩
  intro hI;rw[List.drop_length] at hI;exact P8 (.inl ⟨rfl,hI,rfl⟩)
theorem YI (b:List UInt8):ag 123 [.dat (sb b)] (bv (gO b)):=by
 have e:gO b=(dU b [65,110,121]||dU b [78,101,118,101,114]||dU b [116,117,112,108,101]||dU b [117,110,105,111,110]||dU b [101,120,105,115,116,115]):=by
  unfold gO oE;simp only[List.any_cons,List.any_nil,Bool.or_false,Bool.or_assoc]
 rw[e];generalize h1:dU b [65,110,121]=c1;generalize h2:dU b [78,101,118,101,114]=c2;generalize h3:dU b [116,117,112,108,101]=c3;generalize h4:dU b [117,110,105,111,110]=c4;generalize h5:dU b [101,120,105,115,116,115]=c5;refine co [4,7,11,15,19] [] (x:=.of Tryz.f123 Jf L2) ?_;refine ob h1 ?_
 cases c1
 ·refine ob h2 ?_
  cases c2
  ·refine ob h3 ?_
   cases c3
   ·refine ob h4 ?_
    cases c4
    ·refine ob h5 ?_
     cases c5 <;>
     ·exact fi
    exact fi
   exact fi
  exact fi
 exact fi
theorem sg {k j:Int} (h:k≠j):aP k j=false:=by rw[gQ];simpa using h
theorem kinds (k:Int) {c0 c1 c2 c3 c4 c5 c6:Bool} (h0:aP k 0=c0) (h1:aP k 1=c1) (h2:aP k 2=c2) (h3:aP k 3=c3) (h4:aP k 4=c4) (h5:aP k 5=c5) (h6:aP k 6=c6) :
  (c0=true/\c1=false/\c2=false/\c3=false/\c4=false/\c5=false/\c6=false)∨(c0=false/\c1=true/\c2=false/\c3=false/\c4=false/\c5=false/\c6=false)∨(c0=false/\c1=false/\c2=true/\c3=false/\c4=false/\c5=false/\c6=false)∨(c0=false/\c1=false/\c2=false/\c3=true/\c4=false/\c5=false/\c6=false)∨(c0=false/\c1=false/\c2=false/\c3=false/\c4=true/\c5=false/\c6=false)∨(c0=false/\c1=false/\c2=false/\c3=false/\c4=false/\c5=true/\c6=false)∨(c0=false/\c1=false/\c2=false/\c3=false/\c4=false/\c5=false/\c6=true)∨(c0=false/\c1=false/\c2=false/\c3=false/\c4=false/\c5=false/\c6=false):=by
 subst h0 h1 h2 h3 h4 h5 h6
 by_cases q0:k=0
 ·subst q0;exact .inl ⟨rfl,rfl,rfl,rfl,rfl,rfl,rfl⟩
 by_cases q1:k=1
 ·subst q1;exact .inr (.inl ⟨rfl,rfl,rfl,rfl,rfl,rfl,rfl⟩)
 by_cases q2:k=2
 ·subst q2;exact .inr (.inr (.inl ⟨rfl,rfl,rfl,rfl,rfl,rfl,rfl⟩))
 by_cases q3:k=3
 ·subst q3;exact .inr (.inr (.inr (.inl ⟨rfl,rfl,rfl,rfl,rfl,rfl,rfl⟩)))
 by_cases q4:k=4
 ·subst q4;exact .inr (.inr (.inr (.inr (.inl ⟨rfl,rfl,rfl,rfl,rfl,rfl,rfl⟩))))
 by_cases q5:k=5
 ·subst q5;exact .inr (.inr (.inr (.inr (.inr (.inl ⟨rfl,rfl,rfl,rfl,rfl,rfl,rfl⟩)))))
 by_cases q6:k=6
 ·subst q6;exact .inr (.inr (.inr (.inr (.inr (.inr (.inl ⟨rfl,rfl,rfl,rfl,rfl,rfl,rfl⟩))))))
 exact .inr (.inr (.inr (.inr (.inr (.inr (.inr ⟨sg q0,sg q1,sg q2,sg q3,sg q4,sg q5,sg q6⟩))))))
noncomputable def hRW:Hints:=⟨ao,fB,aq,rowsOf aq 177⟩
def UN (j:Nat) (lo:Heap) (n:Nat) (i:Int):ab:=⟨[(j,iv i),(3,iv (Int.ofNat n)),(1,.ptr (.loc 1) 0)],lo,[],0⟩
def Pr (q j:Nat) (lo:Heap) (n:Nat) (i:Int):ab:=⟨[(q,bv false),(j,iv i),(3,iv (Int.ofNat n)),(1,.ptr (.loc 1) 0)],lo,[],0⟩
def Vf:ab:=⟨[(2,bv false)],[],[],0⟩
theorem M8 {k:Int} {nm:List UInt8} {ix:Int} {l:List Ty} {t:Ty} {i:Nat} {c:Bool} (hi:i < (au l).length) (ht:l[i]?=some t) (hc:ag 150 [.dat t.enc] (bv c)) {T:Exit->aa->Prop}
  (e1:c=true->T .normal ((UN 4 (km 1 k nm ix (.slice (au l))) (au l).length (aH .i64 (Int.ofNat i+1))).aw Tryz.f177.ntmps)) (e2:c=false->T .ret (Vf.aw Tryz.f177.ntmps)) :
  KD (roundOf Tryz.f177 0) T ((UN 4 (km 1 k nm ix (.slice (au l))) (au l).length (Int.ofNat i)).aw Tryz.f177.ntmps):=by
 have h1:=bA hi;have h2:=jZ ht;generalize au l=es at *;clear ht hi;obtain⟨k2,nm2,ix2,a2⟩:=t
 rcases a2 with _|⟨b,d⟩ <;>
 ·refine aC [65] [71] (H:=hRW) (live:=dj) (by kernel_rfl) ?_;refine ob h1 ?_;refine oo h2 ?_;refine on hc ?_
  cases c
  ·exact oe (e2 rfl)
  exact oe (e1 rfl)
theorem P0 {k:Int} {nm:List UInt8} {ix:Int} {l:List ap} {T:Exit->aa->Prop} (e:T (.exit 1) ((Pr 65 4 (km 1 k nm ix (sl l)) l.length (Int.ofNat l.length)).aw Tryz.f177.ntmps)) :
  KD (roundOf Tryz.f177 0) T ((UN 4 (km 1 k nm ix (sl l)) l.length (Int.ofNat l.length)).aw Tryz.f177.ntmps):=by
 have h1:=bC (i:=l.length) (L:=l.length) (by omega)
 rcases l with _|⟨x,l⟩
 ·refine aC [] [] (H:=hRW) (live:=dj) (by kernel_rfl) ?_;exact oe e
 refine aC [65] [] (H:=hRW) (live:=dj) (by kernel_rfl) ?_;refine ob h1 ?_;exact oe e
theorem M7 {k:Int} {nm:List UInt8} {ix:Int} {l:List Ty} {t:Ty} {i:Nat} {c:Bool} (hi:i < (au l).length) (ht:l[i]?=some t) (hc:ag 177 [.dat t.enc] (bv c)) {T:Exit->aa->Prop}
  (e1:c=true->T .normal ((UN 5 (km 1 k nm ix (.slice (au l))) (au l).length (aH .i64 (Int.ofNat i+1))).aw Tryz.f177.ntmps)) (e2:c=false->T .ret (Vf.aw Tryz.f177.ntmps)) :
  KD (roundOf Tryz.f177 1) T ((UN 5 (km 1 k nm ix (.slice (au l))) (au l).length (Int.ofNat i)).aw Tryz.f177.ntmps):=by
 have h1:=bA hi;have h2:=jZ ht;generalize au l=es at *;clear ht hi;obtain⟨k2,nm2,ix2,a2⟩:=t
 rcases a2 with _|⟨b,d⟩ <;>
 ·refine aC [97] [103] (H:=hRW) (live:=dj) (by kernel_rfl) ?_;refine ob h1 ?_;refine oo h2 ?_;refine on hc ?_
  cases c
  ·exact oe (e2 rfl)
  exact oe (e1 rfl)
theorem PZ {k:Int} {nm:List UInt8} {ix:Int} {l:List ap} {T:Exit->aa->Prop} (e:T (.exit 3) ((Pr 97 5 (km 1 k nm ix (sl l)) l.length (Int.ofNat l.length)).aw Tryz.f177.ntmps)) :
  KD (roundOf Tryz.f177 1) T ((UN 5 (km 1 k nm ix (sl l)) l.length (Int.ofNat l.length)).aw Tryz.f177.ntmps):=by
 have h1:=bC (i:=l.length) (L:=l.length) (by omega)
 rcases l with _|⟨x,l⟩
 ·refine aC [] [] (H:=hRW) (live:=dj) (by kernel_rfl) ?_;exact oe e
 refine aC [97] [] (H:=hRW) (live:=dj) (by kernel_rfl) ?_;refine ob h1 ?_;exact oe e
theorem Z1 {k ix:Int} {nm:List UInt8} {l:List Ty} {cp ca:Bool} (hi:ag 122 [.dat (sb nm)] (bv (isIdent nm))) (hr:ag 123 [.dat (sb nm)] (bv (gO nm))) (hcp:gZ l=cp) (hnil:l=[]->ca=false)
  (hcl:∀t r,l=t::r->ag 178 [.dat t.enc] (bv (il l)))
  (hl0:KD (.loop (roundOf Tryz.f177 0)) (fun e s=>(e=.exit 1/\cp=false/\s=(Pr 65 4 (km 1 k nm ix (sl (au l))) (au l).length (Int.ofNat (au l).length)).aw Tryz.f177.ntmps)∨(e=.ret/\cp=true/\s=Vf.aw Tryz.f177.ntmps)) ((UN 4 (km 1 k nm ix (sl (au l))) (au l).length (Int.ofNat 0)).aw Tryz.f177.ntmps))
  (hl1:KD (.loop (roundOf Tryz.f177 1)) (fun e s=>(e=.exit 3/\ca=false/\s=(Pr 97 5 (km 1 k nm ix (sl (au l))) (au l).length (Int.ofNat (au l).length)).aw Tryz.f177.ntmps)∨(e=.ret/\ca=true/\s=Vf.aw Tryz.f177.ntmps)) ((UN 5 (km 1 k nm ix (sl (au l))) (au l).length (Int.ofNat 0)).aw Tryz.f177.ntmps)) :
  ag 177 [.dat (Ty.mk k nm ix l).enc] (bv (jh k nm ix l&&!ca)):=by
 unfold jh;rw[hcp];clear hcp;generalize il l=fc at hcl;generalize isIdent nm=ci at hi;generalize gO nm=cr at hr;generalize h0:aP k 0=c0;generalize h1:aP k 1=c1;generalize h2:aP k 2=c2;generalize h3:aP k 3=c3;generalize h4:aP k 4=c4;generalize h5:aP k 5=c5;generalize h6:aP k 6=c6;generalize hn:dU nm []=cn;generalize hx:aP ix 0=cx;generalize hl6:bq 6 (Int.ofNat (au l).length)=l6;generalize hl2:bq (Int.ofNat (au l).length) 2=l2;generalize he0:aP (Int.ofNat (au l).length) 0=e0;generalize he2:aP (Int.ofNat (au l).length) 2=e2;generalize hx0:bq ix 0=x0;generalize hx2:bq 200 ix=x2;have hk:=kinds k h0 h1 h2 h3 h4 h5 h6
 rcases l with _|⟨t,r⟩
 ·have hca:=hnil rfl;subst hca;have z6:l6=false:=hl6.symm;have z2:l2=true:=hl2.symm;have z0:e0=true:=he0.symm;have y2:e2=false:=he2.symm;subst z6;subst z2;subst z0;subst y2;have hl2':=hl1.mono (Q':=fun e s=>e=.exit 3/\s=(Pr 97 5 (km 1 k nm ix (sl (au []))) (au []).length (Int.ofNat (au []).length)).aw Tryz.f177.ntmps) (by
   rintro e s (⟨q1,_,q2⟩|⟨_,q,_⟩)
   ·exact⟨q1,q2⟩
   simp at q)
  clear hcl hnil hl6 hl2 he0 he2 hl1
  rcases hk with⟨rfl,rfl,rfl,rfl,rfl,rfl,rfl⟩|⟨rfl,rfl,rfl,rfl,rfl,rfl,rfl⟩|⟨rfl,rfl,rfl,rfl,rfl,rfl,rfl⟩|⟨rfl,rfl,rfl,rfl,rfl,rfl,rfl⟩|⟨rfl,rfl,rfl,rfl,rfl,rfl,rfl⟩|⟨rfl,rfl,rfl,rfl,rfl,rfl,rfl⟩|⟨rfl,rfl,rfl,rfl,rfl,rfl,rfl⟩|⟨rfl,rfl,rfl,rfl,rfl,rfl,rfl⟩
  ·refine co [11,15,20,24,30] [] (x:=.of Tryz.f177 fB dj) ?_;refine ox h2 ?_;refine ox hn ?_
   cases cn
   ·exact fi
   refine ox h5 ?_;refine ox hx ?_
   cases cx
   ·exact fi
   refine ob h0 ?_;exact fi
  ·refine co [11,15,20,24,30,31] [] (x:=.of Tryz.f177 fB dj) ?_;refine ox h2 ?_;refine ox hn ?_
   cases cn
   ·exact fi
   refine ox h5 ?_;refine ox hx ?_
   cases cx
   ·exact fi
   refine ob h0 ?_;refine ob h1 ?_;exact fi
  ·refine co [11,20,24,30,31,35,49] [] (x:=.of Tryz.f177 fB dj) ?_;refine ox h2 ?_;refine ox h5 ?_;refine ox hx ?_
   cases cx
   ·exact fi
   refine ob h0 ?_;refine ob h1 ?_;refine ob h5 ?_;refine ob h2 ?_;refine on hi ?_
   cases ci
   ·exact fi
   refine on hr ?_
   cases cr
   ·refine lo hl0 ?_;rintro ex s (⟨rfl,rfl,rfl⟩|⟨rfl,rfl,rfl⟩)
    ·refine⟨_,rfl,?_⟩;refine lo hl2' ?_;rintro ex s ⟨rfl,rfl⟩;refine⟨_,rfl,?_⟩;exact fi
    refine⟨_,rfl,?_⟩;exact fi
   exact fi
  ·refine co [11,15,20,24,30,31,35,49,76] [] (x:=.of Tryz.f177 fB dj) ?_;refine ox h2 ?_;refine ox hn ?_
   cases cn
   ·exact fi
   refine ox h5 ?_;refine ox hx ?_
   cases cx
   ·exact fi
   refine ob h0 ?_;refine ob h1 ?_;refine ob h5 ?_;refine ob h2 ?_;refine ob h3 ?_;refine lo hl2' ?_;rintro ex s ⟨rfl,rfl⟩;refine⟨_,rfl,?_⟩;exact fi
  ·refine co [11,15,20,24,30,31,35,49,76,80] [] (x:=.of Tryz.f177 fB dj) ?_;refine ox h2 ?_;refine ox hn ?_
   cases cn
   ·exact fi
   refine ox h5 ?_;refine ox hx ?_
   cases cx
   ·exact fi
   refine ob h0 ?_;refine ob h1 ?_;refine ob h5 ?_;refine ob h2 ?_;refine ob h3 ?_;refine ob h4 ?_;exact fi
  ·refine co [11,15,20,30,31,35,41,46] [] (x:=.of Tryz.f177 fB dj) ?_;refine ox h2 ?_;refine ox hn ?_
   cases cn
   ·exact fi
   refine ox h5 ?_;refine ob h0 ?_;refine ob h1 ?_;refine ob h5 ?_;refine ox hx0 ?_
   cases x0
   ·refine ox hx2 ?_
    cases x2 <;>
    ·exact fi
   exact fi
  ·refine co [11,15,20,24,30,31,35,49,76,80,84] [] (x:=.of Tryz.f177 fB dj) ?_;refine ox h2 ?_;refine ox hn ?_
   cases cn
   ·exact fi
   refine ox h5 ?_;refine ox hx ?_
   cases cx
   ·exact fi
   refine ob h0 ?_;refine ob h1 ?_;refine ob h5 ?_;refine ob h2 ?_;refine ob h3 ?_;refine ob h4 ?_;refine ob h6 ?_;exact fi
  refine co [11,15,20,24,30,31,35,49,76,80,84] [] (x:=.of Tryz.f177 fB dj) ?_;refine ox h2 ?_;refine ox hn ?_
  cases cn
  ·exact fi
  refine ox h5 ?_;refine ox hx ?_
  cases cx
  ·exact fi
  refine ob h0 ?_;refine ob h1 ?_;refine ob h5 ?_;refine ob h2 ?_;refine ob h3 ?_;refine ob h4 ?_;refine ob h6 ?_;exact fi
 have hcl2:=hcl t r rfl;have z0:e0=false:=he0.symm;subst z0;have g0:=jZ (l:=t::r) (i:=0) rfl;clear hcl hnil he0;obtain⟨tk,tn,tix,ta⟩:=t
 rcases ta with _|⟨y,ta⟩ <;>
 ·rcases hk with⟨rfl,rfl,rfl,rfl,rfl,rfl,rfl⟩|⟨rfl,rfl,rfl,rfl,rfl,rfl,rfl⟩|⟨rfl,rfl,rfl,rfl,rfl,rfl,rfl⟩|⟨rfl,rfl,rfl,rfl,rfl,rfl,rfl⟩|⟨rfl,rfl,rfl,rfl,rfl,rfl,rfl⟩|⟨rfl,rfl,rfl,rfl,rfl,rfl,rfl⟩|⟨rfl,rfl,rfl,rfl,rfl,rfl,rfl⟩|⟨rfl,rfl,rfl,rfl,rfl,rfl,rfl⟩
  ·refine co [11,15,20,24,30] [] (x:=.of Tryz.f177 fB dj) ?_;refine ox h2 ?_;refine ox hn ?_
   cases cn
   ·exact fi
   refine ox h5 ?_;refine ox hx ?_
   cases cx
   ·exact fi
   refine ob h0 ?_;exact fi
  ·refine co [11,15,20,24,30,31] [] (x:=.of Tryz.f177 fB dj) ?_;refine ox h2 ?_;refine ox hn ?_
   cases cn
   ·exact fi
   refine ox h5 ?_;refine ox hx ?_
   cases cx
   ·exact fi
   refine ob h0 ?_;refine ob h1 ?_;exact fi
  ·refine co [11,20,24,30,31,35,49,61] [] (x:=.of Tryz.f177 fB dj) ?_;refine ox h2 ?_;refine ox h5 ?_;refine ox hx ?_
   cases cx
   ·exact fi
   refine ob h0 ?_;refine ob h1 ?_;refine ob h5 ?_;refine ob h2 ?_;refine on hi ?_
   cases ci
   ·exact fi
   refine on hr ?_
   cases cr
   ·refine ob hl6 ?_
    cases l6
    ·refine lo hl0 ?_;rintro ex s (⟨rfl,rfl,rfl⟩|⟨rfl,rfl,rfl⟩)
     ·refine⟨_,rfl,?_⟩;refine lo hl1 ?_;rintro ex s (⟨rfl,rfl,rfl⟩|⟨rfl,rfl,rfl⟩) <;>
      ·refine⟨_,rfl,?_⟩;exact fi
     refine⟨_,rfl,?_⟩;exact fi
    exact fi
   exact fi
  ·refine co [11,15,20,24,30,31,35,49,76,78] [] (x:=.of Tryz.f177 fB dj) ?_;refine ox h2 ?_;refine ox hn ?_
   cases cn
   ·exact fi
   refine ox h5 ?_;refine ox hx ?_
   cases cx
   ·exact fi
   refine ob h0 ?_;refine ob h1 ?_;refine ob h5 ?_;refine ob h2 ?_;refine ob h3 ?_;refine ob hl6 ?_
   cases l6
   ·refine lo hl1 ?_;rintro ex s (⟨rfl,rfl,rfl⟩|⟨rfl,rfl,rfl⟩) <;>
    ·refine⟨_,rfl,?_⟩;exact fi
   exact fi
  ·refine co [11,15,20,24,30,31,35,49,76,80,82] [] (x:=.of Tryz.f177 fB dj) ?_;refine ox h2 ?_;refine ox hn ?_
   cases cn
   ·exact fi
   refine ox h5 ?_;refine ox hx ?_
   cases cx
   ·exact fi
   refine ob h0 ?_;refine ob h1 ?_;refine ob h5 ?_;refine ob h2 ?_;refine ob h3 ?_;refine ob h4 ?_;refine ob hl2 ?_
   cases l2
   ·refine lo hl1 ?_;rintro ex s (⟨rfl,rfl,rfl⟩|⟨rfl,rfl,rfl⟩) <;>
    ·refine⟨_,rfl,?_⟩;exact fi
   exact fi
  ·refine co [11,15,20,30,31,35] [] (x:=.of Tryz.f177 fB dj) ?_;refine ox h2 ?_;refine ox hn ?_
   cases cn
   ·exact fi
   refine ox h5 ?_;refine ob h0 ?_;refine ob h1 ?_;refine ob h5 ?_;exact fi
  ·refine co [11,15,20,24,30,31,35,49,76,80,84,86] [90] (x:=.of Tryz.f177 fB dj) ?_;refine ox h2 ?_;refine ox hn ?_
   cases cn
   ·exact fi
   refine ox h5 ?_;refine ox hx ?_
   cases cx
   ·exact fi
   refine ob h0 ?_;refine ob h1 ?_;refine ob h5 ?_;refine ob h2 ?_;refine ob h3 ?_;refine ob h4 ?_;refine ob h6 ?_;refine ox he2 ?_
   cases e2
   ·exact fi
   refine oo g0 ?_;refine on hcl2 ?_
   cases fc
   ·exact fi
   refine lo hl1 ?_;rintro ex s (⟨rfl,rfl,rfl⟩|⟨rfl,rfl,rfl⟩) <;>
   ·refine⟨_,rfl,?_⟩;exact fi
  refine co [11,15,20,24,30,31,35,49,76,80,84] [] (x:=.of Tryz.f177 fB dj) ?_;refine ox h2 ?_;refine ox hn ?_
  cases cn
  ·exact fi
  refine ox h5 ?_;refine ox hx ?_
  cases cx
  ·exact fi
  refine ob h0 ?_;refine ob h1 ?_;refine ob h5 ?_;refine ob h2 ?_;refine ob h3 ?_;refine ob h4 ?_;refine ob h6 ?_;exact fi
theorem KK {l:List Ty} {i:Nat} {t:Ty} (h:l[i]?=some t):lR (l.drop i)=(!t.valid||lR (l.drop (i+1))):=by rw[dL h,lR]
mutual
theorem Qi:∀t:Ty,t.cB->ag 177 [.dat t.enc] (bv t.valid)
 | .mk k nm ix l,h=>by
  obtain⟨h1,h2⟩:=h;simp only[Ty.size] at h1;simp only[Ty.dR] at h2;have ih:=K7 l (by omega) h2.2;have ihp:=zG l (by omega) h2.2;have hlen:=eG l;have hcl:∀t r,l=t::r->ag 178 [.dat t.enc] (bv (il l)):=by
   rintro t r rfl;simp only[aU] at h1;simp only[cV] at h2;exact Cp ⟨by omega,h2.2.1⟩
  rw[Ty.valid];refine Z1 (cp:=gZ l) (DI nm) (YI nm) rfl (by rintro rfl;rw[lR]) hcl ?_ ?_
  ·refine cI (St:=fun i=>(UN 4 (km 1 k nm ix (sl (au l))) (au l).length (Int.ofNat i)).aw Tryz.f177.ntmps) (fun i=>gZ l=gZ (l.drop i)) (au l).length ?_ ?_ (i:=0) (Nat.zero_le _) rfl
   ·intro i hi hI;obtain⟨t,ht,hm⟩:=get_mem hi;have hd:=Bv ht;rw[←hI] at hd;have hsl:=lx hi;have hw:aH .i64 (Int.ofNat i+1)=Int.ofNat (i+1):=bg (by rw[aF] at hi;omega);have hc:=ihp t hm;rw[hsl];generalize t.plain=c at hc hd;refine M8 hi ht hc ?_ ?_
    ·rintro rfl;rw[hw];exact⟨rfl,hd⟩
    rintro rfl;exact .inr ⟨rfl,hd,rfl⟩
   intro hI;refine P0 (.inl ⟨rfl,?_,rfl⟩);rw[hI,aF,List.drop_length,gZ]
  refine cI (St:=fun i=>(UN 5 (km 1 k nm ix (sl (au l))) (au l).length (Int.ofNat i)).aw Tryz.f177.ntmps) (fun i=>lR l=lR (l.drop i)) (au l).length ?_ ?_ (i:=0) (Nat.zero_le _) rfl
  ·intro i hi hI;obtain⟨t,ht,hm⟩:=get_mem hi;have hd:=KK ht;rw[←hI] at hd;have hsl:=lx hi;have hw:aH .i64 (Int.ofNat i+1)=Int.ofNat (i+1):=bg (by rw[aF] at hi;omega);have hc:=ih t hm;rw[hsl];generalize t.valid=c at hc hd;refine M7 hi ht hc ?_ ?_
   ·rintro rfl;rw[hw];exact⟨rfl,hd⟩
   rintro rfl;exact .inr ⟨rfl,hd,rfl⟩
  intro hI;refine PZ (.inl ⟨rfl,?_,rfl⟩);rw[hI,aF,List.drop_length,lR]
theorem K7:∀l:List Ty,aU l < 100000000->cV l->∀t∈l,ag 177 [.dat t.enc] (bv t.valid)
 | [],_,_,t,ht=>by simp at ht
 | u::r,h,hx,t,ht=>by
  simp only[aU] at h;simp only[cV] at hx
  rcases List.mem_cons.1 ht with h1|ht
  ·rw[h1];exact Qi u ⟨by omega,hx.1⟩
  exact K7 r (by omega) hx.2 t ht
end
def Iq (cn cm c:Bool):Int:=match cn||cm with|true=>4|false=>(match c with|true=>0|false=>2)
theorem U6 (t:Ty):t.validate=Iq (bq 200 (Int.ofNat t.size)) (bq 12 (Int.ofNat t.depth)) t.valid:=by
 unfold Ty.validate Iq
 cases (bq 200 (Int.ofNat t.size)||bq 12 (Int.ofNat t.depth)) <;> cases t.valid <;> rfl
theorem ad0 {k ix:Int} {nm:List UInt8} {l:List ap} {n m:Int} {cn cm c:Bool} (h1:ag 175 [.dat (.agg [i64 k,sb nm,i64 ix,sl l])] (iv n)) (hn:bq 200 n=cn) (h2:ag 176 [.dat (.agg [i64 k,sb nm,i64 ix,sl l])] (iv m)) (hm:bq 12 m=cm)
  (h3:ag 177 [.dat (.agg [i64 k,sb nm,i64 ix,sl l])] (bv c)):ag 149 [.dat (.agg [i64 k,sb nm,i64 ix,sl l])] (iv (Iq cn cm c)):=by
 rcases l with _|⟨x,l⟩ <;>
 ·refine co [6,10] [] (x:=.of Tryz.f149 I7 LU) ?_;refine on h1 ?_;refine ob hn ?_
  cases cn
  ·refine on h2 ?_;refine ob hm ?_
   cases cm
   ·refine on h3 ?_
    cases c <;>
    ·exact fi
   exact fi
  exact fi
theorem IT {t:Ty} (h:t.cB):ag 149 [.dat t.enc] (iv t.validate):=by
 have h1:=Qj t (by have:=h.1;omega);have h2:=Lc t (by have:=h.1;omega);have h3:=Qi t h;rw[U6];obtain⟨k,nm,ix,l⟩:=t;exact ad0 h1 rfl h2 rfl h3
theorem Z2 {k ix ar v y:Int} {nm:List UInt8} {l fv:List ap} {c1 c2 c3:Bool} (h0:ag 148 [.dat (.agg [i64 k,sb nm,i64 ix,sl l])] (.dat (sl fv))) (h1:ag 149 [.dat (.agg [i64 k,sb nm,i64 ix,sl l])] (iv v)) (hv:aP v 0=c1)
  (h2:ag 150 [.dat (.agg [i64 k,sb nm,i64 ix,sl l])] (bv c2)) (hi:fv≠[]->aK (env ay.aN) 22 [.dat (.slice fv),.dat (.flat (.int .i64 (aH .i64 (Int.ofNat fv.length - 1))))]=some ⟨.ref [iN y],.keep⟩) (h3:bq y ar=c3) :
  ag 124 [.dat (.agg [i64 k,sb nm,i64 ix,sl l]),iv ar] (bv (c1&&(c2&&(OM fv||c3)))):=by
 rcases fv with _|⟨x,fv⟩
 ·clear hi
  rcases l with _|⟨z,l⟩ <;>
  ·refine co [10] [] (x:=.of Tryz.f124 DZ El) ?_;refine on h0 ?_;refine on h1 ?_;refine ob hv ?_
   cases c1
   ·exact fi
   refine on h2 ?_
   cases c2 <;>
   ·exact fi
 have hj:=hi (by simp);clear hi
 rcases l with _|⟨z,l⟩ <;>
 ·refine co [10,27] [24] (x:=.of Tryz.f124 DZ El) ?_;refine on h0 ?_;refine on h1 ?_;refine ob hv ?_
  cases c1
  ·exact fi
  refine on h2 ?_
  cases c2
  ·exact fi
  refine oo hj ?_;refine ob h3 ?_
  cases c3 <;>
  ·exact fi
theorem GU:∀{l:List Int} {y ar:Int},l.Pairwise (·<=·)->l.getLast?=some y->l.any (fun x=>!bq x ar)=!bq y ar
 | [],y,ar,_,h=>by simp at h
 | [x],y,ar,_,h=>by simp at h;subst h;simp
 | x::z::r,y,ar,hs,h=>by
  rw[List.getLast?_cons_cons] at h;rw[List.any_cons,GU (List.pairwise_cons.1 hs).2 h];have hm:y∈z::r:=List.mem_of_getLast? h;have hxy:=(List.pairwise_cons.1 hs).1 y hm;rw[gr,gr]
  by_cases h1:y < ar
  ·rw[decide_eq_true h1,decide_eq_true (by omega)];rfl
  rw[decide_eq_false h1];simp
theorem ad4 {t:Ty} {ar:Int} (h:t.cB):ag 124 [.dat t.enc,iv ar] (bv (t.over ar)):=by
 have h0:=zF h.1 h.2;have h1:=IT h;have h2:=K9 t h;have hs:=(EB (t:=t)).1;have hlen:=(EB (t:=t)).2;have hsz:=h.1;unfold Ty.over;generalize t.validate=v at *;generalize t.plain=c2 at *;generalize t.fv=fv at *;obtain⟨k,nm,ix,l⟩:=t;have key:∃y,(fv≠[]->fv.getLast?=some y):=by
  cases hf:fv.getLast? with
  | none=>exact⟨0,fun h=>absurd (List.getLast?_eq_none_iff.1 hf) h⟩
  | some y=>exact⟨y,fun _=>rfl⟩
 obtain⟨y,hy⟩:=key;have h:=Z2 (y:=y) (ar:=ar) h0 h1 rfl h2 (fun hne=>by
  have hne2:fv≠[]:=by rintro rfl;exact hne rfl
  have hl:=hy hne2;have hw:aH .i64 (Int.ofNat (fv.map iN).length - 1)=Int.ofNat (fv.length - 1):=by
   have hp:0 < fv.length:=List.length_pos_iff.2 hne2;rw[List.length_map,dP,wrap_i64 (by simp;omega) (by simp;omega)];simp;omega
  rw[hw];exact NO (by rw[List.getLast?_eq_getElem?] at hl;exact hl)) rfl
 have e:(OM (fv.map iN)||bq y ar)=!(fv.any (fun x=>!bq x ar)):=by
  cases fv with
  | nil=>simp[OM]
  | cons x r=>
   rw[GU hs (hy (by simp))];simp[OM]
 rw[e] at h;exact h
noncomputable def hVD:Hints:=⟨ao,Gq,aq,rowsOf aq 93⟩
def Fl (cs:List ac):Heap:=[(.loc 1,.cells cs)]
def MR (lo:Heap) (i:Int):ab:=⟨[(3,iv i),(1,.ptr (.loc 1) 0)],lo,[],0⟩
def Pq (lo:Heap) (i:Int):ab:=⟨[(53,bv false),(3,iv i),(1,.ptr (.loc 1) 0)],lo,[],0⟩
def Cd:ab:=⟨[(2,bv false)],[],[],0⟩
def MQ (lo:Heap) (i k:Int):ab:=⟨[(4,iv k),(3,iv i),(1,.ptr (.loc 1) 0)],lo,[],0⟩
def Pp (lo:Heap) (i k:Int):ab:=⟨[(78,bv false),(4,iv k),(3,iv i),(1,.ptr (.loc 1) 0)],lo,[],0⟩
theorem OW {nm nm2:List UInt8} {ar kk ix:Int} {A:ap} {con:Bool} {l:List dq} {t u:dq} {i k:Nat} {c:Bool} {T:Exit->aa->Prop} (hk:k < i) (ht:l[k]?=some t) (hu:l[i]?=some u) (hc:dU t.nm u.nm=c)
  (e1:c=false->T .normal ((MQ (Fl (bW nm ar kk nm2 ix A con (.slice (aJ l)))) (Int.ofNat i) (aH .i64 (Int.ofNat k+1))).aw Tryz.f93.ntmps)) (e2:c=true->T .ret (Cd.aw Tryz.f93.ntmps)) :
  KD (roundOf Tryz.f93 1) T ((MQ (Fl (bW nm ar kk nm2 ix A con (.slice (aJ l)))) (Int.ofNat i) (Int.ofNat k)).aw Tryz.f93.ntmps):=by
 have h1:=bA hk;have h2:=rZ ht;have h3:=rZ hu;generalize aJ l=es at *;clear ht hu hk;obtain⟨fn,tk,tn',tix,ta⟩:=t;obtain⟨gn,uk,un',uix,ua⟩:=u;refine aC [78,93] [84,90] (H:=hVD) (live:=pe) (by kernel_rfl) ?_;refine ob h1 ?_;refine oo h2 ?_;refine oo h3 ?_;refine ob hc ?_
 cases c
 ·exact oe (e1 rfl)
 exact oe (e2 rfl)
theorem U3 {nm nm2:List UInt8} {ar kk ix:Int} {A B:ap} {con:Bool} {i:Nat} {T:Exit->aa->Prop} (e:T (.exit 2) ((Pp (Fl (bW nm ar kk nm2 ix A con B)) (Int.ofNat i) (Int.ofNat i)).aw Tryz.f93.ntmps)) :
  KD (roundOf Tryz.f93 1) T ((MQ (Fl (bW nm ar kk nm2 ix A con B)) (Int.ofNat i) (Int.ofNat i)).aw Tryz.f93.ntmps):=by
 have h1:=bC (i:=i) (L:=i) (by omega);refine aC [78] [] (H:=hVD) (live:=pe) (by kernel_rfl) ?_;refine ob h1 ?_;exact oe e
def uA (nm:List UInt8) (l:List dq):Bool:=l.any (fun f=>dU f.nm nm)
theorem U2 {nm nm2:List UInt8} {ar kk ix:Int} {A:ap} {con:Bool} {l:List dq} {u:dq} {i:Nat} (hu:l[i]?=some u) (hn:l.length < 1000000000) :
  KD (.loop (roundOf Tryz.f93 1)) (fun e s=>(e=.exit 2/\uA u.nm (l.take i)=false/\s=(Pp (Fl (bW nm ar kk nm2 ix A con (.slice (aJ l)))) (Int.ofNat i) (Int.ofNat i)).aw Tryz.f93.ntmps)∨(e=.ret/\uA u.nm (l.take i)=true/\s=Cd.aw Tryz.f93.ntmps))
   ((MQ (Fl (bW nm ar kk nm2 ix A con (.slice (aJ l)))) (Int.ofNat i) (Int.ofNat 0)).aw Tryz.f93.ntmps):=by
 have hil:=(List.getElem?_eq_some_iff.1 hu).1;refine cI (St:=fun k=>(MQ (Fl (bW nm ar kk nm2 ix A con (.slice (aJ l)))) (Int.ofNat i) (Int.ofNat k)).aw Tryz.f93.ntmps) (fun k=>uA u.nm (l.take k)=false) i ?_ ?_ (i:=0) (Nat.zero_le _) rfl
 ·intro k hk hI;have ht:l[k]?=some l[k]:=List.getElem?_eq_getElem (by omega);have htk:=dC ht;have hw:aH .i64 (Int.ofNat k+1)=Int.ofNat (k+1):=bg (by omega);refine OW hk ht hu rfl ?_ ?_
  ·intro hc;rw[hw];refine⟨rfl,?_⟩;rw[htk];unfold uA at hI ⊢;rw[List.any_append,hI];simp[hc]
  intro hc;refine .inr ⟨rfl,?_,rfl⟩;unfold uA;rw[List.any_eq_true];refine⟨l[k],?_,hc⟩;rw[List.mem_take_iff_getElem];exact⟨k,by omega,rfl⟩
 intro hI;exact U3 (.inl ⟨rfl,hI,rfl⟩)
theorem OY {nm nm2:List UInt8} {ar k ix:Int} {A:ap} {con:Bool} {l:List dq} {t:dq} {i:Nat} {c1 c2 c3:Bool} {T:Exit->aa->Prop} (hi:i < (aJ l).length) (ht:l[i]?=some t) (hn:ag 122 [.dat (sb t.nm)] (bv c1)) (hc:ag 124 [.dat t.ty.enc,iv ar] (bv c2))
  (hl:KD (.loop (roundOf Tryz.f93 1)) (fun e s=>(e=.exit 2/\c3=false/\s=(Pp (Fl (bW nm ar k nm2 ix A con (.slice (aJ l)))) (Int.ofNat i) (Int.ofNat i)).aw Tryz.f93.ntmps)∨(e=.ret/\c3=true/\s=Cd.aw Tryz.f93.ntmps))
   ((MQ (Fl (bW nm ar k nm2 ix A con (.slice (aJ l)))) (Int.ofNat i) (Int.ofNat 0)).aw Tryz.f93.ntmps))
  (e1:(c1&&(c2&&!c3))=true->T .normal ((MR (Fl (bW nm ar k nm2 ix A con (.slice (aJ l)))) (aH .i64 (Int.ofNat i+1))).aw Tryz.f93.ntmps)) (e2:(c1&&(c2&&!c3))=false->T .ret (Cd.aw Tryz.f93.ntmps)) :
  KD (roundOf Tryz.f93 0) T ((MR (Fl (bW nm ar k nm2 ix A con (.slice (aJ l)))) (Int.ofNat i)).aw Tryz.f93.ntmps):=by
 have h1:=bA hi;have h2:=rZ ht;generalize aJ l=es at *;clear ht hi;obtain⟨fn,tk,tn',tix,ta⟩:=t
 rcases ta with _|⟨b,d⟩ <;>
 ·refine aC [53] [59,68] (H:=hVD) (live:=pe) (by kernel_rfl) ?_;refine ob h1 ?_;refine oo h2 ?_;refine on hn ?_
  cases c1
  ·exact oe (e2 rfl)
  refine oo h2 ?_;refine on hc ?_
  cases c2
  ·exact oe (e2 rfl)
  refine lo hl ?_;rintro ex s (⟨rfl,rfl,rfl⟩|⟨rfl,rfl,rfl⟩)
  ·refine⟨_,rfl,?_⟩;exact oe (e1 rfl)
  refine⟨_,rfl,?_⟩;exact oe (e2 rfl)
theorem U5 {nm nm2:List UInt8} {ar k ix:Int} {A:ap} {con:Bool} {l:List ap} {T:Exit->aa->Prop} (e:T (.exit 0) ((Pq (Fl (bW nm ar k nm2 ix A con (sl l))) (Int.ofNat l.length)).aw Tryz.f93.ntmps)) :
  KD (roundOf Tryz.f93 0) T ((MR (Fl (bW nm ar k nm2 ix A con (sl l))) (Int.ofNat l.length)).aw Tryz.f93.ntmps):=by
 have h1:=bC (i:=l.length) (L:=l.length) (by omega)
 rcases l with _|⟨x,l⟩
 ·refine aC [] [] (H:=hVD) (live:=pe) (by kernel_rfl) ?_;exact oe e
 refine aC [53] [] (H:=hVD) (live:=pe) (by kernel_rfl) ?_;refine ob h1 ?_;exact oe e
theorem Zm {nm nm2:List UInt8} {ar k ix:Int} {la lb:List ap} {con c1 c2 c3 c4 c5 c6 c7 d:Bool} (h1:ag 122 [.dat (sb nm)] (bv c1)) (h2:ag 123 [.dat (sb nm)] (bv c2)) (h3:bq ar 0=c3) (h4:SU lb=c4) (h5:aP k 2=c5)
  (h6:ag 24 [.dat (.agg [i64 k,sb nm2,i64 ix,sl la]),.dat (Ty.mk 0 [] 0 []).enc] (bv c6)) (h7:ag 124 [.dat (.agg [i64 k,sb nm2,i64 ix,sl la]),iv ar] (bv c7))
  (hl:KD (.loop (roundOf Tryz.f93 0)) (fun e s=>(e=.exit 0/\d=true/\s=(Pq (Fl (bW nm ar k nm2 ix (sl la) con (sl lb))) (Int.ofNat lb.length)).aw Tryz.f93.ntmps)∨(e=.ret/\d=false/\s=Cd.aw Tryz.f93.ntmps)) ((MR (Fl (bW nm ar k nm2 ix (sl la) con (sl lb))) (Int.ofNat 0)).aw Tryz.f93.ntmps)) :
  ag 93 [.dat (eh nm ar k nm2 ix la con lb)] (bv (c1&&(!c2&&(!c3&&(!(!con&&c4)&&((c5||c6)&&(c7&&d))))))):=by
 have q1:=uu nm ar k nm2 ix la con lb;have q3:=Er false 1 nm ar k nm2 ix la con lb;have q4:=AH
 rcases lb with _|⟨y,lb⟩
 ·have z:c4=false:=h4.symm;subst z;clear h4;refine co [17,33] [1,43,36] (x:=.of Tryz.f93 Gq pe) ?_;refine oo q1 ?_;refine on h1 ?_
  cases c1
  ·exact fi
  refine on h2 ?_
  cases c2
  ·refine ob h3 ?_
   cases c3
   ·cases con <;>
    ·refine ox h5 ?_
     cases c5
     ·refine oo q3 ?_;refine on q4 ?_;refine on h6 ?_
      cases c6
      ·exact fi
      refine oo q3 ?_;refine on h7 ?_
      cases c7
      ·exact fi
      refine lo hl ?_;rintro ex s (⟨rfl,rfl,rfl⟩|⟨rfl,rfl,rfl⟩) <;>
      ·refine⟨_,rfl,?_⟩;exact fi
     refine oo q3 ?_;refine on h7 ?_
     cases c7
     ·exact fi
     refine lo hl ?_;rintro ex s (⟨rfl,rfl,rfl⟩|⟨rfl,rfl,rfl⟩) <;>
     ·refine⟨_,rfl,?_⟩;exact fi
   exact fi
  exact fi
 have z:c4=true:=h4.symm;subst z;clear h4;refine co [17,33] [1,43,36] (x:=.of Tryz.f93 Gq pe) ?_;refine oo q1 ?_;refine on h1 ?_
 cases c1
 ·exact fi
 refine on h2 ?_
 cases c2
 ·refine ob h3 ?_
  cases c3
  ·cases con
   ·exact fi
   refine ox h5 ?_
   cases c5
   ·refine oo q3 ?_;refine on q4 ?_;refine on h6 ?_
    cases c6
    ·exact fi
    refine oo q3 ?_;refine on h7 ?_
    cases c7
    ·exact fi
    refine lo hl ?_;rintro ex s (⟨rfl,rfl,rfl⟩|⟨rfl,rfl,rfl⟩) <;>
    ·refine⟨_,rfl,?_⟩;exact fi
   refine oo q3 ?_;refine on h7 ?_
   cases c7
   ·exact fi
   refine lo hl ?_;rintro ex s (⟨rfl,rfl,rfl⟩|⟨rfl,rfl,rfl⟩) <;>
   ·refine⟨_,rfl,?_⟩;exact fi
  exact fi
 exact fi
theorem FP (nm:List UInt8):∀l:List dq,ov l nm=uA nm l
 | []=>rfl
 | f::r=>by
  have ih:=FP nm r;unfold uA at ih ⊢;unfold ov;rw[List.any_cons,←ih];have e:dU f.nm nm=dU nm f.nm:=by
   rw[Bool.eq_iff_iff,jo,jo,beq_iff_eq,beq_iff_eq];exact eq_comm
  rw[e]
  cases dU nm f.nm <;> rfl
theorem U4 {nm nm2:List UInt8} {ar k ix:Int} {A B:ap} {con:Bool} {l:List dq} (hb:B=sl (aJ l)) (hn:l.length < 1000000000) (hf:∀f∈l,f.ty.cB) :
  KD (.loop (roundOf Tryz.f93 0)) (fun e s=>(e=.exit 0/\Ih ar [] l=true/\s=(Pq (Fl (bW nm ar k nm2 ix A con B)) (Int.ofNat (aJ l).length)).aw Tryz.f93.ntmps)∨(e=.ret/\Ih ar [] l=false/\s=Cd.aw Tryz.f93.ntmps)) ((MR (Fl (bW nm ar k nm2 ix A con B)) (Int.ofNat 0)).aw Tryz.f93.ntmps):=by
 refine cI (St:=fun i=>(MR (Fl (bW nm ar k nm2 ix A con B)) (Int.ofNat i)).aw Tryz.f93.ntmps) (fun i=>Ih ar [] l=Ih ar (l.take i) (l.drop i)) (aJ l).length ?_ ?_ (i:=0) (Nat.zero_le _) (by simp)
 ·intro i hi hI;obtain⟨t,ht,hm⟩:=gv hi;have hd:=Fp (ar:=ar) ht;rw[←hI] at hd;have hw:aH .i64 (Int.ofNat i+1)=Int.ofNat (i+1):=bg (by rw[bd] at hi;omega);have hb2:B=.slice (aJ l):=by
   rw[hb]
   cases l with
   | nil=>simp at ht
   | cons x r=>rfl
  subst hb2;have e:(isIdent t.nm&&(!ov (l.take i) t.nm&&t.ty.over ar))=(isIdent t.nm&&(t.ty.over ar&&!uA t.nm (l.take i))):=by
   rw[FP,Bool.and_comm (!uA t.nm (l.take i))]
  rw[e] at hd;refine OY hi ht (DI t.nm) (ad4 (hf t hm)) (U2 ht hn) ?_ ?_
  ·intro hc;rw[hw];refine⟨rfl,?_⟩;rw[hd,hc,Bool.true_and]
  intro hc;refine .inr ⟨rfl,?_,rfl⟩;rw[hd,hc,Bool.false_and]
 intro hI;rw[hb];refine U5 (.inl ⟨rfl,?_,rfl⟩);rw[hI,bd,List.drop_length];rfl
theorem Cx {t:Ty} {ar:Int} (h:t.over ar=true) (hk:aP t.kind 0=true):t=.mk 0 [] 0 []:=by
 obtain⟨k,nm,ix,l⟩:=t;have hk2:k=0:=eY hk;subst hk2;unfold Ty.over at h;simp only[Bool.and_eq_true] at h;have h1:=eY h.1;unfold Ty.validate at h1
 split at h1
 ·simp at h1
 split at h1
 ·rename_i hv;rw[Ty.valid,Bool.and_eq_true] at hv;have hn:=hv.1;unfold jh at hn
  split at hn
  ·simp at hn
  rename_i g1
  split at hn
  ·simp at hn
  rename_i g2
  split at hn
  ·have g3:=eY hn;rw[aF] at g3;have g4:l=[]:=List.length_eq_zero_iff.1 (Int.ofNat.inj (g3.trans (show (0:Int)=Int.ofNat 0 from rfl)));subst g4;have g5:dU nm []=true:=by
    cases hh:dU nm [] with
    | true=>rfl
    | false=>exact absurd (by rw[hh];rfl) g1
   have g6:aP ix 0=true:=by
    cases hh:aP ix 0 with
    | true=>rfl
    | false=>exact absurd (by rw[hh];rfl) g2
   rw[si g5,eY g6]
  rename_i g3;exact absurd (by rfl) g3
 simp at h1
theorem F6 {d:aQ} (h:d.cB):ag 93 [.dat d.enc] (bv d.wf):=by
 have h6:=zI d.sup (.mk 0 [] 0 []) (by have:=h.1.1;omega);have h7:=ad4 (ar:=d.ar) h.1;have hf:=h.2.1;have hn:=h.2.2;have e:((aP d.sup.kind 2||N6 d.sup (.mk 0 [] 0 []))&&(d.sup.over d.ar&&Ih d.ar [] d.fl))=((aP d.sup.kind 0||aP d.sup.kind 2)&&(d.sup.over d.ar&&Ih d.ar [] d.fl)):=by
  cases ho:d.sup.over d.ar with
  | false=>simp
  | true=>
   have hh:N6 d.sup (.mk 0 [] 0 [])=aP d.sup.kind 0:=by
    rw[Bool.eq_iff_iff,yy]
    constructor
    ·intro h;rw[h];rfl
    exact Cx ho
   rw[hh,Bool.or_comm]
 unfold aQ.wf;rw[←e];obtain⟨nm,ar,⟨k,tn,ix,la⟩,con,fl⟩:=d;exact Zm (DI nm) (YI nm) rfl rfl rfl h6 h7 (U4 rfl hn hf)
def T7 (c1 c2 c3:Bool):Int:=match c1 with|false=>2|true=>match c2||c3 with|true=>4|false=>0
theorem afE {nm nm2:List UInt8} {ar k ix:Int} {la lb:List ap} {con c1 c2 c3:Bool} (h1:ag 93 [.dat (eh nm ar k nm2 ix la con lb)] (bv c1)) (h2:bq 6 ar=c2) (h3:bq 6 (Int.ofNat lb.length)=c3) :
  ag 57 [.dat (eh nm ar k nm2 ix la con lb)] (iv (T7 c1 c2 c3)):=by
 have q1:=uu nm ar k nm2 ix la con lb
 rcases lb with _|⟨y,lb⟩
 ·have z:c3=false:=h3.symm;subst z;clear h3;refine co [8] [1] (x:=.of Tryz.f57 Ln Jy) ?_;refine oo q1 ?_
  rcases la with _|⟨v0,v1⟩ <;>
  ·refine on h1 ?_
   cases c1
   ·exact fi
   refine ob h2 ?_
   cases c2 <;>
   ·exact fi
 refine co [8,13] [1] (x:=.of Tryz.f57 Ln Jy) ?_;refine oo q1 ?_
 rcases la with _|⟨v0,v1⟩ <;>
 ·refine on h1 ?_
  cases c1
  ·exact fi
  refine ob h2 ?_
  cases c2
  ·refine ob h3 ?_
   cases c3 <;>
   ·exact fi
  exact fi
def aQ.chk (d:aQ):Int:=T7 d.wf (bq 6 d.ar) (bq 6 (Int.ofNat (aJ d.fl).length))
theorem VC {d:aQ} (h:d.cB):ag 57 [.dat d.enc] (iv d.chk):=by
 have h1:=F6 h;unfold aQ.chk;generalize d.wf=c1 at h1 ⊢;obtain⟨nm,ar,⟨k,tn,ix,la⟩,con,fl⟩:=d;exact afE h1 rfl rfl
def rP (o:Nat):ac:=.ptr (.out o) 0
def hF (o:Nat) (es:List ap):Heap:=[(.out o,.cells [.dat (.slice es)])]
theorem ad5:KC 45 [] [] 0 (XQ ⟨rP 0,hF 0 (aL cY),1⟩):=by
 exact aB.ada (br _ _ _ _ ⟨rP 0,[(.out 0,.cells [.own (aL cY)])],1⟩ (by kernel_rfl)) (.refl _) (.cons (.cells (.cons (.own _) .nil) rfl) .nil)
noncomputable def hLk:Hints:=⟨ao,Lv,aq,rowsOf aq 36⟩
theorem X3 (k:Int) (tn:List UInt8) (ix:Int) (la:List ap) :
  Yl [.dat (.agg [i64 k,sb tn,i64 ix,sl la])]=some ⟨.undef,.new (.cells [iv k,.dat (sb tn),iv ix,.dat (sl la)])⟩:=by
 rcases la with _|⟨x,la⟩ <;> kernel_rfl
def loZ:Heap:=[(.loc 4,.cells (cellsD [] 0 0 [] 0 [] false []))]
def MU (es:List ap) (nm:List UInt8) (i:Int):ab:=⟨[(6,iv i),(4,.ptr (.loc 4) 0),(0,rP 0),(1,.dat (sb nm))],loZ,hF 0 es,1⟩
def Px (es:List ap) (nm:List UInt8) (i:Int):ab:=⟨[(13,bv false),(6,iv i),(4,.ptr (.loc 4) 0),(0,rP 0),(1,.dat (sb nm))],loZ,hF 0 es,1⟩
def Py (es:List ap) (d:aQ):ab:=⟨[(5,bv true),(4,.ptr (.loc 4) 0)],[(.loc 4,.cells (cellsD d.nm d.ar d.sup.kind d.sup.nm d.sup.Et (au d.sup.args) d.con (aJ d.fl)))],hF 0 es,1⟩
theorem Su {nm:List UInt8} {ds:List aQ} {i:Nat} {t:aQ} {c:Bool} (hi:i < (aL ds).length) (ht:ds[i]?=some t) (hc:dU t.nm nm=c) {T:Exit->aa->Prop}
  (e1:c=false->T .normal ((MU (aL ds) nm (aH .i64 (Int.ofNat i+1))).aw Tryz.f36.ntmps)) (e2:c=true->T .ret ((Py (aL ds) t).aw Tryz.f36.ntmps)) :
  KD (roundOf Tryz.f36 0) T ((MU (aL ds) nm (Int.ofNat i)).aw Tryz.f36.ntmps):=by
 have h1:=bA hi;have h2:=qZ ht;generalize aL ds=es at *;clear ht hi;obtain⟨dn,ar,⟨k,tn,ix,la⟩,con,fl⟩:=t;have q1:=fy 4 dn ar k tn ix (au la) con (aJ fl);refine aC [13,25] [21,31,100004] (H:=hLk) (live:=Eh) (by kernel_rfl) ?_;refine ob h1 ?_;refine oo h2 ?_;refine ob hc ?_
 cases c
 ·exact oe (e1 rfl)
 refine oo h2 ?_;refine oo q1 ?_;exact oe (e2 rfl)
theorem V1 {nm:List UInt8} {es:List ap} {T:Exit->aa->Prop} (e:T (.exit 0) ((Px es nm (Int.ofNat es.length)).aw Tryz.f36.ntmps)) :
  KD (roundOf Tryz.f36 0) T ((MU es nm (Int.ofNat es.length)).aw Tryz.f36.ntmps):=by
 have h1:=bC (i:=es.length) (L:=es.length) (by omega);refine aC [13] [] (H:=hLk) (live:=Eh) (by kernel_rfl) ?_;refine ob h1 ?_;exact oe e
theorem aan {nm:List UInt8} {es:List ap} {o:Option aQ}
  (hl:KD (.loop (roundOf Tryz.f36 0)) (fun e s=>(e=.exit 0/\o=none/\s=(Px es nm (Int.ofNat es.length)).aw Tryz.f36.ntmps)∨(∃d,e=.ret/\o=some d/\s=(Py es d).aw Tryz.f36.ntmps)) ((MU es nm 0).aw Tryz.f36.ntmps)) :
  KC 36 [rP 0,.dat (sb nm)] (hF 0 es) 1 (XQ ⟨.tup [.dat (iO o).enc,bv (eg o)],hF 0 es,1⟩):=by
 refine co [] [] (x:=.of Tryz.f36 Lv Eh) ?_;refine lo hl ?_;rintro ex s (⟨rfl,rfl,rfl⟩|⟨x0,rfl,rfl,rfl⟩)
 ·refine⟨_,rfl,?_⟩;exact fi
 refine⟨_,rfl,?_⟩;obtain⟨v1,v2,v3,v4,v5⟩:=x0;obtain⟨v6,v7,v8,v9⟩:=v3
 rcases v9 with _|⟨v12,v13⟩
 ·rcases v5 with _|⟨v10,v11⟩ <;>
  ·exact fi
 rcases v5 with _|⟨v14,v15⟩ <;>
 ·exact fi
noncomputable def hKn:Hints:=⟨ao,Lt,aq,rowsOf aq 40⟩
def loK (k:Int) (nm:List UInt8) (ix:Int) (a:ap):Heap:=[(.loc 3,.cells [iv k,.dat (sb nm),iv ix,.dat a])]
def Pz (lo:Heap) (es:List ap) (i:Int):ab:=⟨[(7,iv i),(3,.ptr (.loc 3) 0),(0,rP 0)],lo,hF 0 es,1⟩
def Yv (lo:Heap) (es:List ap) (i:Int):ab:=⟨[(32,bv false),(7,iv i),(3,.ptr (.loc 3) 0),(0,rP 0)],lo,hF 0 es,1⟩
def Yw (es:List ap):ab:=⟨[(4,bv false)],[],hF 0 es,1⟩
theorem SX {k ix:Int} {nm:List UInt8} {es:List ap} {l:List Ty} {t:Ty} {i:Nat} {c:Bool} (hi:i < (au l).length) (ht:l[i]?=some t) (hc:KC 40 [rP 0,.dat t.enc] (hF 0 es) 1 (XQ ⟨bv c,hF 0 es,1⟩)) {T:Exit->aa->Prop}
  (e1:c=true->T .normal ((Pz (loK k nm ix (.slice (au l))) es (aH .i64 (Int.ofNat i+1))).aw Tryz.f40.ntmps)) (e2:c=false->T .ret ((Yw es).aw Tryz.f40.ntmps)) :
  KD (roundOf Tryz.f40 0) T ((Pz (loK k nm ix (.slice (au l))) es (Int.ofNat i)).aw Tryz.f40.ntmps):=by
 have h1:=bA hi;have h2:=jZ ht;generalize au l=ls at *;clear ht hi;obtain⟨tk,tn,tix,ta⟩:=t
 rcases ta with _|⟨b,d⟩ <;>
 ·refine aC [32] [39] (H:=hKn) (live:=Ao) (by kernel_rfl) ?_;refine ob h1 ?_;refine oo h2 ?_;refine oh hc ?_
  cases c
  ·exact oe (e2 rfl)
  exact oe (e1 rfl)
theorem W4 {k ix:Int} {nm:List UInt8} {es l:List ap} {T:Exit->aa->Prop} (e:T (.exit 0) ((Yv (loK k nm ix (sl l)) es (Int.ofNat l.length)).aw Tryz.f40.ntmps)) :
  KD (roundOf Tryz.f40 0) T ((Pz (loK k nm ix (sl l)) es (Int.ofNat l.length)).aw Tryz.f40.ntmps):=by
 have h1:=bC (i:=l.length) (L:=l.length) (by omega)
 rcases l with _|⟨x,l⟩
 ·refine aC [] [] (H:=hKn) (live:=Ao) (by kernel_rfl) ?_;exact oe e
 refine aC [32] [] (H:=hKn) (live:=Ao) (by kernel_rfl) ?_;refine ob h1 ?_;exact oe e
theorem aay {nm nm2 tn2:List UInt8} {es:List ap} {l la lb:List ap} {k ix ar2 k2 ix2:Int} {con2 cw c ck d:Bool} (h:aP k 2=ck) (hf:KC 36 [rP 0,.dat (sb nm)] (hF 0 es) 1 (XQ ⟨.tup [.dat (eh nm2 ar2 k2 tn2 ix2 la con2 lb),bv cw],hF 0 es,1⟩)) (hc:aP ar2 (Int.ofNat l.length)=c)
  (hl:KD (.loop (roundOf Tryz.f40 0)) (fun e s=>(e=.exit 0/\d=true/\s=(Yv (loK k nm ix (sl l)) es (Int.ofNat l.length)).aw Tryz.f40.ntmps)∨(e=.ret/\d=false/\s=(Yw es).aw Tryz.f40.ntmps)) ((Pz (loK k nm ix (sl l)) es (Int.ofNat 0)).aw Tryz.f40.ntmps)) :
  KC 40 [rP 0,.dat (.agg [i64 k,sb nm,i64 ix,sl l])] (hF 0 es) 1 (XQ ⟨bv (!(ck&&!(cw&&c))&&d),hF 0 es,1⟩):=by
 have q1:=X3 k nm ix l;have q4:=fy 5 nm2 ar2 k2 tn2 ix2 la con2 lb
 rcases l with _|⟨x,l⟩ <;>
 ·refine co [10,26] [3,100005] (x:=.of Tryz.f40 Lt Ao) ?_;refine oo q1 ?_;refine ob h ?_
  cases ck
  ·refine lo hl ?_;rintro ex s (⟨rfl,rfl,rfl⟩|⟨rfl,rfl,rfl⟩) <;>
   ·refine⟨_,rfl,?_⟩;exact fi
  refine oh hf ?_;refine oo q4 ?_
  cases cw
  ·exact fi
  refine ox hc ?_
  cases c
  ·exact fi
  refine lo hl ?_;rintro ex s (⟨rfl,rfl,rfl⟩|⟨rfl,rfl,rfl⟩) <;>
  ·refine⟨_,rfl,?_⟩;exact fi
theorem J6 {ds:List aQ} {nm:List UInt8} {i:Nat} {t:aQ} (h:ds[i]?=some t):aD (ds.drop i) nm=(match dU nm t.nm with|true=>some t|false=>aD (ds.drop (i+1)) nm):=by rw[dL h];rfl
theorem V0 {nm:List UInt8} {ds:List aQ} (hn:ds.length < 1000000000) :
  KD (.loop (roundOf Tryz.f36 0)) (fun e s=>(e=.exit 0/\aD ds nm=none/\s=(Px (aL ds) nm (Int.ofNat (aL ds).length)).aw Tryz.f36.ntmps)∨(∃d,e=.ret/\aD ds nm=some d/\s=(Py (aL ds) d).aw Tryz.f36.ntmps)) ((MU (aL ds) nm (Int.ofNat 0)).aw Tryz.f36.ntmps):=by
 refine cI (St:=fun i=>(MU (aL ds) nm (Int.ofNat i)).aw Tryz.f36.ntmps) (fun i=>aD ds nm=aD (ds.drop i) nm) (aL ds).length ?_ ?_ (i:=0) (Nat.zero_le _) rfl
 ·intro i hi hI;obtain⟨t,ht,hm⟩:=lM hi;have hd:=J6 (nm:=nm) ht;rw[←hI] at hd;have hw:aH .i64 (Int.ofNat i+1)=Int.ofNat (i+1):=bg (by rw[aY] at hi;omega);have e:dU t.nm nm=dU nm t.nm:=by
   rw[Bool.eq_iff_iff,jo,jo,beq_iff_eq,beq_iff_eq];exact eq_comm
  refine Su hi ht e ?_ ?_
  ·intro hc;rw[hw];rw[hc] at hd;exact⟨rfl,hd⟩
  intro hc;rw[hc] at hd;exact .inr ⟨t,rfl,hd,rfl⟩
 intro hI;refine V1 (.inl ⟨rfl,?_,rfl⟩);rw[hI,aY,List.drop_length];rfl
theorem zK {ds:List aQ} (nm:List UInt8) (hn:ds.length < 1000000000):KC 36 [rP 0,.dat (sb nm)] (hF 0 (aL ds)) 1 (XQ ⟨.tup [.dat (iO (aD ds nm)).enc,bv (eg (aD ds nm))],hF 0 (aL ds),1⟩):=aan (V0 hn)
theorem GC {ds:List aQ} {l:List Ty} {i:Nat} {t:Ty} (h:l[i]?=some t):fC ds (l.drop i)=(!cy ds t||fC ds (l.drop (i+1))):=by rw[dL h,fC]
mutual
theorem DJ {ds:List aQ} (hn:ds.length < 1000000000):∀t:Ty,t.size < 1000000000->KC 40 [rP 0,.dat t.enc] (hF 0 (aL ds)) 1 (XQ ⟨bv (cy ds t),hF 0 (aL ds),1⟩)
 | .mk k nm ix l,hs=>by
  have hsl:aU l < 1000000000:=by simp only[Ty.size] at hs;omega
  have hlen:=eG l;have ih:=F9 hn l hsl;have hf:=zK (ds:=ds) nm hn;have e:cy ds (.mk k nm ix l)=(!(aP k 2&&!(eg (aD ds nm)&&aP (iO (aD ds nm)).ar (Int.ofNat (au l).length)))&&!fC ds l):=by
   rw[cy];have e1:fx ds (.mk k nm ix l)=(eg (aD ds nm)&&aP (iO (aD ds nm)).ar (Int.ofNat (au l).length)):=by
    show (match aD ds nm with|some d=>aP d.ar (Int.ofNat (au l).length)|none=>false)=_
    cases aD ds nm <;> rfl
   rw[e1]
  rw[e];generalize eg (aD ds nm)=cw at *;generalize iO (aD ds nm)=o at *;obtain⟨nm2,ar2,⟨k2,tn2,ix2,la2⟩,con2,fl2⟩:=o;refine aay (la:=au la2) (lb:=aJ fl2) rfl hf rfl ?_;refine cI (St:=fun i=>(Pz (loK k nm ix (sl (au l))) (aL ds) (Int.ofNat i)).aw Tryz.f40.ntmps) (fun i=>fC ds l=fC ds (l.drop i)) (au l).length ?_ ?_ (i:=0) (Nat.zero_le _) rfl
  ·intro i hi hI;obtain⟨t,ht,hm⟩:=get_mem hi;have hd:=GC (ds:=ds) ht;rw[←hI] at hd;have hsl:=lx hi;have hw:aH .i64 (Int.ofNat i+1)=Int.ofNat (i+1):=bg (by rw[aF] at hi;omega);have hc:=ih t hm;rw[hsl];generalize cy ds t=c at hc hd;refine SX hi ht hc ?_ ?_
   ·rintro rfl;rw[hw];exact⟨rfl,hd⟩
   rintro rfl;refine .inr ⟨rfl,?_,rfl⟩;rw[hd];rfl
  intro hI;refine W4 (.inl ⟨rfl,?_,rfl⟩);rw[hI,aF,List.drop_length,fC];rfl
theorem F9 {ds:List aQ} (hn:ds.length < 1000000000):∀l:List Ty,aU l < 1000000000->∀t∈l,KC 40 [rP 0,.dat t.enc] (hF 0 (aL ds)) 1 (XQ ⟨bv (cy ds t),hF 0 (aL ds),1⟩)
 | [],_,t,ht=>by simp at ht
 | x::r,h,t,ht=>by
  simp only[aU] at h
  rcases List.mem_cons.1 ht with h1|ht
  ·rw[h1];exact DJ hn x (by omega)
  exact F9 hn r (by omega) t ht
end
theorem OE {a b:List aQ} (h:a.length+b.length < 100000000):cJ (env ay.aN) false 23 [.own (aL a),.dat (.slice (aL b))] none=some ⟨.own (aL (a++b)),.keep⟩:=by
 rw[ug];refine qF (i:=It) (ds:=aL b) (k:=7) Is rfl sK (nQ b) (nQ a) (by kernel_rfl) ?_ ?_ ?_ ?_
 ·have h1:It.bytes<=1000:=fe (by kernel_rfl);rw[aY,aY]
  calc (a.length+b.length)*It.bytes<=100000000*1000:=Nat.mul_le_mul (by omega) h1
   _<=140737488355328:=by decide
 ·rw[aY,aY];simp[lim];omega
 ·unfold fQ;rw[show aL a++aL b=aL (a++b) by rw[ug],AZ]
 simp
theorem DK {ds:List aQ} (hn:ds.length < 1000000):KC 20 [rP 0] (hF 0 (aL ds)) 1 (XQ ⟨.own (aL ds),hF 0 (aL ds),1⟩):=by
 have h1:=OE (a:=[]) (b:=ds) (by simp;omega);rw[List.nil_append] at h1;have h2:aL ([]:List aQ)=[]:=rfl;rw[h2] at h1;generalize aL ds=es at *;refine co [] [8] (x:=.of Tryz.f20 Rb SQ) ?_;refine oo h1 ?_;exact fi
noncomputable def aaE:Hints:=⟨ao,Gu,aq,rowsOf aq 17⟩
def UQ (a b:List ap):Heap:=[(.out 1,.cells [.own b]),(.out 0,.cells [.own a])]
def aed (cs:List ac) (es:List ap):Heap:=[(.loc 40,.cells [.dat (.slice es)]),(.loc 3,.cells cs)]
def aee (cs:List ac):Heap:=[(.loc 3,.cells cs)]
def MW (cs:List ac) (es es2:List ap) (i:Int):Nat->ab
 | 0=>⟨[(9,iv i),(8,.ptr (.loc 40) 0),(3,.ptr (.loc 3) 0),(0,rP 0)],aed cs es2,hF 0 es,1⟩
 | _+1=>⟨[(9,iv i),(8,.ptr (.out 1) 0),(3,.ptr (.loc 3) 0),(0,rP 0)],aee cs,hF 1 es2++hF 0 es,2⟩
def PD (cs:List ac) (es es2:List ap) (i:Int):Nat->ab
 | 0=>⟨[(50,bv false),(9,iv i),(8,.ptr (.loc 40) 0),(3,.ptr (.loc 3) 0),(0,rP 0)],aed cs es2,hF 0 es,1⟩
 | _+1=>⟨[(50,bv false),(9,iv i),(8,.ptr (.out 1) 0),(3,.ptr (.loc 3) 0),(0,rP 0)],aee cs,hF 1 es2++hF 0 es,2⟩
def PE (es es2:List ap):ab:=⟨[(4,iv 5)],[],hF 1 es2++hF 0 es,2⟩
theorem sZ {g:FuncId} {args args2:List ac} {v:ac} {es es2:List ap} (o m:Nat) (pre post:Heap) (h:KC g args (hF 0 es) 1 (XQ ⟨v,hF 0 es2,1⟩)) (ha:dM 1 args=false) (he:gD (fun _=>o) args=args2) (hv:fg (iG (fun _=>o) 1 m) v=v) :
  KC g args2 (pre++(hF o es++post)) m (XQ ⟨v,pre++(hF o es2++post),m⟩):=by
 have e1:∀(es:List ap) (ρ:Nat->Nat),ρ 0=o->lk ρ (hF 0 es)=hF o es:=by
  intro es ρ h0;simp[hF,lk,mC,qT,gD,fg,h0]
 have hf:=aB.frame h (fun _=>o) (heap:=pre++(hF o es++post)) (rest:=pre++post) (next:=m) (by
  rw[e1 _ _ rfl];rw[←List.append_assoc,←List.append_assoc];exact List.Perm.append_right _ List.perm_append_comm) (by rfl) (by simp[cG,hF,lY,dM,dB]) (by rfl) ha
 rw[he] at hf;refine aB.jf hf ?_;rintro v' h' m' ⟨v0,h1,n1,⟨rfl,rfl,rfl⟩,rfl,rfl,rfl⟩;rw[hv,e1 _ _ rfl];refine⟨pre++(hF o es2++post),?_,rfl,rfl,rfl⟩;rw[←List.append_assoc,←List.append_assoc];exact List.Perm.append_right _ List.perm_append_comm
theorem TX {nm nm2:List UInt8} {ar k ix:Int} {A:ap} {con:Bool} {es es2:List ap} {l:List dq} {t:dq} {i:Nat} {c:Bool} (hi:i < (aJ l).length) (ht:l[i]?=some t) (hk:KC 40 [rP 1,.dat t.ty.enc] (hF 1 es2++hF 0 es) 2 (XQ ⟨bv c,hF 1 es2++hF 0 es,2⟩)) {T:Exit->aa->Prop}
  (e1:c=true->T .normal ((MW (bW nm ar k nm2 ix A con (.slice (aJ l))) es es2 (aH .i64 (Int.ofNat i+1)) 1).aw Tryz.f17.ntmps)) (e2:c=false->T .ret ((PE es es2).aw Tryz.f17.ntmps)) :
  KD (roundOf Tryz.f17 0) T ((MW (bW nm ar k nm2 ix A con (.slice (aJ l))) es es2 (Int.ofNat i) i).aw Tryz.f17.ntmps):=by
 have h1:=bA hi;have h2:=rZ ht;generalize aJ l=ls at *;clear ht hi;obtain⟨fn,tk,tn,tix,ta⟩:=t
 rcases i with _|i <;>
 ·rcases ta with _|⟨b,d⟩ <;>
  ·refine aC [50] [57] (H:=aaE) (live:=vu) (by kernel_rfl) ?_;refine ob h1 ?_;refine oo h2 ?_;refine oh hk ?_
   cases c
   ·exact oe (e2 rfl)
   exact oe (e1 rfl)
theorem XP {nm nm2:List UInt8} {ar k ix:Int} {A:ap} {con:Bool} {es es2 l:List ap} {T:Exit->aa->Prop} (e:T (.exit 0) ((PD (bW nm ar k nm2 ix A con (sl l)) es es2 (Int.ofNat l.length) l.length).aw Tryz.f17.ntmps)) :
  KD (roundOf Tryz.f17 0) T ((MW (bW nm ar k nm2 ix A con (sl l)) es es2 (Int.ofNat l.length) l.length).aw Tryz.f17.ntmps):=by
 have h1:=bC (i:=l.length) (L:=l.length) (by omega)
 rcases l with _|⟨x,l⟩
 ·refine aC [] [] (H:=aaE) (live:=vu) (by kernel_rfl) ?_;exact oe e
 refine aC [50] [] (H:=aaE) (live:=vu) (by kernel_rfl) ?_;refine ob h1 ?_;exact oe e
def Y8 (v:Int) (c0 oex c1 c3 c4 d c6:Bool):Int:=match c0 with
 | false=>v
 | true=>match oex with
  | true=>(match c1 with|true=>0|false=>6)
  | false=>match c3 with
   | false=>8
   | true=>match c4 with
    | false=>5
    | true=>match d with
     | false=>5
     | true=>match c6 with|true=>10|false=>0
def afD (es es2:List ap) (c0 oex c3 c4 d c6:Bool):List ap:=match c0 with
 | false=>es
 | true=>match oex with
  | true=>es
  | false=>match c3 with
   | false=>es
   | true=>match c4 with
    | false=>es
    | true=>match d with
     | false=>es
     | true=>match c6 with|true=>es|false=>es2
theorem acG {nm nm2 onm otn snm stn:List UInt8} {ar k ix oar ok oix sar sk six v:Int} {la lb ola olb sla slb es es2:List ap} {con ocon c0 oex c1 c3 c4 d sc sex:Bool} (h0:ag 57 [.dat (eh nm ar k nm2 ix la con lb)] (iv v)) (hv:aP v 0=c0)
  (hl:KC 36 [rP 0,.dat (sb nm)] (hF 0 es) 1 (XQ ⟨.tup [.dat (eh onm oar ok otn oix ola ocon olb),bv oex],hF 0 es,1⟩)) (he:ag 37 [.dat (eh onm oar ok otn oix ola ocon olb),.dat (eh nm ar k nm2 ix la con lb)] (bv c1))
  (hn:bq (Int.ofNat es.length) 60=c3) (hd:KC 20 [rP 0] (hF 0 es) 1 (XQ ⟨.own es,hF 0 es,1⟩)) (ha:cJ (env ay.aN) false 23 [.own es,.dat (.slice [eh nm ar k nm2 ix la con lb])] none=some ⟨.own es2,.keep⟩)
  (hk:KC 40 [rP 0,.dat (.agg [i64 k,sb nm2,i64 ix,sl la])] (hF 0 es) 1 (XQ ⟨bv c4,hF 0 es,1⟩))
  (hlp:KD (.loop (roundOf Tryz.f17 0)) (fun e s=>(e=.exit 0/\d=true/\s=(PD (bW nm ar k nm2 ix (sl la) con (sl lb)) es es2 (Int.ofNat lb.length) lb.length).aw Tryz.f17.ntmps)∨(e=.ret/\d=false/\s=(PE es es2).aw Tryz.f17.ntmps)) ((MW (bW nm ar k nm2 ix (sl la) con (sl lb)) es es2 (Int.ofNat 0) 0).aw Tryz.f17.ntmps))
  (hs:KC 36 [rP 0,.dat (sb nm2)] (hF 0 es) 1 (XQ ⟨.tup [.dat (eh snm sar sk stn six sla sc slb),bv sex],hF 0 es,1⟩))
  (hs2:KC 36 [rP 0,.dat (sb nm2)] (hF 1 es2++hF 0 es) 2 (XQ ⟨.tup [.dat (eh snm sar sk stn six sla sc slb),bv sex],hF 1 es2++hF 0 es,2⟩)) :
  KC 17 [rP 0,.dat (eh nm ar k nm2 ix la con lb)] (hF 0 es) 1 (XQ ⟨iv (Y8 v c0 oex c1 c3 c4 d (sex&&sc)),hF 0 (afD es es2 c0 oex c3 c4 d (sex&&sc)),1⟩):=by
 have q1:=uu nm ar k nm2 ix la con lb;have q3:=Er false 3 nm ar k nm2 ix la con lb;have q5:=Es false 3 nm ar k nm2 ix la con lb;have q6:=Es true 3 nm ar k nm2 ix la con lb;have q4:=fy 6 onm oar ok otn oix ola ocon olb;have q7:=fy 10 snm sar sk stn six sla sc slb
 rcases lb with _|⟨y,lb⟩
 ·refine co [15,33] [3,12,100006,26,36,38,43,100010] (x:=.of Tryz.f17 Gu vu) ?_;refine oo q1 ?_;refine oo q5 ?_;refine on h0 ?_;refine ox hv ?_
  cases c0
  ·exact fi
  refine oh hl ?_;refine oo q4 ?_
  cases oex
  ·refine ox hn ?_
   cases c3
   ·exact fi
   refine oo q5 ?_;refine oh hd ?_;refine oo ha ?_;refine oo q3 ?_;refine oh hk ?_
   cases c4
   ·exact fi
   refine lo hlp ?_;rintro ex s (⟨rfl,rfl,rfl⟩|⟨rfl,rfl,rfl⟩)
   ·refine⟨_,rfl,?_⟩;refine oh hs ?_;refine oo q7 ?_
    cases sex
    ·exact fi
    cases sc <;>
    ·exact fi
   refine⟨_,rfl,?_⟩;exact fi
  refine oo q5 ?_
  rcases ola with _|⟨v2,v3⟩
  ·rcases olb with _|⟨v0,v1⟩ <;>
   ·refine on he ?_
    cases c1 <;>
    ·exact fi
  rcases olb with _|⟨v4,v5⟩ <;>
  ·refine on he ?_
   cases c1 <;>
   ·exact fi
 refine co [15,33] [3,12,100006,26,36,38,43,100010] (x:=.of Tryz.f17 Gu vu) ?_;refine oo q1 ?_;refine oo q5 ?_;refine on h0 ?_;refine ox hv ?_
 cases c0
 ·exact fi
 refine oh hl ?_;refine oo q4 ?_
 cases oex
 ·refine ox hn ?_
  cases c3
  ·exact fi
  refine oo q5 ?_;refine oh hd ?_;refine oo ha ?_;refine oo q3 ?_;refine oh hk ?_
  cases c4
  ·exact fi
  refine lo hlp ?_;rintro ex s (⟨rfl,rfl,rfl⟩|⟨rfl,rfl,rfl⟩)
  ·refine⟨_,rfl,?_⟩;refine oh hs2 ?_;refine oo q7 ?_
   cases sex
   ·exact fi
   cases sc <;>
   ·exact fi
  refine⟨_,rfl,?_⟩;exact fi
 refine oo q5 ?_
 rcases ola with _|⟨v2,v3⟩
 ·rcases olb with _|⟨v0,v1⟩ <;>
  ·refine on he ?_
   cases c1 <;>
   ·exact fi
 rcases olb with _|⟨v4,v5⟩ <;>
 ·refine on he ?_
  cases c1 <;>
  ·exact fi
theorem NZ {a b:List aQ} {nm:List UInt8} {o:aQ}:aD a nm=some o->aD (a++b) nm=some o:=by
 induction a with
 | nil=>intro h;simp[aD] at h
 | cons d r ih=>
  intro h;rw[List.cons_append];unfold aD at h ⊢
  split at h
  ·exact h
  exact ih h
theorem OG {ds:List aQ} {l:List dq} {i:Nat} {f:dq} (h:l[i]?=some f):(l.drop i).any (fun f=>!cy ds f.ty)=(!cy ds f.ty||(l.drop (i+1)).any (fun f=>!cy ds f.ty)):=by rw[dL h,List.any_cons]
theorem XO {ds:List aQ} {nm nm2:List UInt8} {ar k ix:Int} {A B:ap} {con:Bool} {es:List ap} {l:List dq} (hb:B=sl (aJ l)) (hn:l.length < 1000000000) (hf:∀f∈l,f.ty.cB) (hds:ds.length < 1000000) :
  KD (.loop (roundOf Tryz.f17 0)) (fun e s=>(e=.exit 0/\(!(l.any (fun f=>!cy ds f.ty)))=true/\s=(PD (bW nm ar k nm2 ix A con B) es (aL ds) (Int.ofNat (aJ l).length) (aJ l).length).aw Tryz.f17.ntmps)∨(e=.ret/\(!(l.any (fun f=>!cy ds f.ty)))=false/\s=(PE es (aL ds)).aw Tryz.f17.ntmps)) ((MW (bW nm ar k nm2 ix A con B) es (aL ds) (Int.ofNat 0) 0).aw Tryz.f17.ntmps):=by
 refine cI (St:=fun i=>(MW (bW nm ar k nm2 ix A con B) es (aL ds) (Int.ofNat i) i).aw Tryz.f17.ntmps) (fun i=>l.any (fun f=>!cy ds f.ty)=(l.drop i).any (fun f=>!cy ds f.ty)) (aJ l).length ?_ ?_ (i:=0) (Nat.zero_le _) rfl
 ·intro i hi hI;obtain⟨t,ht,hm⟩:=gv hi;have hd:=OG (ds:=ds) ht;rw[←hI] at hd;have hw:aH .i64 (Int.ofNat i+1)=Int.ofNat (i+1):=bg (by rw[bd] at hi;omega);have hb2:B=.slice (aJ l):=by
   rw[hb]
   cases l with
   | nil=>simp at ht
   | cons x r=>rfl
  subst hb2;have hk:=DJ (ds:=ds) (by omega) t.ty (by have:=(hf t hm).1;omega);have hk2:=sZ 1 2 [] (hF 0 es) hk (args2:=[rP 1,.dat t.ty.enc]) rfl rfl rfl;refine TX hi ht hk2 ?_ ?_
  ·intro hc;rw[hw];refine⟨rfl,?_⟩;rw[hd,hc];rfl
  intro hc;refine .inr ⟨rfl,?_,rfl⟩;rw[hd,hc];rfl
 intro hI;rw[hb];refine XP (.inl ⟨rfl,?_,rfl⟩);rw[hI,bd,List.drop_length];rfl
theorem TT {ds:List aQ} {d:aQ} (h0:aD ds []=none) :
  (eQ ds d).1=Y8 d.chk (aP d.chk 0) (eg (aD ds d.nm)) ((iO (aD ds d.nm)).eq d) (bq (Int.ofNat (aL ds).length) 60) (cy ds d.sup) (!(d.fl.any (fun f=>!cy (ds++[d]) f.ty))) (eg (aD ds d.sup.nm)&&(iO (aD ds d.sup.nm)).con) ∧
   aL (eQ ds d).2=afD (aL ds) (aL (ds++[d])) (aP d.chk 0) (eg (aD ds d.nm)) (bq (Int.ofNat (aL ds).length) 60) (cy ds d.sup) (!(d.fl.any (fun f=>!cy (ds++[d]) f.ty))) (eg (aD ds d.sup.nm)&&(iO (aD ds d.sup.nm)).con):=by
 unfold eQ aQ.chk;rw[aY]
 cases hw:d.wf with
 | false=>exact⟨rfl,rfl⟩
 | true=>
  cases h1:bq 6 d.ar with
  | true=>exact⟨rfl,rfl⟩
  | false=>
   cases h2:bq 6 (Int.ofNat (aJ d.fl).length) with
   | true=>exact⟨rfl,rfl⟩
   | false=>
    cases hf:aD ds d.nm with
    | some o=>
     cases h3:o.eq d with
     | true=>exact⟨by simp only[h3,iO,eg];rfl,by simp only[h3,iO,eg];rfl⟩
     | false=>exact⟨by simp only[h3,iO,eg];rfl,by simp only[h3,iO,eg];rfl⟩
    | none=>
     cases h4:bq (Int.ofNat ds.length) 60 with
     | false=>exact⟨rfl,rfl⟩
     | true=>
      cases h5:cy ds d.sup with
      | false=>exact⟨rfl,rfl⟩
      | true=>
       cases h6:d.fl.any (fun f=>!cy (ds++[d]) f.ty) with
       | true=>exact⟨rfl,rfl⟩
       | false=>
        have hwf:=hw;unfold aQ.wf at hwf;simp only[Bool.and_eq_true] at hwf;have hkd:=hwf.2.2.2.2.1;have hov:=hwf.2.2.2.2.2.1
        cases h7:aP d.sup.kind 2 with
        | false=>
         rw[h7,Bool.or_false] at hkd;have hs:=Cx hov hkd;rw[hs];rw[show Ty.nm (.mk 0 [] 0 [])=[] from rfl,h0];exact⟨rfl,rfl⟩
        | true=>
         have hsm:∃o,aD ds d.sup.nm=some o:=by
          have hh:=h5;generalize d.sup=su at hh h7 ⊢;obtain⟨kk,nn,ii,ll⟩:=su;rw[cy,Bool.and_eq_true] at hh;have h8:=hh.1;rw[show aP kk 2=true from h7] at h8;have h9:fx ds (.mk kk nn ii ll)=true:=by
           cases hq:fx ds (.mk kk nn ii ll) with
           | true=>rfl
           | false=>rw[hq] at h8;simp at h8
          unfold fx at h9;dsimp only at h9;show ∃o,aD ds nn=some o
          cases hq:aD ds nn with
          | some o=>exact⟨o,rfl⟩
          | none=>rw[hq] at h9;simp at h9
         obtain⟨o,hso⟩:=hsm;rw[NZ hso,hso]
         cases hcon:o.con with
         | true=>exact⟨by simp only[iO,eg,hcon];rfl,by simp only[iO,eg,hcon];rfl⟩
         | false=>exact⟨by simp only[iO,eg,hcon];rfl,by simp only[iO,eg,hcon];rfl⟩
theorem Nh {ds:List aQ} {d:aQ} (hd:d.cB) (hds:∀o∈ds,o.cB) (hn:ds.length < 1000) (h0:aD ds []=none) :
  KC 17 [rP 0,.dat d.enc] (hF 0 (aL ds)) 1 (XQ ⟨iv (eQ ds d).1,hF 0 (aL (eQ ds d).2),1⟩):=by
 have hck:=VC hd;have hl:=zK (ds:=ds) d.nm (by omega);have ho:(iO (aD ds d.nm)).cB:=by
  cases h:aD ds d.nm with
  | none=>exact uO
  | some o=>exact hds o (mN h)
 have he:=F8 (o:=d) ho;have hdc:=DK (ds:=ds) (by omega);have ha:=Fb (pre:=ds) (t:=d) (by omega);have hk:=DJ (ds:=ds) (by omega) d.sup (by have:=hd.1.1;omega);have hs:=zK (ds:=ds) d.sup.nm (by omega);have hs2:=sZ 0 2 (hF 1 (aL (ds++[d]))) [] hs (args2:=[rP 0,.dat (sb d.sup.nm)]) rfl rfl rfl;rw[List.append_nil] at hs2;have hlp:=fun nm ar k nm2 ix A con=>XO (ds:=ds++[d]) (nm:=nm) (ar:=ar) (k:=k) (nm2:=nm2) (ix:=ix) (A:=A) (con:=con) (es:=aL ds) (B:=sl (aJ d.fl)) rfl hd.2.2 hd.2.1 (by simp;omega)
 have e:=TT (d:=d) h0;rw[e.1,e.2];clear e ho hds h0;generalize (iO (aD ds d.nm)).eq d=c1 at *;generalize cy ds d.sup=c4 at *;generalize d.chk=v at *;generalize eg (aD ds d.nm)=oex at *;generalize eg (aD ds d.sup.nm)=sex at *;generalize iO (aD ds d.nm)=o at *;generalize iO (aD ds d.sup.nm)=so at *;have hlp2:=hlp;clear hlp;generalize (!(d.fl.any (fun f=>!cy (ds++[d]) f.ty)))=c6 at *;generalize aL (ds++[d])=es2 at *;generalize aL ds=es at *;obtain⟨nm,ar,⟨k,tn,ix,la⟩,con,fl⟩:=d;obtain⟨onm,oar,⟨ok,otn,oix,ola⟩,ocon,ofl⟩:=o;obtain⟨snm,sar,⟨sk,stn,six,sla⟩,scon,sfl⟩:=so;exact acG hck rfl hl he rfl hdc ha hk (hlp2 _ _ _ _ _ _ _) hs hs2
noncomputable def Xe:Hints:=⟨ao,CC,aq,rowsOf aq 23⟩
def Sr (k:Int) (tn:List UInt8) (ix:Int) (la:List ap):Heap:=[(.loc 6,.cells [iv 0,.dat (sb []),iv 0,.dat nl]),(.loc 4,.cells [iv k,.dat (sb tn),iv ix,.dat (sl la)])]
def oL (cs:List ap) (es:List (Go.Value×ap)) (n:Nat) (nm:List UInt8) (k:Int) (tn:List UInt8) (ix:Int) (la:List ap):ab:=
 ⟨[(6,.ptr (.loc 6) 0),(4,.ptr (.loc 4) 0),(2,.dat (sb nm)),(0,hP)],Sr k tn ix la,hG 2 (av cs) es n,3⟩
def Pt (cs:List ap) (es:List (Go.Value×ap)) (n:Nat) (nm:List UInt8) (k:Int) (tn:List UInt8) (ix:Int) (la:List ap):ab:=
 ⟨[(12,bv false),(6,.ptr (.loc 6) 0),(4,.ptr (.loc 4) 0),(2,.dat (sb nm)),(0,hP)],Sr k tn ix la,hG 2 (av cs) es n,3⟩
def Ps (cs:List ap) (es:List (Go.Value×ap)) (n:Nat) (nm:List UInt8) (k:Int) (tn:List UInt8) (ix:Int) (la:List ap):ab:=
 ⟨[(22,bv true),(6,.ptr (.loc 6) 0),(4,.ptr (.loc 4) 0),(2,.dat (sb nm)),(0,hP)],Sr k tn ix la,hG 2 (av cs) es n,3⟩
def Pu (cs:List ap) (es:List (Go.Value×ap)) (n:Nat) (k:Int) (tn:List UInt8) (ix:Int) (la:List ap):ab:=
 ⟨[(7,bv true),(6,.ptr (.loc 6) 0)],[(.loc 6,.cells [iv k,.dat (sb tn),iv ix,.dat (sl la)])],hG 2 (av cs) es n,3⟩
theorem Pd {cs:List ap} {es:List (Go.Value×ap)} {n:Nat} {nm tn:List UInt8} {k ix:Int} {la:List ap} (h1:aP k 2=false) {T:Exit->aa->Prop}
  (e:T (.exit 0) ((Pt cs es n nm k tn ix la).aw Tryz.f23.ntmps)) :
  KD (roundOf Tryz.f23 0) T ((oL cs es n nm k tn ix la).aw Tryz.f23.ntmps):=by
 rcases la with _|⟨x,la⟩ <;>
 ·refine aC [12] [] (H:=Xe) (live:=pj) (by kernel_rfl) ?_;refine ob h1 ?_;exact oe e
theorem Pe {cs:List ap} {es:List (Go.Value×ap)} {n:Nat} {nm tn:List UInt8} {k ix:Int} {la:List ap} (h1:aP k 2=true) (h2:dU tn nm=true) (hc:ag 58 [.dat (.agg [i64 k,sb tn,i64 ix,sl la])] (.dat (.agg [i64 k,sb tn,i64 ix,sl la]))) {T:Exit->aa->Prop}
  (e:T .ret ((Pu cs es n k tn ix la).aw Tryz.f23.ntmps)) :
  KD (roundOf Tryz.f23 0) T ((oL cs es n nm k tn ix la).aw Tryz.f23.ntmps):=by
 rcases la with _|⟨x,la⟩ <;>
 ·refine aC [12,16] [] (H:=Xe) (live:=pj) (by kernel_rfl) ?_;refine ob h1 ?_;refine ob h2 ?_;refine on hc ?_;exact oe e
theorem Ve {cs:List ap} {es:List (Go.Value×ap)} {n:Nat} {nm tn:List UInt8} {k ix:Int} {la:List ap} (h1:aP k 2=true) (h2:dU tn nm=false) (hd:cR 59 [hP,.dat (.agg [i64 k,sb tn,i64 ix,sl la])] cs es n (bv false)) {T:Exit->aa->Prop}
  (e:T (.exit 0) ((Ps cs es n nm k tn ix la).aw Tryz.f23.ntmps)) :
  KD (roundOf Tryz.f23 0) T ((oL cs es n nm k tn ix la).aw Tryz.f23.ntmps):=by
 rcases la with _|⟨x,la⟩ <;>
 ·refine aC [12,16] [] (H:=Xe) (live:=pj) (by kernel_rfl) ?_;refine ob h1 ?_;refine ob h2 ?_;refine oh hd ?_;exact oe e
theorem ZL {cs:List ap} {es:List (Go.Value×ap)} {n:Nat} {nm tn:List UInt8} {k ix:Int} {la:List ap} (h1:aP k 2=true) (h2:dU tn nm=false) (hd:cR 59 [hP,.dat (.agg [i64 k,sb tn,i64 ix,sl la])] cs es n (bv true))
  {dn sn tn2:List UInt8} {ar sk six k2 ix2:Int} {con:Bool} {sa lb la2:List ap} (hf:cR 49 [hP,.dat (sb tn)] cs es n (.tup [.dat (eh dn ar sk sn six sa con lb),bv true]))
  (hi:ag 60 [.dat (.agg [i64 sk,sb sn,i64 six,sl sa]),.dat (sl la)] (.dat (.agg [i64 k2,sb tn2,i64 ix2,sl la2]))) {T:Exit->aa->Prop}
  (e:T .normal ((oL cs es n nm k2 tn2 ix2 la2).aw Tryz.f23.ntmps)) :
  KD (roundOf Tryz.f23 0) T ((oL cs es n nm k tn ix la).aw Tryz.f23.ntmps):=by
 rcases la with _|⟨x,la⟩ <;>
 ·rcases sa with _|⟨y,sa⟩ <;>
  ·rcases lb with _|⟨z,lb⟩ <;>
   ·rcases la2 with _|⟨w,la2⟩ <;>
    ·refine aC [12,16] [] (H:=Xe) (live:=pj) (by kernel_rfl) ?_;refine ob h1 ?_;refine ob h2 ?_;refine oh hd ?_;refine oh hf ?_;refine on hi ?_;exact oe e
theorem Pg {cs:List ap} {es:List (Go.Value×ap)} {n:Nat} {nm tn tn2:List UInt8} {k ix k2 ix2:Int} {la la2:List ap}
  (hl:KD (.loop (roundOf Tryz.f23 0)) (fun e s=>e=.exit 0/\s=(Pt cs es n nm k2 tn2 ix2 la2).aw Tryz.f23.ntmps) ((oL cs es n nm k tn ix la).aw Tryz.f23.ntmps)) :
  cR 23 [hP,.dat (.agg [i64 k,sb tn,i64 ix,sl la]),.dat (sb nm)] cs es n (.tup [.dat (.agg [i64 0,sb [],i64 0,nl]),bv false]):=by
 have hg:=US (.tup [.dat (.agg [i64 0,sb [],i64 0,nl]),bv false]) cs es n rfl
 rcases la with _|⟨x,la⟩ <;>
 ·rcases la2 with _|⟨y,la2⟩ <;>
  ·refine co [] [] (x:=.of Tryz.f23 CC pj) ?_;refine lo hl ?_;rintro ex s ⟨rfl,rfl⟩;refine⟨_,rfl,?_⟩;exact bh (by kernel_rfl) hg
theorem Pf {cs:List ap} {es:List (Go.Value×ap)} {n:Nat} {nm tn tn2:List UInt8} {k ix k2 ix2:Int} {la la2:List ap}
  (hl:KD (.loop (roundOf Tryz.f23 0)) (fun e s=>e=.exit 0/\s=(Ps cs es n nm k2 tn2 ix2 la2).aw Tryz.f23.ntmps) ((oL cs es n nm k tn ix la).aw Tryz.f23.ntmps)) :
  cR 23 [hP,.dat (.agg [i64 k,sb tn,i64 ix,sl la]),.dat (sb nm)] cs es n (.tup [.dat (.agg [i64 0,sb [],i64 0,nl]),bv false]):=by
 have hg:=US (.tup [.dat (.agg [i64 0,sb [],i64 0,nl]),bv false]) cs es n rfl
 rcases la with _|⟨x,la⟩ <;>
 ·rcases la2 with _|⟨y,la2⟩ <;>
  ·refine co [] [] (x:=.of Tryz.f23 CC pj) ?_;refine lo hl ?_;rintro ex s ⟨rfl,rfl⟩;refine⟨_,rfl,?_⟩;exact bh (by kernel_rfl) hg
theorem Ph {cs:List ap} {es:List (Go.Value×ap)} {n:Nat} {nm tn tn2:List UInt8} {k ix k2 ix2:Int} {la la2:List ap}
  (hl:KD (.loop (roundOf Tryz.f23 0)) (fun e s=>e=.ret/\s=(Pu cs es n k2 tn2 ix2 la2).aw Tryz.f23.ntmps) ((oL cs es n nm k tn ix la).aw Tryz.f23.ntmps)) :
  cR 23 [hP,.dat (.agg [i64 k,sb tn,i64 ix,sl la]),.dat (sb nm)] cs es n (.tup [.dat (.agg [i64 k2,sb tn2,i64 ix2,sl la2]),bv true]):=by
 have hg:=US (.tup [.dat (.agg [i64 k2,sb tn2,i64 ix2,sl la2]),bv true]) cs es n rfl
 rcases la with _|⟨x,la⟩ <;>
 ·rcases la2 with _|⟨y,la2⟩ <;>
  ·refine co [] [] (x:=.of Tryz.f23 CC pj) ?_;refine lo hl ?_;rintro ex s ⟨rfl,rfl⟩;refine⟨_,rfl,?_⟩;exact bh (by kernel_rfl) hg
def Fj (ds:List aQ) (t:Ty):Ty:=(iO (aD ds t.nm)).sup.inst t.args 0
def eW (ds:List aQ) (t:Ty):Nat->Ty
 | 0=>t
 | i+1=>Fj ds (eW ds t i)
theorem zP (ds:List aQ) (t:Ty):∀i,eW ds (Fj ds t) i=eW ds t (i+1)
 | 0=>rfl
 | i+1=>by
  show Fj ds (eW ds (Fj ds t) i)=Fj ds (eW ds t (i+1));rw[zP ds t i]
def qV (ds:List aQ) (t:Ty):Nat:=match aP t.kind 2 with|false=>0|true=>(match fX ds t.nm with|some p=>p+1|none=>0)
def ry (ds:List aQ):Nat->Ty->List UInt8->Option Ty
 | 0,_,_=>none
 | f+1,t,nm=>match aP t.kind 2 with
  | false=>none
  | true=>match dU t.nm nm with
   | true=>some t
   | false=>match fx ds t with
    | false=>none
    | true=>ry ds f (Fj ds t) nm
def sM (ds:List aQ) (t:Ty) (nm:List UInt8):Option Ty:=ry ds (ds.length+1) t nm
structure Up (ds:List aQ):Prop where
 up:∀(i:Nat) (d:aQ),ds[i]?=some d->aP d.sup.kind 2=true->∃j,fX ds d.sup.nm=some j/\j < i
 nv:∀d∈ds,aP d.sup.kind 5=false
theorem inst_nv {t:Ty} (h:aP t.kind 5=false) (ls:List Ty) (u:Nat):(t.inst ls u).kind=t.kind/\(t.inst ls u).nm=t.nm:=by
 obtain⟨k,nm,ix,l⟩:=t;have h:aP k 5=false:=h;rw[inst_none (.inl h)];exact⟨rfl,rfl⟩
theorem DN {ds:List aQ} {nm:List UInt8} {p:Nat} (h:fX ds nm=some p):p < ds.length:=by
 obtain⟨d,hd,_⟩:=jK h
 rcases Nat.lt_or_ge p ds.length with h|h
 ·exact h
 rw[List.getElem?_eq_none h] at hd;simp at hd
theorem tg (ds:List aQ) (t:Ty):qV ds t < ds.length+1:=by
 unfold qV
 cases aP t.kind 2 with
 | false=>exact Nat.succ_pos _
 | true=>
  dsimp only
  cases h:fX ds t.nm with
  | none=>exact Nat.succ_pos _
  | some p=>have:=DN h;show p+1 < _;omega
theorem qA {ds:List aQ} {t:Ty} (h:fx ds t=true):∃p d,fX ds t.nm=some p/\ds[p]?=some d/\aD ds t.nm=some d/\aP d.ar (Int.ofNat (au t.args).length)=true:=by
 obtain⟨k,nm,ix,l⟩:=t
 cases hp:fX ds nm with
 | none=>
  have h2:fx ds (.mk k nm ix l)=(match aD ds nm with|some d=>aP d.ar (Int.ofNat (au l).length)|none=>false):=rfl;rw[h2,qf hp] at h;simp at h
 | some p=>
  obtain⟨d,h1,h2,_⟩:=jK hp;have h3:fx ds (.mk k nm ix l)=(match aD ds nm with|some d=>aP d.ar (Int.ofNat (au l).length)|none=>false):=rfl;rw[h3,h2] at h;exact⟨p,d,hp,h1,h2,h⟩
theorem K6 {ds:List aQ} (hu:Up ds) {t:Ty} (hk:aP t.kind 2=true) (hd:fx ds t=true):qV ds (Fj ds t) < qV ds t:=by
 obtain⟨p,d,h1,h2,h3,_⟩:=qA hd;have e1:qV ds t=p+1:=by unfold qV;rw[hk,h1]
 have hm:=List.mem_of_getElem? h2;have e2:Fj ds t=d.sup.inst t.args 0:=by unfold Fj;rw[h3];rfl
 obtain⟨k1,k2⟩:=inst_nv (hu.nv d hm) t.args 0;rw[e1,e2];unfold qV;rw[k1,k2]
 cases h:aP d.sup.kind 2 with
 | false=>exact Nat.succ_pos _
 | true=>
  obtain⟨j,h4,h5⟩:=hu.up p d h2 h;rw[h4];show j+1 < p+1;omega
def aen (ds:List aQ) (nm:List UInt8) (t:Ty):Prop:=aP t.kind 2=true/\dU t.nm nm=false/\fx ds t=true
def afA (ds:List aQ) (nm:List UInt8) (t:Ty) (o:Option Ty):Prop:=
 (aP t.kind 2=false/\o=none)∨(aP t.kind 2=true/\dU t.nm nm=true/\o=some t)∨(aP t.kind 2=true/\dU t.nm nm=false/\fx ds t=false/\o=none)
theorem yR {ds:List aQ} (hu:Up ds) (nm:List UInt8):∀(f:Nat) (t:Ty),qV ds t < f->∃n,n < f/\(∀i,i < n->aen ds nm (eW ds t i))/\afA ds nm (eW ds t n) (ry ds f t nm)
 | 0,t,h=>by omega
 | f+1,t,h=>by
  cases hk:aP t.kind 2 with
  | false=>exact⟨0,by omega,fun i hi=>by omega,.inl ⟨hk,by rw[ry,hk]⟩⟩
  | true=>
   cases hn:dU t.nm nm with
   | true=>exact⟨0,by omega,fun i hi=>by omega,.inr (.inl ⟨hk,hn,by rw[ry,hk,hn];rfl⟩)⟩
   | false=>
    cases hd:fx ds t with
    | false=>exact⟨0,by omega,fun i hi=>by omega,.inr (.inr ⟨hk,hn,hd,by rw[ry,hk,hn,hd]⟩)⟩
    | true=>
     have hr:=K6 hu hk hd;obtain⟨n,h1,h2,h3⟩:=yR hu nm f (Fj ds t) (by omega);refine⟨n+1,by omega,?_,?_⟩
     ·intro i hi
      cases i with
      | zero=>exact⟨hk,hn,hd⟩
      | succ i=>rw[←zP];exact h2 i (by omega)
     rw[←zP,ry,hk,hn,hd];exact h3
theorem instAt_mem {ls:List Ty} {ix:Int} {u:Nat} {t:Ty} (h:instAt ls ix u=some t):t∈ls:=by
 unfold instAt at h
 split at h
 ·simp at h
 exact List.mem_of_getElem? h
mutual
theorem inst_thin {ls:List Ty} (hls:∀x∈ls,x.thin/\x.dR):∀(t:Ty) (u:Nat),t.thin->t.dR->(t.inst ls u).thin/\(t.inst ls u).dR
 | .mk k nm ix l,u,h,h2=>by
  cases hk:aP k 5 with
  | false=>
   rw[inst_none (.inl hk)];simp only[Ty.thin,Ty.dR] at h h2 ⊢;have ih:=inst_thinL hls l k 0 u h.2 h2.2;exact⟨⟨by rw[instL_length];exact h.1,ih.1⟩,h2.1,ih.2⟩
  | true=>
   cases ha:instAt ls ix u with
   | none=>
    rw[inst_none (.inr ha)];simp only[Ty.thin,Ty.dR] at h h2 ⊢;have ih:=inst_thinL hls l k 0 u h.2 h2.2;exact⟨⟨by rw[instL_length];exact h.1,ih.1⟩,h2.1,ih.2⟩
   | some t=>
    rw[inst_some hk ha];exact hls t (instAt_mem ha)
theorem inst_thinL {ls:List Ty} (hls:∀x∈ls,x.thin/\x.dR):∀(l:List Ty) (k:Int) (i u:Nat),fT l->cV l->fT (instL ls k i l u)/\cV (instL ls k i l u)
 | [],k,i,u,_,_=>by simp[instL,fT,cV]
 | t::r,k,i,u,h,h2=>by
  simp only[fT,cV] at h h2;simp only[instL,fT,cV];have h3:=inst_thin hls t (u+db k i) h.1 h2.1;have h4:=inst_thinL hls r k (i+1) u h.2 h2.2;exact⟨⟨h3.1,h4.1⟩,h3.2,h4.2⟩
end
theorem A8:∀{l:List Ty} {t:Ty},t∈l->t.depth<=bV l
 | [],t,h=>by simp at h
 | x::r,t,h=>by
  simp only[bV]
  rcases List.mem_cons.1 h with h|h
  ·rw[h];omega
  have:=A8 h;omega
mutual
theorem inst_depth {ls:List Ty}:∀(t:Ty) (u:Nat),(t.inst ls u).depth<=t.depth+bV ls
 | .mk k nm ix l,u=>by
  have ih:=inst_depthL (ls:=ls) l k 0 u
  cases hk:aP k 5 with
  | false=>
   rw[inst_none (.inl hk)];simp only[Ty.depth];omega
  | true=>
   cases ha:instAt ls ix u with
   | none=>
    rw[inst_none (.inr ha)];simp only[Ty.depth];omega
   | some t=>
    rw[inst_some hk ha]
    have:=A8 (instAt_mem ha);omega
theorem inst_depthL {ls:List Ty}:∀(l:List Ty) (k:Int) (i u:Nat),bV (instL ls k i l u)<=bV l+bV ls
 | [],k,i,u=>by simp[instL,bV]
 | t::r,k,i,u=>by
  have h1:=inst_depth (ls:=ls) t (u+db k i);have h2:=inst_depthL (ls:=ls) r k (i+1) u;simp only[instL,bV];omega
end
structure Gd (B:Nat) (t:Ty):Prop where
 thin:t.thin
 ix:t.dR
 depth:t.depth<=B
theorem uQ {t:Ty} (h:t.thin):fT t.args:=by obtain⟨k,nm,ix,l⟩:=t;simp only[Ty.thin] at h;exact h.2
theorem CQ {t:Ty} (h:t.dR):cV t.args:=by obtain⟨k,nm,ix,l⟩:=t;simp only[Ty.dR] at h;exact h.2
theorem vw:∀{l:List Ty},cV l->∀t∈l,t.dR
 | [],_,t,ht=>by simp at ht
 | x::r,h,t,ht=>by
  simp only[cV] at h
  rcases List.mem_cons.1 ht with h1|ht
  ·rw[h1];exact h.1
  exact vw h.2 t ht
theorem Kj (t:Ty):bV t.args+1=t.depth:=by obtain⟨k,nm,ix,l⟩:=t;simp only[Ty.depth,Ty.args]
theorem yw {t:Ty} (h:t.cB):Gd 100000000 t:=⟨nf t (by have:=h.1;omega),h.2,by have:=h.1;have:=jr t;omega⟩
theorem Xk {B:Nat} {s t:Ty} (hs:s.cB) (h:Gd B t):Gd (B+100000000) (s.inst t.args 0):=by
 have g:=yw hs;have h1:=inst_thin (ls:=t.args) (fun x hx=>⟨pZ (uQ h.thin) x hx,vw (CQ h.ix) x hx⟩) s 0 g.thin g.ix;refine⟨h1.1,h1.2,?_⟩;have h2:=inst_depth (ls:=t.args) s 0;have h3:=Kj t;have h4:=h.depth;have h5:=g.depth;omega
theorem HG {ds:List aQ} (hds:∀o∈ds,o.cB) (nm:List UInt8):(iO (aD ds nm)).cB:=by
 cases h:aD ds nm with
 | none=>exact uO
 | some o=>exact hds o (mN h)
theorem EA {ds:List aQ} (hds:∀o∈ds,o.cB) {B:Nat} {t:Ty} (h:Gd B t):∀i,Gd (B+i*100000000) (eW ds t i)
 | 0=>by rw[Nat.zero_mul,Nat.add_zero];exact h
 | i+1=>by
  have ih:=EA hds h i;have h2:=Xk (HG hds (eW ds t i).nm).1 ih;rw[show B+(i+1)*100000000=B+i*100000000+100000000 by omega];exact h2
def tOf:Option Ty->Ty
 | some t=>t
 | none=>.mk 0 [] 0 []
theorem Ov {B:Nat} {t:Ty} (h:Gd B t) (hB:B < 1000000000000000):ag 58 [.dat t.enc] (.dat t.enc):=uq h.thin h.ix (by have:=h.depth;omega)
theorem HR {B:Nat} {s t:Ty} (hs:s.cB) (h:Gd B t):ag 60 [.dat s.enc,.dat (sl (au t.args))] (.dat (s.inst t.args 0).enc):=by
 have g:=yw hs;exact Un (fun x hx=>HU x (pZ (uQ h.thin) x hx)) g.thin g.ix (by have:=g.depth;omega)
theorem Mz {ds:List aQ} {tl:List ap} (hds:∀o∈ds,o.cB) (hu:Up ds) (hn:ds.length < 1000) {t:Ty} (h:Gd 100000000000 t) (nm:List UInt8) :
  og 23 [hP,.dat t.enc,.dat (sb nm)] ds tl (.tup [.dat (tOf (sM ds t nm)).enc,bv (eg (sM ds t nm))]):=by
 obtain⟨n,hn2,hg,he⟩:=yR hu nm (ds.length+1) t (tg ds t);have gd:=EA hds h;have main:∀{T:Exit->aa->Prop},(KD (roundOf Tryz.f23 0) (lm (fun _=>False) T) ((oL (bK ds++tl) (bE ds 0) ds.length nm (eW ds t n).kind (eW ds t n).nm (eW ds t n).Et (au (eW ds t n).args)).aw Tryz.f23.ntmps))->
   KD (.loop (roundOf Tryz.f23 0)) T ((oL (bK ds++tl) (bE ds 0) ds.length nm t.kind t.nm t.Et (au t.args)).aw Tryz.f23.ntmps):=by
  intro T hlast;refine bb (St:=fun i=>(oL (bK ds++tl) (bE ds 0) ds.length nm (eW ds t i).kind (eW ds t i).nm (eW ds t i).Et (au (eW ds t i).args)).aw Tryz.f23.ntmps) n ?_ hlast (i:=0) (Nat.zero_le _);intro i hi;obtain⟨g1,g2,g3⟩:=hg i hi;have gi:=gd i;have hdc:=nX ds tl (eW ds t i);have hf:=nW ds tl (eW ds t i).nm;obtain⟨p,d,_,h2,h3,_⟩:=qA g3;have hin:=HR (hds d (List.mem_of_getElem? h2)).1 gi;have e2:eW ds t (i+1)=d.sup.inst (eW ds t i).args 0:=by
   show Fj ds (eW ds t i)=_;unfold Fj;rw[h3];rfl
  rw[←e2] at hin;rw[h3] at hf;rw[g3] at hdc;generalize eW ds t (i+1)=b at hin;generalize eW ds t i=a at *;obtain⟨dn,ar,⟨sk,sn,six,sa⟩,con,fl⟩:=d;obtain⟨k,tn,ix,la⟩:=a;obtain⟨k2,tn2,ix2,la2⟩:=b;exact ZL g1 g2 hdc hf hin rfl
 unfold sM
 rcases he with⟨g1,e⟩|⟨g1,g2,e⟩|⟨g1,g2,g3,e⟩
 ·rw[e];obtain⟨k,tn,ix,la⟩:=t;exact Pg (main (Pd g1 ⟨rfl,rfl⟩))
 ·rw[e];have hc:=Ov (gd n) (by have:n*100000000<=1000*100000000:=Nat.mul_le_mul (by omega) (Nat.le_refl _);omega);generalize eW ds t n=a at *;obtain⟨k,tn,ix,la⟩:=t;obtain⟨k2,tn2,ix2,la2⟩:=a;exact Ph (main (Pe g1 g2 hc ⟨rfl,rfl⟩))
 rw[e];have hdc:=nX ds tl (eW ds t n);rw[g3] at hdc;generalize eW ds t n=a at *;obtain⟨k,tn,ix,la⟩:=t;obtain⟨k2,tn2,ix2,la2⟩:=a;exact Pf (main (Ve g1 g2 hdc ⟨rfl,rfl⟩))
def instFs (ls:List Ty) (l:List dq):List dq:=l.map (fun f=>(⟨f.nm,f.ty.inst ls 0⟩:dq))
theorem instFs_get {ls:List Ty} {l:List dq} {i:Nat} {t:dq} (h:l[i]?=some t):(instFs ls l)[i]?=some ⟨t.nm,t.ty.inst ls 0⟩:=by simp[instFs,h]
theorem instFs_length (ls:List Ty) (l:List dq):(instFs ls l).length=l.length:=by simp[instFs]
noncomputable def hFd:Hints:=⟨ao,zS,aq,rowsOf aq 30⟩
def Ec (k:Int) (nm:List UInt8) (ix:Int) (la:List ap):Heap:=[(.loc 3,.cells [iv k,.dat (sb nm),iv ix,.dat (sl la)])]
def MV (H:Heap) (nx:Nat) (lo:Heap) (a:ap) (pre:List dq) (m:Nat) (i:Int):ab:=⟨[(33,iv i),(32,iv (Int.ofNat m)),(31,.dat a),(8,rQ pre),(3,.ptr (.loc 3) 0)],lo,H,nx⟩
def PA (H:Heap) (nx:Nat) (lo:Heap) (a:ap) (pre:List dq) (m:Nat) (i:Int):ab:=⟨[(34,bv false),(33,iv i),(32,iv (Int.ofNat m)),(31,.dat a),(8,rQ pre),(3,.ptr (.loc 3) 0)],lo,H,nx⟩
theorem Tt {cs:List ap} {en:List (Go.Value×ap)} {n:Nat} {k ix:Int} {tn:List UInt8} {la:List ap} {l pre:List dq} {i:Nat} {t:dq} {t2:Ty} (hi:i < (aJ l).length) (ht:l[i]?=some t)
  (hc:ag 60 [.dat t.ty.enc,.dat (sl la)] (.dat t2.enc)) (hp:pre.length < 1000000000) {T:Exit->aa->Prop}
  (e:T .normal ((MV (hG 2 (av cs) en n) 3 (Ec k tn ix la) (.slice (aJ l)) (pre++[(⟨t.nm,t2⟩:dq)]) (aJ l).length (aH .i64 (Int.ofNat i+1))).aw Tryz.f30.ntmps)) :
  KD (roundOf Tryz.f30 0) T ((MV (hG 2 (av cs) en n) 3 (Ec k tn ix la) (.slice (aJ l)) pre (aJ l).length (Int.ofNat i)).aw Tryz.f30.ntmps):=by
 have h1:=bA hi;have h2:=rZ ht;have h3:=afN (t:=⟨t.nm,t2⟩) hp;clear ht hi hp;obtain⟨fn,k2,fnm,fix,fl⟩:=t;obtain⟨k3,fnm3,fix3,fl3⟩:=t2;generalize aJ l=es at *
 rcases pre with _|⟨d,r⟩ <;>
 ·refine aC [34] [35,47] (H:=hFd) (live:=rW) (by kernel_rfl) ?_;refine ob h1 ?_;refine oo h2 ?_
  rcases fl with _|⟨v6,v7⟩
  ·refine qg (by kernel_rfl) ?_ ?_
   ·refine on hc ?_
    rcases fl3 with _|⟨v0,v1⟩ <;>
    ·refine oo h3 ?_;exact oe e
   refine on hc ?_;refine qg (by kernel_rfl) ?_ ?_
   ·rcases fl3 with _|⟨v2,v3⟩ <;>
    ·refine oo h3 ?_;exact oe e
   rcases fl3 with _|⟨v4,v5⟩ <;>
   ·refine qg (by kernel_rfl) ?_ ?_ <;>
    ·refine oo h3 ?_;exact oe e
  refine qg (by kernel_rfl) ?_ ?_
  ·refine on hc ?_
   rcases fl3 with _|⟨v8,v9⟩ <;>
   ·refine oo h3 ?_;exact oe e
  refine on hc ?_;refine qg (by kernel_rfl) ?_ ?_
  ·rcases fl3 with _|⟨v10,v11⟩ <;>
   ·refine oo h3 ?_;exact oe e
  rcases fl3 with _|⟨v12,v13⟩ <;>
  ·refine qg (by kernel_rfl) ?_ ?_ <;>
   ·refine oo h3 ?_;exact oe e
theorem XC {cs:List ap} {en:List (Go.Value×ap)} {m:Nat} {k ix:Int} {tn:List UInt8} {la:List ap} {a:ap} {pre:List dq} {n:Nat} {T:Exit->aa->Prop}
  (e:T (.exit 0) ((PA (hG 2 (av cs) en m) 3 (Ec k tn ix la) a pre n (Int.ofNat n)).aw Tryz.f30.ntmps)) :
  KD (roundOf Tryz.f30 0) T ((MV (hG 2 (av cs) en m) 3 (Ec k tn ix la) a pre n (Int.ofNat n)).aw Tryz.f30.ntmps):=by
 have h1:=bC (i:=n) (L:=n) (by omega)
 rcases pre with _|⟨d,r⟩ <;>
 ·refine aC [34] [] (H:=hFd) (live:=rW) (by kernel_rfl) ?_;refine ob h1 ?_;exact oe e
theorem XB {cs:List ap} {en:List (Go.Value×ap)} {n:Nat} {k ix:Int} {tn:List UInt8} {ls:List Ty} {l:List dq} {a:ap} (ha:a=sl (aJ l))
  (ih:∀t∈l,ag 60 [.dat t.ty.enc,.dat (sl (au ls))] (.dat (t.ty.inst ls 0).enc)) (hb:l.length < 1000000000) :
  KD (.loop (roundOf Tryz.f30 0)) (fun e s=>e=.exit 0/\s=(PA (hG 2 (av cs) en n) 3 (Ec k tn ix (au ls)) a (instFs ls l) (aJ l).length (Int.ofNat (aJ l).length)).aw Tryz.f30.ntmps)
   ((MV (hG 2 (av cs) en n) 3 (Ec k tn ix (au ls)) a [] (aJ l).length (Int.ofNat 0)).aw Tryz.f30.ntmps):=by
 refine bb (St:=fun i=>(MV (hG 2 (av cs) en n) 3 (Ec k tn ix (au ls)) a ((instFs ls l).take i) (aJ l).length (Int.ofNat i)).aw Tryz.f30.ntmps) (aJ l).length ?_ ?_ (i:=0) (Nat.zero_le _)
 ·intro i hi;obtain⟨t,ht,hm⟩:=gv hi;have ha2:a=.slice (aJ l):=by
   rw[ha]
   cases l with
   | nil=>simp at ht
   | cons x r=>rfl
  subst ha2;refine Tt hi ht (ih t hm) (by rw[List.length_take,instFs_length];omega) ?_;rw[bd] at hi;rw[bg (by omega),←dC (instFs_get ht)];rfl
 refine XC ⟨rfl,?_⟩;rw[bd,←instFs_length ls l,List.take_length]
theorem acs {cs:List ap} {en:List (Go.Value×ap)} {n:Nat} {k ix:Int} {tn:List UInt8} {la:List ap} (h1:aP k 2=true) (hd:cR 59 [hP,.dat (.agg [i64 k,sb tn,i64 ix,sl la])] cs en n (bv true))
  {dn sn:List UInt8} {ar sk six:Int} {sa lb:List ap} {pre:List dq} (hf:cR 49 [hP,.dat (sb tn)] cs en n (.tup [.dat (eh dn ar sk sn six sa true lb),bv true]))
  (hl:KD (.loop (roundOf Tryz.f30 0)) (fun e s=>e=.exit 0/\s=(PA (hG 2 (av cs) en n) 3 (Ec k tn ix la) (sl lb) pre lb.length (Int.ofNat lb.length)).aw Tryz.f30.ntmps)
   ((MV (hG 2 (av cs) en n) 3 (Ec k tn ix la) (sl lb) [] lb.length (Int.ofNat 0)).aw Tryz.f30.ntmps)) :
  cR 30 [hP,.dat (.agg [i64 k,sb tn,i64 ix,sl la])] cs en n (.tup [rQ pre,bv true]):=by
 have hg:=US (.tup [rQ pre,bv true]) cs en n (by cases pre <;> rfl)
 rcases pre with _|⟨d,r⟩ <;>
 ·refine co [13] [] (x:=.of Tryz.f30 zS rW) ?_
  rcases la with _|⟨v6,v7⟩
  ·refine ox h1 ?_;refine oh hd ?_;refine oh hf ?_
   rcases sa with _|⟨v2,v3⟩
   ·rcases lb with _|⟨v0,v1⟩ <;>
    ·refine lo hl ?_;rintro ex s ⟨rfl,rfl⟩;refine⟨_,rfl,?_⟩;exact bh (by kernel_rfl) hg
   rcases lb with _|⟨v4,v5⟩ <;>
   ·refine lo hl ?_;rintro ex s ⟨rfl,rfl⟩;refine⟨_,rfl,?_⟩;exact bh (by kernel_rfl) hg
  refine ox h1 ?_;refine oh hd ?_;refine oh hf ?_
  rcases sa with _|⟨v10,v11⟩
  ·rcases lb with _|⟨v8,v9⟩ <;>
   ·refine lo hl ?_;rintro ex s ⟨rfl,rfl⟩;refine⟨_,rfl,?_⟩;exact bh (by kernel_rfl) hg
  rcases lb with _|⟨v12,v13⟩ <;>
  ·refine lo hl ?_;rintro ex s ⟨rfl,rfl⟩;refine⟨_,rfl,?_⟩;exact bh (by kernel_rfl) hg
theorem Y6 {cs:List ap} {en:List (Go.Value×ap)} {n:Nat} {k ix:Int} {tn:List UInt8} {la:List ap} {c:Bool} (h1:aP k 2=c) (hd:c=true->cR 59 [hP,.dat (.agg [i64 k,sb tn,i64 ix,sl la])] cs en n (bv false)) :
  cR 30 [hP,.dat (.agg [i64 k,sb tn,i64 ix,sl la])] cs en n (.tup [.dat nl,bv false]):=by
 have hg:=US (.tup [.dat nl,bv false]) cs en n rfl
 cases c
 ·clear hd;refine co [13] [] (x:=.of Tryz.f30 zS rW) ?_
  rcases la with _|⟨v0,v1⟩ <;>
  ·refine ox h1 ?_;exact bh (by kernel_rfl) hg
 have hd2:=hd rfl;clear hd;refine co [13] [] (x:=.of Tryz.f30 zS rW) ?_
 rcases la with _|⟨v0,v1⟩ <;>
 ·refine ox h1 ?_;refine oh hd2 ?_;exact bh (by kernel_rfl) hg
theorem acu {cs:List ap} {en:List (Go.Value×ap)} {n:Nat} {k ix:Int} {tn:List UInt8} {la:List ap} (h1:aP k 2=true) (hd:cR 59 [hP,.dat (.agg [i64 k,sb tn,i64 ix,sl la])] cs en n (bv true))
  {dn sn:List UInt8} {ar sk six:Int} {sa lb:List ap} (hf:cR 49 [hP,.dat (sb tn)] cs en n (.tup [.dat (eh dn ar sk sn six sa false lb),bv true])) :
  cR 30 [hP,.dat (.agg [i64 k,sb tn,i64 ix,sl la])] cs en n (.tup [.dat nl,bv false]):=by
 have hg:=US (.tup [.dat nl,bv false]) cs en n rfl;refine co [13] [] (x:=.of Tryz.f30 zS rW) ?_
 rcases la with _|⟨v6,v7⟩
 ·refine ox h1 ?_;refine oh hd ?_;refine oh hf ?_
  rcases sa with _|⟨v2,v3⟩
  ·rcases lb with _|⟨v0,v1⟩ <;>
   ·exact bh (by kernel_rfl) hg
  rcases lb with _|⟨v4,v5⟩ <;>
  ·exact bh (by kernel_rfl) hg
 refine ox h1 ?_;refine oh hd ?_;refine oh hf ?_
 rcases sa with _|⟨v10,v11⟩
 ·rcases lb with _|⟨v8,v9⟩ <;>
  ·exact bh (by kernel_rfl) hg
 rcases lb with _|⟨v12,v13⟩ <;>
 ·exact bh (by kernel_rfl) hg
def fF (ds:List aQ) (t:Ty):Option (List dq):=match aP t.kind 2 with
 | false=>none
 | true=>match fx ds t with
  | false=>none
  | true=>match (iO (aD ds t.nm)).con with
   | false=>none
   | true=>some (instFs t.args (iO (aD ds t.nm)).fl)
def xP:Option (List dq)->List dq
 | some l=>l
 | none=>[]
theorem HY {ds:List aQ} {tl:List ap} (hds:∀o∈ds,o.cB) {B:Nat} {t:Ty} (h:Gd B t) :
  og 30 [hP,.dat t.enc] ds tl (.tup [rQ (xP (fF ds t)),bv (eg (fF ds t))]):=by
 have hdc:=nX ds tl t;have hf:=nW ds tl t.nm;unfold fF
 cases hk:aP t.kind 2 with
 | false=>
  obtain⟨k,tn,ix,la⟩:=t;exact Y6 hk (fun h=>by simp at h)
 | true=>
  cases hd:fx ds t with
  | false=>
   rw[hd] at hdc;obtain⟨k,tn,ix,la⟩:=t;exact Y6 hk (fun _=>hdc)
  | true=>
   rw[hd] at hdc;obtain⟨p,d,_,h2,h3,_⟩:=qA hd;have hfine:=hds d (List.mem_of_getElem? h2);rw[h3] at hf;simp only[h3,iO];have hin:∀f∈d.fl,ag 60 [.dat f.ty.enc,.dat (sl (au t.args))] (.dat (f.ty.inst t.args 0).enc):=fun f hm=>HR (hfine.2.1 f hm) h
   have hlen:=hfine.2.2;obtain⟨dn,ar,⟨sk,sn,six,sa⟩,con,fl⟩:=d;obtain⟨k,tn,ix,la⟩:=t
   cases con with
   | false=>exact acu hk hdc hf
   | true=>exact acs hk hdc hf (XB rfl hin hlen)
noncomputable def hSf:Hints:=⟨ao,Lw,aq,rowsOf aq 32⟩
def Pv (a:ap) (i:Int):ab:=⟨[(5,iv i),(0,.dat a),(1,.dat a)],[],[],0⟩
def Yr (a:ap) (i:Int):ab:=⟨[(14,bv false),(5,iv i),(0,.dat a),(1,.dat a)],[],[],0⟩
theorem PS {l:List dq} {t:dq} {i:Nat} (hi:i < (aJ l).length) (ht:l[i]?=some t) (hc:ag 24 [.dat t.ty.enc,.dat t.ty.enc] (bv true)) {T:Exit->aa->Prop}
  (e:T .normal ((Pv (.slice (aJ l)) (aH .i64 (Int.ofNat i+1))).aw Tryz.f32.ntmps)) :
  KD (roundOf Tryz.f32 0) T ((Pv (.slice (aJ l)) (Int.ofNat i)).aw Tryz.f32.ntmps):=by
 have h1:=bA hi;have h2:=rZ ht;generalize aJ l=es at *;clear ht hi;obtain⟨fnm,k2,nm2,ix2,a2⟩:=t;have h4:=jT fnm;refine aC [14,27] [19,24,31,36] (H:=hSf) (live:=Ei) (by kernel_rfl) ?_;refine ob h1 ?_;refine oo h2 ?_;refine oo h2 ?_;refine ox h4 ?_;refine oo h2 ?_;refine oo h2 ?_;refine on hc ?_;exact oe e
theorem Vm {l:List ap} {T:Exit->aa->Prop} (e:T (.exit 0) ((Yr (sl l) (Int.ofNat l.length)).aw Tryz.f32.ntmps)) :
  KD (roundOf Tryz.f32 0) T ((Pv (sl l) (Int.ofNat l.length)).aw Tryz.f32.ntmps):=by
 have h1:=bC (i:=l.length) (L:=l.length) (by omega);refine aC [14] [] (H:=hSf) (live:=Ei) (by kernel_rfl) ?_
 rcases l with _|⟨v0,v1⟩
 ·refine bp (b:=false) rfl (by kernel_rfl) ?_;exact oe e
 refine ob h1 ?_;exact oe e
theorem ZZ {l:List ap} (hl:KD (.loop (roundOf Tryz.f32 0)) (fun e s=>e=.exit 0/\s=(Yr (sl l) (Int.ofNat l.length)).aw Tryz.f32.ntmps) ((Pv (sl l) (Int.ofNat 0)).aw Tryz.f32.ntmps)) :
  ag 32 [.dat (sl l),.dat (sl l)] (bv true):=by
 have h1:=dG (Int.ofNat l.length);refine co [10] [] (x:=.of Tryz.f32 Lw Ei) ?_
 rcases l with _|⟨v0,v1⟩
 ·refine bp (b:=false) rfl (by kernel_rfl) ?_;refine lo hl ?_;rintro ex s ⟨rfl,rfl⟩;refine⟨_,rfl,?_⟩;exact fi
 refine ox h1 ?_;refine lo hl ?_;rintro ex s ⟨rfl,rfl⟩;refine⟨_,rfl,?_⟩;exact fi
theorem aaI {l:List dq} (hf:∀f∈l,f.ty.thin) (hb:l.length < 1000000000):ag 32 [.dat (sl (aJ l)),.dat (sl (aJ l))] (bv true):=by
 refine ZZ ?_;refine bb (St:=fun i=>(Pv (sl (aJ l)) (Int.ofNat i)).aw Tryz.f32.ntmps) (aJ l).length ?_ ?_ (i:=0) (Nat.zero_le _)
 ·intro i hi;obtain⟨t,ht,hm⟩:=gv hi;have hw:aH .i64 (Int.ofNat i+1)=Int.ofNat (i+1):=bg (by rw[bd] at hi;omega);have hc:=zH t.ty t.ty (hf t hm);rw[DH.2 rfl] at hc;have hs:sl (aJ l)=.slice (aJ l):=by
   cases l with
   | nil=>simp at ht
   | cons x r=>rfl
  rw[hs];refine PS hi ht hc ?_;rw[hw];rfl
 exact Vm ⟨rfl,rfl⟩
def Hv:List aQ->List aQ->Bool
 | f::r,g::s=>f.eq g&&Hv r s
 | _,_=>true
def vM (a b:List aQ):Bool:=aP (Int.ofNat (aL a).length) (Int.ofNat (aL b).length)&&Hv a b
noncomputable def hDs:Hints:=⟨ao,LA,aq,rowsOf aq 18⟩
def PC (a b:List ap) (i:Int):ab:=⟨[(5,iv i),(0,.dat (.slice a)),(1,.dat (.slice b))],[],[],0⟩
def YC (a b:List ap) (i:Int):ab:=⟨[(14,bv false),(5,iv i),(0,.dat (.slice a)),(1,.dat (.slice b))],[],[],0⟩
def YD:ab:=⟨[(4,bv false)],[],[],0⟩
theorem Oe {a b:List aQ} {t u:aQ} {i:Nat} {c:Bool} {T:Exit->aa->Prop} (hi:i < (aL a).length) (ht:a[i]?=some t) (hu:b[i]?=some u) (hc:ag 37 [.dat t.enc,.dat u.enc] (bv c))
  (e1:c=true->T .normal ((PC (aL a) (aL b) (aH .i64 (Int.ofNat i+1))).aw Tryz.f18.ntmps)) (e2:c=false->T .ret (YD.aw Tryz.f18.ntmps)) :
  KD (roundOf Tryz.f18 0) T ((PC (aL a) (aL b) (Int.ofNat i)).aw Tryz.f18.ntmps):=by
 have h1:=bA hi;have h2:=qZ ht;have h3:=qZ hu;generalize aL a=es at *;generalize aL b=es2 at *;clear ht hi hu;obtain⟨dn,ar,⟨k,tn,ix,la⟩,con,fl⟩:=t;obtain⟨dn2,ar2,⟨k2,tn2,ix2,la2⟩,con2,fl2⟩:=u;refine aC [14] [19,23] (H:=hDs) (live:=Ek) (by kernel_rfl) ?_;refine ob h1 ?_;refine oo h2 ?_;refine oo h3 ?_;refine on hc ?_
 cases c
 ·exact oe (e2 rfl)
 exact oe (e1 rfl)
theorem TN {a b:List ap} {T:Exit->aa->Prop} (e:T (.exit 0) ((YC a b (Int.ofNat a.length)).aw Tryz.f18.ntmps)) :
  KD (roundOf Tryz.f18 0) T ((PC a b (Int.ofNat a.length)).aw Tryz.f18.ntmps):=by
 have h1:=bC (i:=a.length) (L:=a.length) (by omega);refine aC [14] [] (H:=hDs) (live:=Ek) (by kernel_rfl) ?_;refine ob h1 ?_;exact oe e
theorem XI {a b:List ap} {c d:Bool} (h1:aP (Int.ofNat a.length) (Int.ofNat b.length)=c)
  (hl:c=true->KD (.loop (roundOf Tryz.f18 0)) (fun e s=>(e=.exit 0/\d=true/\s=(YC a b (Int.ofNat a.length)).aw Tryz.f18.ntmps)∨(e=.ret/\d=false/\s=YD.aw Tryz.f18.ntmps)) ((PC a b (Int.ofNat 0)).aw Tryz.f18.ntmps)) :
  ag 18 [.dat (.slice a),.dat (.slice b)] (bv (c&&d)):=by
 refine co [10] [] (x:=.of Tryz.f18 LA Ek) ?_;refine ox h1 ?_
 cases c
 ·exact fi
 refine lo (hl rfl) ?_;rintro ex s (⟨rfl,rfl,rfl⟩|⟨rfl,rfl,rfl⟩) <;>
 ·refine⟨_,rfl,?_⟩;exact fi
theorem Oa {l l2:List aQ} {i:Nat} {t u:aQ} (ht:l[i]?=some t) (hu:l2[i]?=some u):Hv (l.drop i) (l2.drop i)=(t.eq u&&Hv (l.drop (i+1)) (l2.drop (i+1))):=by rw[dL ht,dL hu];rfl
theorem Ng {a b:List aQ} (ha:∀d∈a,d.cB) (hn:a.length < 1000000):ag 18 [.dat (.slice (aL a)),.dat (.slice (aL b))] (bv (vM a b)):=by
 refine XI rfl ?_;intro hc;have hlen:a.length=b.length:=by
  rw[aY,aY] at hc;exact Int.ofNat.inj (eY hc)
 refine cI (St:=fun i=>(PC (aL a) (aL b) (Int.ofNat i)).aw Tryz.f18.ntmps) (fun i=>Hv a b=Hv (a.drop i) (b.drop i)) (aL a).length ?_ ?_ (i:=0) (Nat.zero_le _) rfl
 ·intro i hi hI;obtain⟨t,ht,hm⟩:=lM hi;have hi2:=hi;rw[aY] at hi2;have hu:b[i]?=some b[i]:=List.getElem?_eq_getElem (by omega);generalize b[i]=u at hu;have hd:=Oa ht hu;rw[←hI] at hd;have hw:aH .i64 (Int.ofNat i+1)=Int.ofNat (i+1):=bg (by omega);refine Oe hi ht hu (F8 (ha t hm)) ?_ ?_
  ·intro hc;rw[hw];rw[hc,Bool.true_and] at hd;exact⟨rfl,hd⟩
  intro hc;rw[hc,Bool.false_and] at hd;exact .inr ⟨rfl,hd,rfl⟩
 intro hI;refine TN (.inl ⟨rfl,?_,rfl⟩);rw[hI,aY,List.drop_length]
 cases b.drop a.length <;> rfl
theorem N9 (a:List aQ):vM a a=true:=by
 have h:∀l:List aQ,Hv l l=true:=by
  intro l
  induction l with
  | nil=>rfl
  | cons x r ih=>rw[Hv,ih,aQ.eq_iff.2 rfl];rfl
 unfold vM;rw[h a,dG];rfl
theorem Se {g:FuncId} {args args2:List ac} {v:ac} {h:Heap} {n:Nat} (m:Nat) (heap:Heap) (hc:KC g args [] 0 (XQ ⟨v,h,n⟩)) (ha:dM 0 args=false) (he:gD (fun o=>o) args=args2) :
  KC g args2 heap m (XQ ⟨fg (fun o=>m+o) v,lk (fun o=>m+o) h++heap,m+n⟩):=by
 have hf:=aB.frame hc (fun o=>o) (heap:=heap) (rest:=heap) (next:=m) (List.Perm.refl _) rfl rfl rfl ha;rw[he] at hf;refine hf.mono ?_;rintro v' h' m' ⟨v0,h1,n1,⟨rfl,rfl,rfl⟩,rfl,rfl,rfl⟩;have e:iG (fun o=>o) 0 m=fun o=>m+o:=by
  funext o
  show (match Nat.blt o 0 with|true=>o|false=>m+(o - 0))=m+o;rfl
 rw[e];exact⟨rfl,rfl,rfl⟩
theorem VD:KC 45 [] (hH 2 cY []) 3 (XQ ⟨rP 3,hF 3 (aL cY)++hH 2 cY [],4⟩):=Se 3 (hH 2 cY []) ad5 rfl rfl
def Ni:Nat->Nat
 | 0=>2
 | i+1=>i+4
theorem Oj {x:ap} {ds ds2:List aQ} {tl tl2:List ap} {c:Int} (r m:Nat) (pre post:Heap) (h:KC 16 [hP,.dat x] (hH 2 ds tl) 3 (XQ ⟨iv c,hH 3 ds2 tl2,4⟩)) :
  KC 16 [hP,.dat x] (pre++(hH r ds tl++post)) m (XQ ⟨iv c,pre++(hH m ds2 tl2++post),m+1⟩):=by
 have e1:∀(cs:List ap) (es:List (Go.Value×ap)) (n q:Nat) (ρ:Nat->Nat),ρ 0=0->ρ 1=1->lk ρ (hG q (av cs) es n)=hG (ρ q) (av cs) es n:=by
  intro cs es n q ρ h0 h1;simp[hG,lk,mC,qT,rD,gD,fg,h0,h1]
 have hf:=aB.frame h (UM r) (heap:=pre++(hH r ds tl++post)) (rest:=pre++post) (next:=m) (by
  unfold hH;rw[e1 _ _ _ _ _ rfl rfl];rw[←List.append_assoc,←List.append_assoc];exact List.Perm.append_right _ List.perm_append_comm) (by rfl) (by simp[cG,hH,hG,lY,jz,dM,dB];exact⟨rfl,rfl⟩) (by rfl) (by rfl)
 rw[show gD (UM r) [hP,.dat x]=[hP,.dat x] from rfl] at hf;refine aB.jf hf ?_;rintro v' h' m' ⟨v0,h1,n1,⟨rfl,rfl,rfl⟩,rfl,rfl,rfl⟩;unfold hH;rw[e1 _ _ _ _ _ rfl rfl];refine⟨pre++(hG m (av (bK ds2++tl2)) (bE ds2 0) ds2.length++post),?_,rfl,?_,rfl⟩
 ·rw[←List.append_assoc,←List.append_assoc];exact List.Perm.append_right _ List.perm_append_comm
 rfl
theorem HF {d:aQ} {ds ds2:List aQ} {tl tl2:List ap} {c:Int} (r m:Nat) (pre post:Heap) (h:KC 16 [hP,.dat d.enc] (hH 2 ds tl) 3 (XQ ⟨iv c,hH 3 ds2 tl2,4⟩)) :
  KC 16 [hP,.dat d.enc] (pre++(hH r ds tl++post)) m (XQ ⟨iv c,pre++(hH m ds2 tl2++post),m+1⟩):=Oj r m pre post h
noncomputable def hHs:Hints:=⟨ao,LC,aq,rowsOf aq 10⟩
def BI (l:List ap) (H:Heap) (m:Nat) (i:Int):ab:=⟨[(7,iv i),(6,rP 3),(5,hP),(0,.dat (.slice l))],[],H,m⟩
def KX (l:List ap) (H:Heap) (m:Nat) (i:Int):ab:=⟨[(16,bv false),(7,iv i),(6,rP 3),(5,hP),(0,.dat (.slice l))],[],H,m⟩
theorem S3 {l:List ap} {d:aQ} {i:Nat} {c:Int} {H1 H2 H3:Heap} {m1 m2 m3:Nat} (h1:bq (Int.ofNat i) (Int.ofNat l.length)=true) (h2:aK (env ay.aN) 23 [.dat (.slice l),.dat (.flat (.int .i64 (Int.ofNat i)))]=some ⟨.ref d.cells,.keep⟩)
  (hd:KC 16 [hP,.dat d.enc] H1 m1 (XQ ⟨iv c,H2,m2⟩)) (hr:KC 17 [rP 3,.dat d.enc] H2 m2 (XQ ⟨iv c,H3,m3⟩)) {T:Exit->aa->Prop}
  (e:T .normal ((BI l H3 m3 (aH .i64 (Int.ofNat i+1))).aw Tryz.f10.ntmps)) :
  KD (roundOf Tryz.f10 0) T ((BI l H1 m1 (Int.ofNat i)).aw Tryz.f10.ntmps):=by
 obtain⟨dn,ar,⟨k,tn,ix,la⟩,con,fl⟩:=d;have h3:aP c c=true:=dG c;refine aC [16,31] [22,28] (H:=hHs) (live:=Eo) (by kernel_rfl) ?_;refine ob h1 ?_;refine oo h2 ?_;refine oo h2 ?_;refine oh hd ?_;refine oh hr ?_;refine ox h3 ?_;exact oe e
theorem Xd {l:List ap} {H:Heap} {m:Nat} {T:Exit->aa->Prop} (e:T (.exit 0) ((KX l H m (Int.ofNat l.length)).aw Tryz.f10.ntmps)) :
  KD (roundOf Tryz.f10 0) T ((BI l H m (Int.ofNat l.length)).aw Tryz.f10.ntmps):=by
 have h1:=bC (i:=l.length) (L:=l.length) (by omega);refine aC [16] [] (H:=hHs) (live:=Eo) (by kernel_rfl) ?_;refine ob h1 ?_;exact oe e
theorem aaC {l bs es2:List ap} {H:Heap} {m:Nat}
  (h1:KC 44 [] [] 0 (XQ ⟨hP,hH 2 cY [],3⟩)) (h2:KC 45 [] (hH 2 cY []) 3 (XQ ⟨rP 3,hF 3 bs++hH 2 cY [],4⟩))
  (hl:KD (.loop (roundOf Tryz.f10 0)) (fun e s=>e=.exit 0/\s=(KX l H m (Int.ofNat l.length)).aw Tryz.f10.ntmps) ((BI l (hF 3 bs++hH 2 cY []) 4 (Int.ofNat 0)).aw Tryz.f10.ntmps))
  (h3:KC 19 [hP] H m (XQ ⟨.own es2,H,m⟩)) (h4:KC 20 [rP 3] H m (XQ ⟨.own es2,H,m⟩)) (h5:ag 18 [.dat (.slice es2),.dat (.slice es2)] (bv true)) :
  KC 10 [.dat (.slice l)] [] 0 (XQ ⟨.tup [hP,rP 3,bv true],H,m⟩):=by
 unfold hH at h1 h2 hl;generalize bK cY++[]=cs at *;generalize bE cY 0=es at *;generalize cY.length=n at *;refine aZ [] [] (x:=gU.of Tryz.f10 LC Eo) (by kernel_rfl) ?_;refine oh h1 ?_;refine oh h2 ?_;refine lo hl ?_;rintro ex s ⟨rfl,rfl⟩;refine⟨_,rfl,?_⟩;refine oh h3 ?_;refine oh h4 ?_;refine on h5 ?_;exact fi
def da (l:List aQ):List aQ:=l.foldl (fun ds d=>(eQ ds d).2) cY
theorem qx {l:List aQ} {i:Nat} {d:aQ} (h:l[i]?=some d):da (l.take (i+1))=(eQ (da (l.take i)) d).2:=by
 rw[dC h];unfold da;rw[List.foldl_append];rfl
theorem pI (ds:List aQ) (d:aQ):(eQ ds d).2=ds∨((eQ ds d).2=ds++[d]/\d.wf=true):=by
 unfold eQ
 cases hw:d.wf with
 | false=>exact .inl rfl
 | true=>
  cases bq 6 d.ar with
  | true=>exact .inl rfl
  | false=>
   cases bq 6 (Int.ofNat (aJ d.fl).length) with
   | true=>exact .inl rfl
   | false=>
    cases aD ds d.nm with
    | some o=>dsimp only;cases o.eq d <;> exact .inl rfl
    | none=>
     cases bq (Int.ofNat ds.length) 60 with
     | false=>exact .inl rfl
     | true=>
      cases cy ds d.sup with
      | false=>exact .inl rfl
      | true=>
       cases d.fl.any (fun f=>!cy (ds++[d]) f.ty) with
       | true=>exact .inl rfl
       | false=>
        cases aP d.sup.kind 2 with
        | false=>exact .inr ⟨rfl,rfl⟩
        | true=>
         dsimp only
         cases (iO (aD (ds++[d]) d.sup.nm)).con with
         | true=>exact .inl rfl
         | false=>exact .inr ⟨rfl,rfl⟩
structure Yn (ds:List aQ):Prop where
 cB:∀o∈ds,o.cB
 nm:∀o∈ds,isIdent o.nm=true
 ne:ds≠[]
theorem Yn.none {ds:List aQ} (h:Yn ds):aD ds []=none:=by
 cases hf:aD ds [] with
 | none=>rfl
 | some o=>
  have hm:=mN hf;have hi:=h.nm o hm;have key:∀{l:List aQ} {o:aQ},aD l []=some o->o.nm=[]:=by
   intro l
   induction l with
   | nil=>intro o h;simp[aD] at h
   | cons d r ih=>
    intro o h;unfold aD at h
    split at h
    ·rename_i he;simp at h;subst h;exact (si he).symm
    exact ih h
  rw[key hf] at hi;simp[isIdent] at hi
theorem Oz:Yn cY where
 cB:=by
  intro o ho;simp only[cY,fL,List.map_cons,List.map_nil,List.mem_cons,List.mem_nil_iff,or_false] at ho
  rcases ho with rfl|rfl|rfl|rfl <;> exact⟨⟨by simp[sx,Ty.size,aU],by simp[sx,Ty.dR,cV,aP]⟩,by simp[sx],by simp[sx]⟩
 nm:=by
  intro o ho;simp only[cY,fL,List.map_cons,List.map_nil,List.mem_cons,List.mem_nil_iff,or_false] at ho
  rcases ho with rfl|rfl|rfl|rfl <;> decide
 ne:=by simp[cY,fL]
theorem Yn.step {ds:List aQ} (h:Yn ds) {d:aQ} (hd:d.cB):Yn (eQ ds d).2:=by
 rcases pI ds d with e|⟨e,hw⟩
 ·rw[e];exact h
 rw[e];refine⟨?_,?_,by simp⟩
 ·intro o ho
  rcases List.mem_append.1 ho with ho|ho
  ·exact h.cB o ho
  rw[List.mem_singleton.1 ho];exact hd
 intro o ho
 rcases List.mem_append.1 ho with ho|ho
 ·exact h.nm o ho
 rw[List.mem_singleton.1 ho];unfold aQ.wf at hw;rw[Bool.and_eq_true] at hw;exact hw.1
theorem A4:∀(i:Nat) (l:List aQ),(da (l.take i)).length<=4+i:=by
 intro i l
 induction i with
 | zero=>simp[da,cY,fL]
 | succ i ih=>
  cases hg:l[i]? with
  | none=>rw[List.take_of_length_le (by have:=List.getElem?_eq_none_iff.1 hg;omega)];rw[List.take_of_length_le (by have:=List.getElem?_eq_none_iff.1 hg;omega)] at ih;omega
  | some d=>
   rw[qx hg]
   rcases pI (da (l.take i)) d with e|⟨e,_⟩
   ·rw[e];omega
   rw[e,List.length_append,List.length_singleton];omega
theorem EP {l:List aQ} (hl:∀d∈l,d.cB):∀i:Nat,Yn (da (l.take i)):=by
 intro i
 induction i with
 | zero=>exact Oz
 | succ i ih=>
  cases hg:l[i]? with
  | none=>rw[List.take_of_length_le (by have:=List.getElem?_eq_none_iff.1 hg;omega)];rw[List.take_of_length_le (by have:=List.getElem?_eq_none_iff.1 hg;omega)] at ih;exact ih
  | some d=>rw[qx hg];exact ih.step (hl d (List.mem_of_getElem? hg))
theorem Xc {l:List aQ} (hl:∀d∈l,d.cB) (hn:l.length < 900):∃tl:List ap,
  KD (.loop (roundOf Tryz.f10 0)) (fun e s=>e=.exit 0/\s=(KX (aL l) (hF 3 (aL (da l))++hH (Ni l.length) (da l) tl) (4+l.length) (Int.ofNat (aL l).length)).aw Tryz.f10.ntmps) ((BI (aL l) (hF 3 (aL cY)++hH 2 cY []) 4 (Int.ofNat 0)).aw Tryz.f10.ntmps):=by
 obtain⟨f,f0,fI,fR⟩:=Kr (α:=List ap) (n:=l.length) (Inv:=fun _ _=>True)
  (R:=fun i a b=>∀T:Exit->aa->Prop,T .normal ((BI (aL l) (hF 3 (aL (da (l.take (i+1))))++hH (Ni (i+1)) (da (l.take (i+1))) b) (4+(i+1)) (Int.ofNat (i+1))).aw Tryz.f10.ntmps)->
   KD (roundOf Tryz.f10 0) T ((BI (aL l) (hF 3 (aL (da (l.take i)))++hH (Ni i) (da (l.take i)) a) (4+i) (Int.ofNat i)).aw Tryz.f10.ntmps))
  [] trivial (by
   intro i a hi _;have hg:l[i]?=some l[i]:=List.getElem?_eq_getElem hi;have hm:l[i]∈l:=List.getElem_mem hi;generalize l[i]=d at hg hm;have hlen:=A4 i l;have hok:=EP hl i;obtain⟨b,hc⟩:=Dd (tl:=a) (hl d hm) hok.cB (by omega);refine⟨b,?_,trivial⟩;intro T hT;have h1:=HF (Ni i) (4+i) (hF 3 (aL (da (l.take i)))) [] hc;simp only[List.append_nil] at h1;have h2:=sZ 3 (4+i+1) [] (hH (4+i) (eQ (da (l.take i)) d).2 b) (Nh (hl d hm) hok.cB (by omega) hok.none) (args2:=[rP 3,.dat d.enc]) rfl rfl rfl;simp only[List.nil_append] at h2;refine S3 (fO (by rw[aY];exact hi)) (qZ hg) h1 h2 ?_;rw[bg (by omega)];rw[qx hg] at hT;rw[show Ni (i+1)=4+i by show i+4=4+i;omega] at hT;exact hT)
 refine⟨f l.length,?_⟩;have e0:BI (aL l) (hF 3 (aL cY)++hH 2 cY []) 4 (Int.ofNat 0)=BI (aL l) (hF 3 (aL (da (l.take 0)))++hH (Ni 0) (da (l.take 0)) (f 0)) (4+0) (Int.ofNat 0):=by rw[f0];rfl
 rw[e0];refine bb (St:=fun i=>(BI (aL l) (hF 3 (aL (da (l.take i)))++hH (Ni i) (da (l.take i)) (f i)) (4+i) (Int.ofNat i)).aw Tryz.f10.ntmps) l.length ?_ ?_ (i:=0) (Nat.zero_le _)
 ·intro i hi;exact fR i hi _ rfl
 have e1:=Xd (l:=aL l) (H:=hF 3 (aL (da l))++hH (Ni l.length) (da l) (f l.length)) (m:=4+l.length) (T:=lm (fun _=>False) (fun e s=>e=.exit 0/\s=(KX (aL l) (hF 3 (aL (da l))++hH (Ni l.length) (da l) (f l.length)) (4+l.length) (Int.ofNat (aL l).length)).aw Tryz.f10.ntmps)) ⟨rfl,rfl⟩;rw[aY] at e1;rw[List.take_length];rw[aY];exact e1
theorem P7 {args:List ac} {g:FuncId} {c:Bool} {bs cs:List ap} {es:List (Go.Value×ap)} {n k m:Nat} (h:KC g args [] 0 (XQ ⟨.tup [hP,rP 3,bv c],hF 3 bs++hG (Ni k) (av cs) es n,m⟩)) :
  KC g args [] 0 (XQ ⟨.tup [hP,rP 3,bv c],hF 3 bs++hG 2 (av cs) es n,4⟩):=by
 refine aB.rn h ?_;rintro v hp m' ⟨rfl,rfl,rfl⟩;have hr:∃r,r=Ni k/\Nat.beq r 0=false/\Nat.beq 0 r=false/\Nat.beq r 1=false/\Nat.beq 1 r=false/\Nat.beq r 3=false/\Nat.beq 3 r=false/\Nat.beq r r=true/\Nat.blt r 0=false:=by
  cases k with
  | zero=>exact⟨2,rfl,rfl,rfl,rfl,rfl,rfl,rfl,rfl,rfl⟩
  | succ k=>exact⟨k+4,rfl,rfl,rfl,rfl,rfl,rfl,rfl,Nat.beq_refl _,rfl⟩
 obtain⟨r,e,h1,h2,h3,h4,h5,h6,h7,h8⟩:=hr;rw[←e];have g1:Nat.blt 0 0=false:=rfl;have g2:Nat.blt 1 0=false:=rfl;have g3:Nat.blt 3 0=false:=rfl;have g4:Nat.beq 0 0=true:=rfl;have g5:Nat.beq 1 0=false:=rfl;have g6:Nat.beq 3 0=false:=rfl;have g7:Nat.beq 1 1=true:=rfl;have g8:Nat.beq 3 1=false:=rfl;have g9:Nat.beq 3 3=true:=rfl;have ga:Nat.beq 0 1=false:=rfl;have gb:Nat.beq 0 3=false:=rfl;have gc:Nat.beq 1 3=false:=rfl;have k0:dK 0 [0,1,r,3] 0=true:=rfl;have k1:dK 0 [0,1,r,3] 1=true:=rfl;have k3:dK 0 [0,1,r,3] 3=true:=by simp only[dK,gG,h1,h2,h3,h4,h5,h6,h7,h8,g1,g2,g3,g4,g5,g6,g7,g8,g9,ga,gb,gc,Bool.false_or]
 have kr:dK 0 [0,1,r,3] r=true:=by simp only[dK,gG,h1,h2,h3,h4,h5,h6,h7,h8,g1,g2,g3,g4,g5,g6,g7,g8,g9,ga,gb,gc,Bool.false_or]
 have q0:kh 0 [0,1,r,3] 0=0:=rfl;have q1:kh 0 [0,1,r,3] 1=1:=rfl;have q3:kh 0 [0,1,r,3] 3=3:=by simp only[kh,gG,oF,h1,h2,h3,h4,h5,h6,h7,h8,g1,g2,g3,g4,g5,g6,g7,g8,g9,ga,gb,gc]
 have qr:kh 0 [0,1,r,3] r=2:=by simp only[kh,gG,oF,h1,h2,h3,h4,h5,h6,h7,h8,g1,g2,g3,g4,g5,g6,g7,g8,g9,ga,gb,gc]
 have er:bI (dK 0 [0,1,r,3]) (hF 3 bs++hG r (av cs) es n)=hF 3 bs++hG r (av cs) es n:=by
  simp only[hF,hG,List.cons_append,List.nil_append,bI,k0,k1,k3,kr]
 refine⟨[0,1,r,3],?_,?_,?_⟩
 ·simp only[BG,gN,hP,rP,bv,k1,k3,Bool.and_self]
 ·rw[er];simp only[hF,hG,List.cons_append,List.nil_append,GA,Jl,gN,BG,yf,k0,k1,k3,kr,Bool.and_self]
 rw[er];simp only[XQ,hF,hG,List.cons_append,List.nil_append,lk,mC,qT,gD,fg,rD,q0,q1,q3,qr,hP,rP,bv];exact⟨trivial,trivial,rfl⟩
theorem Xm {l:List aQ} (hl:∀d∈l,d.cB) (hn:l.length < 900):∃tl:List ap,KC 10 [.dat (.slice (aL l))] [] 0 (XQ ⟨.tup [hP,rP 3,bv true],hF 3 (aL (da l))++hH 2 (da l) tl,4⟩):=by
 obtain⟨tl,hlp⟩:=Xc hl hn;have hok:=EP hl l.length;have hlen:=A4 l.length l;rw[List.take_length] at hok hlen;have h3:=X1 (Ni l.length) (4+l.length) (hF 3 (aL (da l))) (ds:=da l) (tl:=tl) hok.cB (by omega);have eo:Gm (da l)=.own (aL (da l)):=by
  have:=hok.ne
  cases hd:da l with
  | nil=>rw[hd] at this;exact absurd rfl this
  | cons x r=>rfl
 rw[eo] at h3;have h4:=sZ 3 (4+l.length) [] (hH (Ni l.length) (da l) tl) (DK (ds:=da l) (by omega)) (args2:=[rP 3]) rfl rfl rfl;simp only[List.nil_append] at h4;have h5:=Ng (a:=da l) (b:=da l) hok.cB (by omega);rw[N9] at h5;exact⟨tl,P7 (aaC afJ VD hlp h3 h4 h5)⟩
theorem Oi (ds:List aQ) (d:aQ):(eQ ds d).2=ds∨((eQ ds d).2=ds++[d]/\d.wf=true/\cy ds d.sup=true/\aD ds d.nm=none/\d.fl.any (fun f=>!cy (ds++[d]) f.ty)=false):=by
 unfold eQ
 cases hw:d.wf with
 | false=>exact .inl rfl
 | true=>
  cases bq 6 d.ar with
  | true=>exact .inl rfl
  | false=>
   cases bq 6 (Int.ofNat (aJ d.fl).length) with
   | true=>exact .inl rfl
   | false=>
    cases hf:aD ds d.nm with
    | some o=>dsimp only;cases o.eq d <;> exact .inl rfl
    | none=>
     cases bq (Int.ofNat ds.length) 60 with
     | false=>exact .inl rfl
     | true=>
      cases hk:cy ds d.sup with
      | false=>exact .inl rfl
      | true=>
       cases ha:d.fl.any (fun f=>!cy (ds++[d]) f.ty) with
       | true=>exact .inl rfl
       | false=>
        cases aP d.sup.kind 2 with
        | false=>exact .inr ⟨rfl,rfl,rfl,rfl,rfl⟩
        | true=>
         dsimp only
         cases (iO (aD (ds++[d]) d.sup.nm)).con with
         | true=>exact .inl rfl
         | false=>exact .inr ⟨rfl,rfl,rfl,rfl,rfl⟩
theorem zO {d:aQ}:∀{ds:List aQ} {nm:List UInt8} {j:Nat},fX ds nm=some j->fX (ds++[d]) nm=some j
 | [],nm,j,h=>by simp[fX] at h
 | x::r,nm,j,h=>by
  rw[List.cons_append];unfold fX at h ⊢
  cases he:dU nm x.nm with
  | true=>rw[he] at h;exact h
  | false=>
   rw[he] at h;simp only[Option.map_eq_some_iff] at h ⊢;obtain⟨k,hk,rfl⟩:=h;exact⟨k,zO hk,rfl⟩
theorem Ox:Up cY where
 up:=by
  intro i d h hk;have hm:=List.mem_of_getElem? h;simp only[cY,fL,List.map_cons,List.map_nil,List.mem_cons,List.mem_nil_iff,or_false] at hm
  rcases hm with rfl|rfl|rfl|rfl <;> exact absurd hk (by decide)
 nv:=by
  intro d hm;simp only[cY,fL,List.map_cons,List.map_nil,List.mem_cons,List.mem_nil_iff,or_false] at hm
  rcases hm with rfl|rfl|rfl|rfl <;> decide
theorem JF {ds:List aQ} {t:Ty} (h:cy ds t=true) (hk:aP t.kind 2=true):fx ds t=true:=by
 obtain⟨k,nm,ix,l⟩:=t;have hk:aP k 2=true:=hk;rw[cy,hk] at h
 cases hd:fx ds (.mk k nm ix l) with
 | true=>rfl
 | false=>rw[hd] at h;simp at h
theorem Up.step {ds:List aQ} (h:Up ds) (d:aQ):Up (eQ ds d).2:=by
 rcases Oi ds d with e|⟨e,hw,hk,_,_⟩
 ·rw[e];exact h
 rw[e];refine⟨?_,?_⟩
 ·intro i o ho hk2
  rcases Nat.lt_or_ge i ds.length with hi|hi
  ·rw[List.getElem?_append_left hi] at ho;obtain⟨j,h1,h2⟩:=h.up i o ho hk2;exact⟨j,zO h1,h2⟩
  rw[List.getElem?_append_right hi] at ho
  cases hx:i - ds.length with
  | succ m=>rw[hx] at ho;simp at ho
  | zero=>
   rw[hx] at ho;simp at ho;subst ho;obtain⟨p,d2,h1,h2,_,_⟩:=qA (JF hk hk2);exact⟨p,zO h1,by have:=DN h1;omega⟩
 intro o ho
 rcases List.mem_append.1 ho with ho|ho
 ·exact h.nv o ho
 rw[List.mem_singleton.1 ho];unfold aQ.wf at hw;simp only[Bool.and_eq_true,Bool.or_eq_true] at hw;obtain⟨_,_,_,_,h0,_⟩:=hw
 rcases h0 with h0|h0 <;> rw[eY h0] <;> rfl
theorem XJ (l:List aQ):∀i:Nat,Up (da (l.take i)):=by
 intro i
 induction i with
 | zero=>exact Ox
 | succ i ih=>
  cases hg:l[i]? with
  | none=>rw[List.take_of_length_le (by have:=List.getElem?_eq_none_iff.1 hg;omega)];rw[List.take_of_length_le (by have:=List.getElem?_eq_none_iff.1 hg;omega)] at ih;exact ih
  | some d=>rw[qx hg];exact ih.step d
theorem HA (l:List aQ):Up (da l):=by
 have h:=XJ l l.length;rw[List.take_length] at h;exact h
def VW:Ty:=.mk 2 [76,105,115,116] 0 [.mk 5 [] 0 []]
def Sq:List BD:=[⟨119,[.dat VW.enc],.dat (sl (VW.fv.map iN))⟩]
theorem Sp:∀m∈Sq,m.ok=true/\KC m.fn m.args [] 0 (XQ ⟨m.val,[],0⟩):=by
 intro m hm;rw[List.mem_singleton.1 hm];exact⟨rfl,Bj (by simp[VW,Ty.size,aU]) (by simp[VW,Ty.dR,cV,aP,bq])⟩
noncomputable def X2:jx:=AV (env ay.aN) cN ao aq J0.find (rO Sq) 3000 60
theorem afP:Ig Tryz.prog cN X2:=fun f args heap next r h=>pz 3000 Kf tT (M:=rO Sq) (Cv Sp) 60 f args heap next r h
theorem X0:ag 11 [] (bv true):=afP _ _ _ _ _ (by kernel_rfl)
def AD (o:Nat) (l:List ap) (k:Int):Heap:=[(.out o,.cells [.dat (.slice l),iv k])]
theorem LH (x:Int) {n:Nat} (hn:0 < n):∃j:Nat,x % Int.ofNat n=Int.ofNat j/\j < n:=by
 have h0:=Int.emod_nonneg x (show Int.ofNat n≠0 from fun h=>absurd (Int.ofNat.inj (h.trans (show (0:Int)=Int.ofNat 0 from rfl))) (by omega));have h2:=Int.emod_lt_of_pos x (show (0:Int) < Int.ofNat n from Int.ofNat_lt.2 hn);exact⟨(x % Int.ofNat n).toNat,(Int.toNat_of_nonneg h0).symm,(Int.toNat_lt h0).2 h2⟩
theorem Pm {g:FuncId} {args args2:List ac} {v:ac} {l:List ap} {k k2:Int} (o m:Nat) (pre post:Heap) (h:KC g args (fP l k) 1 (XQ ⟨v,fP l k2,1⟩)) (ha:dM 1 args=false) (he:gD (fun _=>o) args=args2) (hv:fg (iG (fun _=>o) 1 m) v=v) :
  KC g args2 (pre++(AD o l k++post)) m (XQ ⟨v,pre++(AD o l k2++post),m⟩):=by
 have e1:∀(k:Int) (ρ:Nat->Nat),ρ 0=o->lk ρ (fP l k)=AD o l k:=by
  intro k ρ h0;simp[fP,AD,lk,mC,qT,gD,fg,h0]
 have hf:=aB.frame h (fun _=>o) (heap:=pre++(AD o l k++post)) (rest:=pre++post) (next:=m) (by
  rw[e1 _ _ rfl];rw[←List.append_assoc,←List.append_assoc];exact List.Perm.append_right _ List.perm_append_comm) (by rfl) (by simp[cG,fP,lY,dM,dB]) (by rfl) ha
 rw[he] at hf;refine aB.jf hf ?_;rintro v' h' m' ⟨v0,h1,n1,⟨rfl,rfl,rfl⟩,rfl,rfl,rfl⟩;rw[hv,e1 _ _ rfl];refine⟨pre++(AD o l k2++post),?_,rfl,rfl,rfl⟩;rw[←List.append_assoc,←List.append_assoc];exact List.Perm.append_right _ List.perm_append_comm
theorem BY:(Ty.mk 0 [] 0 []).thin:=by simp only[Ty.thin,fT,List.length_nil];exact⟨by omega,trivial⟩
theorem MO {ds:List aQ} (hds:∀o∈ds,o.cB) (hu:Up ds) {t:Ty} {B:Nat} (h:Gd B t) (nm:List UInt8):(tOf (sM ds t nm)).thin:=by
 obtain⟨n,_,_,he⟩:=yR hu nm (ds.length+1) t (tg ds t);have g:=EA hds h n;unfold sM
 rcases he with⟨_,e⟩|⟨_,_,e⟩|⟨_,_,_,e⟩
 ·rw[e];exact BY
 ·rw[e];exact g.thin
 rw[e];exact BY
theorem EL {ds:List aQ} (hds:∀o∈ds,o.cB) {t:Ty} {B:Nat} (h:Gd B t):(∀f∈xP (fF ds t),f.ty.thin)/\(xP (fF ds t)).length < 1000000000:=by
 have hd:=HG hds t.nm;unfold fF
 cases aP t.kind 2 with
 | false=>exact⟨fun f hf=>by simp[xP] at hf,by simp[xP]⟩
 | true=>
  cases fx ds t with
  | false=>exact⟨fun f hf=>by simp[xP] at hf,by simp[xP]⟩
  | true=>
   cases (iO (aD ds t.nm)).con with
   | false=>exact⟨fun f hf=>by simp[xP] at hf,by simp[xP]⟩
   | true=>
    refine⟨?_,?_⟩
    ·intro f hf;obtain⟨g,hg,rfl⟩:=List.mem_map.1 hf;have gg:=yw (hd.2.1 g hg);exact (inst_thin (ls:=t.args) (fun x hx=>⟨pZ (uQ h.thin) x hx,vw (CQ h.ix) x hx⟩) g.ty 0 gg.thin gg.ix).1
    show (instFs t.args (iO (aD ds t.nm)).fl).length < _;rw[instFs_length];exact hd.2.2
theorem Gd.more {B C:Nat} {t:Ty} (h:Gd B t) (hb:B<=C):Gd C t:=⟨h.thin,h.ix,by have:=h.depth;omega⟩
def Yc:List UInt8:=[65,110,121]
noncomputable def Xi:Hints:=⟨ao,CB,aq,rowsOf aq 25⟩
def tF (dn:List UInt8) (ar k:Int) (sn:List UInt8) (ix:Int) (sa:List ap) (con:Bool) (lb:List ap):Heap:=[(.loc 7,.cells [.dat (sb dn),iv ar,iv k,.dat (sb sn),iv ix,.dat (sl sa),bv con,.dat (sl lb)])]
def sO (cs:List ap) (es:List (Go.Value×ap)) (n:Nat) (nm:List UInt8) (ok:Bool) (lo:Heap):ab:=
 ⟨[(8,bv ok),(7,.ptr (.loc 7) 0),(1,.dat (sb nm)),(0,hP)],lo,hG 2 (av cs) es n,3⟩
def IG (cs:List ap) (es:List (Go.Value×ap)) (n:Nat) (nm:List UInt8) (ok:Bool) (lo:Heap):ab:=
 ⟨[(27,bv false),(8,bv ok),(7,.ptr (.loc 7) 0),(1,.dat (sb nm)),(0,hP)],lo,hG 2 (av cs) es n,3⟩
theorem UF {cs:List ap} {es:List (Go.Value×ap)} {n:Nat} {nm dn sn:List UInt8} {ar k ix:Int} {sa lb:List ap} {con:Bool} {T:Exit->aa->Prop}
  (e:T (.exit 0) ((IG cs es n nm false (tF dn ar k sn ix sa con lb)).aw Tryz.f25.ntmps)) :
  KD (roundOf Tryz.f25 0) T ((sO cs es n nm false (tF dn ar k sn ix sa con lb)).aw Tryz.f25.ntmps):=by
 refine aC [] [] (H:=Xi) (live:=ph) (by kernel_rfl) ?_;exact oe e
theorem Yd {cs:List ap} {es:List (Go.Value×ap)} {n:Nat} {nm dn sn:List UInt8} {ar k ix:Int} {sa lb:List ap} {con c d:Bool} (h1:dU dn nm=c) (h2:aP k 2=d) (h3:(!c&&d)=false) {T:Exit->aa->Prop}
  (e:T (.exit 0) ((IG cs es n nm true (tF dn ar k sn ix sa con lb)).aw Tryz.f25.ntmps)) :
  KD (roundOf Tryz.f25 0) T ((sO cs es n nm true (tF dn ar k sn ix sa con lb)).aw Tryz.f25.ntmps):=by
 cases c
 ·have h3:d=false:=h3;subst h3;refine aC [20,26] [] (H:=Xi) (live:=ph) (by kernel_rfl) ?_;refine ox h1 ?_;refine ob h2 ?_;exact oe e
 clear h2 h3;refine aC [20] [] (H:=Xi) (live:=ph) (by kernel_rfl) ?_;refine ox h1 ?_;exact oe e
theorem acU {cs:List ap} {es:List (Go.Value×ap)} {n:Nat} {nm dn sn dn2 sn2:List UInt8} {ar k ix ar2 k2 ix2:Int} {sa lb sa2 lb2:List ap} {con con2 ok2:Bool} (h1:dU dn nm=false) (h2:aP k 2=true)
  (hf:cR 49 [hP,.dat (sb sn)] cs es n (.tup [.dat (eh dn2 ar2 k2 sn2 ix2 sa2 con2 lb2),bv ok2])) {T:Exit->aa->Prop}
  (e:T .normal ((sO cs es n nm ok2 (tF dn2 ar2 k2 sn2 ix2 sa2 con2 lb2)).aw Tryz.f25.ntmps)) :
  KD (roundOf Tryz.f25 0) T ((sO cs es n nm true (tF dn ar k sn ix sa con lb)).aw Tryz.f25.ntmps):=by
 refine aC [20,26] [] (H:=Xi) (live:=ph) (by kernel_rfl) ?_;refine ox h1 ?_;refine ob h2 ?_;refine oh hf ?_
 rcases sa2 with _|⟨v2,v3⟩
 ·rcases lb2 with _|⟨v0,v1⟩ <;>
  ·exact oe e
 rcases lb2 with _|⟨v4,v5⟩ <;>
 ·exact oe e
theorem Ye {cs:List ap} {es:List (Go.Value×ap)} {n:Nat} {nm of dn sn dn2 sn2:List UInt8} {ar k ix ar2 k2 ix2:Int} {sa lb sa2 lb2:List ap} {con con2 ok ok2 c a:Bool}
  (hf:cR 49 [hP,.dat (sb of)] cs es n (.tup [.dat (eh dn ar k sn ix sa con lb),bv ok]))
  (hl:KD (.loop (roundOf Tryz.f25 0)) (fun e s=>e=.exit 0/\s=(IG cs es n nm ok2 (tF dn2 ar2 k2 sn2 ix2 sa2 con2 lb2)).aw Tryz.f25.ntmps) ((sO cs es n nm ok (tF dn ar k sn ix sa con lb)).aw Tryz.f25.ntmps))
  (h1:dU dn2 nm=c) (h2:dU nm Yc=a) :
  cR 25 [hP,.dat (sb nm),.dat (sb of)] cs es n (bv (ok2&&(c||a))):=by
 have hg:=fun b=>US (bv b) cs es n rfl
 have hg1:=hg true;have hg2:=hg false
 cases ok2 with
 | false=>
  clear h1 h2;refine co [] [] (x:=.of Tryz.f25 CB ph) ?_;refine oh hf ?_
  rcases sa with _|⟨v2,v3⟩
  ·rcases lb with _|⟨v0,v1⟩ <;>
   ·refine lo hl ?_;rintro ex s ⟨rfl,rfl⟩;refine⟨_,rfl,?_⟩;exact bh (by kernel_rfl) hg2
  rcases lb with _|⟨v4,v5⟩ <;>
  ·refine lo hl ?_;rintro ex s ⟨rfl,rfl⟩;refine⟨_,rfl,?_⟩;exact bh (by kernel_rfl) hg2
 | true=>
  cases c
  ·have h3:qJ 3 ⟨bv a,hG 2 (av cs) es n,3⟩=⟨bv a,hG 2 (av cs) es n,3⟩:=hg a;refine co [41,44] [] (x:=.of Tryz.f25 CB ph) ?_;refine oh hf ?_
   rcases sa with _|⟨v2,v3⟩
   ·rcases lb with _|⟨v0,v1⟩ <;>
    ·refine lo hl ?_;rintro ex s ⟨rfl,rfl⟩;refine⟨_,rfl,?_⟩;refine ob h1 ?_;refine ob h2 ?_
     cases a
     ·exact bh (by kernel_rfl) hg2
     exact bh (by kernel_rfl) hg1
   rcases lb with _|⟨v4,v5⟩ <;>
   ·refine lo hl ?_;rintro ex s ⟨rfl,rfl⟩;refine⟨_,rfl,?_⟩;refine ob h1 ?_;refine ob h2 ?_
    cases a
    ·exact bh (by kernel_rfl) hg2
    exact bh (by kernel_rfl) hg1
  clear h2;refine co [41] [] (x:=.of Tryz.f25 CB ph) ?_;refine oh hf ?_
  rcases sa with _|⟨v2,v3⟩
  ·rcases lb with _|⟨v0,v1⟩ <;>
   ·refine lo hl ?_;rintro ex s ⟨rfl,rfl⟩;refine⟨_,rfl,?_⟩;refine ob h1 ?_;exact bh (by kernel_rfl) hg1
  rcases lb with _|⟨v4,v5⟩ <;>
  ·refine lo hl ?_;rintro ex s ⟨rfl,rfl⟩;refine⟨_,rfl,?_⟩;refine ob h1 ?_;exact bh (by kernel_rfl) hg1
def kT (ds:List aQ) (of:List UInt8):Nat->List UInt8
 | 0=>of
 | i+1=>(iO (aD ds (kT ds of i))).sup.nm
theorem Gi (ds:List aQ) (of:List UInt8):∀i,kT ds (iO (aD ds of)).sup.nm i=kT ds of (i+1)
 | 0=>rfl
 | i+1=>by
  show (iO (aD ds (kT ds (iO (aD ds of)).sup.nm i))).sup.nm=_;rw[Gi ds of i];rfl
def qP (ds:List aQ):Nat->List UInt8->List UInt8->Bool
 | 0,_,_=>false
 | f+1,nm,of=>match aD ds of with
  | none=>false
  | some d=>match dU d.nm nm with
   | true=>true
   | false=>match aP d.sup.kind 2 with
    | true=>qP ds f nm d.sup.nm
    | false=>dU nm Yc
def H9 (ds:List aQ) (nm of:List UInt8):Bool:=qP ds (ds.length+1) nm of
def wD (ds:List aQ) (of:List UInt8):Nat:=match fX ds of with|some p=>p+1|none=>0
theorem zE (ds:List aQ) (of:List UInt8):wD ds of < ds.length+1:=by
 unfold wD
 cases h:fX ds of with
 | none=>exact Nat.succ_pos _
 | some p=>have:=DN h;show p+1 < _;omega
theorem AR {ds:List aQ} {nm:List UInt8} {d:aQ} (h:aD ds nm=some d):∃p,fX ds nm=some p/\ds[p]?=some d:=by
 cases hp:fX ds nm with
 | none=>rw[qf hp] at h;simp at h
 | some p=>
  obtain⟨e,h1,h2,_⟩:=jK hp;rw[h2] at h;simp at h;subst h;exact⟨p,rfl,h1⟩
theorem F5 {ds:List aQ} (hu:Up ds) {of:List UInt8} {d:aQ} (h:aD ds of=some d) (hk:aP d.sup.kind 2=true):wD ds d.sup.nm < wD ds of:=by
 obtain⟨p,h1,h2⟩:=AR h;obtain⟨j,h3,h4⟩:=hu.up p d h2 hk;unfold wD;rw[h1,h3];show j+1 < p+1;omega
theorem H8 {ds:List aQ} (hu:Up ds) (nm:List UInt8):∀(f:Nat) (of:List UInt8),wD ds of < f->∃n,n < f ∧
  (∀i,i < n->∃d,aD ds (kT ds of i)=some d/\dU d.nm nm=false/\aP d.sup.kind 2=true) ∧
  ((aD ds (kT ds of n)=none/\qP ds f nm of=false)∨∃d,aD ds (kT ds of n)=some d/\(!(dU d.nm nm)&&aP d.sup.kind 2)=false/\qP ds f nm of=(dU d.nm nm||dU nm Yc))
 | 0,of,h=>by omega
 | f+1,of,h=>by
  cases hf:aD ds of with
  | none=>exact⟨0,by omega,fun i hi=>by omega,.inl ⟨hf,by rw[qP,hf]⟩⟩
  | some d=>
   cases hc:dU d.nm nm with
   | true=>exact⟨0,by omega,fun i hi=>by omega,.inr ⟨d,hf,by rw[hc];rfl,by rw[qP,hf];simp only[hc,Bool.true_or]⟩⟩
   | false=>
    cases hk:aP d.sup.kind 2 with
    | false=>exact⟨0,by omega,fun i hi=>by omega,.inr ⟨d,hf,by rw[hk];simp,by rw[qP,hf];simp only[hc,hk,Bool.false_or]⟩⟩
    | true=>
     have hr:=F5 hu hf hk;obtain⟨n,h1,h2,h3⟩:=H8 hu nm f d.sup.nm (by omega);have e:∀i,kT ds d.sup.nm i=kT ds of (i+1):=fun i=>by
      have:=Gi ds of i
      rw[hf] at this;exact this
     refine⟨n+1,by omega,?_,?_⟩
     ·intro i hi
      cases i with
      | zero=>exact⟨d,hf,hc,hk⟩
      | succ i=>rw[←e];exact h2 i (by omega)
     rw[←e,qP,hf];simp only[hc,hk];exact h3
theorem Zf {ds:List aQ} {tl:List ap} (hu:Up ds) (nm of:List UInt8):og 25 [hP,.dat (sb nm),.dat (sb of)] ds tl (bv (H9 ds nm of)):=by
 obtain⟨n,hn2,hg,he⟩:=H8 hu nm (ds.length+1) of (zE ds of)
 let lo (d:aQ):Heap:=tF d.nm d.ar d.sup.kind d.sup.nm d.sup.Et (au d.sup.args) d.con (aJ d.fl)
 let fd (i:Nat):Option aQ:=aD ds (kT ds of i)
 have main:∀{T:Exit->aa->Prop},(KD (roundOf Tryz.f25 0) (lm (fun _=>False) T) ((sO (bK ds++tl) (bE ds 0) ds.length nm (eg (fd n)) (lo (iO (fd n)))).aw Tryz.f25.ntmps))->
   KD (.loop (roundOf Tryz.f25 0)) T ((sO (bK ds++tl) (bE ds 0) ds.length nm (eg (fd 0)) (lo (iO (fd 0)))).aw Tryz.f25.ntmps):=by
  intro T hlast;refine bb (St:=fun i=>(sO (bK ds++tl) (bE ds 0) ds.length nm (eg (fd i)) (lo (iO (fd i)))).aw Tryz.f25.ntmps) n ?_ hlast (i:=0) (Nat.zero_le _);intro i hi;obtain⟨d,g1,g2,g3⟩:=hg i hi;have hf:=nW ds tl d.sup.nm;have e:fd (i+1)=aD ds d.sup.nm:=by
   show aD ds (iO (aD ds (kT ds of i))).sup.nm=_;rw[g1];rfl
  rw[e,show fd i=some d from g1];generalize aD ds d.sup.nm=o at hf;show KD (roundOf Tryz.f25 0) _ ((sO (bK ds++tl) (bE ds 0) ds.length nm true (lo d)).aw Tryz.f25.ntmps);generalize eg o=ok2 at hf;generalize iO o=d2 at hf;obtain⟨dn,ar,⟨sk,sn,six,sa⟩,con,fl⟩:=d;obtain⟨dn2,ar2,⟨sk2,sn2,six2,sa2⟩,con2,fl2⟩:=d2;exact acU g2 g3 hf rfl
 have hf0:=nW ds tl of;unfold H9;have all:∀{ok2 c a:Bool} {d2:aQ},eg (fd n)=ok2->iO (fd n)=d2->dU d2.nm nm=c->dU nm Yc=a->(ok2=true->(!c&&aP d2.sup.kind 2)=false)->
   og 25 [hP,.dat (sb nm),.dat (sb of)] ds tl (bv (ok2&&(c||a))):=by
  intro ok2 c a d2 e1 e2 e3 e4 e5;have m:=@main;rw[e1,e2] at m;have hf0:cR 49 [hP,.dat (sb of)] (bK ds++tl) (bE ds 0) ds.length (.tup [.dat (iO (fd 0)).enc,bv (eg (fd 0))]):=hf0;generalize iO (fd 0)=d0 at m hf0;generalize eg (fd 0)=ok0 at m hf0;obtain⟨dn,ar,⟨sk,sn,six,sa⟩,con,fl⟩:=d0;obtain⟨dn2,ar2,⟨sk2,sn2,six2,sa2⟩,con2,fl2⟩:=d2;refine Ye (dn2:=dn2) (sn2:=sn2) (ar2:=ar2) (k2:=sk2) (ix2:=six2) (sa2:=au sa2) (con2:=con2) (lb2:=aJ fl2) hf0 (m ?_) e3 e4
  cases ok2 with
  | false=>exact UF ⟨rfl,rfl⟩
  | true=>exact Yd e3 rfl (e5 rfl) ⟨rfl,rfl⟩
 rcases he with⟨g1,e⟩|⟨d,g1,g2,e⟩
 ·rw[e];have h:=all (ok2:=false) (d2:=aQ.zero) (by show eg (aD ds (kT ds of n))=_;rw[g1];rfl) (by show iO (aD ds (kT ds of n))=_;rw[g1];rfl) rfl rfl (fun h=>by simp at h);exact h
 rw[e];have h:=all (ok2:=true) (d2:=d) (by show eg (aD ds (kT ds of n))=_;rw[g1];rfl) (by show iO (aD ds (kT ds of n))=_;rw[g1];rfl) rfl rfl (fun _=>g2);exact h
end Go.Proofs.YtiihadmgkoamoaaGreatDoor
namespace Go.Proofs
open Go.Shelf
def Tryz.NL:Go.Shelf.Ren:=⟨fun|22=>180|29=>194|30=>195|36=>203|17=>205|n=>n,fun|24=>60|9=>9|3=>3|4=>4|0=>0|n=>n,fun|n=>n⟩
theorem Tryz.YY:Go.Proofs.Lays2.n22 Tryz.prog Tryz.NL:={
 mixed:=by kernel_rfl
 f17:=Tryz.func205.trans (congrArg some (by kernel_rfl))
 f22:=Tryz.func180.trans (congrArg some (by kernel_rfl))
 f29:=Tryz.func194.trans (congrArg some (by kernel_rfl))
 f30:=Tryz.func195.trans (congrArg some (by kernel_rfl))
 f36:=Tryz.func203.trans (congrArg some (by kernel_rfl))
 t0:=Tryz.underlying0
 a0:=Tryz.isAgg0
 z0:=Tryz.sizeOf0
 v0:=Tryz.zeroValue0
 t3:=Tryz.underlying3
 a3:=Tryz.isAgg3
 z3:=Tryz.sizeOf3
 v3:=Tryz.zeroValue3
 t4:=Tryz.underlying4
 a4:=Tryz.isAgg4
 z4:=Tryz.sizeOf4
 v4:=Tryz.zeroValue4
 t9:=Tryz.underlying9
 a9:=Tryz.isAgg9
 z9:=Tryz.sizeOf9
 v9:=Tryz.zeroValue9
 t24:=Tryz.underlying60
 a24:=Tryz.isAgg60
 z24:=Tryz.sizeOf60
 v24:=Tryz.zeroValue60
 i9:=by kernel_rfl }
def Tryz.Uo:Go.Shelf.Ren:=⟨fun|26=>179|33=>158|34=>193|38=>172|n=>n,fun|24=>60|9=>9|3=>3|4=>4|40=>157|0=>0|n=>n,fun|n=>n⟩
theorem Tryz.ags:Go.Proofs.Lays2.n26 Tryz.prog Tryz.Uo:={
 mixed:=by kernel_rfl
 f26:=Tryz.func179.trans (congrArg some (by kernel_rfl))
 f33:=Tryz.func158.trans (congrArg some (by kernel_rfl))
 f34:=Tryz.func193.trans (congrArg some (by kernel_rfl))
 f38:=Tryz.func172.trans (congrArg some (by kernel_rfl))
 t0:=Tryz.underlying0
 a0:=Tryz.isAgg0
 z0:=Tryz.sizeOf0
 v0:=Tryz.zeroValue0
 t3:=Tryz.underlying3
 a3:=Tryz.isAgg3
 z3:=Tryz.sizeOf3
 v3:=Tryz.zeroValue3
 t4:=Tryz.underlying4
 a4:=Tryz.isAgg4
 z4:=Tryz.sizeOf4
 v4:=Tryz.zeroValue4
 t9:=Tryz.underlying9
 a9:=Tryz.isAgg9
 z9:=Tryz.sizeOf9
 v9:=Tryz.zeroValue9
 t24:=Tryz.underlying60
 a24:=Tryz.isAgg60
 z24:=Tryz.sizeOf60
 v24:=Tryz.zeroValue60
 t40:=Tryz.underlying157
 a40:=Tryz.isAgg157
 z40:=Tryz.sizeOf157
 v40:=Tryz.zeroValue157 }
end Go.Proofs
namespace Go.Tp
open Go.Proofs Go.Shelf Go.RowKit
theorem Ai:∀x y:List UInt8,mu x y=decide (x < y)
 | [],[]=>by simp[mu]
 | [],_::_=>by simp[mu]
 | _::_,[]=>by simp[mu]
 | a::x,b::y=>by
  have ih:=Ai x y;simp only[mu,Ur,KG,ih]
  by_cases h1:a < b
  ·simp[h1,List.cons_lt_cons_iff]
  by_cases h2:a=b
  ·subst h2;simp[List.cons_lt_cons_iff]
  have h3:(a==b)=false:=by simpa using h2
  simp[h1,h2,h3,List.cons_lt_cons_iff]
theorem vq {x y z:List UInt8} (h:mu x y=true) (k:mu y z=true):mu x z=true:=by
 simp only[Ai,decide_eq_true_eq] at *;exact List.lt_trans h k
theorem D9 (x:List UInt8):mu x x=false:=by
 simp only[Ai,decide_eq_false_iff_not];exact List.lt_irrefl x
theorem LJ {x y:List UInt8} (h:mu x y=false) (k:mu y x=false):x=y:=by
 simp only[Ai,decide_eq_false_iff_not,List.not_lt] at *;exact List.le_antisymm k h
def rA (l:List (List UInt8)):Prop:=l.Pairwise (fun a b=>mu a b=true)
def jV (l:List (List UInt8)) (x:List UInt8):Nat:=l.countP (fun y=>mu y x)
theorem uj {l:List (List UInt8)} {x:List UInt8}:jV l x<=l.length:=List.countP_le_length
theorem qB {l:List (List UInt8)} {x:List UInt8} (hs:rA l):∀{t:Nat} {y:List UInt8},l[t]?=some y->mu y x=decide (t < jV l x):=by
 induction l with
 | nil=>intro t y h;simp at h
 | cons a r ih=>
  have ih:=fun {t y}=>@ih (List.Pairwise.of_cons hs) t y
  intro t y h;unfold jV at ih ⊢
  cases ha:mu a x with
  | true=>
   rw[List.countP_cons_of_pos (p:=fun y=>mu y x) ha]
   cases t with
   | zero=>simp at h;subst h;rw[ha];simp
   | succ t=>simp at h;rw[ih h];simp
  | false=>
   have h0:∀y∈a::r,mu y x=false:=by
    intro y hy
    rcases List.mem_cons.1 hy with rfl|hy
    ·exact ha
    have h1:mu a y=true:=List.rel_of_pairwise_cons hs hy
    cases h2:mu y x with
    | false=>rfl
    | true=>rw[vq h1 h2] at ha;exact absurd ha (by simp)
   have e:(a::r).countP (fun y=>mu y x)=0:=by
    rw[List.countP_eq_zero];intro y hy;rw[h0 y hy];simp
   rw[e,h0 y (List.mem_of_getElem? h)];simp
theorem aaD {l:List (List UInt8)} {x:List UInt8} (hs:rA l):l.contains x=decide (l[jV l x]?=some x):=by
 cases hc:l.contains x with
 | true=>
  have hm:x∈l:=by simpa using hc
  obtain⟨t,ht,he⟩:=List.mem_iff_getElem.1 hm;have ht':l[t]?=some x:=by rw[List.getElem?_eq_getElem ht,he]
  have h1:=qB (x:=x) hs ht';rw[D9] at h1;have h1:¬t < jV l x:=by simpa using h1.symm
  rcases Nat.lt_or_ge (jV l x) t with h2|h2
  ·have hlt:jV l x < l.length:=by omega
   have h3:mu l[jV l x] l[t]=true:=List.pairwise_iff_getElem.1 hs _ _ hlt ht h2;have h4:=qB (x:=x) hs (List.getElem?_eq_getElem hlt);rw[he] at h3;rw[h3] at h4;simp at h4
  have:jV l x=t:=by omega
  rw[this,ht'];simp
 | false=>
  symm;rw[decide_eq_false_iff_not];intro h;have hm:x∈l:=List.mem_of_getElem? h;rw[List.contains_iff_mem.2 hm] at hc;simp at hc
theorem E8 {p:Nat->Bool} {c n:Nat} (h1:∀t,t < c->p t=true) (h2:∀t,c<=t->t < n->p t=false):∀(f lo hi:Nat),lo<=c->c<=hi->hi<=n->hi - lo<=f->Lib.bsGo p f lo hi=c
 | 0,lo,hi,a,b,d,e=>by simp only[Lib.bsGo];omega
 | f+1,lo,hi,a,b,d,e=>by
  by_cases hlt:lo < hi
  ·simp only[Lib.bsGo,hlt,if_true]
   rcases Nat.lt_or_ge ((lo+hi) / 2) c with h|h
   ·rw[h1 _ h];simp only[if_true];exact E8 h1 h2 f _ _ (by omega) b d (by omega)
   rw[h2 _ h (by omega)];simp only[Bool.false_eq_true,if_false];exact E8 h1 h2 f _ _ a h (by omega) (by omega)
  simp only[Lib.bsGo,hlt,if_false];omega
def xD (l:List (List UInt8)):List ac:=l.map (fun s=>.dat (.flat (.string ⟨⟨s⟩⟩)))
def cF (l:List (List UInt8)):List Value:=l.map (fun s=>Value.string ⟨⟨s⟩⟩)
section
variable {w:World} {R:Own} {N:Name->Option Nat}
theorem jl:∀{l:List (List UInt8)} {us:List Value} {bs:List Nat},ak w R N (xD l) us bs->us=cF l/\bs=[]/\∀x∈l,bH (.string ⟨⟨x⟩⟩)=true
 | [],us,bs,h=>by obtain⟨rfl,rfl⟩:=aS h;simp[cF]
 | x::l,us,bs,h=>by
  have h:ak w R N (.dat (.flat (.string ⟨⟨x⟩⟩))::xD l) us bs:=h;obtain⟨v,vs',b1,b2,rfl,rfl,h1,h2⟩:=az h;obtain⟨rfl,rfl,h3⟩:=jl h2;simp only[al] at h1;obtain⟨rfl,h1⟩:=h1;have h1:dO w R v (.flat (.string ⟨⟨x⟩⟩)):=h1
  cases h1 with
  | flat hf=>exact⟨rfl,rfl,by rintro y hy;rcases List.mem_cons.1 hy with rfl|hy;exact hf;exact h3 y hy⟩
theorem Ax:∀{l:List (List UInt8)},(∀x∈l,bH (.string ⟨⟨x⟩⟩)=true)->ak w R N (xD l) (cF l) []
 | [],_=>aX
 | x::l,h=>by
  have h1:al w R N (.dat (.flat (.string ⟨⟨x⟩⟩))) (.string ⟨⟨x⟩⟩) []:=by
   simp only[al];exact⟨trivial,.flat (h x (by simp))⟩
  exact aG (b1:=[]) (b2:=[]) h1 (Ax (l:=l) (fun y hy=>h y (by simp[hy])))
theorem nH {l:List (List UInt8)}:∀v∈cF l,v.oneCell'=true:=by
 intro v hv;obtain⟨x,_,rfl⟩:=List.mem_map.1 hv;rfl
theorem aaA {l:List (List UInt8)} {j:Nat} {v:Value} (h:(cF l)[j]?=some v):∃x,l[j]?=some x/\v=.string ⟨⟨x⟩⟩:=by
 simp only[cF,List.getElem?_map,Option.map_eq_some_iff] at h;obtain⟨x,h1,h2⟩:=h;exact⟨x,h1,h2.symm⟩
end
section
variable {P:Program} {ρ:Ren} {G:bL}
theorem Kt (L:Lays2.n26 P ρ) {l:List (List UInt8)} {x:List UInt8} (hs:rA l) (hn:l.length < 1000000000) :
  aB P G (ρ.f 26) [.win (.out 0) 1 0 l.length,.dat (.flat (.string ⟨⟨x⟩⟩))] [(.out 0,.cells (xD l))] 1 (XQ ⟨.tup [iv (Int.ofNat (jV l x)),bv (l.contains x)],[(.out 0,.cells (xD l))],1⟩):=by
 intro w R N cargs bsA bsH bsF hargs hheap hnd hnx hglob hF;obtain⟨v0,r1,c0,d1,rfl,rfl,h0,hr1⟩:=az hargs;obtain⟨v1,r2,c1,d2,rfl,rfl,h1,hr2⟩:=az hr1;obtain⟨rfl,rfl⟩:=aS hr2;have hheap0:=hheap;obtain⟨b,b1,b2,rfl,hb,hobj,hrest⟩:=hheap;have hrest:b2=[]:=hrest;subst hrest;obtain⟨vs,elem,sp,hblk,hrv,hRv,_⟩:=hobj;simp only[al] at h0 h1;obtain⟨rfl,b',cap,hb',rfl,hcap,_,hblt,hrow⟩:=h0
 have:b'=b:=by rw[hb] at hb';simpa using hb'.symm
 subst this;obtain⟨rfl,h1⟩:=h1;have h1:dO w R v1 (.flat (.string ⟨⟨x⟩⟩)):=h1;have e1:v1=.string ⟨⟨x⟩⟩:=by cases h1 with|flat _=>rfl
 have hfx:bH (.string ⟨⟨x⟩⟩)=true:=by cases h1 with|flat h=>exact h
 subst e1;obtain⟨us1,us2,q1,q2,hus,rfl,hr1,_⟩:=cU hrv;obtain⟨rfl,rfl,hfl⟩:=jl hr1;have hcell:∀j,j < l.length->w.cell? ⟨b',0+j,none⟩=some (.string ⟨⟨l.getD j []⟩⟩):=by
  intro j hj;refine eJ hblk ?_;rw[hus,Nat.zero_add,List.getElem?_append_left (by simp[cF];exact hj)];simp[cF,hj]
 refine (Any2.slices_BinarySearch_string L b' 0 l.length cap (fun j=>⟨⟨l.getD j []⟩⟩) ⟨⟨x⟩⟩ w (by omega) hcell).mono ?_;rintro e w' ⟨rfl,q,rfl⟩;have hp:(fun t=>Op.bytesLess ((fun j=>(⟨⟨l.getD j []⟩⟩:ByteArray)) t).toList (⟨⟨x⟩⟩:ByteArray).toList)=fun t=>mu (l.getD t []) x:=by
  funext t
  rw[toList_data,toList_data,Jr]
 have hI:Lib.bsGo (fun t=>Op.bytesLess ((fun j=>(⟨⟨l.getD j []⟩⟩:ByteArray)) t).toList (⟨⟨x⟩⟩:ByteArray).toList) l.length 0 l.length=jV l x:=by
  rw[hp];refine E8 (fun t ht=>?_) (fun t h1 h2=>?_) _ _ _ (Nat.zero_le _) uj (Nat.le_refl _) (by omega)
  ·have hl:t < l.length:=Nat.lt_of_lt_of_le ht uj;have hg:=List.getElem?_eq_getElem hl;rw[List.getD_eq_getElem?_getD,hg,Option.getD_some,qB hs hg];simpa using ht
  have hg:=List.getElem?_eq_getElem h2;rw[List.getD_eq_getElem?_getD,hg,Option.getD_some,qB hs hg];simpa using h1
 rw[hI];have hD:decide (jV l x < l.length/\(fun j=>(⟨⟨l.getD j []⟩⟩:ByteArray)) (jV l x)=⟨⟨x⟩⟩)=l.contains x:=by
  rw[aaD hs];show decide (jV l x < l.length/\(⟨⟨l.getD (jV l x) []⟩⟩:ByteArray)=⟨⟨x⟩⟩)=_
  by_cases hl:jV l x < l.length
  ·have hg:=List.getElem?_eq_getElem hl;rw[List.getD_eq_getElem?_getD,hg,Option.getD_some];simp[hl]
  rw[List.getElem?_eq_none (by omega)];simp[hl]
 rw[hD];have hk:∀bs,bz w R (w.drewN q) R bs:=Au q;refine⟨_,_,_,1,R,N,[],_,rfl,⟨rfl,rfl,rfl⟩,?_,hheap0.keep (hk _),by simpa using hnd,hnx,hk _,fun _ _ h=>h⟩;have hi:∀n:Nat,n < 9223372036854775808->bH (.int .i64 (Int.ofNat n))=true:=by
  intro n hn;simp[bH,IntKind.min,IntKind.max,IntKind.signed,IntKind.bits];omega
 have hcnt:jV l x<=l.length:=uj;simp only[al];refine⟨[.int .i64 (Int.ofNat (jV l x)),.bool (l.contains x)],rfl,?_⟩;refine aG (b1:=[]) (b2:=[]) ?_ (aG (b1:=[]) (b2:=[]) ?_ aX)
 ·simp only[al];exact⟨trivial,.flat (hi _ (by omega))⟩
 simp only[al];exact⟨trivial,.flat rfl⟩
def eU (l:List (List UInt8)) (i:Nat) (x:List UInt8):List (List UInt8):=l.take i++x::l.drop i
theorem pn {l:List (List UInt8)} {i:Nat} {x:List UInt8} (h:i<=l.length):(eU l i x).length=l.length+1:=by simp[eU];omega
theorem ku {l:List (List UInt8)} {i:Nat} {x:List UInt8}:cF (eU l i x)=(cF l).take i++.string ⟨⟨x⟩⟩::(cF l).drop i:=by simp[eU,cF,List.map_take,List.map_drop]
theorem Ev {l:List (List UInt8)} {i:Nat} {x:List UInt8} (h:∀y∈l,bH (.string ⟨⟨y⟩⟩)=true) (hx:bH (.string ⟨⟨x⟩⟩)=true):∀y∈eU l i x,bH (.string ⟨⟨y⟩⟩)=true:=by
 intro y hy;simp only[eU,List.mem_append,List.mem_cons] at hy
 rcases hy with hy|rfl|hy
 ·exact h y (List.mem_of_mem_take hy)
 ·exact hx
 exact h y (List.mem_of_mem_drop hy)
theorem NI (l:List (List UInt8)):cM (xD l)=false:=by
 rcases l with _|⟨a,_|⟨b,_|⟨c,r⟩⟩⟩ <;> rfl
theorem qp {w w':World} {R R':Own} {N:Name->Option Nat} {vb g cap:Nat} {elem:TypeId} {arr rest:List Value} {l2:List (List UInt8)} {x:List UInt8} {bsF:List Nat}
  (hnx:∀o b,N (.out o)=some b->o < 2) (hk:∀bs,g∉bs->bz w R w' R' bs) (hgF:g∉bsF) (hgv:g≠vb) (hnd:(vb::bsF).Nodup)
  (hg:w'.heap[g]?=some (.cells arr.toArray elem (0,0))) (harr:arr=cF l2++rest) (hfl:∀y∈l2,bH (.string ⟨⟨y⟩⟩)=true) (hR':∀j,j < arr.length->R' g j) (hcap:arr.length=cap) (hcm:cap<=gR) (hl2:l2.length<=cap)
  (hv:an w R (outs N) [(.out 1,.cells [.dat (.flat (.string ⟨⟨x⟩⟩))])] [vb]) (cv:Value) (hcv:cv=.slice (some ⟨g,0,none⟩) l2.length cap) :
  ∃v cv' heap' next' R2 N' bsV bsH',Ending.returned cv=.returned cv'/\XQ ⟨.win (.out 2) 1 0 l2.length,[(.out 2,.cells (xD l2)),(.out 1,.cells [.dat (.flat (.string ⟨⟨x⟩⟩))])],3⟩ v heap' next'/\al w' R2 (outs N') v cv' bsV/\an w' R2 (outs N') heap' bsH' ∧
   (bsV++(bsH'++bsF)).Nodup/\(∀o b,N' (.out o)=some b->o < next')/\bz w R w' R2 bsF/\(∀o b,N (.out o)=some b->N' (.out o)=some b):=by
 have hext:=sU (N:=N) (b:=g) hnx;have hlt:g < w'.heap.size:=bw hg;refine⟨_,cv,_,3,R',bN N (.out 2) g,[],[g,vb],rfl,⟨rfl,rfl,rfl⟩,?_,?_,?_,?_,hk bsF hgF,fun o b h=>hext _ _ h⟩
 ·simp only[al];refine⟨trivial,g,cap,by simp[outs,bN],hcv,hl2,⟨by decide,hcm⟩,hlt,?_⟩;rw[dh hg];simp[hcap]
 ·refine⟨g,[],[vb],rfl,by simp[outs,bN],?_,(hv.keep (hk _ (by simpa using hgv))).ext (tv hext)⟩;refine⟨arr.toArray,elem,rest.length,hg,?_,fun j hj=>hR' j (by simpa using hj),fun h=>by rw[NI] at h;simp at h⟩;have h1:ak w' R' (outs (bN N (.out 2) g)) (xD l2) (cF l2) []:=Ax hfl;have h2:=eD (w:=w') (R:=R') (N:=outs (bN N (.out 2) g)) rest;simpa [harr] using cD h1 h2
 ·simp only[List.nil_append,List.cons_append];refine List.nodup_cons.2 ⟨?_,hnd⟩;simp only[List.mem_cons,not_or];exact⟨hgv,hgF⟩
 intro o c ho
 by_cases hne:o=2
 ·omega
 have:N (.out o)=some c:=by simpa [bN,hne] using ho
 have:=hnx o c this
 omega
theorem Kv (L:Lays2.n22 P ρ) {l:List (List UInt8)} {x:List UInt8} {i:Nat} (hi:i<=l.length) (hn:l.length < 1000000000) :
  aB P G (ρ.f 22) [.win (.out 0) 1 0 l.length,iv (Int.ofNat i),.win (.out 1) 1 0 1] [(.out 0,.cells (xD l)),(.out 1,.cells [.dat (.flat (.string ⟨⟨x⟩⟩))])] 2
   (XQ ⟨.win (.out 2) 1 0 (eU l i x).length,[(.out 2,.cells (xD (eU l i x))),(.out 1,.cells [.dat (.flat (.string ⟨⟨x⟩⟩))])],3⟩):=by
 intro w R N cargs bsA bsH bsF hargs hheap hnd hnx hglob hF;obtain⟨v0,r1,c0,d1,rfl,rfl,h0,hr1⟩:=az hargs;obtain⟨v1,r2,c1,d2,rfl,rfl,h1,hr2⟩:=az hr1;obtain⟨v2,r3,c2,d3,rfl,rfl,h2,hr3⟩:=az hr2;obtain⟨rfl,rfl⟩:=aS hr3;obtain⟨b,b1,b2,rfl,hb,hobj,hrest⟩:=hheap;have hrest0:=hrest;obtain⟨vb,b3,b4,rfl,hvb,hobjv,hrest⟩:=hrest;have hrest:b4=[]:=hrest;subst hrest;obtain⟨vs,elem,sp,hblk,hrv,hRv,_⟩:=hobj;obtain⟨vs2,elem2,sp2,hblk2,hrv2,hRv2,_⟩:=hobjv;simp only[al] at h0 h1 h2;obtain⟨rfl,b',cap,hb',rfl,hcap,⟨_,hcm⟩,hblt,hrow⟩:=h0
 have:b'=b:=by rw[hb] at hb';simpa using hb'.symm
 subst this;obtain⟨rfl,vb',vc,hvb',rfl,hvc,_,hvlt,hvrow⟩:=h2
 have:vb'=vb:=by rw[hvb] at hvb';simpa using hvb'.symm
 subst this;obtain⟨rfl,h1⟩:=h1;have h1:dO w R v1 (.flat (.int .i64 (Int.ofNat i))):=h1;have e1:v1=.int .i64 (Int.ofNat i):=by cases h1 with|flat _=>rfl
 subst e1;obtain⟨us1,us2,q1,q2,hus,rfl,hr1,hq2⟩:=cU hrv;obtain⟨rfl,rfl,hfl⟩:=jl hr1;obtain⟨ws1,ws2,q3,q4,hws,rfl,hr2,hq4⟩:=cU hrv2;obtain⟨rfl,rfl,hfx⟩:=jl (l:=[x]) hr2;have hfx:=hfx x (by simp);obtain⟨rfl,_⟩:=iV hq2;obtain⟨rfl,_⟩:=iV hq4;simp only[List.nil_append,List.append_nil,List.cons_append] at hnd;have hvb0:b'≠vb':=by
  have:=(List.nodup_cons.1 hnd).1
  simp only[List.mem_cons,not_or] at this;exact this.1
 have hbF:b'∉bsF:=by
  have:=(List.nodup_cons.1 hnd).1
  simp only[List.mem_cons,not_or] at this;exact this.2
 have hnd2:(vb'::bsF).Nodup:=(List.nodup_cons.1 hnd).2;have hsz:vs.size=cap:=by rw[dh hblk] at hrow;omega
 have hlen:(cF l).length=l.length:=by simp[cF]
 have hl2:(eU l i x).length=l.length+1:=pn hi;have hfl2:=Ev (i:=i) hfl hfx;have hvs:∀j v,[Value.string ⟨⟨x⟩⟩][j]?=some v->w.cell? ⟨vb',0+j,none⟩=some v:=by
  intro j v hj;refine eJ hblk2 ?_;rw[hws]
  cases j with
  | zero=>simpa [cF] using hj
  | succ j=>simp at hj
 have hcs:∀j v,(cF l)[j]?=some v->w.cell? ⟨b',0+j,none⟩=some v:=by
  intro j v hj;refine eJ hblk ?_
  have:j < (cF l).length:=(List.getElem?_eq_some_iff.1 hj).1
  rw[hus,Nat.zero_add,List.getElem?_append_left this];exact hj
 have h1v:∀v∈[Value.string ⟨⟨x⟩⟩],v.oneCell'=true:=by intro v hv;simp at hv;subst hv;rfl
 have hsome:∀j,j < cap->(w.cell? ⟨b',0+j,none⟩).isSome=true:=by
  intro j hj;have hj2:j < vs.toList.length:=by simp;omega
  rw[eJ hblk (v:=vs.toList[j]) (by rw[Nat.zero_add];exact List.getElem?_eq_getElem hj2)];rfl
 have hfroz:∀j,w.frozen? ⟨b',j,none⟩=false:=by intro j;simp[World.frozen?,hblk]
 have hus2:us2.length=cap - l.length:=by
  have:=congrArg List.length hus
  simp[hlen] at this;omega
 by_cases hroom:l.length+1<=cap
 ·
  obtain⟨u0,us3,rfl⟩:∃u0 us3,us2=u0::us3:=by
   cases us2 with
   | nil=>simp at hus2;omega
   | cons a r=>exact⟨a,r,rfl⟩
  rcases Nat.lt_or_ge i l.length with hlt|hge
  ·refine (Any2.slices_Insert_string_shift L b' 0 l.length cap i vb' 0 1 vc (cF l) [.string ⟨⟨x⟩⟩] w hlt (by decide) hroom ?_ (Ne.symm hvb0) hlen rfl hcs (fun j hj=>hsome j (by omega)) (fun j _=>hfroz _) hvs nH h1v elem2 elem vs2.size vs.size ?_ ?_ ?_ ?_ ?_).mono ?_
   ·exact hcm
   ·simp[World.shape?,hblk2]
   ·simp[World.shape?,hblk]
   ·omega
   ·simp[World.frozen?,hblk2]
   ·simp[World.frozen?,hblk2]
   rintro e w' ⟨rfl,rfl⟩;have hg1:(w.drew).heap[b']?=some (.cells vs elem (0,0)):=hblk;have hd:((cF l).drop i).length=l.length - i:=by simp[hlen]
   rw[dz (w:=w.drew) b' (0+(i+1)) elem ((cF l).drop i) vs hg1 (by rw[hd];omega) (fun u hu=>nH u (List.mem_of_mem_drop hu))];obtain⟨ar1,har1⟩:∃ar1,ar1=vs.toList.take (0+(i+1))++(cF l).drop i++vs.toList.drop (0+(i+1)+((cF l).drop i).length):=⟨_,rfl⟩;rw[←har1];have hl1:ar1.length=cap:=by
    rw[har1];simp[hlen];omega
   have hg2:=setRow_heap w.drew b' vs ar1.toArray elem (0,0) hg1;rw[dz (w:=w.drew.setRow b' ar1.toArray) b' (0+i) elem [.string ⟨⟨x⟩⟩] ar1.toArray hg2 (by simp[hl1];omega) h1v];obtain⟨ar2,har2⟩:∃ar2,ar2=ar1.toArray.toList.take (0+i)++[.string ⟨⟨x⟩⟩]++ar1.toArray.toList.drop (0+i+[Value.string ⟨⟨x⟩⟩].length):=⟨_,rfl⟩;rw[←har2];have hl3:ar2.length=cap:=by
    rw[har2];simp[hl1];omega
   have hg3:=setRow_heap (w.drew.setRow b' ar1.toArray) b' ar1.toArray ar2.toArray elem (0,0) hg2;refine qp (g:=b') (vb:=vb') (cap:=cap) (arr:=ar2) (rest:=us3) (R':=R) hnx (fun bs hb=>?_) hbF hvb0 hnd2 hg3 ?_ hfl2 (fun j hj=>hRv j (by omega)) hl3 hcm (by rw[hl2];exact hroom) hrest0 _ (by rw[hl2])
   ·refine kK (bz.trans (gW hg1 ar1.toArray (by simp[hl1,hsz]) hRv (by omega) bs hb) (gW hg2 ar2.toArray (by simp[hl1,hl3]) (fun j hj=>hRv j (by simp[hl1] at hj;omega)) (by simp[hl1];omega) bs hb))
   -- the cells
   have hv:vs.toList=cF l++(u0::us3):=hus;rw[har2,har1,hv,ku];simp only[Nat.zero_add,List.toList_toArray,List.length_singleton];exact CR (cF l) u0 (.string ⟨⟨x⟩⟩) us3 i (by rw[hlen];omega)
  have hil:i=l.length:=by omega
  subst hil;refine (Any2.slices_Insert_string_end_room L b' 0 l.length cap vb' 0 1 vc [.string ⟨⟨x⟩⟩] w (by decide) hroom hcm rfl (fun j hj=>?_) (fun j _=>hfroz _) hvs h1v).mono ?_
  ·rw[Nat.add_assoc];exact hsome _ (by omega)
  rintro e w' ⟨rfl,rfl⟩;rw[dz (w:=w) b' (0+l.length) elem [.string ⟨⟨x⟩⟩] vs hblk (by simp;omega) h1v];obtain⟨ar2,har2⟩:∃ar2,ar2=vs.toList.take (0+l.length)++[.string ⟨⟨x⟩⟩]++vs.toList.drop (0+l.length+[Value.string ⟨⟨x⟩⟩].length):=⟨_,rfl⟩;rw[←har2];have hl3:ar2.length=cap:=by
   rw[har2];simp;omega
  have hg3:=setRow_heap w b' vs ar2.toArray elem (0,0) hblk;refine qp (g:=b') (vb:=vb') (cap:=cap) (arr:=ar2) (rest:=us3) (R':=R) hnx (fun bs hb=>gW hblk ar2.toArray (by simp[hl3,hsz]) hRv (by omega) bs hb) hbF hvb0 hnd2 hg3 ?_ hfl2 (fun j hj=>hRv j (by omega)) hl3 hcm (by rw[hl2];exact hroom) hrest0 _ (by rw[hl2]);have hv:vs.toList=cF l++(u0::us3):=hus;rw[har2,hv,ku,Nat.zero_add,←hlen,List.take_left,List.take_length,List.drop_length,List.length_singleton,List.drop_length_add_append];simp
 -- a new row
 have hcl:cap=l.length:=by omega
 subst hcl;have hge:=grownCap_ge w (l.length+1) l.length (ρ.t 9);have hgm:grownCap w (l.length+1) l.length (ρ.t 9)<=gR:=Nat.le_trans (grownCap_le_maxLen w (l.length+1) l.length (ρ.t 9) (by unfold maxLen;omega)) (by decide);generalize hgc:grownCap w (l.length+1) l.length (ρ.t 9)=gc at hge hgm;have hltb:b' < w.heap.size:=bw hblk;have hltv:vb' < w.heap.size:=bw hblk2;have hzs:∀n,(Builtin.zeroCells (Value.string ⟨#[]⟩).cells n).toList.length=n:=fun n=>by simp[Builtin.zeroCells,Value.cells]
 have UQ:w.heap.size∉bsF:=fun h=>by have:=hF _ h;omega
 have hRm:∀j,R.more w.heap.size w.heap.size j:=fun j=>.inl rfl
 rcases Nat.lt_or_ge i l.length with hlt|hge2
 ·refine (Any2.slices_Insert_string_grow L b' 0 l.length l.length i vb' 0 1 vc (cF l) [.string ⟨⟨x⟩⟩] w hlt (by decide) (Nat.le_refl _) (by omega) (by omega) hlen rfl hcs hvs nH h1v).mono ?_;rw[hgc];rintro e w' ⟨rfl,rfl⟩;obtain⟨z1,hz1⟩:∃z1,z1=(Builtin.zeroCells (Value.string ⟨#[]⟩).cells (l.length+1 - i)).toList:=⟨_,rfl⟩;obtain⟨z2,hz2⟩:∃z2,z2=(Builtin.zeroCells (Value.string ⟨#[]⟩).cells (gc - (l.length+1))).toList:=⟨_,rfl⟩;have hl1:z1.length=l.length+1 - i:=by rw[hz1,hzs]
  have hl2':z2.length=gc - (l.length+1):=by rw[hz2,hzs]
  obtain⟨ar0,har0⟩:∃ar0,ar0=(cF l).take i++z1++z2:=⟨_,rfl⟩;have hc0:(((cF l).take i).toArray++Builtin.zeroCells (Value.string ⟨#[]⟩).cells (l.length+1 - i)++Builtin.zeroCells (Value.string ⟨#[]⟩).cells (gc - (l.length+1)))=ar0.toArray:=by rw[har0,hz1,hz2];simp
  rw[hc0];have hl0:ar0.length=gc:=by rw[har0];simp[hl1,hl2',hlen];omega
  have hg0:((w.alloc (.cells ar0.toArray (ρ.t 9))).drew).heap[w.heap.size]?=some (.cells ar0.toArray (ρ.t 9) (0,0)):=heap_alloc_new w _;rw[dz (w:=(w.alloc (.cells ar0.toArray (ρ.t 9))).drew) w.heap.size i (ρ.t 9) [.string ⟨⟨x⟩⟩] ar0.toArray hg0 (by simp[hl0];omega) h1v];obtain⟨ar1,har1⟩:∃ar1,ar1=ar0.toArray.toList.take i++[.string ⟨⟨x⟩⟩]++ar0.toArray.toList.drop (i+[Value.string ⟨⟨x⟩⟩].length):=⟨_,rfl⟩;rw[←har1];have hl3:ar1.length=gc:=by rw[har1];simp[hl0];omega
  have hg1:=setRow_heap (w.alloc (.cells ar0.toArray (ρ.t 9))).drew w.heap.size ar0.toArray ar1.toArray (ρ.t 9) (0,0) hg0;have hg1':(((w.alloc (.cells ar0.toArray (ρ.t 9))).drew.setRow w.heap.size ar1.toArray).drew).heap[w.heap.size]?=some (.cells ar1.toArray (ρ.t 9) (0,0)):=hg1;have hd:((cF l).drop i).length=l.length - i:=by simp[hlen]
  rw[dz (w:=((w.alloc (.cells ar0.toArray (ρ.t 9))).drew.setRow w.heap.size ar1.toArray).drew) w.heap.size (i+1) (ρ.t 9) ((cF l).drop i) ar1.toArray hg1' (by rw[hd];simp[hl3];omega) (fun u hu=>nH u (List.mem_of_mem_drop hu))];obtain⟨ar2,har2⟩:∃ar2,ar2=ar1.toArray.toList.take (i+1)++(cF l).drop i++ar1.toArray.toList.drop (i+1+((cF l).drop i).length):=⟨_,rfl⟩;rw[←har2];have hl4:ar2.length=gc:=by rw[har2];simp[hl3,hlen];omega
  have hg2:=setRow_heap ((w.alloc (.cells ar0.toArray (ρ.t 9))).drew.setRow w.heap.size ar1.toArray).drew w.heap.size ar1.toArray ar2.toArray (ρ.t 9) (0,0) hg1';refine qp (g:=w.heap.size) (vb:=vb') (cap:=gc) (arr:=ar2) (rest:=z2) (R':=R.more w.heap.size) hnx (fun bs hb=>?_) UQ (by omega) hnd2 hg2 ?_ hfl2 (fun j _=>hRm j) hl4 hgm (by rw[hl2];exact hge) hrest0 _ (by rw[hl2])
  ·have k1:bz w R (w.alloc (.cells ar0.toArray (ρ.t 9))) (R.more w.heap.size) bs:=fD _ (fun b off hb=>Own.jL hb) bs;have k2:=gW (R:=R.more w.heap.size) hg0 ar1.toArray (by simp[hl0,hl3]) (fun j _=>hRm j) (by simp[hl0];omega) bs hb;have k3:=gW (R:=R.more w.heap.size) hg1' ar2.toArray (by simp[hl4,hl3]) (fun j _=>hRm j) (by simp[hl3];omega) bs hb;exact k1.trans (kK (k2.trans (kK k3)))
  have e0:((cF l).take i).length=i:=by simp[hlen];omega
  obtain⟨zz,z1',hz⟩:∃zz z1',z1=zz::z1':=by
   cases z1 with
   | nil=>simp at hl1;omega
   | cons a r=>exact⟨a,r,rfl⟩
  have hl5:z1'.length=l.length - i:=by rw[hz] at hl1;simp at hl1;omega
  have e1:ar1=(cF l).take i++.string ⟨⟨x⟩⟩::(z1'++z2):=by
   rw[har1,har0,hz];simp only[List.toList_toArray,List.length_singleton];exact Mc _ z1' z2 (.string ⟨⟨x⟩⟩) zz i e0
  rw[har2,e1,ku];simp only[List.toList_toArray];have e2:((cF l).take i++.string ⟨⟨x⟩⟩::(z1'++z2)).take (i+1)=(cF l).take i++[.string ⟨⟨x⟩⟩]:=by
   rw[List.take_append,e0];simp[List.take_take]
  have e3:((cF l).take i++.string ⟨⟨x⟩⟩::(z1'++z2)).drop (i+1+((cF l).drop i).length)=z2:=by
   have:i+1+((cF l).drop i).length=((cF l).take i).length+(1+z1'.length):=by rw[e0,hd,hl5];omega
   rw[this,List.drop_length_add_append,Nat.add_comm 1,List.drop_succ_cons,List.drop_left]
  rw[e2,e3];simp
 have hil:i=l.length:=by omega
 subst hil;refine (Any2.slices_Insert_string_end_grow L (some ⟨b',0,none⟩) l.length l.length vb' 0 1 vc (cF l) [.string ⟨⟨x⟩⟩] w (by decide) (Nat.le_refl _) (by omega) (by omega) hlen rfl (by simp) (fun a ha j v hj=>?_) hvs h1v).mono ?_
 ·simp only[Option.some.injEq] at ha;subst ha;rw[add_plain];exact hcs j v hj
 rw[hgc];rintro e w' ⟨rfl,rfl⟩;obtain⟨ar2,har2⟩:∃ar2,ar2=(cF l++[.string ⟨⟨x⟩⟩])++(Builtin.zeroCells (Value.string ⟨#[]⟩).cells (gc - (l.length+1))).toList:=⟨_,rfl⟩;have hcells:((cF l++[Value.string ⟨⟨x⟩⟩]).toArray++Builtin.zeroCells (Value.string ⟨#[]⟩).cells (gc - (l.length+1)))=ar2.toArray:=by rw[har2];simp
 rw[hcells];have hl3:ar2.length=gc:=by rw[har2,List.length_append,hzs];simp[hlen];omega
 have hg3:(w.drew.alloc (.cells ar2.toArray (ρ.t 9))).heap[w.heap.size]?=some (.cells ar2.toArray (ρ.t 9) (0,0)):=heap_alloc_new w.drew _;refine qp (g:=w.heap.size) (vb:=vb') (cap:=gc) (arr:=ar2) (rest:=(Builtin.zeroCells (Value.string ⟨#[]⟩).cells (gc - (l.length+1))).toList) (R':=R.more w.heap.size) hnx (fun bs hb=>eC _ (fun b off hb=>Own.jL hb) bs) UQ (by omega) hnd2 hg3 ?_ hfl2 (fun j _=>hRm j) hl3 hgm (by rw[hl2];exact hge) hrest0 _ (by rw[hl2]);rw[har2,ku,←hlen,List.take_length,List.drop_length]
theorem Bf (L:Lays2.n22 P ρ) {x:List UInt8} :
  aB P G (ρ.f 22) [.dat (.flat (.slice none 0 0)),iv (Int.ofNat 0),.win (.out 0) 1 0 1] [(.out 0,.cells [.dat (.flat (.string ⟨⟨x⟩⟩))])] 1
   (XQ ⟨.win (.out 1) 1 0 1,[(.out 1,.cells [.dat (.flat (.string ⟨⟨x⟩⟩))]),(.out 0,.cells [.dat (.flat (.string ⟨⟨x⟩⟩))])],2⟩):=by
 intro w R N cargs bsA bsH bsF hargs hheap hnd hnx hglob hF;obtain⟨v0,r1,c0,d1,rfl,rfl,h0,hr1⟩:=az hargs;obtain⟨v1,r2,c1,d2,rfl,rfl,h1,hr2⟩:=az hr1;obtain⟨v2,r3,c2,d3,rfl,rfl,h2,hr3⟩:=az hr2;obtain⟨rfl,rfl⟩:=aS hr3;have hheap0:=hheap;obtain⟨vb,b3,b4,rfl,hvb,hobjv,hrest⟩:=hheap;have hrest:b4=[]:=hrest;subst hrest;obtain⟨vs2,elem2,sp2,hblk2,hrv2,hRv2,_⟩:=hobjv;simp only[al] at h0 h1 h2;obtain⟨rfl,h0⟩:=h0;have hv:v0=.slice none 0 0:=by
  have h0:dO w R v0 (.flat (.slice none 0 0)):=h0
  cases h0 with|flat _=>rfl
 subst hv;obtain⟨rfl,vb',vc,hvb',rfl,hvc,_,hvlt,hvrow⟩:=h2
 have:vb'=vb:=by rw[hvb] at hvb';simpa using hvb'.symm
 subst this;obtain⟨rfl,h1⟩:=h1;have h1:dO w R v1 (.flat (.int .i64 (Int.ofNat 0))):=h1;have e1:v1=.int .i64 (Int.ofNat 0):=by cases h1 with|flat _=>rfl
 subst e1;obtain⟨ws1,ws2,q3,q4,hws,rfl,hr2,hq4⟩:=cU hrv2;obtain⟨rfl,rfl,hfx⟩:=jl (l:=[x]) hr2;obtain⟨rfl,_⟩:=iV hq4;simp only[List.nil_append,List.append_nil] at hnd;have hvs:∀j v,[Value.string ⟨⟨x⟩⟩][j]?=some v->w.cell? ⟨vb',0+j,none⟩=some v:=by
  intro j v hj;refine eJ hblk2 ?_;rw[hws]
  cases j with
  | zero=>simpa [cF] using hj
  | succ j=>simp at hj
 have h1v:∀v∈[Value.string ⟨⟨x⟩⟩],v.oneCell'=true:=by intro v hv;simp at hv;subst hv;rfl
 have hltv:vb' < w.heap.size:=bw hblk2;have UQ:w.heap.size∉bsF:=fun h=>by have:=hF _ h;omega
 refine (Any2.slices_Insert_string_end_grow L none 0 0 vb' 0 1 vc [] [.string ⟨⟨x⟩⟩] w (by decide) (Nat.le_refl _) (by omega) (by omega) rfl rfl (by simp) (by simp) hvs h1v).mono ?_;have hge:=grownCap_ge w (0+1) 0 (ρ.t 9);have hgm:grownCap w (0+1) 0 (ρ.t 9)<=gR:=Nat.le_trans (grownCap_le_maxLen w (0+1) 0 (ρ.t 9) (by unfold maxLen;omega)) (by decide);generalize hgc:grownCap w (0+1) 0 (ρ.t 9)=gc at hge hgm;have hzs:∀n,(Builtin.zeroCells (Value.string ⟨#[]⟩).cells n).toList.length=n:=fun n=>by simp[Builtin.zeroCells,Value.cells]
 rintro e w' ⟨rfl,rfl⟩;obtain⟨ar2,har2⟩:∃ar2,ar2=Value.string ⟨⟨x⟩⟩::(Builtin.zeroCells (Value.string ⟨#[]⟩).cells (gc - (0+1))).toList:=⟨_,rfl⟩;have hcells:(([]++[Value.string ⟨⟨x⟩⟩]).toArray++Builtin.zeroCells (Value.string ⟨#[]⟩).cells (gc - (0+1)))=ar2.toArray:=by
  apply Array.toList_inj.1
  rw[har2];simp
 rw[hcells];have hl3:ar2.length=gc:=by rw[har2,List.length_cons,hzs];omega
 have hg3:(w.drew.alloc (.cells ar2.toArray (ρ.t 9))).heap[w.heap.size]?=some (.cells ar2.toArray (ρ.t 9) (0,0)):=heap_alloc_new w.drew _;have hk:∀bs,bz w R (w.drew.alloc (.cells ar2.toArray (ρ.t 9))) (R.more w.heap.size) bs:=fun bs=>eC _ (fun b off hb=>Own.jL hb) bs
 have hext:=sU (N:=N) (b:=w.heap.size) hnx;refine⟨_,_,_,2,R.more w.heap.size,bN N (.out 1) w.heap.size,[],[w.heap.size,vb'],rfl,⟨rfl,rfl,rfl⟩,?_,?_,?_,?_,hk bsF,fun o b h=>hext _ _ h⟩
 ·simp only[al];refine⟨trivial,w.heap.size,gc,by simp[outs,bN],rfl,hge,⟨by decide,hgm⟩,bw hg3,?_⟩;rw[dh hg3];simp[hl3]
 ·refine⟨w.heap.size,[],[vb'],rfl,by simp[outs,bN],?_,((by simpa using hheap0:an w R (outs N) _ [vb']).keep (hk _)).ext (tv hext)⟩;refine⟨ar2.toArray,ρ.t 9,(Builtin.zeroCells (Value.string ⟨#[]⟩).cells (gc - (0+1))).toList.length,hg3,?_,fun j _=>.inl rfl,fun h=>by simp[cM] at h⟩;have h2:=eD (w:=w.drew.alloc (.cells ar2.toArray (ρ.t 9))) (R:=R.more w.heap.size) (N:=outs (bN N (.out 1) w.heap.size)) (Builtin.zeroCells (Value.string ⟨#[]⟩).cells (gc - (0+1))).toList;have h3:ak (w.drew.alloc (.cells ar2.toArray (ρ.t 9))) (R.more w.heap.size) (outs (bN N (.out 1) w.heap.size)) (xD [x]) (cF [x]) []:=Ax hfx;have h4:=cD h3 h2;have e:ar2.toArray.toList=cF [x]++(Builtin.zeroCells (Value.string ⟨#[]⟩).cells (gc - (0+1))).toList:=by rw[har2];rfl
  rw[e];exact h4
 ·simp only[List.nil_append,List.cons_append];refine List.nodup_cons.2 ⟨?_,hnd⟩;simp only[List.mem_cons,not_or];exact⟨by omega,UQ⟩
 intro o c ho
 by_cases hne:o=1
 ·omega
 have:N (.out o)=some c:=by simpa [bN,hne] using ho
 have:=hnx o c this
 omega
theorem aB.afY {g:FuncId} {args:List ac} {r m:Nat} {l:List (List UInt8)} {rest:Heap} (h:aB P G g args [] 0 (XQ ⟨.win (.out r) 1 0 l.length,(.out r,.cells (xD l))::rest,m⟩)) (hn:l.length<=lim) :
  aB P G g args [] 0 (XQ ⟨.dat (.slice (l.map fun x=>.flat (.string ⟨⟨x⟩⟩))),[],0⟩):=by
 intro w R N cargs bsA bsH bsF ha hh hnd hnx hg hF;refine (h w R N cargs bsA bsH bsF ha hh hnd hnx hg hF).mono ?_;rintro e w' ⟨v,cv,hp,m',R',N',bsV,bsH',rfl,⟨rfl,rfl,rfl⟩,hv,hh',hnd',hnx',hk,hN⟩;simp only[al] at hv;obtain⟨rfl,b,cap,hb,rfl,hcap,_,hblt,hrow⟩:=hv;obtain⟨b',b1,b2,rfl,hb',hobj,hrest⟩:=hh'
 have:b'=b:=by rw[hb] at hb';simpa using hb'.symm
 subst this;obtain⟨vs,elem,sp,hblk,hrv,hRv,_⟩:=hobj;obtain⟨us1,us2,q1,q2,hus,rfl,hr1,_⟩:=cU hrv;obtain⟨rfl,rfl,hfl⟩:=jl hr1;have hbF:b'∉bsF:=by
  intro hm;have h1:(b'::((([]++q2)++b2)++bsF)).Nodup:=by simpa using hnd'
  exact (List.nodup_cons.1 h1).1 (List.mem_append_right _ hm)
 let R2:Own:=fun c off=>c≠b'/\R' c off
 have hk2:bz w' R' w' R2 bsF:=⟨⟨rfl,rfl,rfl,Nat.le_refl _,fun c _ hno=>⟨rfl,fun off h=>hno off h.2⟩,fun c off _ hno=>⟨fun h=>hno h.2,rfl⟩,fun _ _=>rfl⟩,fun c hc _=>⟨rfl,fun off h=>⟨fun e=>hbF (e ▸ hc),h⟩⟩⟩;refine⟨_,_,_,0,R2,fun m=>match m with|.loc i=>N' (.loc i)|.out _=>none,[],[],rfl,⟨rfl,rfl,rfl⟩,?_,rfl,?_,by intro o c ho;simp at ho,hk.trans hk2,?_⟩
 ·simp only[al];refine⟨trivial,?_⟩;have hl:l.length=(l.map fun x=>ap.flat (.string ⟨⟨x⟩⟩)).length:=by simp
  rw[hl];refine dO.slice b' 0 cap 1 _ (fun i _=>.string ⟨⟨l.getD i []⟩⟩) (by decide) ?_ (by simpa using hcap) (by simpa using hn) ?_ ?_
  ·intro e he;obtain⟨x,_,rfl⟩:=List.mem_map.1 he;rfl
  ·intro i j hi hj
   have:j=0:=by omega
   subst this;simp only[List.length_map] at hi;refine⟨?_,fun h=>h.1 rfl⟩;refine eJ hblk ?_;rw[hus,show 0+i*1+0=i by omega,List.getElem?_append_left (by simp[cF];exact hi)];simp[cF,hi]
  intro i j e c he hc;simp only[List.getElem?_map,Option.map_eq_some_iff] at he;obtain⟨x,hx,rfl⟩:=he;have hc2:c=.flat (.string ⟨⟨x⟩⟩):=by
   have hc:[ap.flat (.string ⟨⟨x⟩⟩)][j]?=some c:=hc
   cases j with
   | zero=>simpa using hc.symm
   | succ j=>simp at hc
  subst hc2;obtain⟨hi,rfl⟩:=List.getElem?_eq_some_iff.1 hx
  have:l.getD i []=l[i]:=by simp[hi]
  rw[this];exact .flat (hfl _ (List.getElem_mem hi))
 ·have h1:(b'::((([]++q2)++b2)++bsF)).Nodup:=by simpa using hnd'
  have h2:=(List.nodup_cons.1 h1).2;simpa using (List.nodup_append.1 h2).2.1
 intro o c ho
 have:=hnx o c ho
 omega
theorem aB.aga {g:FuncId} {args:List ac} {r m:Nat} {l:List (List UInt8)} {rest:Heap} (hne:l≠[]) (h:aB P G g args [] 0 (XQ ⟨.win (.out r) 1 0 l.length,(.out r,.cells (xD l))::rest,m⟩)) (hn:l.length<=lim) :
  aB P G g args [] 0 (XQ ⟨.own (l.map fun x=>.flat (.string ⟨⟨x⟩⟩)),[],0⟩):=by
 intro w R N cargs bsA bsH bsF ha hh hnd hnx hg hF;refine (h w R N cargs bsA bsH bsF ha hh hnd hnx hg hF).mono ?_;rintro e w' ⟨v,cv,hp,m',R',N',bsV,bsH',rfl,⟨rfl,rfl,rfl⟩,hv,hh',hnd',hnx',hk,hN⟩;simp only[al] at hv;obtain⟨rfl,b,cap,hb,rfl,hcap,_,hblt,hrow⟩:=hv;obtain⟨b',b1,b2,rfl,hb',hobj,hrest⟩:=hh'
 have:b'=b:=by rw[hb] at hb';simpa using hb'.symm
 subst this;obtain⟨vs,elem,sp,hblk,hrv,hRv,_⟩:=hobj;obtain⟨us1,us2,q1,q2,hus,rfl,hr1,_⟩:=cU hrv;obtain⟨rfl,rfl,hfl⟩:=jl hr1;have hbF:b'∉bsF:=by
  intro hm;have h1:(b'::((([]++q2)++b2)++bsF)).Nodup:=by simpa using hnd'
  exact (List.nodup_cons.1 h1).1 (List.mem_append_right _ hm)
 let R2:Own:=fun c off=>(c=b'->l.length<=off)/\R' c off
 have hk2:bz w' R' w' R2 bsF:=⟨⟨rfl,rfl,rfl,Nat.le_refl _,fun c _ hno=>⟨rfl,fun off h=>hno off h.2⟩,fun c off _ hno=>⟨fun h=>hno h.2,rfl⟩,fun _ _=>rfl⟩,fun c hc _=>⟨rfl,fun off h=>⟨fun e=>absurd (e ▸ hc) hbF,h⟩⟩⟩;have hsz:cap=vs.size:=by rw[dh hblk] at hrow;omega
 refine⟨_,_,_,0,R2,fun m=>match m with|.loc i=>N' (.loc i)|.out _=>none,[b'],[],rfl,⟨rfl,rfl,rfl⟩,?_,rfl,?_,by intro o c ho;simp at ho,hk.trans hk2,?_⟩
 ·simp only[al];have hl:l.length=(l.map fun x=>ap.flat (.string ⟨⟨x⟩⟩)).length:=by simp
  have hes:∀e∈l.map fun x=>ap.flat (.string ⟨⟨x⟩⟩),e.cells.length=1:=by
   intro e he;obtain⟨x,_,rfl⟩:=List.mem_map.1 he;rfl
  rw[hl];refine ib.row b' cap 1 _ vs elem hblk (by decide) hes (by simpa using hcap) (fun h=>absurd (List.map_eq_nil_iff.1 h) hne) (by omega) ?_ (fun x h1 h2=>⟨fun _=>by simpa using h1,hRv x (by omega)⟩) (fun h=>?_)
  rotate_left
  ·cases l with
   | nil=>exact absurd rfl hne
   | cons x r=>simp[ew] at h
  refine dO.slice b' 0 cap 1 _ (fun i _=>.string ⟨⟨l.getD i []⟩⟩) (by decide) ?_ (by simpa using hcap) (by simpa using hn) ?_ ?_
  ·intro e he;obtain⟨x,_,rfl⟩:=List.mem_map.1 he;rfl
  ·intro i j hi hj
   have:j=0:=by omega
   subst this;simp only[List.length_map] at hi;refine⟨?_,fun h=>by have:=h.1 rfl;omega⟩;refine eJ hblk ?_;rw[hus,show 0+i*1+0=i by omega,List.getElem?_append_left (by simp[cF];exact hi)];simp[cF,hi]
  intro i j e c he hc;simp only[List.getElem?_map,Option.map_eq_some_iff] at he;obtain⟨x,hx,rfl⟩:=he;have hc2:c=.flat (.string ⟨⟨x⟩⟩):=by
   have hc:[ap.flat (.string ⟨⟨x⟩⟩)][j]?=some c:=hc
   cases j with
   | zero=>simpa using hc.symm
   | succ j=>simp at hc
  subst hc2;obtain⟨hi,rfl⟩:=List.getElem?_eq_some_iff.1 hx
  have:l.getD i []=l[i]:=by simp[hi]
  rw[this];exact .flat (hfl _ (List.getElem_mem hi))
 ·have h1:(b'::((([]++q2)++b2)++bsF)).Nodup:=by simpa using hnd'
  obtain⟨h3,h2⟩:=List.nodup_cons.1 h1;have h4:=(List.nodup_append.1 h2).2.1;simp only[List.mem_append,not_or] at h3;simp only[List.nil_append,List.cons_append];exact List.nodup_cons.2 ⟨h3.2,h4⟩
 intro o c ho
 have:=hnx o c ho
 omega
end
end Go.Tp
