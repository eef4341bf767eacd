/- Part 6 of what the last text proves. -/
import Derived.Shelf.SlGeneric
import Derived.Ground.SlgnProg
import Derived.Ground.SlgmProg
import Derived.Shelf.SortM.Plain
import Derived.Shelf.SortM.SortNone
import Derived.Shelf.SlLaysE
import Derived.Shelf.SlLaysE0
import Derived.Shelf.SlicesE.Compact
import Derived.Test.YtmpmgmmcaghacaaGreatDoorProg
import Derived.Test.YtmpmgmmcaghacaaGreatDoorQ05
set_option linter.unusedVariables false
set_option linter.unusedSimpArgs false
open Int (ofNat)
set_option maxRecDepth 100000
set_option maxHeartbeats 4000000
namespace Go.Proofs.YtmpmgmmcaghacaaGreatDoor
open Go.Tp
noncomputable abbrev fN:=Tryz.f153.ntmps
noncomputable abbrev jW:=Tryz.f109.ntmps
noncomputable abbrev An:=Tryz.f87.ntmps
noncomputable abbrev iG:=Tryz.f70.ntmps
noncomputable abbrev bc:=Tryz.f68.ntmps
noncomputable abbrev nk:=Tryz.f61.ntmps
theorem dL {k j:Int} (h:k≠j):aB k j=false:=by rw[cN];simpa using h
theorem kinds (k:Int) {c0 c1 c2 c3 c4 c5 c6:Bool} (h0:aB k 0=c0) (h1:aB k 1=c1) (h2:aB k 2=c2) (h3:aB k 3=c3) (h4:aB k 4=c4) (h5:aB k 5=c5) (h6:aB k 6=c6) :
  (c0=true/\c1=false/\c2=false/\c3=false/\c4=false/\c5=false/\c6=false)∨(c0=false/\c1=true/\c2=false/\c3=false/\c4=false/\c5=false/\c6=false)∨(c0=false/\c1=false/\c2=true/\c3=false/\c4=false/\c5=false/\c6=false)∨(c0=false/\c1=false/\c2=false/\c3=true/\c4=false/\c5=false/\c6=false)∨(c0=false/\c1=false/\c2=false/\c3=false/\c4=true/\c5=false/\c6=false)∨(c0=false/\c1=false/\c2=false/\c3=false/\c4=false/\c5=true/\c6=false)∨(c0=false/\c1=false/\c2=false/\c3=false/\c4=false/\c5=false/\c6=true)∨(c0=false/\c1=false/\c2=false/\c3=false/\c4=false/\c5=false/\c6=false):=by
 subst h0 h1 h2 h3 h4 h5 h6
 by_cases q0:k=0
 ·subst q0;exact .inl ⟨rfl,rfl,rfl,rfl,rfl,rfl,rfl⟩
 by_cases q1:k=1
 ·subst q1;exact .inr (.inl ⟨rfl,rfl,rfl,rfl,rfl,rfl,rfl⟩)
 by_cases q2:k=2
 ·subst q2;exact .inr (.inr (.inl ⟨rfl,rfl,rfl,rfl,rfl,rfl,rfl⟩))
 by_cases q3:k=3
 ·subst q3;exact .inr (.inr (.inr (.inl ⟨rfl,rfl,rfl,rfl,rfl,rfl,rfl⟩)))
 by_cases q4:k=4
 ·subst q4;exact .inr (.inr (.inr (.inr (.inl ⟨rfl,rfl,rfl,rfl,rfl,rfl,rfl⟩))))
 by_cases q5:k=5
 ·subst q5;exact .inr (.inr (.inr (.inr (.inr (.inl ⟨rfl,rfl,rfl,rfl,rfl,rfl,rfl⟩)))))
 by_cases q6:k=6
 ·subst q6;exact .inr (.inr (.inr (.inr (.inr (.inr (.inl ⟨rfl,rfl,rfl,rfl,rfl,rfl,rfl⟩))))))
 exact .inr (.inr (.inr (.inr (.inr (.inr (.inr ⟨dL q0,dL q1,dL q2,dL q3,dL q4,dL q5,dL q6⟩))))))
noncomputable def Z7:Hints:=⟨bV,fM,bi,rowsOf bi 153⟩
def Sn (j:Nat) (lo:Heap) (n:Nat) (i:Int):ab:=⟨[(j,iv i),(3,iv (ofNat n)),(1,.ptr (.loc 1) 0)],lo,[],0⟩
def N6 (q j:Nat) (lo:Heap) (n:Nat) (i:Int):ab:=⟨[(q,bv false),(j,iv i),(3,iv (ofNat n)),(1,.ptr (.loc 1) 0)],lo,[],0⟩
def SW:ab:=⟨[(2,bv false)],[],[],0⟩
theorem Mr {k:Int} {nm:List UInt8} {ix:Int} {l:List Ty} {t:Ty} {i:Nat} {c:Bool} (hi:i < (ax l).length) (ht:l[i]?=some t) (hc:ae 181 [.dat t.enc] (bv c)) {T:ej}
  (e1:c=true->T .normal ((Sn 4 (kr 1 k nm ix (.slice (ax l))) (ax l).length (an .i64 (ofNat i+1))).al fN)) (e2:c=false->T .ret (SW.al fN)) :
  KD (roundOf Tryz.f153 0) T ((Sn 4 (kr 1 k nm ix (.slice (ax l))) (ax l).length (ofNat i)).al fN):=by
 have h1:=br hi;have h2:=pF ht;generalize ax l=es at *;clear ht hi;obtain⟨k2,nm2,ix2,a2⟩:=t
 rcases a2 with _|⟨b,d⟩ <;>
 ·refine aq [65] [71] (H:=Z7) (live:=dH) (ob h1 (oo h2 (on hc ?_)))
  cases c
  ·exact oe (e2 rfl)
  exact oe (e1 rfl)
theorem OD {k:Int} {nm:List UInt8} {ix:Int} {l:List ak} {T:ej} (e:T (.exit 1) ((N6 65 4 (kr 1 k nm ix (sl l)) l.length (ofNat l.length)).al fN)) :
  KD (roundOf Tryz.f153 0) T ((Sn 4 (kr 1 k nm ix (sl l)) l.length (ofNat l.length)).al fN):=by
 have h1:=cj (i:=l.length) (L:=l.length) (by omega)
 rcases l with _|⟨x,l⟩
 ·refine aq [] [] (H:=Z7) (live:=dH) ?_;exact oe e
 exact aq [65] [] (H:=Z7) (live:=dH) (ob h1 (oe e))
theorem Mq {k:Int} {nm:List UInt8} {ix:Int} {l:List Ty} {t:Ty} {i:Nat} {c:Bool} (hi:i < (ax l).length) (ht:l[i]?=some t) (hc:ae 153 [.dat t.enc] (bv c)) {T:ej}
  (e1:c=true->T .normal ((Sn 5 (kr 1 k nm ix (.slice (ax l))) (ax l).length (an .i64 (ofNat i+1))).al fN)) (e2:c=false->T .ret (SW.al fN)) :
  KD (roundOf Tryz.f153 1) T ((Sn 5 (kr 1 k nm ix (.slice (ax l))) (ax l).length (ofNat i)).al fN):=by
 have h1:=br hi;have h2:=pF ht;generalize ax l=es at *;clear ht hi;obtain⟨k2,nm2,ix2,a2⟩:=t
 rcases a2 with _|⟨b,d⟩ <;>
 ·refine aq [97] [103] (H:=Z7) (live:=dH) (ob h1 (oo h2 (on hc ?_)))
  cases c
  ·exact oe (e2 rfl)
  exact oe (e1 rfl)
theorem OC {k:Int} {nm:List UInt8} {ix:Int} {l:List ak} {T:ej} (e:T (.exit 3) ((N6 97 5 (kr 1 k nm ix (sl l)) l.length (ofNat l.length)).al fN)) :
  KD (roundOf Tryz.f153 1) T ((Sn 5 (kr 1 k nm ix (sl l)) l.length (ofNat l.length)).al fN):=by
 have h1:=cj (i:=l.length) (L:=l.length) (by omega)
 rcases l with _|⟨x,l⟩
 ·refine aq [] [] (H:=Z7) (live:=dH) ?_;exact oe e
 exact aq [97] [] (H:=Z7) (live:=dH) (ob h1 (oe e))
theorem WT {k ix:Int} {nm:List UInt8} {l:List Ty} {cp ca:Bool} (hi:ae 106 [.dat (sb nm)] (bv (isIdent nm))) (hr:ae 180 [.dat (sb nm)] (bv (hJ nm))) (hcp:gT l=cp) (hnil:l=[]->ca=false)
  (hcl:∀t r,l=t::r->ae 108 [.dat t.enc] (bv (ik l)))
  (hl0:KD (.loop (roundOf Tryz.f153 0)) (fun e s=>(e=.exit 1/\cp=false/\s=(N6 65 4 (kr 1 k nm ix (sl (ax l))) (ax l).length (ofNat (ax l).length)).al fN)∨(e=.ret/\cp=true/\s=SW.al fN)) ((Sn 4 (kr 1 k nm ix (sl (ax l))) (ax l).length (ofNat 0)).al fN))
  (hl1:KD (.loop (roundOf Tryz.f153 1)) (fun e s=>(e=.exit 3/\ca=false/\s=(N6 97 5 (kr 1 k nm ix (sl (ax l))) (ax l).length (ofNat (ax l).length)).al fN)∨(e=.ret/\ca=true/\s=SW.al fN)) ((Sn 5 (kr 1 k nm ix (sl (ax l))) (ax l).length (ofNat 0)).al fN)) :
  ae 153 [.dat (Ty.mk k nm ix l).enc] (bv (vQ k nm ix l&&!ca)):=by
 unfold vQ;rw[hcp];clear hcp;generalize ik l=fc at hcl;generalize isIdent nm=ci at hi;generalize hJ nm=cr at hr;generalize h0:aB k 0=c0;generalize h1:aB k 1=c1;generalize h2:aB k 2=c2;generalize h3:aB k 3=c3;generalize h4:aB k 4=c4;generalize h5:aB k 5=c5;generalize h6:aB k 6=c6;generalize hn:jP nm []=cn;generalize hx:aB ix 0=cx;generalize hl6:aF 6 (ofNat (ax l).length)=l6;generalize hl2:aF (ofNat (ax l).length) 2=l2;generalize he0:aB (ofNat (ax l).length) 0=e0;generalize he2:aB (ofNat (ax l).length) 2=e2;generalize hx0:aF ix 0=x0;generalize hx2:aF 200 ix=x2;have hk:=kinds k h0 h1 h2 h3 h4 h5 h6
 rcases l with _|⟨t,r⟩
 ·have hca:=hnil rfl;subst hca;have z6:l6=false:=hl6.symm;have z2:l2=true:=hl2.symm;have z0:e0=true:=he0.symm;have y2:e2=false:=he2.symm;subst z6;subst z2;subst z0;subst y2;have hl2':=hl1.mono (Q':=fun e s=>e=.exit 3/\s=(N6 97 5 (kr 1 k nm ix (sl (ax []))) (ax []).length (ofNat (ax []).length)).al fN) (by
   rintro e s (⟨q1,_,q2⟩|⟨_,q,_⟩)
   ·exact⟨q1,q2⟩
   simp at q)
  clear hcl hnil hl6 hl2 he0 he2 hl1
  rcases hk with⟨rfl,rfl,rfl,rfl,rfl,rfl,rfl⟩|⟨rfl,rfl,rfl,rfl,rfl,rfl,rfl⟩|⟨rfl,rfl,rfl,rfl,rfl,rfl,rfl⟩|⟨rfl,rfl,rfl,rfl,rfl,rfl,rfl⟩|⟨rfl,rfl,rfl,rfl,rfl,rfl,rfl⟩|⟨rfl,rfl,rfl,rfl,rfl,rfl,rfl⟩|⟨rfl,rfl,rfl,rfl,rfl,rfl,rfl⟩|⟨rfl,rfl,rfl,rfl,rfl,rfl,rfl⟩
  ·refine co [11,15,20,24,30] [] (x:=.of Tryz.f153 fM dH) ?_;refine ox h2 (ox hn ?_)
   cases cn
   ·exact fi
   refine ox h5 (ox hx ?_)
   cases cx
   ·exact fi
   exact ob h0 fi
  ·refine co [11,15,20,24,30,31] [] (x:=.of Tryz.f153 fM dH) ?_;refine ox h2 (ox hn ?_)
   cases cn
   ·exact fi
   refine ox h5 (ox hx ?_)
   cases cx
   ·exact fi
   exact ob h0 (ob h1 fi)
  ·refine co [11,20,24,30,31,35,49] [] (x:=.of Tryz.f153 fM dH) ?_;refine ox h2 (ox h5 (ox hx ?_))
   cases cx
   ·exact fi
   refine ob h0 (ob h1 (ob h5 (ob h2 (on hi ?_))))
   cases ci
   ·exact fi
   refine on hr ?_
   cases cr
   ·refine lo hl0 ?_;rintro ex s (⟨rfl,rfl,rfl⟩|⟨rfl,rfl,rfl⟩)
    ·refine⟨_,rfl,?_⟩;refine lo hl2' ?_;rintro ex s ⟨rfl,rfl⟩;refine⟨_,rfl,?_⟩;exact fi
    refine⟨_,rfl,?_⟩;exact fi
   exact fi
  ·refine co [11,15,20,24,30,31,35,49,76] [] (x:=.of Tryz.f153 fM dH) ?_;refine ox h2 (ox hn ?_)
   cases cn
   ·exact fi
   refine ox h5 (ox hx ?_)
   cases cx
   ·exact fi
   refine ob h0 (ob h1 (ob h5 (ob h2 (ob h3 ?_))));refine lo hl2' ?_;rintro ex s ⟨rfl,rfl⟩;refine⟨_,rfl,?_⟩;exact fi
  ·refine co [11,15,20,24,30,31,35,49,76,80] [] (x:=.of Tryz.f153 fM dH) ?_;refine ox h2 (ox hn ?_)
   cases cn
   ·exact fi
   refine ox h5 (ox hx ?_)
   cases cx
   ·exact fi
   exact ob h0 (ob h1 (ob h5 (ob h2 (ob h3 (ob h4 fi)))))
  ·refine co [11,15,20,30,31,35,41,46] [] (x:=.of Tryz.f153 fM dH) ?_;refine ox h2 (ox hn ?_)
   cases cn
   ·exact fi
   refine ox h5 (ob h0 (ob h1 (ob h5 (ox hx0 ?_))))
   cases x0
   ·refine ox hx2 ?_
    cases x2 <;>
    ·exact fi
   exact fi
  ·refine co [11,15,20,24,30,31,35,49,76,80,84] [] (x:=.of Tryz.f153 fM dH) ?_;refine ox h2 (ox hn ?_)
   cases cn
   ·exact fi
   refine ox h5 (ox hx ?_)
   cases cx
   ·exact fi
   exact ob h0 (ob h1 (ob h5 (ob h2 (ob h3 (ob h4 (ob h6 fi))))))
  refine co [11,15,20,24,30,31,35,49,76,80,84] [] (x:=.of Tryz.f153 fM dH) ?_;refine ox h2 (ox hn ?_)
  cases cn
  ·exact fi
  refine ox h5 (ox hx ?_)
  cases cx
  ·exact fi
  exact ob h0 (ob h1 (ob h5 (ob h2 (ob h3 (ob h4 (ob h6 fi))))))
 have hcl2:=hcl t r rfl;have z0:e0=false:=he0.symm;subst z0;have g0:=pF (l:=t::r) (i:=0) rfl;clear hcl hnil he0;obtain⟨tk,tn,tix,ta⟩:=t
 rcases ta with _|⟨y,ta⟩ <;>
 ·rcases hk with⟨rfl,rfl,rfl,rfl,rfl,rfl,rfl⟩|⟨rfl,rfl,rfl,rfl,rfl,rfl,rfl⟩|⟨rfl,rfl,rfl,rfl,rfl,rfl,rfl⟩|⟨rfl,rfl,rfl,rfl,rfl,rfl,rfl⟩|⟨rfl,rfl,rfl,rfl,rfl,rfl,rfl⟩|⟨rfl,rfl,rfl,rfl,rfl,rfl,rfl⟩|⟨rfl,rfl,rfl,rfl,rfl,rfl,rfl⟩|⟨rfl,rfl,rfl,rfl,rfl,rfl,rfl⟩
  ·refine co [11,15,20,24,30] [] (x:=.of Tryz.f153 fM dH) ?_;refine ox h2 (ox hn ?_)
   cases cn
   ·exact fi
   refine ox h5 (ox hx ?_)
   cases cx
   ·exact fi
   exact ob h0 fi
  ·refine co [11,15,20,24,30,31] [] (x:=.of Tryz.f153 fM dH) ?_;refine ox h2 (ox hn ?_)
   cases cn
   ·exact fi
   refine ox h5 (ox hx ?_)
   cases cx
   ·exact fi
   exact ob h0 (ob h1 fi)
  ·refine co [11,20,24,30,31,35,49,61] [] (x:=.of Tryz.f153 fM dH) ?_;refine ox h2 (ox h5 (ox hx ?_))
   cases cx
   ·exact fi
   refine ob h0 (ob h1 (ob h5 (ob h2 (on hi ?_))))
   cases ci
   ·exact fi
   refine on hr ?_
   cases cr
   ·refine ob hl6 ?_
    cases l6
    ·refine lo hl0 ?_;rintro ex s (⟨rfl,rfl,rfl⟩|⟨rfl,rfl,rfl⟩)
     ·refine⟨_,rfl,?_⟩;refine lo hl1 ?_;rintro ex s (⟨rfl,rfl,rfl⟩|⟨rfl,rfl,rfl⟩) <;>
      ·refine⟨_,rfl,?_⟩;exact fi
     refine⟨_,rfl,?_⟩;exact fi
    exact fi
   exact fi
  ·refine co [11,15,20,24,30,31,35,49,76,78] [] (x:=.of Tryz.f153 fM dH) ?_;refine ox h2 (ox hn ?_)
   cases cn
   ·exact fi
   refine ox h5 (ox hx ?_)
   cases cx
   ·exact fi
   refine ob h0 (ob h1 (ob h5 (ob h2 (ob h3 (ob hl6 ?_)))))
   cases l6
   ·refine lo hl1 ?_;rintro ex s (⟨rfl,rfl,rfl⟩|⟨rfl,rfl,rfl⟩) <;>
    ·refine⟨_,rfl,?_⟩;exact fi
   exact fi
  ·refine co [11,15,20,24,30,31,35,49,76,80,82] [] (x:=.of Tryz.f153 fM dH) ?_;refine ox h2 (ox hn ?_)
   cases cn
   ·exact fi
   refine ox h5 (ox hx ?_)
   cases cx
   ·exact fi
   refine ob h0 (ob h1 (ob h5 (ob h2 (ob h3 (ob h4 (ob hl2 ?_))))))
   cases l2
   ·refine lo hl1 ?_;rintro ex s (⟨rfl,rfl,rfl⟩|⟨rfl,rfl,rfl⟩) <;>
    ·refine⟨_,rfl,?_⟩;exact fi
   exact fi
  ·refine co [11,15,20,30,31,35] [] (x:=.of Tryz.f153 fM dH) ?_;refine ox h2 (ox hn ?_)
   cases cn
   ·exact fi
   exact ox h5 (ob h0 (ob h1 (ob h5 fi)))
  ·refine co [11,15,20,24,30,31,35,49,76,80,84,86] [90] (x:=.of Tryz.f153 fM dH) ?_;refine ox h2 (ox hn ?_)
   cases cn
   ·exact fi
   refine ox h5 (ox hx ?_)
   cases cx
   ·exact fi
   refine ob h0 (ob h1 (ob h5 (ob h2 (ob h3 (ob h4 (ob h6 (ox he2 ?_)))))))
   cases e2
   ·exact fi
   refine oo g0 (on hcl2 ?_)
   cases fc
   ·exact fi
   refine lo hl1 ?_;rintro ex s (⟨rfl,rfl,rfl⟩|⟨rfl,rfl,rfl⟩) <;>
   ·refine⟨_,rfl,?_⟩;exact fi
  refine co [11,15,20,24,30,31,35,49,76,80,84] [] (x:=.of Tryz.f153 fM dH) ?_;refine ox h2 (ox hn ?_)
  cases cn
  ·exact fi
  refine ox h5 (ox hx ?_)
  cases cx
  ·exact fi
  exact ob h0 (ob h1 (ob h5 (ob h2 (ob h3 (ob h4 (ob h6 fi))))))
theorem Kc {l:List Ty} {i:Nat} {t:Ty} (h:l[i]?=some t):pA (l.drop i)=(!t.valid||pA (l.drop (i+1))):=by rw[kT h,pA]
mutual
theorem O1:∀t:Ty,t.gN->ae 153 [.dat t.enc] (bv t.valid)
 | .mk k nm ix l,h=>by
  obtain⟨h1,h2⟩:=h;simp only[Ty.size] at h1;simp only[Ty.fY] at h2;have ih:=Kz l (by omega) h2.2;have ihp:=zR l (by omega) h2.2;have hlen:=gw l;have hcl:∀t r,l=t::r->ae 108 [.dat t.enc] (bv (ik l)):=by
   rintro t r rfl;simp only[aQ] at h1;simp only[fg] at h2;exact CC ⟨by omega,h2.2.1⟩
  rw[Ty.valid];refine WT (cp:=gT l) (yj nm) (abO nm) rfl (by rintro rfl;rw[pA]) hcl ?_ ?_
  ·refine cV (St:=fun i=>(Sn 4 (kr 1 k nm ix (sl (ax l))) (ax l).length (ofNat i)).al fN) (fun i=>gT l=gT (l.drop i)) (ax l).length ?_ ?_ (i:=0) (Nat.zero_le _) rfl
   ·intro i hi hI;obtain⟨t,ht,hm⟩:=get_mem hi;have hd:=Bw ht;rw[←hI] at hd;have hsl:=nR hi;have hw:an .i64 (ofNat i+1)=ofNat (i+1):=bb (by rw[aH] at hi;omega);have hc:=ihp t hm;rw[hsl];generalize t.plain=c at hc hd;refine Mr hi ht hc ?_ ?_
    ·rintro rfl;rw[hw];exact⟨rfl,hd⟩
    rintro rfl;exact .inr ⟨rfl,hd,rfl⟩
   intro hI;refine OD (.inl ⟨rfl,?_,rfl⟩);rw[hI,aH,List.drop_length,gT]
  refine cV (St:=fun i=>(Sn 5 (kr 1 k nm ix (sl (ax l))) (ax l).length (ofNat i)).al fN) (fun i=>pA l=pA (l.drop i)) (ax l).length ?_ ?_ (i:=0) (Nat.zero_le _) rfl
  ·intro i hi hI;obtain⟨t,ht,hm⟩:=get_mem hi;have hd:=Kc ht;rw[←hI] at hd;have hsl:=nR hi;have hw:an .i64 (ofNat i+1)=ofNat (i+1):=bb (by rw[aH] at hi;omega);have hc:=ih t hm;rw[hsl];generalize t.valid=c at hc hd;refine Mq hi ht hc ?_ ?_
   ·rintro rfl;rw[hw];exact⟨rfl,hd⟩
   rintro rfl;exact .inr ⟨rfl,hd,rfl⟩
  intro hI;refine OC (.inl ⟨rfl,?_,rfl⟩);rw[hI,aH,List.drop_length,pA]
theorem Kz:∀l:List Ty,aQ l < 100000000->fg l->∀t∈l,ae 153 [.dat t.enc] (bv t.valid)
 | [],_,_,t,ht=>by simp at ht
 | u::r,h,hx,t,ht=>by
  simp only[aQ] at h;simp only[fg] at hx
  rcases List.mem_cons.1 ht with h1|ht
  ·rw[h1];exact O1 u ⟨by omega,hx.1⟩
  exact Kz r (by omega) hx.2 t ht
end
def HR (cn cm c:Bool):Int:=match cn||cm with|true=>4|false=>(match c with|true=>0|false=>2)
theorem SG (t:Ty):t.validate=HR (aF 200 (ofNat t.size)) (aF 12 (ofNat t.depth)) t.valid:=by
 unfold Ty.validate HR
 cases (aF 200 (ofNat t.size)||aF 12 (ofNat t.depth)) <;> cases t.valid <;> rfl
theorem abj {k ix:Int} {nm:List UInt8} {l:List ak} {n m:Int} {cn cm c:Bool} (h1:ae 151 [.dat (.agg [i64 k,sb nm,i64 ix,sl l])] (iv n)) (hn:aF 200 n=cn) (h2:ae 152 [.dat (.agg [i64 k,sb nm,i64 ix,sl l])] (iv m)) (hm:aF 12 m=cm)
  (h3:ae 153 [.dat (.agg [i64 k,sb nm,i64 ix,sl l])] (bv c)):ae 107 [.dat (.agg [i64 k,sb nm,i64 ix,sl l])] (iv (HR cn cm c)):=by
 rcases l with _|⟨x,l⟩ <;>
 ·refine co [6,10] [] (x:=.of Tryz.f107 I6 Lw) ?_;refine on h1 (ob hn ?_)
  cases cn
  ·refine on h2 (ob hm ?_)
   cases cm
   ·refine on h3 ?_
    cases c <;>
    ·exact fi
   exact fi
  exact fi
theorem IA {t:Ty} (h:t.gN):ae 107 [.dat t.enc] (iv t.validate):=by
 have h1:=O2 t (by have:=h.1;omega);have h2:=KG t (by have:=h.1;omega);have h3:=O1 t h;rw[SG];obtain⟨k,nm,ix,l⟩:=t;exact abj h1 rfl h2 rfl h3
theorem jy {p1 n sl:Int} {d1 d2:ak} (g1:dj d1) (g2:dj d2):ae 105 [.dat (aN p1 sl d1 d2),iv n] (bv (eo n sl)):=by
 have q1:=aS (p:=p1) (s:=sl) g1 g2;unfold eo;generalize h1:aF n 0=c1;generalize h2:aF n sl=c2;refine co [6,11] [2] (x:=.of Tryz.f105 I7 Lx) ?_;refine oo q1 (ox h1 ?_)
 cases c1
 ·refine ob h2 ?_
  cases c2 <;>
  ·exact fi
 exact fi
noncomputable def VY:Hints:=⟨bV,Ag,bi,rowsOf bi 109⟩
def Mb (k i:Int) (s:List UInt8) (j:Int):ab:=⟨[(3,iv j),(1,.ptr (.loc 1) 0)],K9 k i s,[],0⟩
def N9 (q:Nat) (k i:Int) (s:List UInt8):ab:=⟨[(q,bv false),(3,iv (ofNat s.length)),(1,.ptr (.loc 1) 0)],K9 k i s,[],0⟩
def Oa:ab:=⟨[(2,bv false)],[],[],0⟩
theorem Iw {k i:Int} {s:List UInt8} {j:Nat} {c:UInt8} {b1 b2:Bool} {T:ej} (h1:aF (ofNat j) (ofNat s.length)=true) (h2:qP ba 9 [.dat (sb s),.dat (.flat (.int .i64 (ofNat j)))]=some ⟨GC c.toNat,.keep⟩)
  (h3:aF (ofNat c.toNat) 32=b1) (h4:aF 126 (ofNat c.toNat)=b2) (e1:(!b1&&!b2)=true->T .normal ((Mb k i s (an .i64 (ofNat j+1))).al jW)) (e2:(!b1&&!b2)=false->T .ret (Oa.al jW)) :
  KD (roundOf Tryz.f109 0) T ((Mb k i s (ofNat j)).al jW):=by
 refine aq [37,44,50] [43,49] (H:=VY) (live:=uj) (ob h1 (oo h2 (ob h3 ?_)))
 cases b1
 ·refine oo h2 (ob h4 ?_)
  cases b2
  ·exact oe (e1 rfl)
  exact oe (e2 rfl)
 exact oe (e2 rfl)
theorem Mw {k i:Int} {s:List UInt8} {T:ej} (e1:T (.exit 0) ((N9 37 k i s).al jW)) :
  KD (roundOf Tryz.f109 0) T ((Mb k i s (ofNat s.length)).al jW):=by
 have h1:=cj (i:=s.length) (L:=s.length) (by omega);exact aq [37] [] (H:=VY) (live:=uj) (ob h1 (oe e1))
theorem Mv {k i:Int} {s:List UInt8} (hn:s.length < 1000000000) :
  KD (.loop (roundOf Tryz.f109 0)) (fun e q=>(e=.exit 0/\s.all (fun c=>eQ c.toNat)=true/\q=(N9 37 k i s).al jW)∨(e=.ret/\s.all (fun c=>eQ c.toNat)=false/\q=Oa.al jW)) ((Mb k i s (ofNat 0)).al jW):=by
 refine cV (St:=fun j=>(Mb k i s (ofNat j)).al jW) (fun j=>s.all (fun c=>eQ c.toNat)=(s.drop j).all (fun c=>eQ c.toNat)) s.length ?_ ?_ (i:=0) (Nat.zero_le _) rfl
 ·intro j hj hI;have hg:s[j]?=some s[j]:=List.getElem?_eq_getElem hj;have hd:(s.drop j).all (fun c=>eQ c.toNat)=(eQ s[j].toNat&&(s.drop (j+1)).all (fun c=>eQ c.toNat)):=by rw[List.drop_eq_getElem_cons hj];rfl
  have hw:an .i64 (ofNat j+1)=ofNat (j+1):=bb (by omega);generalize s[j]=c at hg hd;have hp:eQ c.toNat=(!aF (ofNat c.toNat) 32&&!aF 126 (ofNat c.toNat)):=rfl;rw[←hI,hp] at hd;refine Iw (br hj) (nK hg) rfl rfl ?_ ?_
  ·intro h;rw[h] at hd;rw[hw];exact⟨rfl,hd⟩
  intro h;rw[h] at hd;exact .inr ⟨rfl,hd,rfl⟩
 intro hI;have h1:s.all (fun c=>eQ c.toNat)=true:=by rw[hI,List.drop_length];rfl
 exact Mw (.inl ⟨rfl,h1,rfl⟩)
theorem OU {k i:Int} {s:List UInt8} {c0 c1 c2 c3 c4 c5 c6 c7 d:Bool} (h0:aB k 0=c0) (h1:aB k 1=c1) (h2:aB k 2=c2) (h3:aB k 3=c3) (h4:aB i 0=c4) (h5:aB i 1=c5) (h6:jP s []=c6) (h7:aF 2000 (ofNat s.length)=c7)
  (hl:KD (.loop (roundOf Tryz.f109 0)) (fun e q=>(e=.exit 0/\d=true/\q=(N9 37 k i s).al jW)∨(e=.ret/\d=false/\q=Oa.al jW)) ((Mb k i s (ofNat 0)).al jW)) :
  ae 109 [.dat (lI k i s)] (bv (if (!c3&&!c6)=true then false else if (!c1&&(!c2&&!c4))=true then false else if d=false then false else if (c0||c1)=true then true else if c2=true then c4||c5 else if c3=true then !c7 else false)):=by
 cases c6
 ·refine co [11,21,55,56,25,58,61,65,30,68,72,15] [] (x:=.of Tryz.f109 Ag uj) ?_;refine ox h3 ?_
  cases c3
  ·exact ox h6 fi
  refine ox h1 ?_
  cases c1
  ·refine ox h2 ?_
   cases c2
   ·refine ox h4 ?_
    cases c4
    ·exact fi
    refine lo hl ?_;rintro ex s (⟨rfl,rfl,rfl⟩|⟨rfl,rfl,rfl⟩)
    ·refine⟨_,rfl,?_⟩;refine ob h0 ?_
     cases c0
     ·refine ob h1 (ob h2 (ob h3 (ox h7 ?_)))
      cases c7 <;>
      ·exact fi
     exact fi
    refine⟨_,rfl,?_⟩;exact fi
   refine lo hl ?_;rintro ex s (⟨rfl,rfl,rfl⟩|⟨rfl,rfl,rfl⟩)
   ·refine⟨_,rfl,?_⟩;refine ob h0 ?_
    cases c0
    ·refine ob h1 (ob h2 (ob h4 ?_))
     cases c4
     ·refine ob h5 ?_
      cases c5 <;>
      ·exact fi
     exact fi
    exact fi
   refine⟨_,rfl,?_⟩;exact fi
  refine lo hl ?_;rintro ex s (⟨rfl,rfl,rfl⟩|⟨rfl,rfl,rfl⟩)
  ·refine⟨_,rfl,?_⟩;refine ob h0 ?_
   cases c0
   ·exact ob h1 fi
   exact fi
  refine⟨_,rfl,?_⟩;exact fi
 refine co [11,21,55,56,25,58,61,65,30,68,72,15] [] (x:=.of Tryz.f109 Ag uj) ?_;refine ox h3 ?_
 cases c3
 ·refine ox h6 (ox h1 ?_)
  cases c1
  ·refine ox h2 ?_
   cases c2
   ·refine ox h4 ?_
    cases c4
    ·exact fi
    refine lo hl ?_;rintro ex s (⟨rfl,rfl,rfl⟩|⟨rfl,rfl,rfl⟩)
    ·refine⟨_,rfl,?_⟩;refine ob h0 ?_
     cases c0
     ·exact ob h1 (ob h2 (ob h3 fi))
     exact fi
    refine⟨_,rfl,?_⟩;exact fi
   refine lo hl ?_;rintro ex s (⟨rfl,rfl,rfl⟩|⟨rfl,rfl,rfl⟩)
   ·refine⟨_,rfl,?_⟩;refine ob h0 ?_
    cases c0
    ·refine ob h1 (ob h2 (ob h4 ?_))
     cases c4
     ·refine ob h5 ?_
      cases c5 <;>
      ·exact fi
     exact fi
    exact fi
   refine⟨_,rfl,?_⟩;exact fi
  refine lo hl ?_;rintro ex s (⟨rfl,rfl,rfl⟩|⟨rfl,rfl,rfl⟩)
  ·refine⟨_,rfl,?_⟩;refine ob h0 ?_
   cases c0
   ·exact ob h1 fi
   exact fi
  refine⟨_,rfl,?_⟩;exact fi
 refine ox h1 ?_
 cases c1
 ·refine ox h2 ?_
  cases c2
  ·refine ox h4 ?_
   cases c4
   ·exact fi
   refine lo hl ?_;rintro ex s (⟨rfl,rfl,rfl⟩|⟨rfl,rfl,rfl⟩)
   ·refine⟨_,rfl,?_⟩;refine ob h0 ?_
    cases c0
    ·refine ob h1 (ob h2 (ob h3 (ox h7 ?_)))
     cases c7 <;>
     ·exact fi
    exact fi
   refine⟨_,rfl,?_⟩;exact fi
  refine lo hl ?_;rintro ex s (⟨rfl,rfl,rfl⟩|⟨rfl,rfl,rfl⟩)
  ·refine⟨_,rfl,?_⟩;refine ob h0 ?_
   cases c0
   ·refine ob h1 (ob h2 (ob h4 ?_))
    cases c4
    ·refine ob h5 ?_
     cases c5 <;>
     ·exact fi
    exact fi
   exact fi
  refine⟨_,rfl,?_⟩;exact fi
 refine lo hl ?_;rintro ex s (⟨rfl,rfl,rfl⟩|⟨rfl,rfl,rfl⟩)
 ·refine⟨_,rfl,?_⟩;refine ob h0 ?_
  cases c0
  ·exact ob h1 fi
  exact fi
 refine⟨_,rfl,?_⟩;exact fi
theorem DZ {k i:Int} {s:List UInt8} (hn:s.length < 1000000000):ae 109 [.dat (lI k i s)] (bv (sY k i s)):=OU rfl rfl rfl rfl rfl rfl rfl rfl (Mv hn)
noncomputable def hVE:Hints:=⟨bV,KO,bi,rowsOf bi 87⟩
def abZ (k i:Int) (s:List UInt8):Heap:=[(.loc 3,.cells [iv 0,iv 0,.dat (sb []),.dat nl]),(.loc 2,.cells [iv k,iv i,.dat (sb s),.dat nl])]
def SX (k i:Int) (s:List UInt8):ab:=⟨[(5,iv 0),(3,.ptr (.loc 3) 0),(2,.ptr (.loc 2) 0)],abZ k i s,[],0⟩
def N7 (q:Nat) (k i:Int) (s:List UInt8):ab:=⟨[(q,bv false),(5,iv 0),(3,.ptr (.loc 3) 0),(2,.ptr (.loc 2) 0)],abZ k i s,[],0⟩
theorem SF {k i:Int} {s:List UInt8} {T:ej} (e1:T (.exit 0) ((N7 38 k i s).al An)) :
  KD (roundOf Tryz.f87 0) T ((SX k i s).al An):=by
 refine aq [] [] (H:=hVE) (live:=Jl) ?_;exact oe e1
theorem SE {k i:Int} {s:List UInt8} :
  KD (.loop (roundOf Tryz.f87 0)) (fun e q=>e=.exit 0/\q=(N7 38 k i s).al An) ((SX k i s).al An):=by
 refine bm (St:=fun _=>(SX k i s).al An) 0 (fun i hi=>absurd hi (by omega)) ?_ (i:=0) (Nat.le_refl _);exact SF ⟨rfl,rfl⟩
theorem Wc {k i:Int} {s:List UInt8} {c1 c2 c3:Bool} (h1:aB k 0=c1) (h2:aB i 0=c2) (h3:jP s []=c3)
  (hl:KD (.loop (roundOf Tryz.f87 0)) (fun e q=>e=.exit 0/\q=(N7 38 k i s).al An) ((SX k i s).al An)) :
  ae 87 [.dat (lI k i s),.dat (lI 0 0 [])] (bv (c1&&(c2&&c3))):=by
 refine co [10,16,23] [] (x:=.of Tryz.f87 KO Jl) ?_;refine ox h1 ?_
 cases c1
 ·exact fi
 refine ox h2 ?_
 cases c2
 ·exact fi
 refine ox h3 ?_
 cases c3
 ·exact fi
 refine lo hl ?_;rintro ex s ⟨rfl,rfl⟩;refine⟨_,rfl,?_⟩;exact fi
theorem vF {k i:Int} {s:List UInt8}:ae 87 [.dat (lI k i s),.dat (lI 0 0 [])] (bv (B5 k i s)):=Wc rfl rfl rfl SE
def cU (s:kG):List ac:=[bv s.dst,bv s.a,bv s.b,bv s.im,bv s.nm,bv s.ar,bv s.ty,bv s.con]
noncomputable def hRV:Hints:=⟨bV,cF,bi,rowsOf bi 70⟩
def ab1 (c2 c3 c5:List ac):Heap:=[(.loc 5,.cells c5),(.loc 3,.cells c3),(.loc 2,.cells c2)]
def BJ (c2 c3 c5:List ac) (i:Int):ab:=⟨[(6,iv i),(5,.ptr (.loc 5) 0),(3,.ptr (.loc 3) 0),(2,.ptr (.loc 2) 0)],ab1 c2 c3 c5,[],0⟩
def Cn (c2 c3 c5:List ac) (i:Int):ab:=⟨[(142,bv false),(6,iv i),(5,.ptr (.loc 5) 0),(3,.ptr (.loc 3) 0),(2,.ptr (.loc 2) 0)],ab1 c2 c3 c5,[],0⟩
def N8:ab:=⟨[(4,bv false)],[],[],0⟩
theorem OE {ar:List Int} {t p sl op:Int} {d1 d2:ak} (g1:dj d1) (g2:dj d2) {dst a b im:Int} {nm:List UInt8} {k:Int} {tn:List UInt8} {ix:Int} {dt:ak} {ck ci:Int} {cs:List UInt8} {s:kG} {c:Bool} {i:Nat} {T:ej} (hi:i < (ar.map iN).length) (ht:ar[i]?=some t)
  (hc:ae 105 [.dat (aN p sl d1 d2),iv t] (bv c))
  (e1:c=true->T .normal ((BJ (cC p sl d1 d2) (cX op dst a b im nm (.slice (ar.map iN)) k tn ix dt ck ci cs) (cU s) (an .i64 (ofNat i+1))).al iG)) (e2:c=false->T .ret (N8.al iG)) :
  KD (roundOf Tryz.f70 0) T ((BJ (cC p sl d1 d2) (cX op dst a b im nm (.slice (ar.map iN)) k tn ix dt ck ci cs) (cU s) (ofNat i)).al iG):=by
 have h1:=br hi;have h2:=wb ht;have q3:=aO false 2 (p:=p) (s:=sl) g1 g2;generalize ar.map iN=es at *;clear ht hi g1 g2;refine aq [142] [145,149] (H:=hRV) (live:=bu) (ob h1 (oo q3 (oo h2 (on hc ?_))))
 cases c
 ·exact oe (e2 rfl)
 exact oe (e1 rfl)
theorem S7 {es:List ak} {p sl op:Int} {d1 d2:ak} {dst a b im:Int} {nm:List UInt8} {k:Int} {tn:List UInt8} {ix:Int} {dt:ak} {ck ci:Int} {cs:List UInt8} {s:kG} {T:ej}
  (e1:T (.exit 0) ((Cn (cC p sl d1 d2) (cX op dst a b im nm (.slice es) k tn ix dt ck ci cs) (cU s) (ofNat es.length)).al iG)) :
  KD (roundOf Tryz.f70 0) T ((BJ (cC p sl d1 d2) (cX op dst a b im nm (.slice es) k tn ix dt ck ci cs) (cU s) (ofNat es.length)).al iG):=by
 have h1:=cj (i:=es.length) (L:=es.length) (by omega);exact aq [142] [] (H:=hRV) (live:=bu) (ob h1 (oe e1))
theorem OH {p sl op:Int} {d1 d2:ak} {dst a b im:Int} {nm:List UInt8} {k:Int} {tn:List UInt8} {ix:Int} {dt:ak} {ck ci:Int} {cs:List UInt8} {s:kG} {T:ej}
  (e1:T (.exit 0) ((Cn (cC p sl d1 d2) (cX op dst a b im nm nl k tn ix dt ck ci cs) (cU s) 0).al iG)) :
  KD (roundOf Tryz.f70 0) T ((BJ (cC p sl d1 d2) (cX op dst a b im nm nl k tn ix dt ck ci cs) (cU s) 0).al iG):=by
 refine aq [] [] (H:=hRV) (live:=bu) ?_;exact oe e1
theorem Kt {ar:List Int} (hn:ar.length < 1000000000) {p sl op:Int} {d1 d2:ak} (g1:dj d1) (g2:dj d2) {dst a b im:Int} {nm:List UInt8} {k:Int} {tn:List UInt8} {ix:Int} {dt:ak} {ck ci:Int} {cs:List UInt8} {s:kG} :
  KD (.loop (roundOf Tryz.f70 0)) (fun e q=>(e=.exit 0/\ar.all (fun n=>eo n sl)=true/\q=(Cn (cC p sl d1 d2) (cX op dst a b im nm (.slice (ar.map iN)) k tn ix dt ck ci cs) (cU s) (ofNat (ar.map iN).length)).al iG)∨(e=.ret/\ar.all (fun n=>eo n sl)=false/\q=N8.al iG))
   ((BJ (cC p sl d1 d2) (cX op dst a b im nm (.slice (ar.map iN)) k tn ix dt ck ci cs) (cU s) 0).al iG):=by
 refine cV (St:=fun i=>(BJ (cC p sl d1 d2) (cX op dst a b im nm (.slice (ar.map iN)) k tn ix dt ck ci cs) (cU s) (ofNat i)).al iG) (fun i=>ar.all (fun n=>eo n sl)=(ar.drop i).all (fun n=>eo n sl)) (ar.map iN).length ?_ ?_ (i:=0) (Nat.zero_le _) rfl
 ·intro i hi hI;have hi2:i < ar.length:=by simpa using hi
  have ht:ar[i]?=some (ar[i]):=List.getElem?_eq_getElem hi2;have ha:(ar.drop i).all (fun n=>eo n sl)=(eo ar[i] sl&&(ar.drop (i+1)).all (fun n=>eo n sl)):=by rw[List.drop_eq_getElem_cons hi2];rfl
  generalize ar[i]=t at ht ha;rw[←hI] at ha;have hc:=@jy p t sl _ _ g1 g2;generalize eo t sl=c at hc ha;have hw:an .i64 (ofNat i+1)=ofNat (i+1):=bb (by omega);refine OE g1 g2 hi ht hc ?_ ?_
  ·rintro rfl;rw[hw];exact⟨rfl,ha⟩
  rintro rfl;exact .inr ⟨rfl,ha,rfl⟩
 intro hI;have h1:ar.all (fun n=>eo n sl)=true:=by
  rw[hI,List.length_map,List.drop_length];rfl
 exact S7 (.inl ⟨rfl,h1,rfl⟩)
theorem OG {p sl op:Int} {d1 d2:ak} {dst a b im:Int} {nm:List UInt8} {k:Int} {tn:List UInt8} {ix:Int} {dt:ak} {ck ci:Int} {cs:List UInt8} {s:kG} :
  KD (.loop (roundOf Tryz.f70 0)) (fun e q=>e=.exit 0/\q=(Cn (cC p sl d1 d2) (cX op dst a b im nm nl k tn ix dt ck ci cs) (cU s) 0).al iG)
   ((BJ (cC p sl d1 d2) (cX op dst a b im nm nl k tn ix dt ck ci cs) (cU s) 0).al iG):=by
 refine bm (St:=fun _=>(BJ (cC p sl d1 d2) (cX op dst a b im nm nl k tn ix dt ck ci cs) (cU s) 0).al iG) 0 (fun i hi=>absurd hi (by omega)) ?_ (i:=0) (Nat.le_refl _);exact OH ⟨rfl,rfl⟩
def rvF (s:kG) (op:Int) (z1 z2 z3 z4 z5 z6 z7 z8 z9 t1 t2 t3 d w1 w5 w3 w4 i0 i1 i2 i3 i4 i5 i6:Bool):Bool:=
 ((s.dst||z1)&&((s.a||z2)&&((s.b||z3)&&((s.im||z4)&&((s.nm||z5)&&((s.ar||!z6)&&((s.ty||z7)&&(s.con||z8)))))))) &&
 (((!(s.dst&&!t1)&&(!(s.a&&!t2)&&(!(s.b&&!t3)&&!z9)))&&d)&&(((!s.nm||w1)&&((!s.ty||(w5&&w3))&&(!s.con||w4))) &&
 (if (aB op 12||aB op 13)=true then !i0&&i5 else if aB op 3=true then !i1&&(!i2&&(!i4||z3)) else if aB op 8=true then !i0&&i3 else if aB op 17=true then !i0&&i6 else if (aB op 20||aB op 22)=true then !i1 else true)))
def BE (n:Nat):Prop:=∀{p sl:Int} {is:List ak} {d2:ak} (_:dj d2) {es:List ak} {dst a b im:Int} {nm:List UInt8} {k:Int} {tn:List UInt8} {ix:Int} {dt:ak} {ck ci:Int} {cs:List UInt8} (_:dj dt) {z1 z2 z3 z4 z5 z6 z7 z8 z9 t1 t2 t3 d w1 w5 w3 w4 i0 i1 i2 i3 i4 i5 i6:Bool} {w2:Int},
  aB dst 0=z1->aB a 0=z2->aB b 0=z3->aB im 0=z4->jP nm []=z5->aF 0 (ofNat es.length)=z6->aF 6 (ofNat es.length)=z9->ae 104 [] (.dat (Ty.mk 0 [] 0 []).enc)->ae 86 [.dat (.agg [i64 k,sb tn,i64 ix,dt]),.dat (Ty.mk 0 [] 0 []).enc] (bv z7)->ae 87 [.dat (lI ck ci cs),.dat (lI 0 0 [])] (bv z8)->
  ae 105 [.dat (aN p sl (.slice is) d2),iv dst] (bv t1)->ae 105 [.dat (aN p sl (.slice is) d2),iv a] (bv t2)->ae 105 [.dat (aN p sl (.slice is) d2),iv b] (bv t3)->
  ae 106 [.dat (sb nm)] (bv w1)->ae 107 [.dat (.agg [i64 k,sb tn,i64 ix,dt])] (iv w2)->aB w2 0=w5->ae 108 [.dat (.agg [i64 k,sb tn,i64 ix,dt])] (bv w3)->ae 109 [.dat (lI ck ci cs)] (bv w4)->
  aF im 0=i0->aF im 1=i1->aF 7 im=i2->aF im 6=i3->aB im 5=i4->aF im (ofNat is.length)=i5->(∀ed,d2=.slice ed->aF im (ofNat ed.length)=i6)->(d2=nl->i6=i0)->
  KD (.loop (roundOf Tryz.f70 0)) (fun e q=>(e=.exit 0/\d=true/\q=(Cn (cC p sl (.slice is) d2) (cX (ofNat n) dst a b im nm (.slice es) k tn ix dt ck ci cs) (cU (lU (ki n))) (ofNat es.length)).al iG)∨(e=.ret/\d=false/\q=N8.al iG)) ((BJ (cC p sl (.slice is) d2) (cX (ofNat n) dst a b im nm (.slice es) k tn ix dt ck ci cs) (cU (lU (ki n))) 0).al iG)->
  ae 70 [.dat (aN p sl (.slice is) d2),.dat (eH (ofNat n) dst a b im nm (.slice es) k tn ix dt ck ci cs)] (bv (rvF (lU (ki n)) (ofNat n) z1 z2 z3 z4 z5 z6 z7 z8 z9 t1 t2 t3 d w1 w5 w3 w4 i0 i1 i2 i3 i4 i5 i6))
def BF (n:Nat):Prop:=∀{p sl:Int} {is:List ak} {d2:ak} (_:dj d2) {dst a b im:Int} {nm:List UInt8} {k:Int} {tn:List UInt8} {ix:Int} {dt:ak} {ck ci:Int} {cs:List UInt8} (_:dj dt) {z1 z2 z3 z4 z5 z6 z7 z8 z9 t1 t2 t3 d w1 w5 w3 w4 i0 i1 i2 i3 i4 i5 i6:Bool} {w2:Int},
  aB dst 0=z1->aB a 0=z2->aB b 0=z3->aB im 0=z4->jP nm []=z5->z6=false->z9=false->d=true->ae 104 [] (.dat (Ty.mk 0 [] 0 []).enc)->ae 86 [.dat (.agg [i64 k,sb tn,i64 ix,dt]),.dat (Ty.mk 0 [] 0 []).enc] (bv z7)->ae 87 [.dat (lI ck ci cs),.dat (lI 0 0 [])] (bv z8)->
  ae 105 [.dat (aN p sl (.slice is) d2),iv dst] (bv t1)->ae 105 [.dat (aN p sl (.slice is) d2),iv a] (bv t2)->ae 105 [.dat (aN p sl (.slice is) d2),iv b] (bv t3)->
  ae 106 [.dat (sb nm)] (bv w1)->ae 107 [.dat (.agg [i64 k,sb tn,i64 ix,dt])] (iv w2)->aB w2 0=w5->ae 108 [.dat (.agg [i64 k,sb tn,i64 ix,dt])] (bv w3)->ae 109 [.dat (lI ck ci cs)] (bv w4)->
  aF im 0=i0->aF im 1=i1->aF 7 im=i2->aF im 6=i3->aB im 5=i4->aF im (ofNat is.length)=i5->(∀ed,d2=.slice ed->aF im (ofNat ed.length)=i6)->(d2=nl->i6=i0)->
  KD (.loop (roundOf Tryz.f70 0)) (fun e q=>e=.exit 0/\q=(Cn (cC p sl (.slice is) d2) (cX (ofNat n) dst a b im nm nl k tn ix dt ck ci cs) (cU (lU (ki n))) 0).al iG) ((BJ (cC p sl (.slice is) d2) (cX (ofNat n) dst a b im nm nl k tn ix dt ck ci cs) (cU (lU (ki n))) 0).al iG)->
  ae 70 [.dat (aN p sl (.slice is) d2),.dat (eH (ofNat n) dst a b im nm nl k tn ix dt ck ci cs)] (bv (rvF (lU (ki n)) (ofNat n) z1 z2 z3 z4 z5 z6 z7 z8 z9 t1 t2 t3 d w1 w5 w3 w4 i0 i1 i2 i3 i4 i5 i6))
theorem OF {p sl op:Int} {d1 d2:ak} (g1:dj d1) (g2:dj d2) {dst a b im:Int} {nm:List UInt8} {dx:ak} {k:Int} {tn:List UInt8} {ix:Int} {dt:ak} {ck ci:Int} {cs:List UInt8} (g3:dj dx) (g4:dj dt) {c1 c2:Bool} (h1:aF op 1=c1) (h2:aF 22 op=c2) (hc:c1=false->c2=true) (hu:ae 62 [iv op] (.dat kG.zero.use)) :
  ae 70 [.dat (aN p sl d1 d2),.dat (eH op dst a b im nm dx k tn ix dt ck ci cs)] (bv false):=by
 have q1:=aS (p:=p) (s:=sl) g1 g2;have q2:=@bw op dst a b im nm dx k tn ix _ ck ci cs g3 g4;clear g1 g2 g3 g4
 cases c1
 ·obtain rfl:=hc rfl;clear hc;refine co [12,16] [2,3] (x:=.of Tryz.f70 cF bu) ?_;exact oo q1 (oo q2 (on hu (ob h1 (ob h2 fi))))
 clear hc;refine co [12] [2,3] (x:=.of Tryz.f70 cF bu) ?_;exact oo q1 (oo q2 (on hu (ob h1 fi)))
theorem abB:BE 1:=by
 intro p sl is d2 g2 es dst a b im nm k tn ix dt ck ci cs g4 z1 z2 z3 z4 z5 z6 z7 z8 z9 t1 t2 t3 d w1 w5 w3 w4 i0 i1 i2 i3 i4 i5 i6 w2 u1 u2 u3 u4 u5 u6 u9 ua u7 u8 v1 v2 v3 x1 x2 x5 x3 x4 y0 y1 y2 y3 y4 y5 y6 y7 hl;have hu:=fa 1 (by decide) (by decide);clear y6 y7;have q1:=@aS p sl (.slice is) _ (.inr ⟨_,rfl⟩) g2;have q2:=@bw (ofNat 1) dst a b im nm (.slice es) k tn ix _ ck ci cs (.inr ⟨_,rfl⟩) g4;have q3:=@aO false 2 p sl (.slice is) _ (.inr ⟨_,rfl⟩) g2;have q5:=@bD false 3 (ofNat 1) dst a b im nm (.slice es) k tn ix dt ck ci cs (.inr ⟨_,rfl⟩) g4;have q6:=@bg false 3 (ofNat 1) dst a b im nm (.slice es) k tn ix dt ck ci cs (.inr ⟨_,rfl⟩) g4;clear g2 g4;refine co [33,43,53,63,74,136] [2,3,83,104,182] (x:=.of Tryz.f70 cF bu) ?_;refine oo q1 (oo q2 (on hu (ox u2 ?_)))
 cases z2
 ·exact fi
 refine ox u3 ?_
 cases z3
 ·exact fi
 refine ox u4 ?_
 cases z4
 ·exact fi
 refine ox u5 ?_
 cases z5
 ·exact fi
 refine ob u6 ?_
 cases z6
 ·refine oo q5 (on ua (on u7 ?_))
  cases z7
  ·exact fi
  refine oo q3 (on v1 ?_)
  cases t1
  ·exact fi
  refine ob u9 ?_
  cases z9
  ·refine lo hl ?_;rintro ex s (⟨rfl,rfl,rfl⟩|⟨rfl,rfl,rfl⟩)
   ·refine⟨_,rfl,?_⟩;refine oo q6 (on x4 ?_)
    cases w4 <;>
    ·exact fi
   refine⟨_,rfl,?_⟩;exact fi
  exact fi
 exact fi
theorem abC:BF 1:=by
 intro p sl is d2 g2 dst a b im nm k tn ix dt ck ci cs g4 z1 z2 z3 z4 z5 z6 z7 z8 z9 t1 t2 t3 d w1 w5 w3 w4 i0 i1 i2 i3 i4 i5 i6 w2 u1 u2 u3 u4 u5 u6 u9 ud ua u7 u8 v1 v2 v3 x1 x2 x5 x3 x4 y0 y1 y2 y3 y4 y5 y6 y7 hl;subst u6 u9 ud;have hu:=fa 1 (by decide) (by decide);clear y6 y7;have q1:=@aS p sl (.slice is) _ (.inr ⟨_,rfl⟩) g2;have q2:=@bw (ofNat 1) dst a b im nm nl k tn ix _ ck ci cs (.inl rfl) g4;have q3:=@aO false 2 p sl (.slice is) _ (.inr ⟨_,rfl⟩) g2;have q5:=@bD false 3 (ofNat 1) dst a b im nm nl k tn ix dt ck ci cs (.inl rfl) g4;have q6:=@bg false 3 (ofNat 1) dst a b im nm nl k tn ix dt ck ci cs (.inl rfl) g4;clear g2 g4;refine co [33,43,53,63] [2,3,83,104,182] (x:=.of Tryz.f70 cF bu) ?_;refine oo q1 (oo q2 (on hu (ox u2 ?_)))
 cases z2
 ·exact fi
 refine ox u3 ?_
 cases z3
 ·exact fi
 refine ox u4 ?_
 cases z4
 ·exact fi
 refine ox u5 ?_
 cases z5
 ·exact fi
 refine oo q5 (on ua (on u7 ?_))
 cases z7
 ·exact fi
 refine oo q3 (on v1 ?_)
 cases t1
 ·exact fi
 refine lo hl ?_;rintro ex s ⟨rfl,rfl⟩;refine⟨_,rfl,?_⟩;refine oo q6 (on x4 ?_)
 cases w4 <;>
 ·exact fi
theorem abz:BE 2:=by
 intro p sl is d2 g2 es dst a b im nm k tn ix dt ck ci cs g4 z1 z2 z3 z4 z5 z6 z7 z8 z9 t1 t2 t3 d w1 w5 w3 w4 i0 i1 i2 i3 i4 i5 i6 w2 u1 u2 u3 u4 u5 u6 u9 ua u7 u8 v1 v2 v3 x1 x2 x5 x3 x4 y0 y1 y2 y3 y4 y5 y6 y7 hl;have hu:=fa 2 (by decide) (by decide);clear y6 y7;have q1:=@aS p sl (.slice is) _ (.inr ⟨_,rfl⟩) g2;have q2:=@bw (ofNat 2) dst a b im nm (.slice es) k tn ix _ ck ci cs (.inr ⟨_,rfl⟩) g4;have q3:=@aO false 2 p sl (.slice is) _ (.inr ⟨_,rfl⟩) g2;have q5:=@bD false 3 (ofNat 2) dst a b im nm (.slice es) k tn ix dt ck ci cs (.inr ⟨_,rfl⟩) g4;have q6:=@bg false 3 (ofNat 2) dst a b im nm (.slice es) k tn ix dt ck ci cs (.inr ⟨_,rfl⟩) g4;clear g2 g4;refine co [43,53,63,74,136] [2,3,83,95,104,114] (x:=.of Tryz.f70 cF bu) ?_;refine oo q1 (oo q2 (on hu (ox u3 ?_)))
 cases z3
 ·exact fi
 refine ox u4 ?_
 cases z4
 ·exact fi
 refine ox u5 ?_
 cases z5
 ·exact fi
 refine ob u6 ?_
 cases z6
 ·refine oo q5 (on ua (on u7 ?_))
  cases z7
  ·exact fi
  refine oo q6 (on u8 ?_)
  cases z8
  ·exact fi
  refine oo q3 (on v1 ?_)
  cases t1
  ·exact fi
  refine oo q3 (on v2 ?_)
  cases t2
  ·exact fi
  refine ob u9 ?_
  cases z9
  ·refine lo hl ?_;rintro ex s (⟨rfl,rfl,rfl⟩|⟨rfl,rfl,rfl⟩) <;>
   ·refine⟨_,rfl,?_⟩;exact fi
  exact fi
 exact fi
theorem abA:BF 2:=by
 intro p sl is d2 g2 dst a b im nm k tn ix dt ck ci cs g4 z1 z2 z3 z4 z5 z6 z7 z8 z9 t1 t2 t3 d w1 w5 w3 w4 i0 i1 i2 i3 i4 i5 i6 w2 u1 u2 u3 u4 u5 u6 u9 ud ua u7 u8 v1 v2 v3 x1 x2 x5 x3 x4 y0 y1 y2 y3 y4 y5 y6 y7 hl;subst u6 u9 ud;have hu:=fa 2 (by decide) (by decide);clear y6 y7;have q1:=@aS p sl (.slice is) _ (.inr ⟨_,rfl⟩) g2;have q2:=@bw (ofNat 2) dst a b im nm nl k tn ix _ ck ci cs (.inl rfl) g4;have q3:=@aO false 2 p sl (.slice is) _ (.inr ⟨_,rfl⟩) g2;have q5:=@bD false 3 (ofNat 2) dst a b im nm nl k tn ix dt ck ci cs (.inl rfl) g4;have q6:=@bg false 3 (ofNat 2) dst a b im nm nl k tn ix dt ck ci cs (.inl rfl) g4;clear g2 g4;refine co [43,53,63] [2,3,83,95,104,114] (x:=.of Tryz.f70 cF bu) ?_;refine oo q1 (oo q2 (on hu (ox u3 ?_)))
 cases z3
 ·exact fi
 refine ox u4 ?_
 cases z4
 ·exact fi
 refine ox u5 ?_
 cases z5
 ·exact fi
 refine oo q5 (on ua (on u7 ?_))
 cases z7
 ·exact fi
 refine oo q6 (on u8 ?_)
 cases z8
 ·exact fi
 refine oo q3 (on v1 ?_)
 cases t1
 ·exact fi
 refine oo q3 (on v2 ?_)
 cases t2
 ·exact fi
 refine lo hl ?_;rintro ex s ⟨rfl,rfl⟩;refine⟨_,rfl,?_⟩;exact fi
theorem abx:BE 3:=by
 intro p sl is d2 g2 es dst a b im nm k tn ix dt ck ci cs g4 z1 z2 z3 z4 z5 z6 z7 z8 z9 t1 t2 t3 d w1 w5 w3 w4 i0 i1 i2 i3 i4 i5 i6 w2 u1 u2 u3 u4 u5 u6 u9 ua u7 u8 v1 v2 v3 x1 x2 x5 x3 x4 y0 y1 y2 y3 y4 y5 y6 y7 hl;have hu:=fa 3 (by decide) (by decide);clear y6 y7;have q1:=@aS p sl (.slice is) _ (.inr ⟨_,rfl⟩) g2;have q2:=@bw (ofNat 3) dst a b im nm (.slice es) k tn ix _ ck ci cs (.inr ⟨_,rfl⟩) g4;have q3:=@aO false 2 p sl (.slice is) _ (.inr ⟨_,rfl⟩) g2;have q5:=@bD false 3 (ofNat 3) dst a b im nm (.slice es) k tn ix dt ck ci cs (.inr ⟨_,rfl⟩) g4;have q6:=@bg false 3 (ofNat 3) dst a b im nm (.slice es) k tn ix dt ck ci cs (.inr ⟨_,rfl⟩) g4;clear g2 g4;refine co [63,74,136,207,211,216,220] [2,3,83,95,104,114,125] (x:=.of Tryz.f70 cF bu) ?_;refine oo q1 (oo q2 (on hu (ox u5 ?_)))
 cases z5
 ·exact fi
 refine ob u6 ?_
 cases z6
 ·refine oo q5 (on ua (on u7 ?_))
  cases z7
  ·exact fi
  refine oo q6 (on u8 ?_)
  cases z8
  ·exact fi
  refine oo q3 (on v1 ?_)
  cases t1
  ·exact fi
  refine oo q3 (on v2 ?_)
  cases t2
  ·exact fi
  refine oo q3 (on v3 ?_)
  cases t3
  ·exact fi
  refine ob u9 ?_
  cases z9
  ·refine lo hl ?_;rintro ex s (⟨rfl,rfl,rfl⟩|⟨rfl,rfl,rfl⟩)
   ·refine⟨_,rfl,?_⟩;refine ox y1 ?_
    cases i1
    ·refine ox y2 ?_
     cases i2
     ·refine ox y4 ?_
      cases i4
      ·exact fi
      refine ob u3 ?_
      cases z3 <;>
      ·exact fi
     exact fi
    exact fi
   refine⟨_,rfl,?_⟩;exact fi
  exact fi
 exact fi
theorem aby:BF 3:=by
 intro p sl is d2 g2 dst a b im nm k tn ix dt ck ci cs g4 z1 z2 z3 z4 z5 z6 z7 z8 z9 t1 t2 t3 d w1 w5 w3 w4 i0 i1 i2 i3 i4 i5 i6 w2 u1 u2 u3 u4 u5 u6 u9 ud ua u7 u8 v1 v2 v3 x1 x2 x5 x3 x4 y0 y1 y2 y3 y4 y5 y6 y7 hl;subst u6 u9 ud;have hu:=fa 3 (by decide) (by decide);clear y6 y7;have q1:=@aS p sl (.slice is) _ (.inr ⟨_,rfl⟩) g2;have q2:=@bw (ofNat 3) dst a b im nm nl k tn ix _ ck ci cs (.inl rfl) g4;have q3:=@aO false 2 p sl (.slice is) _ (.inr ⟨_,rfl⟩) g2;have q5:=@bD false 3 (ofNat 3) dst a b im nm nl k tn ix dt ck ci cs (.inl rfl) g4;have q6:=@bg false 3 (ofNat 3) dst a b im nm nl k tn ix dt ck ci cs (.inl rfl) g4;clear g2 g4;refine co [63,207,211,216,220] [2,3,83,95,104,114,125] (x:=.of Tryz.f70 cF bu) ?_;refine oo q1 (oo q2 (on hu (ox u5 ?_)))
 cases z5
 ·exact fi
 refine oo q5 (on ua (on u7 ?_))
 cases z7
 ·exact fi
 refine oo q6 (on u8 ?_)
 cases z8
 ·exact fi
 refine oo q3 (on v1 ?_)
 cases t1
 ·exact fi
 refine oo q3 (on v2 ?_)
 cases t2
 ·exact fi
 refine oo q3 (on v3 ?_)
 cases t3
 ·exact fi
 refine lo hl ?_;rintro ex s ⟨rfl,rfl⟩;refine⟨_,rfl,?_⟩;refine ox y1 ?_
 cases i1
 ·refine ox y2 ?_
  cases i2
  ·refine ox y4 ?_
   cases i4
   ·exact fi
   refine ob u3 ?_
   cases z3 <;>
   ·exact fi
  exact fi
 exact fi
theorem abv:BE 4:=by
 intro p sl is d2 g2 es dst a b im nm k tn ix dt ck ci cs g4 z1 z2 z3 z4 z5 z6 z7 z8 z9 t1 t2 t3 d w1 w5 w3 w4 i0 i1 i2 i3 i4 i5 i6 w2 u1 u2 u3 u4 u5 u6 u9 ua u7 u8 v1 v2 v3 x1 x2 x5 x3 x4 y0 y1 y2 y3 y4 y5 y6 y7 hl;have hu:=fa 4 (by decide) (by decide);clear y6 y7;have q1:=@aS p sl (.slice is) _ (.inr ⟨_,rfl⟩) g2;have q2:=@bw (ofNat 4) dst a b im nm (.slice es) k tn ix _ ck ci cs (.inr ⟨_,rfl⟩) g4;have q3:=@aO false 2 p sl (.slice is) _ (.inr ⟨_,rfl⟩) g2;have q5:=@bD false 3 (ofNat 4) dst a b im nm (.slice es) k tn ix dt ck ci cs (.inr ⟨_,rfl⟩) g4;have q6:=@bg false 3 (ofNat 4) dst a b im nm (.slice es) k tn ix dt ck ci cs (.inr ⟨_,rfl⟩) g4;clear g2 g4;refine co [33,43,53,63,136,168] [2,3,95,104,166,171] (x:=.of Tryz.f70 cF bu) ?_;refine oo q1 (oo q2 (on hu (ox u2 ?_)))
 cases z2
 ·exact fi
 refine ox u3 ?_
 cases z3
 ·exact fi
 refine ox u4 ?_
 cases z4
 ·exact fi
 refine ox u5 ?_
 cases z5
 ·exact fi
 refine oo q6 (on u8 ?_)
 cases z8
 ·exact fi
 refine oo q3 (on v1 ?_)
 cases t1
 ·exact fi
 refine ob u9 ?_
 cases z9
 ·refine lo hl ?_;rintro ex s (⟨rfl,rfl,rfl⟩|⟨rfl,rfl,rfl⟩)
  ·refine⟨_,rfl,?_⟩;refine oo q5 (on x2 (ox x5 ?_))
   cases w5
   ·exact fi
   refine oo q5 (on x3 ?_)
   cases w3 <;>
   ·exact fi
  refine⟨_,rfl,?_⟩;exact fi
 exact fi
theorem abw:BF 4:=by
 intro p sl is d2 g2 dst a b im nm k tn ix dt ck ci cs g4 z1 z2 z3 z4 z5 z6 z7 z8 z9 t1 t2 t3 d w1 w5 w3 w4 i0 i1 i2 i3 i4 i5 i6 w2 u1 u2 u3 u4 u5 u6 u9 ud ua u7 u8 v1 v2 v3 x1 x2 x5 x3 x4 y0 y1 y2 y3 y4 y5 y6 y7 hl;subst u6 u9 ud;have hu:=fa 4 (by decide) (by decide);clear y6 y7;have q1:=@aS p sl (.slice is) _ (.inr ⟨_,rfl⟩) g2;have q2:=@bw (ofNat 4) dst a b im nm nl k tn ix _ ck ci cs (.inl rfl) g4;have q3:=@aO false 2 p sl (.slice is) _ (.inr ⟨_,rfl⟩) g2;have q5:=@bD false 3 (ofNat 4) dst a b im nm nl k tn ix dt ck ci cs (.inl rfl) g4;have q6:=@bg false 3 (ofNat 4) dst a b im nm nl k tn ix dt ck ci cs (.inl rfl) g4;clear g2 g4;refine co [33,43,53,63,168] [2,3,95,104,166,171] (x:=.of Tryz.f70 cF bu) ?_;refine oo q1 (oo q2 (on hu (ox u2 ?_)))
 cases z2
 ·exact fi
 refine ox u3 ?_
 cases z3
 ·exact fi
 refine ox u4 ?_
 cases z4
 ·exact fi
 refine ox u5 ?_
 cases z5
 ·exact fi
 refine oo q6 (on u8 ?_)
 cases z8
 ·exact fi
 refine oo q3 (on v1 ?_)
 cases t1
 ·exact fi
 refine lo hl ?_;rintro ex s ⟨rfl,rfl⟩;refine⟨_,rfl,?_⟩;refine oo q5 (on x2 (ox x5 ?_))
 cases w5
 ·exact fi
 refine oo q5 (on x3 ?_)
 cases w3 <;>
 ·exact fi
theorem abt:BE 5:=by
 intro p sl is d2 g2 es dst a b im nm k tn ix dt ck ci cs g4 z1 z2 z3 z4 z5 z6 z7 z8 z9 t1 t2 t3 d w1 w5 w3 w4 i0 i1 i2 i3 i4 i5 i6 w2 u1 u2 u3 u4 u5 u6 u9 ua u7 u8 v1 v2 v3 x1 x2 x5 x3 x4 y0 y1 y2 y3 y4 y5 y6 y7 hl;have hu:=fa 5 (by decide) (by decide);clear y6 y7;have q1:=@aS p sl (.slice is) _ (.inr ⟨_,rfl⟩) g2;have q2:=@bw (ofNat 5) dst a b im nm (.slice es) k tn ix _ ck ci cs (.inr ⟨_,rfl⟩) g4;have q3:=@aO false 2 p sl (.slice is) _ (.inr ⟨_,rfl⟩) g2;have q5:=@bD false 3 (ofNat 5) dst a b im nm (.slice es) k tn ix dt ck ci cs (.inr ⟨_,rfl⟩) g4;have q6:=@bg false 3 (ofNat 5) dst a b im nm (.slice es) k tn ix dt ck ci cs (.inr ⟨_,rfl⟩) g4;clear g2 g4;refine co [43,53,74,136] [2,3,83,95,104,114] (x:=.of Tryz.f70 cF bu) ?_;refine oo q1 (oo q2 (on hu (ox u3 ?_)))
 cases z3
 ·exact fi
 refine ox u4 ?_
 cases z4
 ·exact fi
 refine ob u6 ?_
 cases z6
 ·refine oo q5 (on ua (on u7 ?_))
  cases z7
  ·exact fi
  refine oo q6 (on u8 ?_)
  cases z8
  ·exact fi
  refine oo q3 (on v1 ?_)
  cases t1
  ·exact fi
  refine oo q3 (on v2 ?_)
  cases t2
  ·exact fi
  refine ob u9 ?_
  cases z9
  ·refine lo hl ?_;rintro ex s (⟨rfl,rfl,rfl⟩|⟨rfl,rfl,rfl⟩)
   ·refine⟨_,rfl,?_⟩;refine on x1 ?_
    cases w1 <;>
    ·exact fi
   refine⟨_,rfl,?_⟩;exact fi
  exact fi
 exact fi
theorem abu:BF 5:=by
 intro p sl is d2 g2 dst a b im nm k tn ix dt ck ci cs g4 z1 z2 z3 z4 z5 z6 z7 z8 z9 t1 t2 t3 d w1 w5 w3 w4 i0 i1 i2 i3 i4 i5 i6 w2 u1 u2 u3 u4 u5 u6 u9 ud ua u7 u8 v1 v2 v3 x1 x2 x5 x3 x4 y0 y1 y2 y3 y4 y5 y6 y7 hl;subst u6 u9 ud;have hu:=fa 5 (by decide) (by decide);clear y6 y7;have q1:=@aS p sl (.slice is) _ (.inr ⟨_,rfl⟩) g2;have q2:=@bw (ofNat 5) dst a b im nm nl k tn ix _ ck ci cs (.inl rfl) g4;have q3:=@aO false 2 p sl (.slice is) _ (.inr ⟨_,rfl⟩) g2;have q5:=@bD false 3 (ofNat 5) dst a b im nm nl k tn ix dt ck ci cs (.inl rfl) g4;have q6:=@bg false 3 (ofNat 5) dst a b im nm nl k tn ix dt ck ci cs (.inl rfl) g4;clear g2 g4;refine co [43,53] [2,3,83,95,104,114] (x:=.of Tryz.f70 cF bu) ?_;refine oo q1 (oo q2 (on hu (ox u3 ?_)))
 cases z3
 ·exact fi
 refine ox u4 ?_
 cases z4
 ·exact fi
 refine oo q5 (on ua (on u7 ?_))
 cases z7
 ·exact fi
 refine oo q6 (on u8 ?_)
 cases z8
 ·exact fi
 refine oo q3 (on v1 ?_)
 cases t1
 ·exact fi
 refine oo q3 (on v2 ?_)
 cases t2
 ·exact fi
 refine lo hl ?_;rintro ex s ⟨rfl,rfl⟩;refine⟨_,rfl,?_⟩;refine on x1 ?_
 cases w1 <;>
 ·exact fi
theorem abq:BE 6:=by
 intro p sl is d2 g2 es dst a b im nm k tn ix dt ck ci cs g4 z1 z2 z3 z4 z5 z6 z7 z8 z9 t1 t2 t3 d w1 w5 w3 w4 i0 i1 i2 i3 i4 i5 i6 w2 u1 u2 u3 u4 u5 u6 u9 ua u7 u8 v1 v2 v3 x1 x2 x5 x3 x4 y0 y1 y2 y3 y4 y5 y6 y7 hl;have hu:=fa 6 (by decide) (by decide);clear y6 y7;have q1:=@aS p sl (.slice is) _ (.inr ⟨_,rfl⟩) g2;have q2:=@bw (ofNat 6) dst a b im nm (.slice es) k tn ix _ ck ci cs (.inr ⟨_,rfl⟩) g4;have q3:=@aO false 2 p sl (.slice is) _ (.inr ⟨_,rfl⟩) g2;have q5:=@bD false 3 (ofNat 6) dst a b im nm (.slice es) k tn ix dt ck ci cs (.inr ⟨_,rfl⟩) g4;have q6:=@bg false 3 (ofNat 6) dst a b im nm (.slice es) k tn ix dt ck ci cs (.inr ⟨_,rfl⟩) g4;clear g2 g4;refine co [24,53,74,136] [2,3,83,95,114,125] (x:=.of Tryz.f70 cF bu) ?_;refine oo q1 (oo q2 (on hu (ox u1 ?_)))
 cases z1
 ·exact fi
 refine ox u4 ?_
 cases z4
 ·exact fi
 refine ob u6 ?_
 cases z6
 ·refine oo q5 (on ua (on u7 ?_))
  cases z7
  ·exact fi
  refine oo q6 (on u8 ?_)
  cases z8
  ·exact fi
  refine oo q3 (on v2 ?_)
  cases t2
  ·exact fi
  refine oo q3 (on v3 ?_)
  cases t3
  ·exact fi
  refine ob u9 ?_
  cases z9
  ·refine lo hl ?_;rintro ex s (⟨rfl,rfl,rfl⟩|⟨rfl,rfl,rfl⟩)
   ·refine⟨_,rfl,?_⟩;refine on x1 ?_
    cases w1 <;>
    ·exact fi
   refine⟨_,rfl,?_⟩;exact fi
  exact fi
 exact fi
theorem abr:BF 6:=by
 intro p sl is d2 g2 dst a b im nm k tn ix dt ck ci cs g4 z1 z2 z3 z4 z5 z6 z7 z8 z9 t1 t2 t3 d w1 w5 w3 w4 i0 i1 i2 i3 i4 i5 i6 w2 u1 u2 u3 u4 u5 u6 u9 ud ua u7 u8 v1 v2 v3 x1 x2 x5 x3 x4 y0 y1 y2 y3 y4 y5 y6 y7 hl;subst u6 u9 ud;have hu:=fa 6 (by decide) (by decide);clear y6 y7;have q1:=@aS p sl (.slice is) _ (.inr ⟨_,rfl⟩) g2;have q2:=@bw (ofNat 6) dst a b im nm nl k tn ix _ ck ci cs (.inl rfl) g4;have q3:=@aO false 2 p sl (.slice is) _ (.inr ⟨_,rfl⟩) g2;have q5:=@bD false 3 (ofNat 6) dst a b im nm nl k tn ix dt ck ci cs (.inl rfl) g4;have q6:=@bg false 3 (ofNat 6) dst a b im nm nl k tn ix dt ck ci cs (.inl rfl) g4;clear g2 g4;refine co [24,53] [2,3,83,95,114,125] (x:=.of Tryz.f70 cF bu) ?_;refine oo q1 (oo q2 (on hu (ox u1 ?_)))
 cases z1
 ·exact fi
 refine ox u4 ?_
 cases z4
 ·exact fi
 refine oo q5 (on ua (on u7 ?_))
 cases z7
 ·exact fi
 refine oo q6 (on u8 ?_)
 cases z8
 ·exact fi
 refine oo q3 (on v2 ?_)
 cases t2
 ·exact fi
 refine oo q3 (on v3 ?_)
 cases t3
 ·exact fi
 refine lo hl ?_;rintro ex s ⟨rfl,rfl⟩;refine⟨_,rfl,?_⟩;refine on x1 ?_
 cases w1 <;>
 ·exact fi
theorem abo:BE 7:=by
 intro p sl is d2 g2 es dst a b im nm k tn ix dt ck ci cs g4 z1 z2 z3 z4 z5 z6 z7 z8 z9 t1 t2 t3 d w1 w5 w3 w4 i0 i1 i2 i3 i4 i5 i6 w2 u1 u2 u3 u4 u5 u6 u9 ua u7 u8 v1 v2 v3 x1 x2 x5 x3 x4 y0 y1 y2 y3 y4 y5 y6 y7 hl;have hu:=fa 7 (by decide) (by decide);clear y6 y7;have q1:=@aS p sl (.slice is) _ (.inr ⟨_,rfl⟩) g2;have q2:=@bw (ofNat 7) dst a b im nm (.slice es) k tn ix _ ck ci cs (.inr ⟨_,rfl⟩) g4;have q3:=@aO false 2 p sl (.slice is) _ (.inr ⟨_,rfl⟩) g2;have q5:=@bD false 3 (ofNat 7) dst a b im nm (.slice es) k tn ix dt ck ci cs (.inr ⟨_,rfl⟩) g4;have q6:=@bg false 3 (ofNat 7) dst a b im nm (.slice es) k tn ix dt ck ci cs (.inr ⟨_,rfl⟩) g4;clear g2 g4;refine co [33,43,53,63,136] [2,3,83,95,104] (x:=.of Tryz.f70 cF bu) ?_;refine oo q1 (oo q2 (on hu (ox u2 ?_)))
 cases z2
 ·exact fi
 refine ox u3 ?_
 cases z3
 ·exact fi
 refine ox u4 ?_
 cases z4
 ·exact fi
 refine ox u5 ?_
 cases z5
 ·exact fi
 refine oo q5 (on ua (on u7 ?_))
 cases z7
 ·exact fi
 refine oo q6 (on u8 ?_)
 cases z8
 ·exact fi
 refine oo q3 (on v1 ?_)
 cases t1
 ·exact fi
 refine ob u9 ?_
 cases z9
 ·refine lo hl ?_;rintro ex s (⟨rfl,rfl,rfl⟩|⟨rfl,rfl,rfl⟩) <;>
  ·refine⟨_,rfl,?_⟩;exact fi
 exact fi
theorem abp:BF 7:=by
 intro p sl is d2 g2 dst a b im nm k tn ix dt ck ci cs g4 z1 z2 z3 z4 z5 z6 z7 z8 z9 t1 t2 t3 d w1 w5 w3 w4 i0 i1 i2 i3 i4 i5 i6 w2 u1 u2 u3 u4 u5 u6 u9 ud ua u7 u8 v1 v2 v3 x1 x2 x5 x3 x4 y0 y1 y2 y3 y4 y5 y6 y7 hl;subst u6 u9 ud;have hu:=fa 7 (by decide) (by decide);clear y6 y7;have q1:=@aS p sl (.slice is) _ (.inr ⟨_,rfl⟩) g2;have q2:=@bw (ofNat 7) dst a b im nm nl k tn ix _ ck ci cs (.inl rfl) g4;have q3:=@aO false 2 p sl (.slice is) _ (.inr ⟨_,rfl⟩) g2;have q5:=@bD false 3 (ofNat 7) dst a b im nm nl k tn ix dt ck ci cs (.inl rfl) g4;have q6:=@bg false 3 (ofNat 7) dst a b im nm nl k tn ix dt ck ci cs (.inl rfl) g4;clear g2 g4;refine co [33,43,53,63] [2,3,83,95,104] (x:=.of Tryz.f70 cF bu) ?_;refine oo q1 (oo q2 (on hu (ox u2 ?_)))
 cases z2
 ·exact fi
 refine ox u3 ?_
 cases z3
 ·exact fi
 refine ox u4 ?_
 cases z4
 ·exact fi
 refine ox u5 ?_
 cases z5
 ·exact fi
 refine oo q5 (on ua (on u7 ?_))
 cases z7
 ·exact fi
 refine oo q6 (on u8 ?_)
 cases z8
 ·exact fi
 refine oo q3 (on v1 ?_)
 cases t1
 ·exact fi
 refine lo hl ?_;rintro ex s ⟨rfl,rfl⟩;refine⟨_,rfl,?_⟩;exact fi
theorem abm:BE 8:=by
 intro p sl is d2 g2 es dst a b im nm k tn ix dt ck ci cs g4 z1 z2 z3 z4 z5 z6 z7 z8 z9 t1 t2 t3 d w1 w5 w3 w4 i0 i1 i2 i3 i4 i5 i6 w2 u1 u2 u3 u4 u5 u6 u9 ua u7 u8 v1 v2 v3 x1 x2 x5 x3 x4 y0 y1 y2 y3 y4 y5 y6 y7 hl;have hu:=fa 8 (by decide) (by decide);clear y6 y7;have q1:=@aS p sl (.slice is) _ (.inr ⟨_,rfl⟩) g2;have q2:=@bw (ofNat 8) dst a b im nm (.slice es) k tn ix _ ck ci cs (.inr ⟨_,rfl⟩) g4;have q3:=@aO false 2 p sl (.slice is) _ (.inr ⟨_,rfl⟩) g2;have q5:=@bD false 3 (ofNat 8) dst a b im nm (.slice es) k tn ix dt ck ci cs (.inr ⟨_,rfl⟩) g4;have q6:=@bg false 3 (ofNat 8) dst a b im nm (.slice es) k tn ix dt ck ci cs (.inr ⟨_,rfl⟩) g4;clear g2 g4;refine co [43,63,74,136,227,231] [2,3,83,95,104,114] (x:=.of Tryz.f70 cF bu) ?_;refine oo q1 (oo q2 (on hu (ox u3 ?_)))
 cases z3
 ·exact fi
 refine ox u5 ?_
 cases z5
 ·exact fi
 refine ob u6 ?_
 cases z6
 ·refine oo q5 (on ua (on u7 ?_))
  cases z7
  ·exact fi
  refine oo q6 (on u8 ?_)
  cases z8
  ·exact fi
  refine oo q3 (on v1 ?_)
  cases t1
  ·exact fi
  refine oo q3 (on v2 ?_)
  cases t2
  ·exact fi
  refine ob u9 ?_
  cases z9
  ·refine lo hl ?_;rintro ex s (⟨rfl,rfl,rfl⟩|⟨rfl,rfl,rfl⟩)
   ·refine⟨_,rfl,?_⟩;refine ox y0 ?_
    cases i0
    ·refine ob y3 ?_
     cases i3 <;>
     ·exact fi
    exact fi
   refine⟨_,rfl,?_⟩;exact fi
  exact fi
 exact fi
theorem abn:BF 8:=by
 intro p sl is d2 g2 dst a b im nm k tn ix dt ck ci cs g4 z1 z2 z3 z4 z5 z6 z7 z8 z9 t1 t2 t3 d w1 w5 w3 w4 i0 i1 i2 i3 i4 i5 i6 w2 u1 u2 u3 u4 u5 u6 u9 ud ua u7 u8 v1 v2 v3 x1 x2 x5 x3 x4 y0 y1 y2 y3 y4 y5 y6 y7 hl;subst u6 u9 ud;have hu:=fa 8 (by decide) (by decide);clear y6 y7;have q1:=@aS p sl (.slice is) _ (.inr ⟨_,rfl⟩) g2;have q2:=@bw (ofNat 8) dst a b im nm nl k tn ix _ ck ci cs (.inl rfl) g4;have q3:=@aO false 2 p sl (.slice is) _ (.inr ⟨_,rfl⟩) g2;have q5:=@bD false 3 (ofNat 8) dst a b im nm nl k tn ix dt ck ci cs (.inl rfl) g4;have q6:=@bg false 3 (ofNat 8) dst a b im nm nl k tn ix dt ck ci cs (.inl rfl) g4;clear g2 g4;refine co [43,63,227,231] [2,3,83,95,104,114] (x:=.of Tryz.f70 cF bu) ?_;refine oo q1 (oo q2 (on hu (ox u3 ?_)))
 cases z3
 ·exact fi
 refine ox u5 ?_
 cases z5
 ·exact fi
 refine oo q5 (on ua (on u7 ?_))
 cases z7
 ·exact fi
 refine oo q6 (on u8 ?_)
 cases z8
 ·exact fi
 refine oo q3 (on v1 ?_)
 cases t1
 ·exact fi
 refine oo q3 (on v2 ?_)
 cases t2
 ·exact fi
 refine lo hl ?_;rintro ex s ⟨rfl,rfl⟩;refine⟨_,rfl,?_⟩;refine ox y0 ?_
 cases i0
 ·refine ob y3 ?_
  cases i3 <;>
  ·exact fi
 exact fi
theorem abk:BE 9:=by
 intro p sl is d2 g2 es dst a b im nm k tn ix dt ck ci cs g4 z1 z2 z3 z4 z5 z6 z7 z8 z9 t1 t2 t3 d w1 w5 w3 w4 i0 i1 i2 i3 i4 i5 i6 w2 u1 u2 u3 u4 u5 u6 u9 ua u7 u8 v1 v2 v3 x1 x2 x5 x3 x4 y0 y1 y2 y3 y4 y5 y6 y7 hl;have hu:=fa 9 (by decide) (by decide);clear y6 y7;have q1:=@aS p sl (.slice is) _ (.inr ⟨_,rfl⟩) g2;have q2:=@bw (ofNat 9) dst a b im nm (.slice es) k tn ix _ ck ci cs (.inr ⟨_,rfl⟩) g4;have q3:=@aO false 2 p sl (.slice is) _ (.inr ⟨_,rfl⟩) g2;have q5:=@bD false 3 (ofNat 9) dst a b im nm (.slice es) k tn ix dt ck ci cs (.inr ⟨_,rfl⟩) g4;have q6:=@bg false 3 (ofNat 9) dst a b im nm (.slice es) k tn ix dt ck ci cs (.inr ⟨_,rfl⟩) g4;clear g2 g4;refine co [43,53,63,74,136,168] [2,3,95,104,114,166,171] (x:=.of Tryz.f70 cF bu) ?_;refine oo q1 (oo q2 (on hu (ox u3 ?_)))
 cases z3
 ·exact fi
 refine ox u4 ?_
 cases z4
 ·exact fi
 refine ox u5 ?_
 cases z5
 ·exact fi
 refine ob u6 ?_
 cases z6
 ·refine oo q6 (on u8 ?_)
  cases z8
  ·exact fi
  refine oo q3 (on v1 ?_)
  cases t1
  ·exact fi
  refine oo q3 (on v2 ?_)
  cases t2
  ·exact fi
  refine ob u9 ?_
  cases z9
  ·refine lo hl ?_;rintro ex s (⟨rfl,rfl,rfl⟩|⟨rfl,rfl,rfl⟩)
   ·refine⟨_,rfl,?_⟩;refine oo q5 (on x2 (ox x5 ?_))
    cases w5
    ·exact fi
    refine oo q5 (on x3 ?_)
    cases w3 <;>
    ·exact fi
   refine⟨_,rfl,?_⟩;exact fi
  exact fi
 exact fi
theorem abl:BF 9:=by
 intro p sl is d2 g2 dst a b im nm k tn ix dt ck ci cs g4 z1 z2 z3 z4 z5 z6 z7 z8 z9 t1 t2 t3 d w1 w5 w3 w4 i0 i1 i2 i3 i4 i5 i6 w2 u1 u2 u3 u4 u5 u6 u9 ud ua u7 u8 v1 v2 v3 x1 x2 x5 x3 x4 y0 y1 y2 y3 y4 y5 y6 y7 hl;subst u6 u9 ud;have hu:=fa 9 (by decide) (by decide);clear y6 y7;have q1:=@aS p sl (.slice is) _ (.inr ⟨_,rfl⟩) g2;have q2:=@bw (ofNat 9) dst a b im nm nl k tn ix _ ck ci cs (.inl rfl) g4;have q3:=@aO false 2 p sl (.slice is) _ (.inr ⟨_,rfl⟩) g2;have q5:=@bD false 3 (ofNat 9) dst a b im nm nl k tn ix dt ck ci cs (.inl rfl) g4;have q6:=@bg false 3 (ofNat 9) dst a b im nm nl k tn ix dt ck ci cs (.inl rfl) g4;clear g2 g4;refine co [43,53,63,168] [2,3,95,104,114,166,171] (x:=.of Tryz.f70 cF bu) ?_;refine oo q1 (oo q2 (on hu (ox u3 ?_)))
 cases z3
 ·exact fi
 refine ox u4 ?_
 cases z4
 ·exact fi
 refine ox u5 ?_
 cases z5
 ·exact fi
 refine oo q6 (on u8 ?_)
 cases z8
 ·exact fi
 refine oo q3 (on v1 ?_)
 cases t1
 ·exact fi
 refine oo q3 (on v2 ?_)
 cases t2
 ·exact fi
 refine lo hl ?_;rintro ex s ⟨rfl,rfl⟩;refine⟨_,rfl,?_⟩;refine oo q5 (on x2 (ox x5 ?_))
 cases w5
 ·exact fi
 refine oo q5 (on x3 ?_)
 cases w3 <;>
 ·exact fi
theorem Xi:BE 10:=by
 intro p sl is d2 g2 es dst a b im nm k tn ix dt ck ci cs g4 z1 z2 z3 z4 z5 z6 z7 z8 z9 t1 t2 t3 d w1 w5 w3 w4 i0 i1 i2 i3 i4 i5 i6 w2 u1 u2 u3 u4 u5 u6 u9 ua u7 u8 v1 v2 v3 x1 x2 x5 x3 x4 y0 y1 y2 y3 y4 y5 y6 y7 hl;have hu:=fa 10 (by decide) (by decide);clear y6 y7;have q1:=@aS p sl (.slice is) _ (.inr ⟨_,rfl⟩) g2;have q2:=@bw (ofNat 10) dst a b im nm (.slice es) k tn ix _ ck ci cs (.inr ⟨_,rfl⟩) g4;have q3:=@aO false 2 p sl (.slice is) _ (.inr ⟨_,rfl⟩) g2;have q5:=@bD false 3 (ofNat 10) dst a b im nm (.slice es) k tn ix dt ck ci cs (.inr ⟨_,rfl⟩) g4;have q6:=@bg false 3 (ofNat 10) dst a b im nm (.slice es) k tn ix dt ck ci cs (.inr ⟨_,rfl⟩) g4;clear g2 g4;refine co [33,43,53,136] [2,3,83,95,104] (x:=.of Tryz.f70 cF bu) ?_;refine oo q1 (oo q2 (on hu (ox u2 ?_)))
 cases z2
 ·exact fi
 refine ox u3 ?_
 cases z3
 ·exact fi
 refine ox u4 ?_
 cases z4
 ·exact fi
 refine oo q5 (on ua (on u7 ?_))
 cases z7
 ·exact fi
 refine oo q6 (on u8 ?_)
 cases z8
 ·exact fi
 refine oo q3 (on v1 ?_)
 cases t1
 ·exact fi
 refine ob u9 ?_
 cases z9
 ·refine lo hl ?_;rintro ex s (⟨rfl,rfl,rfl⟩|⟨rfl,rfl,rfl⟩)
  ·refine⟨_,rfl,?_⟩;refine on x1 ?_
   cases w1 <;>
   ·exact fi
  refine⟨_,rfl,?_⟩;exact fi
 exact fi
theorem Xj:BF 10:=by
 intro p sl is d2 g2 dst a b im nm k tn ix dt ck ci cs g4 z1 z2 z3 z4 z5 z6 z7 z8 z9 t1 t2 t3 d w1 w5 w3 w4 i0 i1 i2 i3 i4 i5 i6 w2 u1 u2 u3 u4 u5 u6 u9 ud ua u7 u8 v1 v2 v3 x1 x2 x5 x3 x4 y0 y1 y2 y3 y4 y5 y6 y7 hl;subst u6 u9 ud;have hu:=fa 10 (by decide) (by decide);clear y6 y7;have q1:=@aS p sl (.slice is) _ (.inr ⟨_,rfl⟩) g2;have q2:=@bw (ofNat 10) dst a b im nm nl k tn ix _ ck ci cs (.inl rfl) g4;have q3:=@aO false 2 p sl (.slice is) _ (.inr ⟨_,rfl⟩) g2;have q5:=@bD false 3 (ofNat 10) dst a b im nm nl k tn ix dt ck ci cs (.inl rfl) g4;have q6:=@bg false 3 (ofNat 10) dst a b im nm nl k tn ix dt ck ci cs (.inl rfl) g4;clear g2 g4;refine co [33,43,53] [2,3,83,95,104] (x:=.of Tryz.f70 cF bu) ?_;refine oo q1 (oo q2 (on hu (ox u2 ?_)))
 cases z2
 ·exact fi
 refine ox u3 ?_
 cases z3
 ·exact fi
 refine ox u4 ?_
 cases z4
 ·exact fi
 refine oo q5 (on ua (on u7 ?_))
 cases z7
 ·exact fi
 refine oo q6 (on u8 ?_)
 cases z8
 ·exact fi
 refine oo q3 (on v1 ?_)
 cases t1
 ·exact fi
 refine lo hl ?_;rintro ex s ⟨rfl,rfl⟩;refine⟨_,rfl,?_⟩;refine on x1 ?_
 cases w1 <;>
 ·exact fi
theorem Xg:BE 11:=by
 intro p sl is d2 g2 es dst a b im nm k tn ix dt ck ci cs g4 z1 z2 z3 z4 z5 z6 z7 z8 z9 t1 t2 t3 d w1 w5 w3 w4 i0 i1 i2 i3 i4 i5 i6 w2 u1 u2 u3 u4 u5 u6 u9 ua u7 u8 v1 v2 v3 x1 x2 x5 x3 x4 y0 y1 y2 y3 y4 y5 y6 y7 hl;have hu:=fa 11 (by decide) (by decide);clear y6 y7;have q1:=@aS p sl (.slice is) _ (.inr ⟨_,rfl⟩) g2;have q2:=@bw (ofNat 11) dst a b im nm (.slice es) k tn ix _ ck ci cs (.inr ⟨_,rfl⟩) g4;have q3:=@aO false 2 p sl (.slice is) _ (.inr ⟨_,rfl⟩) g2;have q5:=@bD false 3 (ofNat 11) dst a b im nm (.slice es) k tn ix dt ck ci cs (.inr ⟨_,rfl⟩) g4;have q6:=@bg false 3 (ofNat 11) dst a b im nm (.slice es) k tn ix dt ck ci cs (.inr ⟨_,rfl⟩) g4;clear g2 g4;refine co [33,43,53,136] [2,3,83,95,104] (x:=.of Tryz.f70 cF bu) ?_;refine oo q1 (oo q2 (on hu (ox u2 ?_)))
 cases z2
 ·exact fi
 refine ox u3 ?_
 cases z3
 ·exact fi
 refine ox u4 ?_
 cases z4
 ·exact fi
 refine oo q5 (on ua (on u7 ?_))
 cases z7
 ·exact fi
 refine oo q6 (on u8 ?_)
 cases z8
 ·exact fi
 refine oo q3 (on v1 ?_)
 cases t1
 ·exact fi
 refine ob u9 ?_
 cases z9
 ·refine lo hl ?_;rintro ex s (⟨rfl,rfl,rfl⟩|⟨rfl,rfl,rfl⟩)
  ·refine⟨_,rfl,?_⟩;refine on x1 ?_
   cases w1 <;>
   ·exact fi
  refine⟨_,rfl,?_⟩;exact fi
 exact fi
theorem Xh:BF 11:=by
 intro p sl is d2 g2 dst a b im nm k tn ix dt ck ci cs g4 z1 z2 z3 z4 z5 z6 z7 z8 z9 t1 t2 t3 d w1 w5 w3 w4 i0 i1 i2 i3 i4 i5 i6 w2 u1 u2 u3 u4 u5 u6 u9 ud ua u7 u8 v1 v2 v3 x1 x2 x5 x3 x4 y0 y1 y2 y3 y4 y5 y6 y7 hl;subst u6 u9 ud;have hu:=fa 11 (by decide) (by decide);clear y6 y7;have q1:=@aS p sl (.slice is) _ (.inr ⟨_,rfl⟩) g2;have q2:=@bw (ofNat 11) dst a b im nm nl k tn ix _ ck ci cs (.inl rfl) g4;have q3:=@aO false 2 p sl (.slice is) _ (.inr ⟨_,rfl⟩) g2;have q5:=@bD false 3 (ofNat 11) dst a b im nm nl k tn ix dt ck ci cs (.inl rfl) g4;have q6:=@bg false 3 (ofNat 11) dst a b im nm nl k tn ix dt ck ci cs (.inl rfl) g4;clear g2 g4;refine co [33,43,53] [2,3,83,95,104] (x:=.of Tryz.f70 cF bu) ?_;refine oo q1 (oo q2 (on hu (ox u2 ?_)))
 cases z2
 ·exact fi
 refine ox u3 ?_
 cases z3
 ·exact fi
 refine ox u4 ?_
 cases z4
 ·exact fi
 refine oo q5 (on ua (on u7 ?_))
 cases z7
 ·exact fi
 refine oo q6 (on u8 ?_)
 cases z8
 ·exact fi
 refine oo q3 (on v1 ?_)
 cases t1
 ·exact fi
 refine lo hl ?_;rintro ex s ⟨rfl,rfl⟩;refine⟨_,rfl,?_⟩;refine on x1 ?_
 cases w1 <;>
 ·exact fi
theorem Xe:BE 12:=by
 intro p sl is d2 g2 es dst a b im nm k tn ix dt ck ci cs g4 z1 z2 z3 z4 z5 z6 z7 z8 z9 t1 t2 t3 d w1 w5 w3 w4 i0 i1 i2 i3 i4 i5 i6 w2 u1 u2 u3 u4 u5 u6 u9 ua u7 u8 v1 v2 v3 x1 x2 x5 x3 x4 y0 y1 y2 y3 y4 y5 y6 y7 hl;have hu:=fa 12 (by decide) (by decide);clear y6 y7;have q1:=@aS p sl (.slice is) _ (.inr ⟨_,rfl⟩) g2;have q2:=@bw (ofNat 12) dst a b im nm (.slice es) k tn ix _ ck ci cs (.inr ⟨_,rfl⟩) g4;have q3:=@aO false 2 p sl (.slice is) _ (.inr ⟨_,rfl⟩) g2;have q5:=@bD false 3 (ofNat 12) dst a b im nm (.slice es) k tn ix dt ck ci cs (.inr ⟨_,rfl⟩) g4;have q6:=@bg false 3 (ofNat 12) dst a b im nm (.slice es) k tn ix dt ck ci cs (.inr ⟨_,rfl⟩) g4;clear g2 g4;refine co [24,33,43,63,74,136,194,201] [2,3,83,95] (x:=.of Tryz.f70 cF bu) ?_;refine oo q1 (oo q2 (on hu (ox u1 ?_)))
 cases z1
 ·exact fi
 refine ox u2 ?_
 cases z2
 ·exact fi
 refine ox u3 ?_
 cases z3
 ·exact fi
 refine ox u5 ?_
 cases z5
 ·exact fi
 refine ob u6 ?_
 cases z6
 ·refine oo q5 (on ua (on u7 ?_))
  cases z7
  ·exact fi
  refine oo q6 (on u8 ?_)
  cases z8
  ·exact fi
  refine ob u9 ?_
  cases z9
  ·refine lo hl ?_;rintro ex s (⟨rfl,rfl,rfl⟩|⟨rfl,rfl,rfl⟩)
   ·refine⟨_,rfl,?_⟩;refine ox y0 ?_
    cases i0
    ·refine ob y5 ?_
     cases i5 <;>
     ·exact fi
    exact fi
   refine⟨_,rfl,?_⟩;exact fi
  exact fi
 exact fi
theorem Xf:BF 12:=by
 intro p sl is d2 g2 dst a b im nm k tn ix dt ck ci cs g4 z1 z2 z3 z4 z5 z6 z7 z8 z9 t1 t2 t3 d w1 w5 w3 w4 i0 i1 i2 i3 i4 i5 i6 w2 u1 u2 u3 u4 u5 u6 u9 ud ua u7 u8 v1 v2 v3 x1 x2 x5 x3 x4 y0 y1 y2 y3 y4 y5 y6 y7 hl;subst u6 u9 ud;have hu:=fa 12 (by decide) (by decide);clear y6 y7;have q1:=@aS p sl (.slice is) _ (.inr ⟨_,rfl⟩) g2;have q2:=@bw (ofNat 12) dst a b im nm nl k tn ix _ ck ci cs (.inl rfl) g4;have q3:=@aO false 2 p sl (.slice is) _ (.inr ⟨_,rfl⟩) g2;have q5:=@bD false 3 (ofNat 12) dst a b im nm nl k tn ix dt ck ci cs (.inl rfl) g4;have q6:=@bg false 3 (ofNat 12) dst a b im nm nl k tn ix dt ck ci cs (.inl rfl) g4;clear g2 g4;refine co [24,33,43,63,194,201] [2,3,83,95] (x:=.of Tryz.f70 cF bu) ?_;refine oo q1 (oo q2 (on hu (ox u1 ?_)))
 cases z1
 ·exact fi
 refine ox u2 ?_
 cases z2
 ·exact fi
 refine ox u3 ?_
 cases z3
 ·exact fi
 refine ox u5 ?_
 cases z5
 ·exact fi
 refine oo q5 (on ua (on u7 ?_))
 cases z7
 ·exact fi
 refine oo q6 (on u8 ?_)
 cases z8
 ·exact fi
 refine lo hl ?_;rintro ex s ⟨rfl,rfl⟩;refine⟨_,rfl,?_⟩;refine ox y0 ?_
 cases i0
 ·refine ob y5 ?_
  cases i5 <;>
  ·exact fi
 exact fi
theorem Xc:BE 13:=by
 intro p sl is d2 g2 es dst a b im nm k tn ix dt ck ci cs g4 z1 z2 z3 z4 z5 z6 z7 z8 z9 t1 t2 t3 d w1 w5 w3 w4 i0 i1 i2 i3 i4 i5 i6 w2 u1 u2 u3 u4 u5 u6 u9 ua u7 u8 v1 v2 v3 x1 x2 x5 x3 x4 y0 y1 y2 y3 y4 y5 y6 y7 hl;have hu:=fa 13 (by decide) (by decide);clear y6 y7;have q1:=@aS p sl (.slice is) _ (.inr ⟨_,rfl⟩) g2;have q2:=@bw (ofNat 13) dst a b im nm (.slice es) k tn ix _ ck ci cs (.inr ⟨_,rfl⟩) g4;have q3:=@aO false 2 p sl (.slice is) _ (.inr ⟨_,rfl⟩) g2;have q5:=@bD false 3 (ofNat 13) dst a b im nm (.slice es) k tn ix dt ck ci cs (.inr ⟨_,rfl⟩) g4;have q6:=@bg false 3 (ofNat 13) dst a b im nm (.slice es) k tn ix dt ck ci cs (.inr ⟨_,rfl⟩) g4;clear g2 g4;refine co [24,43,63,74,136,194,201] [2,3,83,95,114] (x:=.of Tryz.f70 cF bu) ?_;refine oo q1 (oo q2 (on hu (ox u1 ?_)))
 cases z1
 ·exact fi
 refine ox u3 ?_
 cases z3
 ·exact fi
 refine ox u5 ?_
 cases z5
 ·exact fi
 refine ob u6 ?_
 cases z6
 ·refine oo q5 (on ua (on u7 ?_))
  cases z7
  ·exact fi
  refine oo q6 (on u8 ?_)
  cases z8
  ·exact fi
  refine oo q3 (on v2 ?_)
  cases t2
  ·exact fi
  refine ob u9 ?_
  cases z9
  ·refine lo hl ?_;rintro ex s (⟨rfl,rfl,rfl⟩|⟨rfl,rfl,rfl⟩)
   ·refine⟨_,rfl,?_⟩;refine ox y0 ?_
    cases i0
    ·refine ob y5 ?_
     cases i5 <;>
     ·exact fi
    exact fi
   refine⟨_,rfl,?_⟩;exact fi
  exact fi
 exact fi
theorem Xd:BF 13:=by
 intro p sl is d2 g2 dst a b im nm k tn ix dt ck ci cs g4 z1 z2 z3 z4 z5 z6 z7 z8 z9 t1 t2 t3 d w1 w5 w3 w4 i0 i1 i2 i3 i4 i5 i6 w2 u1 u2 u3 u4 u5 u6 u9 ud ua u7 u8 v1 v2 v3 x1 x2 x5 x3 x4 y0 y1 y2 y3 y4 y5 y6 y7 hl;subst u6 u9 ud;have hu:=fa 13 (by decide) (by decide);clear y6 y7;have q1:=@aS p sl (.slice is) _ (.inr ⟨_,rfl⟩) g2;have q2:=@bw (ofNat 13) dst a b im nm nl k tn ix _ ck ci cs (.inl rfl) g4;have q3:=@aO false 2 p sl (.slice is) _ (.inr ⟨_,rfl⟩) g2;have q5:=@bD false 3 (ofNat 13) dst a b im nm nl k tn ix dt ck ci cs (.inl rfl) g4;have q6:=@bg false 3 (ofNat 13) dst a b im nm nl k tn ix dt ck ci cs (.inl rfl) g4;clear g2 g4;refine co [24,43,63,194,201] [2,3,83,95,114] (x:=.of Tryz.f70 cF bu) ?_;refine oo q1 (oo q2 (on hu (ox u1 ?_)))
 cases z1
 ·exact fi
 refine ox u3 ?_
 cases z3
 ·exact fi
 refine ox u5 ?_
 cases z5
 ·exact fi
 refine oo q5 (on ua (on u7 ?_))
 cases z7
 ·exact fi
 refine oo q6 (on u8 ?_)
 cases z8
 ·exact fi
 refine oo q3 (on v2 ?_)
 cases t2
 ·exact fi
 refine lo hl ?_;rintro ex s ⟨rfl,rfl⟩;refine⟨_,rfl,?_⟩;refine ox y0 ?_
 cases i0
 ·refine ob y5 ?_
  cases i5 <;>
  ·exact fi
 exact fi
theorem Xa:BE 14:=by
 intro p sl is d2 g2 es dst a b im nm k tn ix dt ck ci cs g4 z1 z2 z3 z4 z5 z6 z7 z8 z9 t1 t2 t3 d w1 w5 w3 w4 i0 i1 i2 i3 i4 i5 i6 w2 u1 u2 u3 u4 u5 u6 u9 ua u7 u8 v1 v2 v3 x1 x2 x5 x3 x4 y0 y1 y2 y3 y4 y5 y6 y7 hl;have hu:=fa 14 (by decide) (by decide);clear y6 y7;have q1:=@aS p sl (.slice is) _ (.inr ⟨_,rfl⟩) g2;have q2:=@bw (ofNat 14) dst a b im nm (.slice es) k tn ix _ ck ci cs (.inr ⟨_,rfl⟩) g4;have q3:=@aO false 2 p sl (.slice is) _ (.inr ⟨_,rfl⟩) g2;have q5:=@bD false 3 (ofNat 14) dst a b im nm (.slice es) k tn ix dt ck ci cs (.inr ⟨_,rfl⟩) g4;have q6:=@bg false 3 (ofNat 14) dst a b im nm (.slice es) k tn ix dt ck ci cs (.inr ⟨_,rfl⟩) g4;clear g2 g4;refine co [24,33,43,53,63,74,136] [2,3,83,95] (x:=.of Tryz.f70 cF bu) ?_;refine oo q1 (oo q2 (on hu (ox u1 ?_)))
 cases z1
 ·exact fi
 refine ox u2 ?_
 cases z2
 ·exact fi
 refine ox u3 ?_
 cases z3
 ·exact fi
 refine ox u4 ?_
 cases z4
 ·exact fi
 refine ox u5 ?_
 cases z5
 ·exact fi
 refine ob u6 ?_
 cases z6
 ·refine oo q5 (on ua (on u7 ?_))
  cases z7
  ·exact fi
  refine oo q6 (on u8 ?_)
  cases z8
  ·exact fi
  refine ob u9 ?_
  cases z9
  ·refine lo hl ?_;rintro ex s (⟨rfl,rfl,rfl⟩|⟨rfl,rfl,rfl⟩) <;>
   ·refine⟨_,rfl,?_⟩;exact fi
  exact fi
 exact fi
theorem Xb:BF 14:=by
 intro p sl is d2 g2 dst a b im nm k tn ix dt ck ci cs g4 z1 z2 z3 z4 z5 z6 z7 z8 z9 t1 t2 t3 d w1 w5 w3 w4 i0 i1 i2 i3 i4 i5 i6 w2 u1 u2 u3 u4 u5 u6 u9 ud ua u7 u8 v1 v2 v3 x1 x2 x5 x3 x4 y0 y1 y2 y3 y4 y5 y6 y7 hl;subst u6 u9 ud;have hu:=fa 14 (by decide) (by decide);clear y6 y7;have q1:=@aS p sl (.slice is) _ (.inr ⟨_,rfl⟩) g2;have q2:=@bw (ofNat 14) dst a b im nm nl k tn ix _ ck ci cs (.inl rfl) g4;have q3:=@aO false 2 p sl (.slice is) _ (.inr ⟨_,rfl⟩) g2;have q5:=@bD false 3 (ofNat 14) dst a b im nm nl k tn ix dt ck ci cs (.inl rfl) g4;have q6:=@bg false 3 (ofNat 14) dst a b im nm nl k tn ix dt ck ci cs (.inl rfl) g4;clear g2 g4;refine co [24,33,43,53,63] [2,3,83,95] (x:=.of Tryz.f70 cF bu) ?_;refine oo q1 (oo q2 (on hu (ox u1 ?_)))
 cases z1
 ·exact fi
 refine ox u2 ?_
 cases z2
 ·exact fi
 refine ox u3 ?_
 cases z3
 ·exact fi
 refine ox u4 ?_
 cases z4
 ·exact fi
 refine ox u5 ?_
 cases z5
 ·exact fi
 refine oo q5 (on ua (on u7 ?_))
 cases z7
 ·exact fi
 refine oo q6 (on u8 ?_)
 cases z8
 ·exact fi
 refine lo hl ?_;rintro ex s ⟨rfl,rfl⟩;refine⟨_,rfl,?_⟩;exact fi
theorem W8:BE 15:=by
 intro p sl is d2 g2 es dst a b im nm k tn ix dt ck ci cs g4 z1 z2 z3 z4 z5 z6 z7 z8 z9 t1 t2 t3 d w1 w5 w3 w4 i0 i1 i2 i3 i4 i5 i6 w2 u1 u2 u3 u4 u5 u6 u9 ua u7 u8 v1 v2 v3 x1 x2 x5 x3 x4 y0 y1 y2 y3 y4 y5 y6 y7 hl;have hu:=fa 15 (by decide) (by decide);clear y6 y7;have q1:=@aS p sl (.slice is) _ (.inr ⟨_,rfl⟩) g2;have q2:=@bw (ofNat 15) dst a b im nm (.slice es) k tn ix _ ck ci cs (.inr ⟨_,rfl⟩) g4;have q3:=@aO false 2 p sl (.slice is) _ (.inr ⟨_,rfl⟩) g2;have q5:=@bD false 3 (ofNat 15) dst a b im nm (.slice es) k tn ix dt ck ci cs (.inr ⟨_,rfl⟩) g4;have q6:=@bg false 3 (ofNat 15) dst a b im nm (.slice es) k tn ix dt ck ci cs (.inr ⟨_,rfl⟩) g4;clear g2 g4;refine co [24,43,53,63,74,136] [2,3,83,95,114] (x:=.of Tryz.f70 cF bu) ?_;refine oo q1 (oo q2 (on hu (ox u1 ?_)))
 cases z1
 ·exact fi
 refine ox u3 ?_
 cases z3
 ·exact fi
 refine ox u4 ?_
 cases z4
 ·exact fi
 refine ox u5 ?_
 cases z5
 ·exact fi
 refine ob u6 ?_
 cases z6
 ·refine oo q5 (on ua (on u7 ?_))
  cases z7
  ·exact fi
  refine oo q6 (on u8 ?_)
  cases z8
  ·exact fi
  refine oo q3 (on v2 ?_)
  cases t2
  ·exact fi
  refine ob u9 ?_
  cases z9
  ·refine lo hl ?_;rintro ex s (⟨rfl,rfl,rfl⟩|⟨rfl,rfl,rfl⟩) <;>
   ·refine⟨_,rfl,?_⟩;exact fi
  exact fi
 exact fi
theorem W9:BF 15:=by
 intro p sl is d2 g2 dst a b im nm k tn ix dt ck ci cs g4 z1 z2 z3 z4 z5 z6 z7 z8 z9 t1 t2 t3 d w1 w5 w3 w4 i0 i1 i2 i3 i4 i5 i6 w2 u1 u2 u3 u4 u5 u6 u9 ud ua u7 u8 v1 v2 v3 x1 x2 x5 x3 x4 y0 y1 y2 y3 y4 y5 y6 y7 hl;subst u6 u9 ud;have hu:=fa 15 (by decide) (by decide);clear y6 y7;have q1:=@aS p sl (.slice is) _ (.inr ⟨_,rfl⟩) g2;have q2:=@bw (ofNat 15) dst a b im nm nl k tn ix _ ck ci cs (.inl rfl) g4;have q3:=@aO false 2 p sl (.slice is) _ (.inr ⟨_,rfl⟩) g2;have q5:=@bD false 3 (ofNat 15) dst a b im nm nl k tn ix dt ck ci cs (.inl rfl) g4;have q6:=@bg false 3 (ofNat 15) dst a b im nm nl k tn ix dt ck ci cs (.inl rfl) g4;clear g2 g4;refine co [24,43,53,63] [2,3,83,95,114] (x:=.of Tryz.f70 cF bu) ?_;refine oo q1 (oo q2 (on hu (ox u1 ?_)))
 cases z1
 ·exact fi
 refine ox u3 ?_
 cases z3
 ·exact fi
 refine ox u4 ?_
 cases z4
 ·exact fi
 refine ox u5 ?_
 cases z5
 ·exact fi
 refine oo q5 (on ua (on u7 ?_))
 cases z7
 ·exact fi
 refine oo q6 (on u8 ?_)
 cases z8
 ·exact fi
 refine oo q3 (on v2 ?_)
 cases t2
 ·exact fi
 refine lo hl ?_;rintro ex s ⟨rfl,rfl⟩;refine⟨_,rfl,?_⟩;exact fi
theorem W6:BE 16:=by
 intro p sl is d2 g2 es dst a b im nm k tn ix dt ck ci cs g4 z1 z2 z3 z4 z5 z6 z7 z8 z9 t1 t2 t3 d w1 w5 w3 w4 i0 i1 i2 i3 i4 i5 i6 w2 u1 u2 u3 u4 u5 u6 u9 ua u7 u8 v1 v2 v3 x1 x2 x5 x3 x4 y0 y1 y2 y3 y4 y5 y6 y7 hl;have hu:=fa 16 (by decide) (by decide);clear y6 y7;have q1:=@aS p sl (.slice is) _ (.inr ⟨_,rfl⟩) g2;have q2:=@bw (ofNat 16) dst a b im nm (.slice es) k tn ix _ ck ci cs (.inr ⟨_,rfl⟩) g4;have q3:=@aO false 2 p sl (.slice is) _ (.inr ⟨_,rfl⟩) g2;have q5:=@bD false 3 (ofNat 16) dst a b im nm (.slice es) k tn ix dt ck ci cs (.inr ⟨_,rfl⟩) g4;have q6:=@bg false 3 (ofNat 16) dst a b im nm (.slice es) k tn ix dt ck ci cs (.inr ⟨_,rfl⟩) g4;clear g2 g4;refine co [24,43,53,63,74,136] [2,3,83,95,114] (x:=.of Tryz.f70 cF bu) ?_;refine oo q1 (oo q2 (on hu (ox u1 ?_)))
 cases z1
 ·exact fi
 refine ox u3 ?_
 cases z3
 ·exact fi
 refine ox u4 ?_
 cases z4
 ·exact fi
 refine ox u5 ?_
 cases z5
 ·exact fi
 refine ob u6 ?_
 cases z6
 ·refine oo q5 (on ua (on u7 ?_))
  cases z7
  ·exact fi
  refine oo q6 (on u8 ?_)
  cases z8
  ·exact fi
  refine oo q3 (on v2 ?_)
  cases t2
  ·exact fi
  refine ob u9 ?_
  cases z9
  ·refine lo hl ?_;rintro ex s (⟨rfl,rfl,rfl⟩|⟨rfl,rfl,rfl⟩) <;>
   ·refine⟨_,rfl,?_⟩;exact fi
  exact fi
 exact fi
theorem W7:BF 16:=by
 intro p sl is d2 g2 dst a b im nm k tn ix dt ck ci cs g4 z1 z2 z3 z4 z5 z6 z7 z8 z9 t1 t2 t3 d w1 w5 w3 w4 i0 i1 i2 i3 i4 i5 i6 w2 u1 u2 u3 u4 u5 u6 u9 ud ua u7 u8 v1 v2 v3 x1 x2 x5 x3 x4 y0 y1 y2 y3 y4 y5 y6 y7 hl;subst u6 u9 ud;have hu:=fa 16 (by decide) (by decide);clear y6 y7;have q1:=@aS p sl (.slice is) _ (.inr ⟨_,rfl⟩) g2;have q2:=@bw (ofNat 16) dst a b im nm nl k tn ix _ ck ci cs (.inl rfl) g4;have q3:=@aO false 2 p sl (.slice is) _ (.inr ⟨_,rfl⟩) g2;have q5:=@bD false 3 (ofNat 16) dst a b im nm nl k tn ix dt ck ci cs (.inl rfl) g4;have q6:=@bg false 3 (ofNat 16) dst a b im nm nl k tn ix dt ck ci cs (.inl rfl) g4;clear g2 g4;refine co [24,43,53,63] [2,3,83,95,114] (x:=.of Tryz.f70 cF bu) ?_;refine oo q1 (oo q2 (on hu (ox u1 ?_)))
 cases z1
 ·exact fi
 refine ox u3 ?_
 cases z3
 ·exact fi
 refine ox u4 ?_
 cases z4
 ·exact fi
 refine ox u5 ?_
 cases z5
 ·exact fi
 refine oo q5 (on ua (on u7 ?_))
 cases z7
 ·exact fi
 refine oo q6 (on u8 ?_)
 cases z8
 ·exact fi
 refine oo q3 (on v2 ?_)
 cases t2
 ·exact fi
 refine lo hl ?_;rintro ex s ⟨rfl,rfl⟩;refine⟨_,rfl,?_⟩;exact fi
theorem W4:BE 17:=by
 intro p sl is d2 g2 es dst a b im nm k tn ix dt ck ci cs g4 z1 z2 z3 z4 z5 z6 z7 z8 z9 t1 t2 t3 d w1 w5 w3 w4 i0 i1 i2 i3 i4 i5 i6 w2 u1 u2 u3 u4 u5 u6 u9 ua u7 u8 v1 v2 v3 x1 x2 x5 x3 x4 y0 y1 y2 y3 y4 y5 y6 y7 hl;have hu:=fa 17 (by decide) (by decide)
 rcases g2 with rfl|⟨ed,rfl⟩
 ·obtain rfl:=y7 rfl;clear y6 y7;have q1:=@aS p sl (.slice is) nl (.inr ⟨_,rfl⟩) (.inl rfl);have q2:=@bw (ofNat 17) dst a b im nm (.slice es) k tn ix _ ck ci cs (.inr ⟨_,rfl⟩) g4;have q3:=@aO false 2 p sl (.slice is) nl (.inr ⟨_,rfl⟩) (.inl rfl);have q5:=@bD false 3 (ofNat 17) dst a b im nm (.slice es) k tn ix dt ck ci cs (.inr ⟨_,rfl⟩) g4;have q6:=@bg false 3 (ofNat 17) dst a b im nm (.slice es) k tn ix dt ck ci cs (.inr ⟨_,rfl⟩) g4;clear g4;refine co [24,33,43,63,74,136,237,244] [2,3,83,95] (x:=.of Tryz.f70 cF bu) ?_;refine oo q1 (oo q2 (on hu (ox u1 ?_)))
  cases z1
  ·exact fi
  refine ox u2 ?_
  cases z2
  ·exact fi
  refine ox u3 ?_
  cases z3
  ·exact fi
  refine ox u5 ?_
  cases z5
  ·exact fi
  refine ob u6 ?_
  cases z6
  ·refine oo q5 (on ua (on u7 ?_))
   cases z7
   ·exact fi
   refine oo q6 (on u8 ?_)
   cases z8
   ·exact fi
   refine ob u9 ?_
   cases z9
   ·refine lo hl ?_;rintro ex s (⟨rfl,rfl,rfl⟩|⟨rfl,rfl,rfl⟩)
    ·refine⟨_,rfl,?_⟩;refine ox y0 ?_
     cases i6
     ·exact ob y0 fi
     exact fi
    refine⟨_,rfl,?_⟩;exact fi
   exact fi
  exact fi
 have y8:=y6 ed rfl;clear y6 y7;have q1:=@aS p sl (.slice is) (.slice ed) (.inr ⟨_,rfl⟩) (.inr ⟨_,rfl⟩);have q2:=@bw (ofNat 17) dst a b im nm (.slice es) k tn ix _ ck ci cs (.inr ⟨_,rfl⟩) g4;have q3:=@aO false 2 p sl (.slice is) (.slice ed) (.inr ⟨_,rfl⟩) (.inr ⟨_,rfl⟩);have q5:=@bD false 3 (ofNat 17) dst a b im nm (.slice es) k tn ix dt ck ci cs (.inr ⟨_,rfl⟩) g4;have q6:=@bg false 3 (ofNat 17) dst a b im nm (.slice es) k tn ix dt ck ci cs (.inr ⟨_,rfl⟩) g4;clear g4;refine co [24,33,43,63,74,136,237,244] [2,3,83,95] (x:=.of Tryz.f70 cF bu) ?_;refine oo q1 (oo q2 (on hu (ox u1 ?_)))
 cases z1
 ·exact fi
 refine ox u2 ?_
 cases z2
 ·exact fi
 refine ox u3 ?_
 cases z3
 ·exact fi
 refine ox u5 ?_
 cases z5
 ·exact fi
 refine ob u6 ?_
 cases z6
 ·refine oo q5 (on ua (on u7 ?_))
  cases z7
  ·exact fi
  refine oo q6 (on u8 ?_)
  cases z8
  ·exact fi
  refine ob u9 ?_
  cases z9
  ·refine lo hl ?_;rintro ex s (⟨rfl,rfl,rfl⟩|⟨rfl,rfl,rfl⟩)
   ·refine⟨_,rfl,?_⟩;refine ox y0 ?_
    cases i0
    ·refine ob y8 ?_
     cases i6 <;>
     ·exact fi
    exact fi
   refine⟨_,rfl,?_⟩;exact fi
  exact fi
 exact fi
theorem W5:BF 17:=by
 intro p sl is d2 g2 dst a b im nm k tn ix dt ck ci cs g4 z1 z2 z3 z4 z5 z6 z7 z8 z9 t1 t2 t3 d w1 w5 w3 w4 i0 i1 i2 i3 i4 i5 i6 w2 u1 u2 u3 u4 u5 u6 u9 ud ua u7 u8 v1 v2 v3 x1 x2 x5 x3 x4 y0 y1 y2 y3 y4 y5 y6 y7 hl;subst u6 u9 ud;have hu:=fa 17 (by decide) (by decide)
 rcases g2 with rfl|⟨ed,rfl⟩
 ·obtain rfl:=y7 rfl;clear y6 y7;have q1:=@aS p sl (.slice is) nl (.inr ⟨_,rfl⟩) (.inl rfl);have q2:=@bw (ofNat 17) dst a b im nm nl k tn ix _ ck ci cs (.inl rfl) g4;have q3:=@aO false 2 p sl (.slice is) nl (.inr ⟨_,rfl⟩) (.inl rfl);have q5:=@bD false 3 (ofNat 17) dst a b im nm nl k tn ix dt ck ci cs (.inl rfl) g4;have q6:=@bg false 3 (ofNat 17) dst a b im nm nl k tn ix dt ck ci cs (.inl rfl) g4;clear g4;refine co [24,33,43,63,237,244] [2,3,83,95] (x:=.of Tryz.f70 cF bu) ?_;refine oo q1 (oo q2 (on hu (ox u1 ?_)))
  cases z1
  ·exact fi
  refine ox u2 ?_
  cases z2
  ·exact fi
  refine ox u3 ?_
  cases z3
  ·exact fi
  refine ox u5 ?_
  cases z5
  ·exact fi
  refine oo q5 (on ua (on u7 ?_))
  cases z7
  ·exact fi
  refine oo q6 (on u8 ?_)
  cases z8
  ·exact fi
  refine lo hl ?_;rintro ex s ⟨rfl,rfl⟩;refine⟨_,rfl,?_⟩;refine ox y0 ?_
  cases i6
  ·exact ob y0 fi
  exact fi
 have y8:=y6 ed rfl;clear y6 y7;have q1:=@aS p sl (.slice is) (.slice ed) (.inr ⟨_,rfl⟩) (.inr ⟨_,rfl⟩);have q2:=@bw (ofNat 17) dst a b im nm nl k tn ix _ ck ci cs (.inl rfl) g4;have q3:=@aO false 2 p sl (.slice is) (.slice ed) (.inr ⟨_,rfl⟩) (.inr ⟨_,rfl⟩);have q5:=@bD false 3 (ofNat 17) dst a b im nm nl k tn ix dt ck ci cs (.inl rfl) g4;have q6:=@bg false 3 (ofNat 17) dst a b im nm nl k tn ix dt ck ci cs (.inl rfl) g4;clear g4;refine co [24,33,43,63,237,244] [2,3,83,95] (x:=.of Tryz.f70 cF bu) ?_;refine oo q1 (oo q2 (on hu (ox u1 ?_)))
 cases z1
 ·exact fi
 refine ox u2 ?_
 cases z2
 ·exact fi
 refine ox u3 ?_
 cases z3
 ·exact fi
 refine ox u5 ?_
 cases z5
 ·exact fi
 refine oo q5 (on ua (on u7 ?_))
 cases z7
 ·exact fi
 refine oo q6 (on u8 ?_)
 cases z8
 ·exact fi
 refine lo hl ?_;rintro ex s ⟨rfl,rfl⟩;refine⟨_,rfl,?_⟩;refine ox y0 ?_
 cases i0
 ·refine ob y8 ?_
  cases i6 <;>
  ·exact fi
 exact fi
theorem W2:BE 18:=by
 intro p sl is d2 g2 es dst a b im nm k tn ix dt ck ci cs g4 z1 z2 z3 z4 z5 z6 z7 z8 z9 t1 t2 t3 d w1 w5 w3 w4 i0 i1 i2 i3 i4 i5 i6 w2 u1 u2 u3 u4 u5 u6 u9 ua u7 u8 v1 v2 v3 x1 x2 x5 x3 x4 y0 y1 y2 y3 y4 y5 y6 y7 hl;have hu:=fa 18 (by decide) (by decide);clear y6 y7;have q1:=@aS p sl (.slice is) _ (.inr ⟨_,rfl⟩) g2;have q2:=@bw (ofNat 18) dst a b im nm (.slice es) k tn ix _ ck ci cs (.inr ⟨_,rfl⟩) g4;have q3:=@aO false 2 p sl (.slice is) _ (.inr ⟨_,rfl⟩) g2;have q5:=@bD false 3 (ofNat 18) dst a b im nm (.slice es) k tn ix dt ck ci cs (.inr ⟨_,rfl⟩) g4;have q6:=@bg false 3 (ofNat 18) dst a b im nm (.slice es) k tn ix dt ck ci cs (.inr ⟨_,rfl⟩) g4;clear g2 g4;refine co [24,33,43,53,63,74,136] [2,3,83,95] (x:=.of Tryz.f70 cF bu) ?_;refine oo q1 (oo q2 (on hu (ox u1 ?_)))
 cases z1
 ·exact fi
 refine ox u2 ?_
 cases z2
 ·exact fi
 refine ox u3 ?_
 cases z3
 ·exact fi
 refine ox u4 ?_
 cases z4
 ·exact fi
 refine ox u5 ?_
 cases z5
 ·exact fi
 refine ob u6 ?_
 cases z6
 ·refine oo q5 (on ua (on u7 ?_))
  cases z7
  ·exact fi
  refine oo q6 (on u8 ?_)
  cases z8
  ·exact fi
  refine ob u9 ?_
  cases z9
  ·refine lo hl ?_;rintro ex s (⟨rfl,rfl,rfl⟩|⟨rfl,rfl,rfl⟩) <;>
   ·refine⟨_,rfl,?_⟩;exact fi
  exact fi
 exact fi
theorem W3:BF 18:=by
 intro p sl is d2 g2 dst a b im nm k tn ix dt ck ci cs g4 z1 z2 z3 z4 z5 z6 z7 z8 z9 t1 t2 t3 d w1 w5 w3 w4 i0 i1 i2 i3 i4 i5 i6 w2 u1 u2 u3 u4 u5 u6 u9 ud ua u7 u8 v1 v2 v3 x1 x2 x5 x3 x4 y0 y1 y2 y3 y4 y5 y6 y7 hl;subst u6 u9 ud;have hu:=fa 18 (by decide) (by decide);clear y6 y7;have q1:=@aS p sl (.slice is) _ (.inr ⟨_,rfl⟩) g2;have q2:=@bw (ofNat 18) dst a b im nm nl k tn ix _ ck ci cs (.inl rfl) g4;have q3:=@aO false 2 p sl (.slice is) _ (.inr ⟨_,rfl⟩) g2;have q5:=@bD false 3 (ofNat 18) dst a b im nm nl k tn ix dt ck ci cs (.inl rfl) g4;have q6:=@bg false 3 (ofNat 18) dst a b im nm nl k tn ix dt ck ci cs (.inl rfl) g4;clear g2 g4;refine co [24,33,43,53,63] [2,3,83,95] (x:=.of Tryz.f70 cF bu) ?_;refine oo q1 (oo q2 (on hu (ox u1 ?_)))
 cases z1
 ·exact fi
 refine ox u2 ?_
 cases z2
 ·exact fi
 refine ox u3 ?_
 cases z3
 ·exact fi
 refine ox u4 ?_
 cases z4
 ·exact fi
 refine ox u5 ?_
 cases z5
 ·exact fi
 refine oo q5 (on ua (on u7 ?_))
 cases z7
 ·exact fi
 refine oo q6 (on u8 ?_)
 cases z8
 ·exact fi
 refine lo hl ?_;rintro ex s ⟨rfl,rfl⟩;refine⟨_,rfl,?_⟩;exact fi
theorem W0:BE 19:=by
 intro p sl is d2 g2 es dst a b im nm k tn ix dt ck ci cs g4 z1 z2 z3 z4 z5 z6 z7 z8 z9 t1 t2 t3 d w1 w5 w3 w4 i0 i1 i2 i3 i4 i5 i6 w2 u1 u2 u3 u4 u5 u6 u9 ua u7 u8 v1 v2 v3 x1 x2 x5 x3 x4 y0 y1 y2 y3 y4 y5 y6 y7 hl;have hu:=fa 19 (by decide) (by decide);clear y6 y7;have q1:=@aS p sl (.slice is) _ (.inr ⟨_,rfl⟩) g2;have q2:=@bw (ofNat 19) dst a b im nm (.slice es) k tn ix _ ck ci cs (.inr ⟨_,rfl⟩) g4;have q3:=@aO false 2 p sl (.slice is) _ (.inr ⟨_,rfl⟩) g2;have q5:=@bD false 3 (ofNat 19) dst a b im nm (.slice es) k tn ix dt ck ci cs (.inr ⟨_,rfl⟩) g4;have q6:=@bg false 3 (ofNat 19) dst a b im nm (.slice es) k tn ix dt ck ci cs (.inr ⟨_,rfl⟩) g4;clear g2 g4;refine co [24,43,53,63,74,136] [2,3,83,95,114] (x:=.of Tryz.f70 cF bu) ?_;refine oo q1 (oo q2 (on hu (ox u1 ?_)))
 cases z1
 ·exact fi
 refine ox u3 ?_
 cases z3
 ·exact fi
 refine ox u4 ?_
 cases z4
 ·exact fi
 refine ox u5 ?_
 cases z5
 ·exact fi
 refine ob u6 ?_
 cases z6
 ·refine oo q5 (on ua (on u7 ?_))
  cases z7
  ·exact fi
  refine oo q6 (on u8 ?_)
  cases z8
  ·exact fi
  refine oo q3 (on v2 ?_)
  cases t2
  ·exact fi
  refine ob u9 ?_
  cases z9
  ·refine lo hl ?_;rintro ex s (⟨rfl,rfl,rfl⟩|⟨rfl,rfl,rfl⟩) <;>
   ·refine⟨_,rfl,?_⟩;exact fi
  exact fi
 exact fi
theorem W1:BF 19:=by
 intro p sl is d2 g2 dst a b im nm k tn ix dt ck ci cs g4 z1 z2 z3 z4 z5 z6 z7 z8 z9 t1 t2 t3 d w1 w5 w3 w4 i0 i1 i2 i3 i4 i5 i6 w2 u1 u2 u3 u4 u5 u6 u9 ud ua u7 u8 v1 v2 v3 x1 x2 x5 x3 x4 y0 y1 y2 y3 y4 y5 y6 y7 hl;subst u6 u9 ud;have hu:=fa 19 (by decide) (by decide);clear y6 y7;have q1:=@aS p sl (.slice is) _ (.inr ⟨_,rfl⟩) g2;have q2:=@bw (ofNat 19) dst a b im nm nl k tn ix _ ck ci cs (.inl rfl) g4;have q3:=@aO false 2 p sl (.slice is) _ (.inr ⟨_,rfl⟩) g2;have q5:=@bD false 3 (ofNat 19) dst a b im nm nl k tn ix dt ck ci cs (.inl rfl) g4;have q6:=@bg false 3 (ofNat 19) dst a b im nm nl k tn ix dt ck ci cs (.inl rfl) g4;clear g2 g4;refine co [24,43,53,63] [2,3,83,95,114] (x:=.of Tryz.f70 cF bu) ?_;refine oo q1 (oo q2 (on hu (ox u1 ?_)))
 cases z1
 ·exact fi
 refine ox u3 ?_
 cases z3
 ·exact fi
 refine ox u4 ?_
 cases z4
 ·exact fi
 refine ox u5 ?_
 cases z5
 ·exact fi
 refine oo q5 (on ua (on u7 ?_))
 cases z7
 ·exact fi
 refine oo q6 (on u8 ?_)
 cases z8
 ·exact fi
 refine oo q3 (on v2 ?_)
 cases t2
 ·exact fi
 refine lo hl ?_;rintro ex s ⟨rfl,rfl⟩;refine⟨_,rfl,?_⟩;exact fi
theorem WY:BE 20:=by
 intro p sl is d2 g2 es dst a b im nm k tn ix dt ck ci cs g4 z1 z2 z3 z4 z5 z6 z7 z8 z9 t1 t2 t3 d w1 w5 w3 w4 i0 i1 i2 i3 i4 i5 i6 w2 u1 u2 u3 u4 u5 u6 u9 ua u7 u8 v1 v2 v3 x1 x2 x5 x3 x4 y0 y1 y2 y3 y4 y5 y6 y7 hl;have hu:=fa 20 (by decide) (by decide);clear y6 y7;have q1:=@aS p sl (.slice is) _ (.inr ⟨_,rfl⟩) g2;have q2:=@bw (ofNat 20) dst a b im nm (.slice es) k tn ix _ ck ci cs (.inr ⟨_,rfl⟩) g4;have q3:=@aO false 2 p sl (.slice is) _ (.inr ⟨_,rfl⟩) g2;have q5:=@bD false 3 (ofNat 20) dst a b im nm (.slice es) k tn ix dt ck ci cs (.inr ⟨_,rfl⟩) g4;have q6:=@bg false 3 (ofNat 20) dst a b im nm (.slice es) k tn ix dt ck ci cs (.inr ⟨_,rfl⟩) g4;clear g2 g4;refine co [24,33,43,63,74,136,251] [2,3,83,95] (x:=.of Tryz.f70 cF bu) ?_;refine oo q1 (oo q2 (on hu (ox u1 ?_)))
 cases z1
 ·exact fi
 refine ox u2 ?_
 cases z2
 ·exact fi
 refine ox u3 ?_
 cases z3
 ·exact fi
 refine ox u5 ?_
 cases z5
 ·exact fi
 refine ob u6 ?_
 cases z6
 ·refine oo q5 (on ua (on u7 ?_))
  cases z7
  ·exact fi
  refine oo q6 (on u8 ?_)
  cases z8
  ·exact fi
  refine ob u9 ?_
  cases z9
  ·refine lo hl ?_;rintro ex s (⟨rfl,rfl,rfl⟩|⟨rfl,rfl,rfl⟩)
   ·refine⟨_,rfl,?_⟩;refine ox y1 ?_
    cases i1 <;>
    ·exact fi
   refine⟨_,rfl,?_⟩;exact fi
  exact fi
 exact fi
theorem WZ:BF 20:=by
 intro p sl is d2 g2 dst a b im nm k tn ix dt ck ci cs g4 z1 z2 z3 z4 z5 z6 z7 z8 z9 t1 t2 t3 d w1 w5 w3 w4 i0 i1 i2 i3 i4 i5 i6 w2 u1 u2 u3 u4 u5 u6 u9 ud ua u7 u8 v1 v2 v3 x1 x2 x5 x3 x4 y0 y1 y2 y3 y4 y5 y6 y7 hl;subst u6 u9 ud;have hu:=fa 20 (by decide) (by decide);clear y6 y7;have q1:=@aS p sl (.slice is) _ (.inr ⟨_,rfl⟩) g2;have q2:=@bw (ofNat 20) dst a b im nm nl k tn ix _ ck ci cs (.inl rfl) g4;have q3:=@aO false 2 p sl (.slice is) _ (.inr ⟨_,rfl⟩) g2;have q5:=@bD false 3 (ofNat 20) dst a b im nm nl k tn ix dt ck ci cs (.inl rfl) g4;have q6:=@bg false 3 (ofNat 20) dst a b im nm nl k tn ix dt ck ci cs (.inl rfl) g4;clear g2 g4;refine co [24,33,43,63,251] [2,3,83,95] (x:=.of Tryz.f70 cF bu) ?_;refine oo q1 (oo q2 (on hu (ox u1 ?_)))
 cases z1
 ·exact fi
 refine ox u2 ?_
 cases z2
 ·exact fi
 refine ox u3 ?_
 cases z3
 ·exact fi
 refine ox u5 ?_
 cases z5
 ·exact fi
 refine oo q5 (on ua (on u7 ?_))
 cases z7
 ·exact fi
 refine oo q6 (on u8 ?_)
 cases z8
 ·exact fi
 refine lo hl ?_;rintro ex s ⟨rfl,rfl⟩;refine⟨_,rfl,?_⟩;refine ox y1 ?_
 cases i1 <;>
 ·exact fi
theorem WW:BE 21:=by
 intro p sl is d2 g2 es dst a b im nm k tn ix dt ck ci cs g4 z1 z2 z3 z4 z5 z6 z7 z8 z9 t1 t2 t3 d w1 w5 w3 w4 i0 i1 i2 i3 i4 i5 i6 w2 u1 u2 u3 u4 u5 u6 u9 ua u7 u8 v1 v2 v3 x1 x2 x5 x3 x4 y0 y1 y2 y3 y4 y5 y6 y7 hl;have hu:=fa 21 (by decide) (by decide);clear y6 y7;have q1:=@aS p sl (.slice is) _ (.inr ⟨_,rfl⟩) g2;have q2:=@bw (ofNat 21) dst a b im nm (.slice es) k tn ix _ ck ci cs (.inr ⟨_,rfl⟩) g4;have q3:=@aO false 2 p sl (.slice is) _ (.inr ⟨_,rfl⟩) g2;have q5:=@bD false 3 (ofNat 21) dst a b im nm (.slice es) k tn ix dt ck ci cs (.inr ⟨_,rfl⟩) g4;have q6:=@bg false 3 (ofNat 21) dst a b im nm (.slice es) k tn ix dt ck ci cs (.inr ⟨_,rfl⟩) g4;clear g2 g4;refine co [24,33,43,53,63,74,136] [2,3,83,95] (x:=.of Tryz.f70 cF bu) ?_;refine oo q1 (oo q2 (on hu (ox u1 ?_)))
 cases z1
 ·exact fi
 refine ox u2 ?_
 cases z2
 ·exact fi
 refine ox u3 ?_
 cases z3
 ·exact fi
 refine ox u4 ?_
 cases z4
 ·exact fi
 refine ox u5 ?_
 cases z5
 ·exact fi
 refine ob u6 ?_
 cases z6
 ·refine oo q5 (on ua (on u7 ?_))
  cases z7
  ·exact fi
  refine oo q6 (on u8 ?_)
  cases z8
  ·exact fi
  refine ob u9 ?_
  cases z9
  ·refine lo hl ?_;rintro ex s (⟨rfl,rfl,rfl⟩|⟨rfl,rfl,rfl⟩) <;>
   ·refine⟨_,rfl,?_⟩;exact fi
  exact fi
 exact fi
theorem WX:BF 21:=by
 intro p sl is d2 g2 dst a b im nm k tn ix dt ck ci cs g4 z1 z2 z3 z4 z5 z6 z7 z8 z9 t1 t2 t3 d w1 w5 w3 w4 i0 i1 i2 i3 i4 i5 i6 w2 u1 u2 u3 u4 u5 u6 u9 ud ua u7 u8 v1 v2 v3 x1 x2 x5 x3 x4 y0 y1 y2 y3 y4 y5 y6 y7 hl;subst u6 u9 ud;have hu:=fa 21 (by decide) (by decide);clear y6 y7;have q1:=@aS p sl (.slice is) _ (.inr ⟨_,rfl⟩) g2;have q2:=@bw (ofNat 21) dst a b im nm nl k tn ix _ ck ci cs (.inl rfl) g4;have q3:=@aO false 2 p sl (.slice is) _ (.inr ⟨_,rfl⟩) g2;have q5:=@bD false 3 (ofNat 21) dst a b im nm nl k tn ix dt ck ci cs (.inl rfl) g4;have q6:=@bg false 3 (ofNat 21) dst a b im nm nl k tn ix dt ck ci cs (.inl rfl) g4;clear g2 g4;refine co [24,33,43,53,63] [2,3,83,95] (x:=.of Tryz.f70 cF bu) ?_;refine oo q1 (oo q2 (on hu (ox u1 ?_)))
 cases z1
 ·exact fi
 refine ox u2 ?_
 cases z2
 ·exact fi
 refine ox u3 ?_
 cases z3
 ·exact fi
 refine ox u4 ?_
 cases z4
 ·exact fi
 refine ox u5 ?_
 cases z5
 ·exact fi
 refine oo q5 (on ua (on u7 ?_))
 cases z7
 ·exact fi
 refine oo q6 (on u8 ?_)
 cases z8
 ·exact fi
 refine lo hl ?_;rintro ex s ⟨rfl,rfl⟩;refine⟨_,rfl,?_⟩;exact fi
theorem WU:BE 22:=by
 intro p sl is d2 g2 es dst a b im nm k tn ix dt ck ci cs g4 z1 z2 z3 z4 z5 z6 z7 z8 z9 t1 t2 t3 d w1 w5 w3 w4 i0 i1 i2 i3 i4 i5 i6 w2 u1 u2 u3 u4 u5 u6 u9 ua u7 u8 v1 v2 v3 x1 x2 x5 x3 x4 y0 y1 y2 y3 y4 y5 y6 y7 hl;have hu:=fa 22 (by decide) (by decide);clear y6 y7;have q1:=@aS p sl (.slice is) _ (.inr ⟨_,rfl⟩) g2;have q2:=@bw (ofNat 22) dst a b im nm (.slice es) k tn ix _ ck ci cs (.inr ⟨_,rfl⟩) g4;have q3:=@aO false 2 p sl (.slice is) _ (.inr ⟨_,rfl⟩) g2;have q5:=@bD false 3 (ofNat 22) dst a b im nm (.slice es) k tn ix dt ck ci cs (.inr ⟨_,rfl⟩) g4;have q6:=@bg false 3 (ofNat 22) dst a b im nm (.slice es) k tn ix dt ck ci cs (.inr ⟨_,rfl⟩) g4;clear g2 g4;refine co [33,43,63,136,251] [2,3,83,95,104] (x:=.of Tryz.f70 cF bu) ?_;refine oo q1 (oo q2 (on hu (ox u2 ?_)))
 cases z2
 ·exact fi
 refine ox u3 ?_
 cases z3
 ·exact fi
 refine ox u5 ?_
 cases z5
 ·exact fi
 refine oo q5 (on ua (on u7 ?_))
 cases z7
 ·exact fi
 refine oo q6 (on u8 ?_)
 cases z8
 ·exact fi
 refine oo q3 (on v1 ?_)
 cases t1
 ·exact fi
 refine ob u9 ?_
 cases z9
 ·refine lo hl ?_;rintro ex s (⟨rfl,rfl,rfl⟩|⟨rfl,rfl,rfl⟩)
  ·refine⟨_,rfl,?_⟩;refine ox y1 ?_
   cases i1 <;>
   ·exact fi
  refine⟨_,rfl,?_⟩;exact fi
 exact fi
theorem WV:BF 22:=by
 intro p sl is d2 g2 dst a b im nm k tn ix dt ck ci cs g4 z1 z2 z3 z4 z5 z6 z7 z8 z9 t1 t2 t3 d w1 w5 w3 w4 i0 i1 i2 i3 i4 i5 i6 w2 u1 u2 u3 u4 u5 u6 u9 ud ua u7 u8 v1 v2 v3 x1 x2 x5 x3 x4 y0 y1 y2 y3 y4 y5 y6 y7 hl;subst u6 u9 ud;have hu:=fa 22 (by decide) (by decide);clear y6 y7;have q1:=@aS p sl (.slice is) _ (.inr ⟨_,rfl⟩) g2;have q2:=@bw (ofNat 22) dst a b im nm nl k tn ix _ ck ci cs (.inl rfl) g4;have q3:=@aO false 2 p sl (.slice is) _ (.inr ⟨_,rfl⟩) g2;have q5:=@bD false 3 (ofNat 22) dst a b im nm nl k tn ix dt ck ci cs (.inl rfl) g4;have q6:=@bg false 3 (ofNat 22) dst a b im nm nl k tn ix dt ck ci cs (.inl rfl) g4;clear g2 g4;refine co [33,43,63,251] [2,3,83,95,104] (x:=.of Tryz.f70 cF bu) ?_;refine oo q1 (oo q2 (on hu (ox u2 ?_)))
 cases z2
 ·exact fi
 refine ox u3 ?_
 cases z3
 ·exact fi
 refine ox u5 ?_
 cases z5
 ·exact fi
 refine oo q5 (on ua (on u7 ?_))
 cases z7
 ·exact fi
 refine oo q6 (on u8 ?_)
 cases z8
 ·exact fi
 refine oo q3 (on v1 ?_)
 cases t1
 ·exact fi
 refine lo hl ?_;rintro ex s ⟨rfl,rfl⟩;refine⟨_,rfl,?_⟩;refine ox y1 ?_
 cases i1 <;>
 ·exact fi
theorem abi:∀n:Nat,1<=n->n<=22->BE n
 | 0,h,_=>absurd h (by omega)
 | 1,_,_=>abB
 | 2,_,_=>abz
 | 3,_,_=>abx
 | 4,_,_=>abv
 | 5,_,_=>abt
 | 6,_,_=>abq
 | 7,_,_=>abo
 | 8,_,_=>abm
 | 9,_,_=>abk
 | 10,_,_=>Xi
 | 11,_,_=>Xg
 | 12,_,_=>Xe
 | 13,_,_=>Xc
 | 14,_,_=>Xa
 | 15,_,_=>W8
 | 16,_,_=>W6
 | 17,_,_=>W4
 | 18,_,_=>W2
 | 19,_,_=>W0
 | 20,_,_=>WY
 | 21,_,_=>WW
 | 22,_,_=>WU
 | n+23,_,h=>absurd h (by omega)
theorem aeH:∀n:Nat,1<=n->n<=22->BF n
 | 0,h,_=>absurd h (by omega)
 | 1,_,_=>abC
 | 2,_,_=>abA
 | 3,_,_=>aby
 | 4,_,_=>abw
 | 5,_,_=>abu
 | 6,_,_=>abr
 | 7,_,_=>abp
 | 8,_,_=>abn
 | 9,_,_=>abl
 | 10,_,_=>Xj
 | 11,_,_=>Xh
 | 12,_,_=>Xf
 | 13,_,_=>Xd
 | 14,_,_=>Xb
 | 15,_,_=>W9
 | 16,_,_=>W7
 | 17,_,_=>W5
 | 18,_,_=>W3
 | 19,_,_=>W1
 | 20,_,_=>WZ
 | 21,_,_=>WX
 | 22,_,_=>WV
 | n+23,_,h=>absurd h (by omega)
theorem O8:ae 104 [] (.dat (Ty.mk 0 [] 0 []).enc):=by
 refine co [] [] (x:=.of Tryz.f104 Ee Eo) ?_;exact fi
theorem DY {p sl:Int} {es ed:List ak} (z:Bool) {x:Ins} (h:x.gN) :
  ae 70 [.dat (aN p sl (.slice es) (sx z ed)),.dat x.enc] (bv (Et (ofNat es.length) (ofNat ed.length) sl x)):=by
 obtain⟨ht,ha,hs⟩:=h;have hty:=O6 x.ty (.mk 0 [] 0 []) (by have:=ht.1;omega);have hval:=IA ht;have hcl:=FY (t:=x.ty) ht.1 ht.2;obtain⟨op,dst,a,b,im,nm,az,ar,⟨k,tn,ix,la⟩,ck,ci,cs⟩:=x;have hd:=dq z ed;have i6:∀ed2,sx z ed=.slice ed2->aF im (ofNat ed2.length)=aF im (ofNat ed.length):=by
  intro ed2 h
  cases ed with
  | nil=>
   cases z
   ·simp[sx,nl] at h
   cases h;rfl
  | cons y r=>cases h;rfl
 have i7:sx z ed=nl->aF im (ofNat ed.length)=aF im 0:=by
  intro h
  cases ed with
  | nil=>rfl
  | cons y r=>simp[sx,nl] at h
 cases h1:aF op 1 with
 | true=>
  have e:Et (ofNat es.length) (ofNat ed.length) sl ⟨op,dst,a,b,im,nm,az,ar,⟨k,tn,ix,la⟩,ck,ci,cs⟩=false:=by
   unfold Et;rw[DQ h1]
  rw[e];exact OF (.inr ⟨_,rfl⟩) hd (dq az (ar.map iN)) (dr (ax la)) h1 rfl (fun h=>by simp at h) (Ki (.inl h1))
 | false=>
  cases h2:aF op 23 with
  | false=>
   have e:Et (ofNat es.length) (ofNat ed.length) sl ⟨op,dst,a,b,im,nm,az,ar,⟨k,tn,ix,la⟩,ck,ci,cs⟩=false:=by
    unfold Et;rw[DR h2]
   rw[e];refine OF (.inr ⟨_,rfl⟩) hd (dq az (ar.map iN)) (dr (ax la)) h1 (c2:=true) ?_ (fun _=>rfl) (Ki (.inr h2));rw[dA] at h2 ⊢;simp only[decide_eq_false_iff_not,decide_eq_true_eq] at h2 ⊢;omega
  | true=>
   obtain⟨n,rfl,hn1,hn2⟩:=zo h1 h2;have hsh:eO (ofNat n)=some (lU (ki n)):=by
    show ki n=_
    cases hq:ki n with
    | some s=>rfl
    | none=>
     exfalso
     have:∀n:Nat,1<=n->n<=22->ki n≠none:=by
      intro n
      match n with
      | 0=>intro h;omega
      | 1|2|3|4|5|6|7|8|9|10|11|12|13|14|15|16|17|18|19|20|21|22=>intro _ _ h;simp[ki] at h
      | n+23=>intro _ h;omega
     exact this n hn1 hn2 hq
   have e:Et (ofNat es.length) (ofNat ed.length) sl ⟨ofNat n,dst,a,b,im,nm,az,ar,⟨k,tn,ix,la⟩,ck,ci,cs⟩=rvF (lU (ki n)) (ofNat n) (aB dst 0) (aB a 0) (aB b 0) (aB im 0) (jP nm []) (aF 0 (ofNat ar.length)) (NC (.mk k tn ix la) (.mk 0 [] 0 [])) (B5 ck ci cs) (aF 6 (ofNat ar.length)) (eo dst sl) (eo a sl) (eo b sl) (ar.all (fun n=>eo n sl)) (isIdent nm) (aB (Ty.mk k tn ix la).validate 0) (LD (Ty.mk k tn ix la).fv) (sY ck ci cs) (aF im 0) (aF im 1) (aF 7 im) (aF im 6) (aB im 5) (aF im (ofNat es.length)) (aF im (ofNat ed.length)):=by
    unfold Et;rw[hsh];rfl
   rw[e]
   cases ar with
   | nil=>
    cases az
    ·have hl:=@OG p sl (ofNat n) (.slice es) (sx z ed) dst a b im nm k tn ix (Go.Proofs.YtmpmgmmcaghacaaGreatDoor.sl (ax la)) ck ci cs (lU (ki n));exact aeH n hn1 hn2 hd (dr (ax la)) rfl rfl rfl rfl rfl rfl rfl rfl O8 hty vF (jy (.inr ⟨_,rfl⟩) hd) (jy (.inr ⟨_,rfl⟩) hd) (jy (.inr ⟨_,rfl⟩) hd) (yj nm) hval rfl hcl (DZ hs) rfl rfl rfl rfl rfl rfl i6 i7 hl
    have hl:=@Kt [] (by decide) p sl (ofNat n) (.slice es) (sx z ed) (.inr ⟨_,rfl⟩) hd dst a b im nm k tn ix (Go.Proofs.YtmpmgmmcaghacaaGreatDoor.sl (ax la)) ck ci cs (lU (ki n));exact abi n hn1 hn2 hd (dr (ax la)) (es:=[]) rfl rfl rfl rfl rfl rfl rfl O8 hty vF (jy (.inr ⟨_,rfl⟩) hd) (jy (.inr ⟨_,rfl⟩) hd) (jy (.inr ⟨_,rfl⟩) hd) (yj nm) hval rfl hcl (DZ hs) rfl rfl rfl rfl rfl rfl i6 i7 hl
   | cons y r=>
    have hl:=@Kt (y::r) ha p sl (ofNat n) (.slice es) (sx z ed) (.inr ⟨_,rfl⟩) hd dst a b im nm k tn ix (Go.Proofs.YtmpmgmmcaghacaaGreatDoor.sl (ax la)) ck ci cs (lU (ki n));have hlen:((y::r).map iN).length=(y::r).length:=List.length_map _;exact abi n hn1 hn2 hd (dr (ax la)) (es:=(y::r).map iN) rfl rfl rfl rfl rfl (by rw[hlen]) (by rw[hlen]) O8 hty vF (jy (.inr ⟨_,rfl⟩) hd) (jy (.inr ⟨_,rfl⟩) hd) (jy (.inr ⟨_,rfl⟩) hd) (yj nm) hval rfl hcl (DZ hs) rfl rfl rfl rfl rfl rfl i6 i7 hl
theorem BQ {p sl:Int} {es ed:List ak} (z:Bool) {x:Ins} (h:x.gN) :
  ae 70 [.dat (aN p sl (.slice es) (sx z ed)),.dat x.enc] (bv (iJ (ofNat es.length) (ofNat ed.length) sl x)):=by
 rw[X0];exact DY z h
end Go.Proofs.YtmpmgmmcaghacaaGreatDoor
namespace Go.Proofs
open Go.Shelf
def Tryz.Ml:Go.Shelf.Ren:=⟨fun|5=>59|8=>93|7=>92|19=>135|20=>136|10=>126|11=>127|12=>128|13=>129|14=>130|15=>131|16=>132|17=>133|18=>134|30=>167|31=>168|32=>169|33=>170|34=>171|35=>172|40=>191|n=>n,fun|23=>22|25=>3|3=>3|32=>134|22=>22|0=>0|44=>178|46=>162|4=>4|36=>171|35=>170|41=>57|5=>5|9=>9|53=>195|57=>199|63=>211|64=>212|n=>n,fun|n=>n⟩
theorem Tryz.gO:Go.Proofs.SlLaysM.n5 Tryz.prog Tryz.Ml:={
 mixed:=by kernel_rfl
 f5:=⟨Tryz.f59.name,by decide,Tryz.func59.trans (congrArg some (by kernel_rfl))⟩
 f7:=⟨Tryz.f92.name,by decide,Tryz.func92.trans (congrArg some (by kernel_rfl))⟩
 f8:=Tryz.func93.trans (congrArg some (by kernel_rfl))
 f10:=⟨Tryz.f126.name,by decide,Tryz.func126.trans (congrArg some (by kernel_rfl))⟩
 f11:=⟨Tryz.f127.name,by decide,Tryz.func127.trans (congrArg some (by kernel_rfl))⟩
 f12:=⟨Tryz.f128.name,by decide,Tryz.func128.trans (congrArg some (by kernel_rfl))⟩
 f13:=⟨Tryz.f129.name,by decide,Tryz.func129.trans (congrArg some (by kernel_rfl))⟩
 f14:=⟨Tryz.f130.name,by decide,Tryz.func130.trans (congrArg some (by kernel_rfl))⟩
 f15:=⟨Tryz.f131.name,by decide,Tryz.func131.trans (congrArg some (by kernel_rfl))⟩
 f16:=⟨Tryz.f132.name,by decide,Tryz.func132.trans (congrArg some (by kernel_rfl))⟩
 f17:=⟨Tryz.f133.name,by decide,Tryz.func133.trans (congrArg some (by kernel_rfl))⟩
 f18:=⟨Tryz.f134.name,by decide,Tryz.func134.trans (congrArg some (by kernel_rfl))⟩
 f19:=Tryz.func135.trans (congrArg some (by kernel_rfl))
 f20:=Tryz.func136.trans (congrArg some (by kernel_rfl))
 f30:=⟨Tryz.f167.name,by decide,Tryz.func167.trans (congrArg some (by kernel_rfl))⟩
 f31:=Tryz.func168.trans (congrArg some (by kernel_rfl))
 f32:=Tryz.func169.trans (congrArg some (by kernel_rfl))
 f33:=⟨Tryz.f170.name,by decide,Tryz.func170.trans (congrArg some (by kernel_rfl))⟩
 f34:=⟨Tryz.f171.name,by decide,Tryz.func171.trans (congrArg some (by kernel_rfl))⟩
 f35:=⟨Tryz.f172.name,by decide,Tryz.func172.trans (congrArg some (by kernel_rfl))⟩
 f40:=⟨Tryz.f191.name,by decide,Tryz.func191.trans (congrArg some (by kernel_rfl))⟩
 t0:=Tryz.underlying0
 a0:=Tryz.isAgg0
 z0:=Tryz.sizeOf0
 v0:=Tryz.zeroValue0
 t3:=Tryz.underlying3
 a3:=Tryz.isAgg3
 z3:=Tryz.sizeOf3
 v3:=Tryz.zeroValue3
 t4:=Tryz.underlying4
 a4:=Tryz.isAgg4
 z4:=Tryz.sizeOf4
 v4:=Tryz.zeroValue4
 t5:=Tryz.underlying5
 a5:=Tryz.isAgg5
 z5:=Tryz.sizeOf5
 v5:=Tryz.zeroValue5
 t9:=Tryz.underlying9
 a9:=Tryz.isAgg9
 z9:=Tryz.sizeOf9
 v9:=Tryz.zeroValue9
 t22:=Tryz.underlying22
 a22:=Tryz.isAgg22
 z22:=Tryz.sizeOf22
 v22:=Tryz.zeroValue22
 t23:=Tryz.underlying22
 a23:=Tryz.isAgg22
 z23:=Tryz.sizeOf22
 v23:=Tryz.zeroValue22
 t25:=Tryz.underlying3
 a25:=Tryz.isAgg3
 z25:=Tryz.sizeOf3
 v25:=Tryz.zeroValue3
 t32:=Tryz.underlying134
 a32:=Tryz.isAgg134
 z32:=Tryz.sizeOf134
 v32:=Tryz.zeroValue134
 t35:=Tryz.underlying170
 a35:=Tryz.isAgg170
 z35:=Tryz.sizeOf170
 v35:=Tryz.zeroValue170
 t36:=Tryz.underlying171
 a36:=Tryz.isAgg171
 z36:=Tryz.sizeOf171
 v36:=Tryz.zeroValue171
 t41:=Tryz.underlying57
 a41:=Tryz.isAgg57
 z41:=Tryz.sizeOf57
 v41:=Tryz.zeroValue57
 t44:=Tryz.underlying178
 a44:=Tryz.isAgg178
 z44:=Tryz.sizeOf178
 v44:=Tryz.zeroValue178
 t46:=Tryz.underlying162
 a46:=Tryz.isAgg162
 z46:=Tryz.sizeOf162
 v46:=Tryz.zeroValue162
 t53:=Tryz.underlying195
 a53:=Tryz.isAgg195
 z53:=Tryz.sizeOf195
 v53:=Tryz.zeroValue195
 t57:=Tryz.underlying199
 a57:=Tryz.isAgg199
 z57:=Tryz.sizeOf199
 v57:=Tryz.zeroValue199
 t63:=Tryz.underlying211
 a63:=Tryz.isAgg211
 z63:=Tryz.sizeOf211
 v63:=Tryz.zeroValue211
 t64:=Tryz.underlying212
 a64:=Tryz.isAgg212
 z64:=Tryz.sizeOf212
 v64:=Tryz.zeroValue212 }
def Tryz.uQ:Go.Shelf.Ren:=⟨fun|43=>60|n=>n,fun|22=>22|23=>3|3=>3|4=>4|0=>0|n=>n,fun|n=>n⟩
theorem Tryz.RI:Go.Proofs.SlLaysE.n43 Tryz.prog Tryz.uQ:={
 mixed:=by kernel_rfl
 f43:=⟨Tryz.f60.name,by decide,Tryz.func60.trans (congrArg some (by kernel_rfl))⟩
 t0:=Tryz.underlying0
 a0:=Tryz.isAgg0
 z0:=Tryz.sizeOf0
 v0:=Tryz.zeroValue0
 t3:=Tryz.underlying3
 a3:=Tryz.isAgg3
 z3:=Tryz.sizeOf3
 v3:=Tryz.zeroValue3
 t4:=Tryz.underlying4
 a4:=Tryz.isAgg4
 z4:=Tryz.sizeOf4
 v4:=Tryz.zeroValue4
 t22:=Tryz.underlying22
 a22:=Tryz.isAgg22
 z22:=Tryz.sizeOf22
 v22:=Tryz.zeroValue22
 a23:=Tryz.isAgg3
 z23:=Tryz.sizeOf3 }
end Go.Proofs
namespace Go.Tp
open Go.Proofs Go.Shelf Go.RowKit Go.Maps Go.Sort Go.Lib
def oF (n:Int):ak:=.flat (.int .i64 n)
section
variable {P:Program} {ρ ρ':Ren} {G:bA}
def lu:List ac->Option (List Int)
 | []=>some []
 | .dat (.flat (.int .i64 n))::r=>(match lu r with|some l=>some (n::l)|none=>none)
 | _=>none
theorem rY:∀{cs:List ac} {zs:List Int},lu cs=some zs->cs=zs.map (fun n=>.dat (oF n))
 | [],zs,h=>by simp[lu] at h;subst h;rfl
 | c::r,zs,h=>by
  unfold lu at h
  split at h
  ·simp at *
  ·rename_i n r' heq;simp at heq;obtain⟨rfl,rfl⟩:=heq
   split at h
   ·rename_i l hl;simp at h;subst h;rw[rY hl];rfl
   simp at h
  simp at h
def Be (args:List ac) (heap:Heap) (next:Nat):Option eX:=
 match args with
 | [.win (.out m) 1 0 len]=>(match qJ (.out m) heap with
  | some (.cells cs)=>(match Nat.beq len cs.length&&Nat.ble 1 len&&Nat.ble len 4294967296 with
   | true=>(match lu cs with
    | some zs=>some ⟨.dat (.slice ((compactUpTo zs.toArray zs.length).map oF)),qL (.out m) heap,next⟩
    | none=>none)
   | false=>none)
  | _=>none)
 | _=>none
theorem Gz {w:World} {R R':Own} {blk:Nat} {vs:Array Value} {elem:TypeId} (hblk:w.heap[blk]?=some (.cells vs elem (0,0))) (hR:R'=fun c off=>c≠blk/\R c off) (hRv:∀j,j < vs.size->R blk j) (h0:0 < vs.size) (q:Nat) (d:Array Int) (bs:List Nat) (hb:blk∉bs) :
  bp w R (putRow (Value.int .i64) (Sort.ahead w q) blk 0 d) R' bs:=by
 have hother:∀c,c≠blk->(putRow (Value.int .i64) (Sort.ahead w q) blk 0 d).heap[c]?=w.heap[c]?:=fun c hc=>by
  simp[putRow,mapBlock,Sort.ahead,Array.getElem?_modify,Ne.symm hc]
 have hself:(putRow (Value.int .i64) (Sort.ahead w q) blk 0 d).heap[blk]?=some (.cells (putCells (Value.int .i64) 0 d vs) elem (0,0)):=by
  simp[putRow,mapBlock,Sort.ahead,Array.getElem?_modify,hblk,onCells]
 have hsz:(putCells (Value.int .i64) 0 d vs).size=vs.size:=by simp[putCells]
 subst hR;refine⟨⟨rfl,rfl,rfl,by simp[Sort.ahead],fun c hc hno=>?_,fun c off hc hno=>⟨fun h=>hno h.2,?_⟩,fun c hc=>?_⟩,fun c hc _=>?_⟩
 ·have hne:c≠blk:=fun e=>hno 0 (e ▸ hRv 0 h0)
  exact⟨hother c hne,fun off h=>hno off h.2⟩
 ·by_cases hcb:c=blk
  ·subst hcb;have ho:vs.size<=off:=by
    rcases Nat.lt_or_ge off vs.size with h'|h'
    ·exact (hno (hRv off h')).elim
    exact h'
   rw[cell_of_row _ c off _ elem (0,0) hself,cell_of_row w c off vs elem (0,0) hblk,Array.getElem?_eq_none (by omega),Array.getElem?_eq_none ho]
  exact World.cell?_of_block (a:=⟨c,off,none⟩) (hother c hcb)
 ·by_cases hcb:c=blk
  ·subst hcb;rw[dF hself,dF hblk,hsz]
  exact fe (hother c hcb)
 have hne:c≠blk:=fun e=>hb (e ▸ hc)
 exact⟨hother c hne,fun off h=>⟨hne,h⟩⟩
theorem Nq (L:SlLaysE.n43 P ρ) (v23:∀w,(zeroValue (ρ.t 23)).run P w=.ok (.int .i64 0) w) {args:List ac} {heap:Heap} {next:Nat} {r:eX} (h:Be args heap next=some r):ay P G (ρ.f 43) args heap next (XQ r):=by
 unfold Be at h
 split at h
 rotate_left
 ·simp at h
 rename_i m len
 split at h
 rotate_left
 ·simp at h
 rename_i cs hm
 split at h
 rotate_left
 ·simp at h
 rename_i hc;simp only[Bool.and_eq_true,Nat.ble_eq] at hc;obtain⟨⟨hl,h1⟩,h2⟩:=hc;have hl:=Nat.eq_of_beq_eq_true hl
 split at h
 rotate_left
 ·simp at h
 rename_i zs hzs;simp only[Option.some.injEq] at h;subst h;have hcs:=rY hzs;have hzl:zs.length=len:=by rw[hl,hcs];simp
 rw[jS] at hm;rw[lE];intro w R N cargs bsA bsH bsF hargs hheap hnd hnx hglob hF;obtain⟨v0,r1,c0,d1,rfl,rfl,h0,hr1⟩:=au hargs;obtain⟨rfl,rfl⟩:=aM hr1;simp only[ai] at h0;obtain⟨rfl,b,cap,hb,rfl,hcap,_,hblt,hrow⟩:=h0;obtain⟨pre,b',b1,post,e1,hb',hobj,_,bs',hdel,hsub⟩:=aj.kK hheap hm
 have:b'=b:=by rw[hb] at hb';simpa using hb'.symm
 subst this;subst e1;obtain⟨vs,elem,sp,hblk,hrv,hRv,_⟩:=hobj;have hvs:cap=vs.size:=by rw[eD,hblk] at hrow;simpa using hrow
 have hval:∀j (hj:j < zs.length),vs[j]?=some (.int .i64 zs[j])/\bJ (.int .i64 zs[j])=true:=by
  intro j hj;have ha:cs[j]?=some (.dat (oF zs[j])):=by rw[hcs,List.getElem?_map,List.getElem?_eq_getElem hj];rfl
  obtain⟨x,bx,q1,q2,_⟩:=dY hrv (rj ha);obtain⟨_,rfl,hf⟩:=aC q2;exact⟨by rw[←Array.getElem?_toList];exact q1,hf⟩
 have hH:Holds (Value.int .i64) w b' 0 zs.toArray:=by
  intro j hj;have hj:j < zs.length:=by simpa using hj
  obtain⟨q1,_⟩:=hval j hj;rw[Nat.zero_add];refine⟨?_,by simp[World.frozen?,hblk]⟩;simp[World.cell?,hblk,q1,hj]
 have hsz:zs.toArray.size=len:=by simpa using hzl
 rw[←hsz];refine (AnyE.slices_Compact L (Value.int .i64) (fun _=>rfl) (EqlAt.intD P (ρ.t 23) .i64) (NeqAt.intD P (ρ.t 23) .i64) 0 v23 b' 0 cap zs.toArray w hH (by rw[hsz];omega) (by rw[hsz];exact hcap)).mono ?_;rintro e w' ⟨rfl,q,rfl⟩;obtain⟨out,hout⟩:∃out,out=compactUpTo zs.toArray zs.toArray.size:=⟨_,rfl⟩;have hout':compactUpTo zs.toArray zs.length=out:=by rw[hout];simp
 rw[hout',←hout];have hol:out.length<=len:=by
  rw[hout,←hsz];simp only[compactUpTo,List.length_map];exact Nat.le_trans (List.length_filter_le _ _) (by simp)
 have hmem:∀n∈out,bJ (.int .i64 n)=true:=by
  intro n hn;rw[hout] at hn;simp only[compactUpTo,List.mem_map,List.mem_filter,List.mem_range] at hn;obtain⟨j,⟨hj,_⟩,rfl⟩:=hn;have hj:j < zs.length:=by simpa using hj
  have:=(hval j hj).2
  simpa [hj] using this
 obtain⟨d',hd'⟩:∃d',d'=(out++List.replicate (zs.toArray.size - out.length) (0:Int)).toArray:=⟨_,rfl⟩;rw[←hd'];have hds:d'.size=zs.toArray.size:=by rw[hd'];simp;omega
 obtain⟨R',hR'⟩:∃R':Own,R'=fun c off=>c≠b'/\R c off:=⟨_,rfl⟩
 have hk:∀bs,b'∉bs->bp w R (putRow (Value.int .i64) (Sort.ahead w q) b' 0 d') R' bs:=fun bs hbs=>Gz hblk hR' hRv (by omega) q d' bs hbs
 have hp:([]++((pre++(b'::b1)++post)++bsF)).Perm (b'::(b1++((pre++post)++bsF))):=by
  rw[List.perm_iff_count];intro x;simp only[List.count_append,List.count_cons,List.count_nil];omega
 have hnd2:=List.nodup_cons.1 (hp.nodup_iff.1 (by simpa using hnd));have hno:=hnd2.1;simp only[List.mem_append,not_or] at hno;obtain⟨_,⟨n3,n3'⟩,n4⟩:=hno;have n5:b'∉bs':=fun hm=>by
  rcases List.mem_append.1 (hsub.subset hm) with h|h
  ·exact n3 h
  exact n3' h
 refine⟨_,_,_,next,R',N,[],bs',rfl,⟨rfl,rfl,rfl⟩,bQ (d:=.slice (out.map oF)) ?_,hdel.keep (hk bs' n5),?_,hnx,hk bsF n4,fun _ _ h=>h⟩
 ·have hel:(out.map oF).length=out.length:=by simp
  have hH2:=holds_putRow (Value.int .i64) (Sort.ahead w q) b' 0 zs.toArray d' (holds_ahead _ w q b' 0 zs.toArray hH) hds;have hget:∀i (hi:i < out.length),(putRow (Value.int .i64) (Sort.ahead w q) b' 0 d').cell? ⟨b',0+i,none⟩=some (.int .i64 out[i]):=by
   intro i hi;have hi2:i < d'.size:=by rw[hds,hsz];omega
   have:=(hH2 i hi2).1
   rw[this];congr 2;rw[getElem!_pos d' i hi2];subst hd';simp[hi]
  rw[←hel];show eU _ _ _ _;refine .slice b' 0 cap 1 _ (fun i _=>.int .i64 (out[i]?.getD 0)) (by omega) ?_ (by rw[hel];omega) (by rw[hel];simp only[lim];omega) ?_ ?_
  ·intro e he;simp only[List.mem_map] at he;obtain⟨y,_,rfl⟩:=he;rfl
  ·intro i j hi hj;rw[hel] at hi
   have:j=0:=by omega
   subst this;refine⟨?_,fun h=>by subst hR';exact h.1 rfl⟩
   have:=hget i hi
   simpa [hi] using this
  intro i j e c he hc;have hi:i < out.length:=by
   rcases Nat.lt_or_ge i out.length with h'|h'
   ·exact h'
   rw[List.getElem?_eq_none (by simpa using h')] at he;simp at he
  have he':e=oF out[i]:=by
   rw[List.getElem?_map,List.getElem?_eq_getElem hi] at he;simpa using he.symm
  subst he';have hc':c=oF out[i]:=by
   cases j with
   | zero=>simpa [oF,ak.cells] using hc.symm
   | succ j=>simp[oF,ak.cells] at hc
  subst hc';have e2:out[i]?.getD 0=out[i]:=by rw[List.getElem?_eq_getElem hi];rfl
  rw[e2];exact .flat (hmem _ (List.getElem_mem hi))
 have h2:=(List.nodup_append.1 hnd2.2).2.1;rw[List.nil_append];exact List.Nodup.sublist (List.Sublist.append hsub (.refl _)) h2
def gO (l:List Int):List Int:=l.mergeSort (fun x y=>decide (x<=y))
theorem zj (l:List Int):(gO l).Perm l:=List.mergeSort_perm _ _
theorem iw (l:List Int):(gO l).length=l.length:=(zj l).length_eq
theorem MP {w:World} {R:Own} (os:Array Obj) (bs:List Nat):bp w R (grow w os) (fun b off=>b < w.heap.size/\R b off) bs:=by
 have h1:∀b,b < w.heap.size->(grow w os).heap[b]?=w.heap[b]?:=fun b hb=>by simp[grow,Array.getElem?_append,hb]
 refine⟨⟨rfl,rfl,rfl,by simp[grow],fun b hb hno=>⟨h1 b hb,fun off h=>hno off h.2⟩,fun b off hb hno=>⟨fun h=>hno h.2,World.cell?_of_block (a:=⟨b,off,none⟩) (h1 b hb)⟩,fun b hb=>fe (h1 b hb)⟩,fun b hb hlt=>⟨h1 b hlt,fun off h=>⟨hlt,h⟩⟩⟩
theorem No (L:SlLaysM.n5 P ρ) {l:List Int} (hl:l≠[]) (hn:l.length < 1000000000) :
  ay P G (ρ.f 5) [.win (.out 0) 1 0 l.length] [(.out 0,.cells (cH l))] 1 (XQ ⟨.tup [],[(.out 0,.cells (cH (gO l)))],1⟩):=by
 intro w R N cargs bsA bsH bsF hargs hheap hnd hnx hglob hF;obtain⟨v0,r1,c0,d1,rfl,rfl,h0,hr1⟩:=au hargs;obtain⟨rfl,rfl⟩:=aM hr1;obtain⟨b,b1,b2,rfl,hb,hobj,hrest⟩:=hheap;have hrest:b2=[]:=hrest;subst hrest;obtain⟨vs,elem,sp,hblk,hrv,hRv,_⟩:=hobj;simp only[ai] at h0;obtain⟨rfl,b',cap,hb',rfl,hcap,hcm,hblt,hrow⟩:=h0
 have:b'=b:=by rw[hb] at hb';simpa using hb'.symm
 subst this;obtain⟨us1,us2,q1,q2,hus,rfl,hr1,hq2⟩:=eL hrv;obtain⟨rfl,rfl,hfl⟩:=oD hr1;obtain⟨rfl,husp⟩:=mY hq2;have hlp:0 < l.length:=List.length_pos_iff.2 hl;have hvs:vs.toList.length=l.length+us2.length:=by rw[hus];simp[ints]
 have hcell:∀j (hj:j < l.length),vs[j]?=some (.int .i64 l[j]):=by
  intro j hj;rw[←Array.getElem?_toList,hus,List.getElem?_append_left (by simpa [ints] using hj)];simp[ints,hj]
 have hH:Holds (Value.int .i64) w b' 0 l.toArray:=by
  intro j hj;have hj:j < l.length:=by simpa using hj
  rw[Nat.zero_add];refine⟨?_,by simp[World.frozen?,hblk]⟩;simp[World.cell?,hblk,hcell j hj,hj]
 refine (AnyM.slices_Sort_int L b' 0 cap l w hH hblt (by omega)).mono ?_;rintro e w' ⟨rfl,n,os,rfl⟩;obtain⟨d,hd⟩:∃d,d=(gO l).toArray:=⟨_,rfl⟩;show ∃v cv heap' next' R' N' bsV bsH',_;have hds:d.size=l.length:=by rw[hd];simp[iw]
 rw[show (l.mergeSort fun x y=>decide (x<=y)).toArray=d from hd.symm];have hself:(putRow (Value.int .i64) (Sort.ahead w n) b' 0 d).heap[b']?=some (.cells (putCells (Value.int .i64) 0 d vs) elem (0,0)):=by
  simp[putRow,mapBlock,Sort.ahead,Array.getElem?_modify,hblk,onCells]
 have hother:∀c,c≠b'->(putRow (Value.int .i64) (Sort.ahead w n) b' 0 d).heap[c]?=w.heap[c]?:=fun c hc=>by
  simp[putRow,mapBlock,Sort.ahead,Array.getElem?_modify,Ne.symm hc]
 have hsz:(putCells (Value.int .i64) 0 d vs).size=vs.size:=by simp[putCells]
 have hvp:0 < vs.size:=by rw[←Array.length_toList];omega
 have hhs:(putRow (Value.int .i64) (Sort.ahead w n) b' 0 d).heap.size=w.heap.size:=by simp[putRow,mapBlock,Sort.ahead]
 obtain⟨R',hR'⟩:∃R':Own,R'=fun c off=>c < w.heap.size/\R c off:=⟨_,rfl⟩
 have hk1:∀bs,b'∉bs->bp w R (putRow (Value.int .i64) (Sort.ahead w n) b' 0 d) R bs:=by
  intro bs hbs;refine⟨⟨rfl,rfl,rfl,by rw[hhs];exact Nat.le_refl _,fun c hc hno=>?_,fun c off hc hno=>⟨hno,?_⟩,fun c hc=>?_⟩,fun c hc _=>?_⟩
  ·have hne:c≠b':=fun e=>hno 0 (e ▸ hRv 0 hvp)
   exact⟨hother c hne,hno⟩
  ·by_cases hcb:c=b'
   ·subst hcb;have ho:vs.size<=off:=by
     rcases Nat.lt_or_ge off vs.size with h'|h'
     ·exact (hno (hRv off h')).elim
     exact h'
    rw[cell_of_row _ c off _ elem (0,0) hself,cell_of_row w c off vs elem (0,0) hblk,Array.getElem?_eq_none (by omega),Array.getElem?_eq_none ho]
   exact World.cell?_of_block (a:=⟨c,off,none⟩) (hother c hcb)
  ·by_cases hcb:c=b'
   ·subst hcb;rw[dF hself,dF hblk,hsz]
   exact fe (hother c hcb)
  have hne:c≠b':=fun e=>hbs (e ▸ hc)
  exact⟨hother c hne,fun off h=>h⟩
 have hk:∀bs,b'∉bs->bp w R (grow (putRow (Value.int .i64) (Sort.ahead w n) b' 0 d) os) R' bs:=by
  intro bs hbs;have h:=(hk1 bs hbs).trans (MP (R:=R) os bs);rw[hhs] at h;rw[hR'];exact h
 have hbF:b'∉bsF:=by
  have h1:(b'::bsF).Nodup:=by simpa using hnd
  exact (List.nodup_cons.1 h1).1
 have hg:(grow (putRow (Value.int .i64) (Sort.ahead w n) b' 0 d) os).heap[b']?=some (.cells (putCells (Value.int .i64) 0 d vs) elem (0,0)):=by
  have hlt:b' < (putRow (Value.int .i64) (Sort.ahead w n) b' 0 d).heap.size:=by rw[hhs];exact hblt
  rw[show (grow (putRow (Value.int .i64) (Sort.ahead w n) b' 0 d) os).heap[b']?=(putRow (Value.int .i64) (Sort.ahead w n) b' 0 d).heap[b']? by rw[grow,Array.getElem?_append_left hlt]];exact hself
 refine⟨_,_,_,1,R',N,[],[b'],rfl,⟨rfl,rfl,rfl⟩,by simp only[ai];exact⟨[],rfl,aP⟩,?_,by simpa using hnd,hnx,hk bsF hbF,fun _ _ h=>h⟩;refine⟨b',[],[],rfl,hb,?_,rfl⟩;refine⟨putCells (Value.int .i64) 0 d vs,elem,sp,hg,?_,fun j hj=>by rw[hsz] at hj;subst hR';exact⟨hblt,hRv j hj⟩,fun h=>by rw[LB] at h;simp at h⟩;have hfl2:∀x∈gO l,bJ (.int .i64 x)=true:=fun x hx=>hfl x ((zj l).mem_iff.1 hx)
 have hlist:(putCells (Value.int .i64) 0 d vs).toList=ints (gO l)++us2:=by
  apply List.ext_getElem?
  intro j;rw[Array.getElem?_toList];simp only[putCells,Array.getElem?_mapIdx,Nat.zero_le,true_and,Nat.zero_add,Nat.sub_zero];have hvj:vs[j]?=(ints l++us2)[j]?:=by rw[←Array.getElem?_toList,hus]
  rw[hvj]
  by_cases hj:j < l.length
  ·rw[List.getElem?_append_left (by simpa [ints] using hj),List.getElem?_append_left (by simpa [ints,iw] using hj)];have hj2:j < d.size:=by omega
   have hj3:j < (gO l).length:=by rw[iw];exact hj
   simp only[ints,List.getElem?_map,List.getElem?_eq_getElem hj,List.getElem?_eq_getElem hj3,Option.map_some,hj2,if_true];rw[getElem!_pos d j hj2];subst hd;simp
  rw[List.getElem?_append_right (by simpa [ints] using hj),List.getElem?_append_right (by simpa [ints,iw] using hj)];simp only[ints,List.length_map,iw]
  cases us2[j - l.length]? with
  | none=>rfl
  | some u=>simp only[Option.map_some];rw[if_neg (by omega)]
 rw[hlist];have h2:=fK (w:=grow (putRow (Value.int .i64) (Sort.ahead w n) b' 0 d) os) (R:=R') (N:=outs N) us2;rw[husp] at h2;have h3:ah (grow (putRow (Value.int .i64) (Sort.ahead w n) b' 0 d) os) R' (outs N) (cH (gO l)) (ints (gO l)) []:=Es hfl2;simpa using ct h3 h2
theorem Np (L:SlLaysM.n5 P ρ):ay P G (ρ.f 5) [.dat (.flat (.slice none 0 0))] [] 0 (XQ ⟨.tup [],[],0⟩):=by
 intro w R N cargs bsA bsH bsF hargs hheap hnd hnx hglob hF;obtain⟨v0,r1,c0,d1,rfl,rfl,h0,hr1⟩:=au hargs;obtain⟨rfl,rfl⟩:=aM hr1;simp only[ai] at h0;obtain⟨rfl,h0⟩:=h0;have h0:eU w R v0 (.flat (.slice none 0 0)):=h0;have e0:v0=.slice none 0 0:=by cases h0 with|flat _=>rfl
 subst e0;refine (AnyM.slices_Sort_int_none L none 0 w).mono ?_;rintro e w' ⟨rfl,rfl⟩;exact⟨_,_,_,0,R,N,[],bsH,rfl,⟨rfl,rfl,rfl⟩,by simp only[ai];exact⟨[],rfl,aP⟩,hheap,by simpa using hnd,hnx,⟨Step.refl _ _,fun _ _ _=>⟨rfl,fun _ h=>h⟩⟩,fun _ _ h=>h⟩
end
end Go.Tp
namespace Go.Proofs.YtmpmgmmcaghacaaGreatDoor
open Go.Tp
theorem yv (t:Bool) {op dst a b im:Int} {nm:List UInt8} {dx:ak} {k:Int} {tn:List UInt8} {ix:Int} {dt:ak} {ck ci:Int} {cs:List UInt8} (h1:dj dx) (h2:dj dt):eB ba t 45 [.ref [i64 op,i64 dst,i64 a,i64 b,i64 im,sb nm,dx,i64 k,sb tn,i64 ix,dt,i64 ck,i64 ci,sb cs,nl]] none=some ⟨.dat (eH op dst a b im nm dx k tn ix dt ck ci cs),.keep⟩:=by
 cases t <;> rcases h1 with rfl|⟨e1,rfl⟩ <;> rcases h2 with rfl|⟨e2,rfl⟩ <;> kernel_rfl
theorem Ic (l:Nat) {op dst a b im:Int} {nm:List UInt8} {dx:ak} {k:Int} {tn:List UInt8} {ix:Int} {dt:ak} {ck ci:Int} {cs:List UInt8} (h1:dj dx) (h2:dj dt):cG ba 45 [.ptr (.loc l) 0,.dat (eH op dst a b im nm dx k tn ix dt ck ci cs)] (some (.cells (cX 0 0 0 0 0 [] nl 0 [] 0 nl 0 0 [])))=some ⟨.undef,.set (.cells (cX op dst a b im nm dx k tn ix dt ck ci cs))⟩:=by
 rcases h1 with rfl|⟨e1,rfl⟩ <;> rcases h2 with rfl|⟨e2,rfl⟩ <;> kernel_rfl
theorem Kr {l:List Int} (o:Nat) (hl:l≠[]) (hn:l.length < 1000000000) :
  KC 59 [.win (.out o) 1 0 l.length] [(.out o,.cells (cH l))] (o+1) (XQ ⟨.tup [],[(.out o,.cells (cH (gO l)))],o+1⟩):=by
 have h:=No (G:=cM) Tryz.gO hl hn;have e:∀(l:List Int) (ρ:Nat->Nat),il ρ (cH l)=cH l:=by
  intro l ρ
  induction l with
  | nil=>rfl
  | cons a r ih=>show fx ρ (iv a)::il ρ (cH r)=_;rw[ih];rfl
 have e0:∀(l:List Int),gZ 1 (cH l)=false:=by
  intro l
  induction l with
  | nil=>rfl
  | cons a r ih=>show (iq 1 (iv a)||gZ 1 (cH r))=_;rw[ih];rfl
 have hf:=ay.frame h (fun _=>o) (heap:=[(.out o,.cells (cH l))]) (rest:=[]) (next:=o+1) (by
  have:jJ (fun _=>o) [(Name.out 0,aL.cells (cH l))]=[(.out o,.cells (cH l))]:=by simp only[jJ,wX,pW,e]
  rw[this];exact List.Perm.refl _) rfl (by simp only[gH,BS,e0];rfl) rfl rfl
 refine hf.mono ?_;rintro v' h' m' ⟨v0,h1,n1,⟨rfl,rfl,rfl⟩,rfl,rfl,rfl⟩;refine⟨rfl,?_,rfl⟩;have hl0:ig (fun _=>o) 1 (o+1) 0=o:=rfl;simp only[jJ,wX,pW,e,hl0,List.append_nil]
theorem z23:∀w,(Go.zeroValue (Tryz.uQ.t 23)).run Tryz.prog w=.ok (.int .i64 0) w:=Tryz.zeroValue3
theorem LO (o:Nat) {l:List Int} {r:List Int} (h1:1<=l.length) (h2:l.length < 1000000000) (hr:Go.Lib.compactUpTo l.toArray l.length=r) :
  KC 60 [.win (.out o) 1 0 l.length] [(.out o,.cells (cH l))] (o+1) (XQ ⟨.dat (.slice (r.map iN)),[],o+1⟩):=by
 refine Nq (G:=cM) Tryz.RI z23 ?_;subst hr;have e:∀l:List Int,lu (cH l)=some l:=by
  intro l
  induction l with
  | nil=>rfl
  | cons a r ih=>
   show (match lu (cH r) with|some l=>some (a::l)|none=>none)=_;rw[ih]
 have h3:(cH l).length=l.length:=List.length_map _;have ea:qJ (.out o) [(Name.out o,aL.cells (cH l))]=some (.cells (cH l)):=by rw[jS];simp[eA]
 have ed:qL (.out o) [(Name.out o,aL.cells (cH l))]=[]:=by rw[lE];simp[iY]
 have hb:(Nat.beq l.length l.length&&Nat.ble 1 l.length&&Nat.ble l.length 4294967296)=true:=by
  rw[Bool.and_eq_true,Bool.and_eq_true,Nat.beq_eq,Nat.ble_eq,Nat.ble_eq];exact⟨⟨rfl,h1⟩,Nat.le_trans (Nat.le_of_lt h2) (by decide)⟩
 simp only[Be,ea,h3,hb,e,ed];rfl
theorem EV:ae 60 [.dat nl] (.dat nl):=by
 refine co [] [] (x:=.of Tryz.f60 Py Qz) ?_;exact fi
theorem RO:KC 59 [.dat nl] [] 0 (XQ ⟨.tup [],[],0⟩):=Np (G:=cM) Tryz.gO
def rF (a b:Int):List Int:=if b < a then [b,a] else if a=b then [a] else [a,b]
theorem Cv (a b:Int):gO [a,b]=if b < a then [b,a] else [a,b]:=by
 have e:gO [a,b]=List.merge [a] [b] (fun x y=>decide (x<=y)):=by
  simp[gO,List.mergeSort,List.MergeSort.Internal.splitInTwo,List.splitAt_eq]
 rw[e]
 by_cases h:b < a
 ·have:¬a<=b:=by omega
  simp[h,this,List.merge]
 have:a<=b:=by omega
 simp[h,this,List.merge]
theorem Ho (a b:Int):Go.Lib.compactUpTo #[a,b] 2=if a=b then [a] else [a,b]:=by
 by_cases h:a=b
 ·subst h;simp[Go.Lib.compactUpTo,List.range,List.range.loop,Go.Lib.keeps]
 have hb:¬b=a:=fun e=>h e.symm
 simp[Go.Lib.compactUpTo,List.range,List.range.loop,List.filter,Go.Lib.keeps,h,hb]
theorem RJ (a b:Int):Go.Lib.compactUpTo (gO [a,b]).toArray (gO [a,b]).length=rF a b:=by
 rw[Cv];unfold rF
 by_cases h:b < a
 ·rw[if_pos h,if_pos h]
  have:=Ho b a
  rw[if_neg (by omega)] at this;exact this
 rw[if_neg h,if_neg h];exact Ho a b
def nxD (A B:Bool) (j im:Int) (l2:List ak):ak:=match A,B with
 | true,true=>.slice l2
 | true,false=>.slice [iN j]
 | false,true=>.slice [iN im]
 | false,false=>nl
theorem XD {p sl:Int} {es:List ak} {d2:ak} {i:Int} (g2:dj d2) {op dst a b im:Int} {nm:List UInt8} {dx:ak} {k:Int} {tn:List UInt8} {ix:Int} {dt:ak} {ck ci:Int} {cs:List UInt8} (g3:dj dx) (g4:dj dt)
  (hi:ap ba 23 [.dat (.slice es),.dat (.flat (.int .i64 i))]=some ⟨.ref [i64 op,i64 dst,i64 a,i64 b,i64 im,sb nm,dx,i64 k,sb tn,i64 ix,dt,i64 ck,i64 ci,sb cs,nl],.keep⟩)
  {s:kG} {ok c1 c2:Bool} (hs:ae 58 [iv op] (.tup [.dat s.enc,bv ok])) (h1:aF (an .i64 (i+1)) (ofNat es.length)=c1) (h2:aB op 12=c2) {u v:Int} {l2:List ak}
  (k0:KC 59 [.dat nl] [] 0 (XQ ⟨.tup [],[],0⟩)) (m0:ae 60 [.dat nl] (.dat nl))
  (k1:KC 59 [.win (.out 0) 1 0 1] [(.out 0,.cells [iv (an .i64 (i+1))])] 1 (XQ ⟨.tup [],[(.out 0,.cells [iv (an .i64 (i+1))])],1⟩)) (m1:KC 60 [.win (.out 0) 1 0 1] [(.out 0,.cells [iv (an .i64 (i+1))])] 1 (XQ ⟨.dat (.slice [iN (an .i64 (i+1))]),[],1⟩))
  (k2:KC 59 [.win (.out 0) 1 0 1] [(.out 0,.cells [iv im])] 1 (XQ ⟨.tup [],[(.out 0,.cells [iv im])],1⟩)) (m2:KC 60 [.win (.out 0) 1 0 1] [(.out 0,.cells [iv im])] 1 (XQ ⟨.dat (.slice [iN im]),[],1⟩))
  (k3:KC 59 [.win (.out 1) 1 0 2] [(.out 1,.cells [iv (an .i64 (i+1)),iv im])] 2 (XQ ⟨.tup [],[(.out 1,.cells [iv u,iv v])],2⟩)) (m3:KC 60 [.win (.out 1) 1 0 2] [(.out 1,.cells [iv u,iv v])] 2 (XQ ⟨.dat (.slice l2),[],2⟩)) :
  ae 40 [.dat (aN p sl (.slice es) d2),iv i] (.dat (nxD (!s.fin&&c1) (s.cond||c2) (an .i64 (i+1)) im l2)):=by
 have q1:=@aS p sl (.slice es) _ (.inr ⟨_,rfl⟩) g2;have q2:=@yv false op dst a b im nm _ k tn ix _ ck ci cs g3 g4;have q3:=@Ic 5 op dst a b im nm _ k tn ix _ ck ci cs g3 g4;clear g2 g3 g4;obtain⟨w,s1,s2,s3,s4,s5,s6,s7,s8,s9,s10,s11⟩:=s;refine co [41,29] [2,12,13,100005] (x:=.of Tryz.f40 Pz QA) ?_;refine oo q1 (oo hi (oo q2 (oo q3 (on hs ?_))))
 cases s11
 ·refine ob h1 ?_
  cases c1
  ·cases s10
   ·refine ob h2 ?_
    cases c2
    ·exact on k0 (on m0 fi)
    exact oh k2 (oh m2 fi)
   exact oh k2 (oh m2 fi)
  cases s10
  ·refine ob h2 ?_
   cases c2
   ·exact oh k1 (oh m1 fi)
   exact oh k3 (oh m3 fi)
  exact oh k3 (oh m3 fi)
 cases s10
 ·refine ob h2 ?_
  cases c2
  ·exact on k0 (on m0 fi)
  exact oh k2 (oh m2 fi)
 exact oh k2 (oh m2 fi)
def lR (n:Nat) (op im:Int) (i:Nat):List Int:=
 match !(lU (eO op)).fin&&decide (i+1 < n),(lU (eO op)).cond||aB op 12 with
 | true,true=>rF (ofNat (i+1)) im
 | true,false=>[ofNat (i+1)]
 | false,true=>[im]
 | false,false=>[]
theorem DM (a b:Int):rF a b≠[]:=by unfold rF;split <;> (try split) <;> simp
theorem ZR {p sl:Int} {ins:List Ins} {d2:ak} {i:Nat} {x:Ins} (g2:dj d2) (hx:ins[i]?=some x) (hn:ins.length < 1000000000) :
  ae 40 [.dat (aN p sl (.slice (encI ins)) d2),iv (ofNat i)] (.dat (Go.Proofs.YtmpmgmmcaghacaaGreatDoor.sl ((lR ins.length x.op x.im i).map iN))):=by
 have hi:=xn hx;have hs:=uT x.op;obtain⟨op,dst,a,b,im,nm,az,ar,⟨k,tn,ix,la⟩,ck,ci,cs⟩:=x;have hil:i < ins.length:=(List.getElem?_eq_some_iff.1 hx).1;have hw:an .i64 (ofNat i+1)=ofNat (i+1):=bb (by omega);have hlt:aF (an .i64 (ofNat i+1)) (ofNat (encI ins).length)=decide (i+1 < ins.length):=by
  rw[hw,bH,gv]
 obtain⟨j,hj⟩:∃j,an .i64 (ofNat i+1)=j:=⟨_,rfl⟩;have e1:∀y:Int,gO [y]=[y]:=fun y=>by simp[gO]
 have e2:∀y:Int,Go.Lib.compactUpTo [y].toArray [y].length=[y]:=fun y=>by simp[Go.Lib.compactUpTo,List.range,List.range.loop,Go.Lib.keeps]
 obtain⟨u,v,huv⟩:∃u v,gO [j,im]=[u,v]:=by
  rw[Cv]
  split
  ·exact⟨_,_,rfl⟩
  exact⟨_,_,rfl⟩
 have k3:=Kr (l:=[j,im]) 1 (by simp) (by simp);rw[huv] at k3;have m3:=LO (l:=[u,v]) 1 (by simp) (by simp) (r:=rF j im) (by rw[←huv,RJ]);have k1:∀y:Int,KC 59 [.win (.out 0) 1 0 1] [(.out 0,.cells [iv y])] 1 (XQ ⟨.tup [],[(.out 0,.cells [iv y])],1⟩):=fun y=>by
  have h:=Kr (l:=[y]) 0 (by simp) (by simp);rw[e1] at h;exact h
 have m1:=fun y=>LO (l:=[y]) 0 (by simp) (by simp) (r:=[y]) (e2 y)
 subst hj;have h:=XD (p:=p) (sl:=sl) (es:=encI ins) (i:=ofNat i) g2 (dq az (ar.map iN)) (dr (ax la)) hi hs hlt rfl RO EV (k1 _) (m1 _) (k1 _) (m1 _) k3 m3;rw[hw] at h;have e:nxD (!(lU (eO op)).fin&&decide (i+1 < ins.length)) ((lU (eO op)).cond||aB op 12) (ofNat (i+1)) im ((rF (ofNat (i+1)) im).map iN)=Go.Proofs.YtmpmgmmcaghacaaGreatDoor.sl ((lR ins.length op im i).map iN):=by
  unfold nxD lR
  cases (!(lU (eO op)).fin&&decide (i+1 < ins.length)) with
  | true=>
   cases ((lU (eO op)).cond||aB op 12) with
   | true=>
    dsimp only
    have:=DM (ofNat (i+1)) im
    generalize rF (ofNat (i+1)) im=l at *
    cases l with
    | nil=>exact absurd rfl this
    | cons a r=>rfl
   | false=>rfl
  | false=>
   cases ((lU (eO op)).cond||aB op 12) with
   | true=>rfl
   | false=>rfl
 rw[e] at h;exact h
def pG (l:List Bool):List ac:=l.map bv
theorem eb:∀l:List Int,bh (.cells (cH l))=true
 | []=>rfl
 | a::r=>by
  have h:aW (cH r)=true:=eb r;show (er (iv a)&&aW (cH r))=true;rw[h];rfl
theorem qZ:∀l:List Bool,bh (.cells (pG l))=true
 | []=>rfl
 | a::r=>by
  have h:aW (pG r)=true:=qZ r;show (er (bv a)&&aW (pG r))=true;rw[h];rfl
theorem F7:∀(l:List Int) (i:Nat) (x:Int),i < l.length->bI i [iv x] (cH l)=cH (l.set i x)
 | [],i,x,h=>absurd h (Nat.not_lt_zero i)
 | a::r,0,x,_=>by simp[bI,cH]
 | a::r,i+1,x,h=>by
  show iv a::bI i [iv x] (cH r)=_;rw[F7 r i x (Nat.lt_of_succ_lt_succ h)];rfl
theorem F8:∀(l:List Bool) (i:Nat) (x:Bool),i < l.length->bI i [bv x] (pG l)=pG (l.set i x)
 | [],i,x,h=>absurd h (Nat.not_lt_zero i)
 | a::r,0,x,_=>by simp[bI,pG]
 | a::r,i+1,x,h=>by
  show bv a::bI i [bv x] (pG r)=_;rw[F8 r i x (Nat.lt_of_succ_lt_succ h)];rfl
theorem wE:∀l:List Int,cd (cH l)=false
 | []=>rfl
 | [_]=>rfl
 | [_,_]=>rfl
 | _::_::_::_=>rfl
theorem Dp:∀l:List Bool,cd (pG l)=false
 | []=>rfl
 | [_]=>rfl
 | [_,_]=>rfl
 | _::_::_::_=>rfl
noncomputable def NV:TI:=match ba.ty 3 with|some t=>t|none=>default
theorem Fb:ba.ty 3=some NV:=by kernel_rfl
theorem L3:NV.isAgg=false:=by kernel_rfl
theorem HT:NV.size=1:=by kernel_rfl
noncomputable def HW:TI:=match ba.ty 4 with|some t=>t|none=>default
theorem Cb:ba.ty 4=some HW:=by kernel_rfl
theorem HV:HW.isAgg=false:=by kernel_rfl
theorem Ff:HW.size=1:=by kernel_rfl
noncomputable def xP:TI:=match Go.Tp.elemOf ba 35 with|some t=>t|none=>default
theorem SQ:Go.Tp.elemOf ba 35=some xP:=by kernel_rfl
theorem Ca:xP.size=1:=by kernel_rfl
theorem Er {l:List Int} {i:Nat} {x:Int} (m:Name) (h:l[i]?=some x):eB ba false 3 [.ptr m i] (some (.cells (cH l)))=some ⟨iv x,.keep⟩:=
 vS Fb L3 (by show (l.map iv)[i]?=_;rw[List.getElem?_map,h];rfl)
theorem N5 {l:List Int} {i:Nat} (m:Name) (x:Int) (h:i < l.length):cG ba 3 [.ptr m i,iv x] (some (.cells (cH l)))=some ⟨.undef,.set (.cells (cH (l.set i x)))⟩:=by
 have h1:=F7 l i x h
 have:=yW (m:=m) (v:=.int .i64 x) Fb HT (cs:=cH l) (off:=i) (by show i < (l.map iv).length;simpa using h) (by
  show cd (bI i [iv x] (cH l))=false;rw[h1];exact wE _)
 rw[←h1];exact this
theorem Jp {l:List Bool} {i:Nat} {x:Bool} (m:Name) (h:l[i]?=some x):eB ba false 4 [.ptr m i] (some (.cells (pG l)))=some ⟨bv x,.keep⟩:=
 vS Cb HV (by show (l.map bv)[i]?=_;rw[List.getElem?_map,h];rfl)
theorem WD {l:List Bool} {i:Nat} (m:Name) (x:Bool) (h:i < l.length):cG ba 4 [.ptr m i,bv x] (some (.cells (pG l)))=some ⟨.undef,.set (.cells (pG (l.set i x)))⟩:=by
 have h1:=F8 l i x h
 have:=yW (m:=m) (v:=.bool x) Cb Ff (cs:=pG l) (off:=i) (by show i < (l.map bv).length;simpa using h) (by
  show cd (bI i [bv x] (pG l))=false;rw[h1];exact Dp _)
 rw[←h1];exact this
theorem GB {m:Name} {n k:Nat} (h:k < n):ap ba 22 [.win m 1 0 n,iv (ofNat k)]=some ⟨.ptr m k,.keep⟩:=by
 have:=Go.Tp.uA (m:=m) (off:=0) (s:=1) HU kV.symm h
 rw[Nat.zero_add,Nat.mul_one] at this;exact this
theorem vV {m:Name} {n k:Nat} (h:k < n):ap ba 35 [.win m 1 0 n,iv (ofNat k)]=some ⟨.ptr m k,.keep⟩:=by
 have:=Go.Tp.uA (m:=m) (off:=0) (s:=1) SQ Ca.symm h
 rw[Nat.zero_add,Nat.mul_one] at this;exact this
theorem AA {m:Name} {n:Nat} (h:n < 1000000000):kb ba 35 [.win m 1 0 n] none=some ⟨iv (ofNat n),.keep⟩:=by
 have e:kb ba 35 [.win m 1 0 n] none=if Nat.ble n lim=true then some ⟨iv (ofNat n),.keep⟩ else none:=by kernel_rfl
 rw[e,if_pos];rw[Nat.ble_eq];simp only[lim];omega
theorem vC {a:ac}:∀n:Nat,po [a] n=List.replicate n a
 | 0=>rfl
 | n+1=>by show [a]++po [a] n=_;rw[vC n];rfl
theorem Ui (n:Nat):cH (List.replicate n 0)=po [iv 0] n:=by rw[vC];simp[cH]
theorem U0 (n:Nat):pG (List.replicate n false)=po [bv false] n:=by rw[vC];simp[pG]
theorem TF {n:Nat} (h:n < 1000000):fR ba 22 [iv (ofNat n),iv (ofNat n)]=some ⟨.undef,.grow (.cells (cH (List.replicate n 0))) 1 n⟩:=by
 have e:fR ba 22 [iv (ofNat n),iv (ofNat n)]=if (Nat.ble n n&&Nat.ble (DE.bytes*n) 140737488355328&&Nat.ble n lim&&Nat.blt 0 DE.size&&dU (aY (bE DE.zero))&&!cd (po (aY (bE DE.zero)) n))=true
    then some ⟨.undef,.grow (.cells (po (aY (bE DE.zero)) n)) DE.size n⟩ else none:=by kernel_rfl
 have ez:aY (bE DE.zero)=[iv 0]:=by kernel_rfl
 rw[e,ez,←Ui,wE,kV];have hb:DE.bytes<=1000:=fD (by kernel_rfl);have h1:Nat.ble n n=true:=by rw[Nat.ble_eq];exact Nat.le_refl _
 have h2:Nat.ble (DE.bytes*n) 140737488355328=true:=by
  rw[Nat.ble_eq]
  calc DE.bytes*n<=1000*1000000:=Nat.mul_le_mul hb (by omega)
   _<=140737488355328:=by decide
 have h3:Nat.ble n lim=true:=by rw[Nat.ble_eq];simp only[lim];omega
 rw[h1,h2,h3];rfl
theorem Qm {n:Nat} (h:n < 1000000):fR ba 35 [iv (ofNat n),iv (ofNat n)]=some ⟨.undef,.grow (.cells (pG (List.replicate n false))) 1 n⟩:=by
 have e:fR ba 35 [iv (ofNat n),iv (ofNat n)]=if (Nat.ble n n&&Nat.ble (xP.bytes*n) 140737488355328&&Nat.ble n lim&&Nat.blt 0 xP.size&&dU (aY (bE xP.zero))&&!cd (po (aY (bE xP.zero)) n))=true
    then some ⟨.undef,.grow (.cells (po (aY (bE xP.zero)) n)) xP.size n⟩ else none:=by kernel_rfl
 have ez:aY (bE xP.zero)=[bv false]:=by kernel_rfl
 rw[e,ez,←U0,Dp,Ca];have hb:xP.bytes<=1000:=fD (by kernel_rfl);have h1:Nat.ble n n=true:=by rw[Nat.ble_eq];exact Nat.le_refl _
 have h2:Nat.ble (xP.bytes*n) 140737488355328=true:=by
  rw[Nat.ble_eq]
  calc xP.bytes*n<=1000*1000000:=Nat.mul_le_mul hb (by omega)
   _<=140737488355328:=by decide
 have h3:Nat.ble n lim=true:=by rw[Nat.ble_eq];simp only[lim];omega
 rw[h1,h2,h3];rfl
noncomputable def hFC:Hints:=⟨bV,KQ,bi,rowsOf bi 68⟩
def pM (m:Nat) (c1 K ss:List ac) (len:Nat) (start n:Int) (N:Nat):ab:=⟨[(18,iv start),(17,iv n),(5,.win (.out m) 2 0 len),(3,.win (.out 0) 1 0 N),(1,.ptr (.loc 1) 0)],[(.loc 1,.cells c1)],[(.out m,.cells K),(.out 0,.cells ss)],m+1⟩
def Fu (m:Nat) (c1 K ss:List ac) (start n:Int) (N:Nat):ab:=⟨[(26,bv false),(18,iv start),(17,iv n),(5,.win (.out m) 2 0 0),(3,.win (.out 0) 1 0 N),(1,.ptr (.loc 1) 0)],[(.loc 1,.cells c1)],[(.out m,.cells K),(.out 0,.cells ss)],m+1⟩
def Cq (m:Nat) (c1 K ss:List ac) (len:Nat) (start n:Int) (N:Nat) (to:Int):ab:=⟨[(128,bv false),(10,iv to),(18,iv start),(17,iv n),(5,.win (.out m) 2 0 len),(3,.win (.out 0) 1 0 N),(1,.ptr (.loc 1) 0)],[(.loc 1,.cells c1)],[(.out m,.cells K),(.out 0,.cells ss)],m+1⟩
def Oi (K ss:List ac):ab:=⟨[(2,bv true)],[],[(.out 1,.cells K),(.out 0,.cells ss)],2⟩
theorem Rh {p sl:Int} {es:List ak} {d2:ak} {K ss:List ac} {start n:Int} {N:Nat} {T:ej} (e:T (.exit 2) ((Fu 1 (cC p sl (.slice es) d2) K ss start n N).al bc)) :
  KD (roundOf Tryz.f68 1) T ((pM 1 (cC p sl (.slice es) d2) K ss 0 start n N).al bc):=by
 refine aq [] [] (H:=hFC) (live:=sQ) ?_;exact oe e
theorem Hd {p sl:Int} {es:List ak} {d2:ak} (g2:dj d2) {K K2 K3 ss s1 s2 s3:List ac} {k o vo tof N:Nat} {start n vi ev sv ll to tv:Int} {els:List ak} {s:kG} {ok ce c2 cl t1 t2:Bool} {op dst a b im:Int} {nm:List UInt8} {dx:ak} {xk:Int} {tn:List UInt8} {ix:Int} {dt:ak} {ck ci:Int} {cs:List UInt8} {T:ej}
  (f1:kb ba 146 [.win (.out 1) 2 0 (k+1)] none=some ⟨iv (ofNat (k+1)),.keep⟩) (f2:aF 0 (ofNat (k+1))=true)
  (f3:ap ba 146 [.win (.out 1) 2 0 (k+1),iv (an .i64 (ofNat (k+1) - 1))]=some ⟨.ptr (.out 1) o,.keep⟩)
  (f4:eB ba false 3 [.ptr (.out 1) o] (some (.cells K))=some ⟨iv vi,.keep⟩)
  (f5:ap ba 23 [.dat (.slice es),iv vi]=some ⟨.ref [i64 op,i64 dst,i64 a,i64 b,i64 im,sb nm,dx,i64 xk,sb tn,i64 ix,dt,i64 ck,i64 ci,sb cs,nl],.keep⟩)
  (f6:ae 58 [iv op] (.tup [.dat s.enc,bv ok]))
  (f7:eB ba false 3 [.ptr (.out 1) (o+1)] (some (.cells K))=some ⟨iv ev,.keep⟩) (f8:aB ev 0=ce)
  (f9:ap ba 22 [.win (.out 0) 1 0 N,iv vi]=some ⟨.ptr (.out 0) vo,.keep⟩)
  (f10:eB ba false 3 [.ptr (.out 0) vo] (some (.cells ss))=some ⟨iv sv,.keep⟩) (f11:aB sv 2=c2)
  (f12:cG ba 3 [.ptr (.out 0) vo,iv 2] (some (.cells ss))=some ⟨.undef,.set (.cells s2)⟩)
  (f13:fF ba 146 none (some (.tmp 73)) none [.win (.out 1) 2 0 (k+1),iv (an .i64 (ofNat (k+1) - 1))]=some ⟨.win (.out 1) 2 0 k,.keep⟩)
  (f14:fF ba 146 none (some (.tmp 103)) none [.win (.out 1) 2 0 (k+1),iv (an .i64 (ofNat (k+1) - 1))]=some ⟨.win (.out 1) 2 0 k,.keep⟩)
  (f15:cG ba 3 [.ptr (.out 0) vo,iv 1] (some (.cells ss))=some ⟨.undef,.set (.cells s1)⟩)
  (f16:ae 40 [.dat (aN p sl (.slice es) d2),iv vi] (.dat (.slice els)))
  (f17:kb ba 22 [.dat (.slice els)] none=some ⟨iv ll,.keep⟩) (f18:aB ev ll=cl)
  (f19:cG ba 3 [.ptr (.out 0) vo,iv 2] (some (.cells s1))=some ⟨.undef,.set (.cells s3)⟩)
  (f20:cl=false->ap ba 22 [.dat (.slice els),iv ev]=some ⟨.ref [iN to],.keep⟩)
  (f21:cG ba 3 [.ptr (.out 1) (o+1),iv (an .i64 (ev+1))] (some (.cells K))=some ⟨.undef,.set (.cells K2)⟩)
  (f22:cl=false->ap ba 22 [.win (.out 0) 1 0 N,iv to]=some ⟨.ptr (.out 0) tof,.keep⟩)
  (f23:cl=false->eB ba false 3 [.ptr (.out 0) tof] (some (.cells s1))=some ⟨iv tv,.keep⟩) (f24:aB tv 1=t1) (f25:aB tv 2=t2)
  (f26:cl=false->bB ba true 146 [.win (.out 1) 2 0 (k+1),.dat (.slice [.agg [iN to,iN 0]])] (some (.cells K2))=some ⟨.undef,.grow (.cells K3) 2 (k+2)⟩) (f27:cl=false->bh (.cells K3)=true)
  (n1:bh (.cells s1)=true) (n2:bh (.cells s2)=true) (n3:bh (.cells s3)=true) (n4:bh (.cells K2)=true)
  (e1:(ce&&(c2||s.call))=true->T .normal ((pM 1 (cC p sl (.slice es) d2) K s2 k start n N).al bc))
  (e2:(ce&&(c2||s.call))=false->cl=true->T .normal ((pM 1 (cC p sl (.slice es) d2) K s3 k start n N).al bc))
  (e3:(ce&&(c2||s.call))=false->cl=false->t1=true->T .ret ((Oi K2 s1).al bc))
  (e4:(ce&&(c2||s.call))=false->cl=false->t1=false->t2=true->T .normal ((Cq 1 (cC p sl (.slice es) d2) K2 s1 (k+1) start n N to).al bc))
  (e5:(ce&&(c2||s.call))=false->cl=false->t1=false->t2=false->T .normal ((pM 2 (cC p sl (.slice es) d2) K3 s1 (k+2) start n N).al bc)) :
  KD (roundOf Tryz.f68 1) T ((pM 1 (cC p sl (.slice es) d2) K ss (k+1) start n N).al bc):=by
 have q3:=@aO false 1 p sl (.slice es) _ (.inr ⟨_,rfl⟩) g2;clear g2;obtain⟨w,y1,y2,y3,y4,y5,y6,y7,y8,y9,y10,y11⟩:=s;refine aq [49,58,600069,600080,93,600099,600118,123,128,500133] [25,29,31,38,39,48,55,56,57,68,69,100069,72,74,79,80,100080,81,85,90,92,98,99,100099,102,104,109,110,115,100118,121,122,126,127,133] (H:=hFC) (live:=sQ) (oo f1 (oo f1 (oo f3 (oo f4 (oo f5 (on f6 (oo f7 (ob f8 ?_))))))))
 cases ce
 ·refine oo f4 (oo f9 (oo f15 (ob n1 (oo q3 (oo f4 (on f16 (oo f7 (oo f17 (ob f18 ?_)))))))))
  cases cl
  ·refine oo f7 (oo (f20 rfl) (oo f7 (oo f21 (ob n4 (oo (f22 rfl) (oo (f23 rfl) (ob f24 ?_)))))))
   cases t1
   ·refine oo (f22 rfl) (oo (f23 rfl) (ox f25 ?_))
    cases t2
    ·exact oo (f26 rfl) (ob (f27 rfl) (oe (e5 rfl rfl rfl rfl)))
    exact oe (e4 rfl rfl rfl rfl)
   exact oe (e3 rfl rfl rfl)
  exact oo f4 (oo f9 (oo f19 (ob n3 (oo f1 (oo f13 (oe (e2 rfl rfl)))))))
 refine oo f4 (oo f9 (oo f10 (ob f11 ?_)))
 cases c2
 ·cases y9
  ·refine oo f4 (oo f9 (oo f15 (ob n1 (oo q3 (oo f4 (on f16 (oo f7 (oo f17 (ob f18 ?_)))))))))
   cases cl
   ·refine oo f7 (oo (f20 rfl) (oo f7 (oo f21 (ob n4 (oo (f22 rfl) (oo (f23 rfl) (ob f24 ?_)))))))
    cases t1
    ·refine oo (f22 rfl) (oo (f23 rfl) (ox f25 ?_))
     cases t2
     ·exact oo (f26 rfl) (ob (f27 rfl) (oe (e5 rfl rfl rfl rfl)))
     exact oe (e4 rfl rfl rfl rfl)
    exact oe (e3 rfl rfl rfl)
   exact oo f4 (oo f9 (oo f19 (ob n3 (oo f1 (oo f13 (oe (e2 rfl rfl)))))))
  exact oo f4 (oo f9 (oo f12 (ob n2 (oo f1 (oo f13 (oe (e1 rfl)))))))
 exact oo f4 (oo f9 (oo f12 (ob n2 (oo f1 (oo f13 (oe (e1 rfl)))))))
theorem M7 {p sl:Int} {es:List ak} {d2:ak} (g2:dj d2) {K ss s1 s2 s3:List ac} {k o vo N:Nat} {start n vi sv:Int} {s:kG} {ok c2:Bool} {op dst a b im:Int} {nm:List UInt8} {dx:ak} {xk:Int} {tn:List UInt8} {ix:Int} {dt:ak} {ck ci:Int} {cs:List UInt8} {T:ej}
  (f1:kb ba 146 [.win (.out 1) 2 0 (k+1)] none=some ⟨iv (ofNat (k+1)),.keep⟩) (f2:aF 0 (ofNat (k+1))=true)
  (f3:ap ba 146 [.win (.out 1) 2 0 (k+1),iv (an .i64 (ofNat (k+1) - 1))]=some ⟨.ptr (.out 1) o,.keep⟩)
  (f4:eB ba false 3 [.ptr (.out 1) o] (some (.cells K))=some ⟨iv vi,.keep⟩)
  (f5:ap ba 23 [.dat (.slice es),iv vi]=some ⟨.ref [i64 op,i64 dst,i64 a,i64 b,i64 im,sb nm,dx,i64 xk,sb tn,i64 ix,dt,i64 ck,i64 ci,sb cs,nl],.keep⟩)
  (f6:ae 58 [iv op] (.tup [.dat s.enc,bv ok]))
  (f7:eB ba false 3 [.ptr (.out 1) (o+1)] (some (.cells K))=some ⟨iv 0,.keep⟩)
  (f9:ap ba 22 [.win (.out 0) 1 0 N,iv vi]=some ⟨.ptr (.out 0) vo,.keep⟩)
  (f10:eB ba false 3 [.ptr (.out 0) vo] (some (.cells ss))=some ⟨iv sv,.keep⟩) (f11:aB sv 2=c2)
  (f12:cG ba 3 [.ptr (.out 0) vo,iv 2] (some (.cells ss))=some ⟨.undef,.set (.cells s2)⟩)
  (f13:fF ba 146 none (some (.tmp 73)) none [.win (.out 1) 2 0 (k+1),iv (an .i64 (ofNat (k+1) - 1))]=some ⟨.win (.out 1) 2 0 k,.keep⟩)
  (f14:fF ba 146 none (some (.tmp 103)) none [.win (.out 1) 2 0 (k+1),iv (an .i64 (ofNat (k+1) - 1))]=some ⟨.win (.out 1) 2 0 k,.keep⟩)
  (f15:cG ba 3 [.ptr (.out 0) vo,iv 1] (some (.cells ss))=some ⟨.undef,.set (.cells s1)⟩)
  (f16:ae 40 [.dat (aN p sl (.slice es) d2),iv vi] (.dat nl))
  (f19:cG ba 3 [.ptr (.out 0) vo,iv 2] (some (.cells s1))=some ⟨.undef,.set (.cells s3)⟩)
  (n1:bh (.cells s1)=true) (n2:bh (.cells s2)=true) (n3:bh (.cells s3)=true) 
  (e1:(c2||s.call)=true->T .normal ((pM 1 (cC p sl (.slice es) d2) K s2 k start n N).al bc))
  (e2:(c2||s.call)=false->T .normal ((pM 1 (cC p sl (.slice es) d2) K s3 k start n N).al bc)) :
  KD (roundOf Tryz.f68 1) T ((pM 1 (cC p sl (.slice es) d2) K ss (k+1) start n N).al bc):=by
 have q3:=@aO false 1 p sl (.slice es) _ (.inr ⟨_,rfl⟩) g2;clear g2;obtain⟨w,y1,y2,y3,y4,y5,y6,y7,y8,y9,y10,y11⟩:=s;refine aq [58,600069,600080,600099] [25,29,31,38,39,48,55,56,57,68,69,100069,72,74,79,80,100080,81,85,90,98,99,100099,102,104] (H:=hFC) (live:=sQ) (oo f1 (oo f1 (oo f3 (oo f4 (oo f5 (on f6 (oo f7 (oo f4 (oo f9 (oo f10 (ob f11 ?_)))))))))))
 cases c2
 ·cases y9
  ·exact oo f4 (oo f9 (oo f15 (ob n1 (oo q3 (oo f4 (on f16 (oo f7 (oo f4 (oo f9 (oo f19 (ob n3 (oo f1 (oo f13 (oe (e2 rfl)))))))))))))))
  exact oo f4 (oo f9 (oo f12 (ob n2 (oo f1 (oo f13 (oe (e1 rfl)))))))
 exact oo f4 (oo f9 (oo f12 (ob n2 (oo f1 (oo f13 (oe (e1 rfl)))))))
noncomputable def VZ:Hints:=⟨bV,Gd,bi,rowsOf bi 61⟩
theorem sS {es:List ak} {x y:Int} {i:Nat} {c1 c2:Bool} (h1:aF (ofNat i) (ofNat es.length)=c1) (h2:c1=true->ap ba 22 [.dat (.slice es),.dat (.flat (.int .i64 (ofNat i)))]=some ⟨.ref [iN y],.keep⟩) (h3:aF y x=c2) {T:ej}
  (e1:(c1&&c2)=true->T .normal ((Sp es x (an .i64 (ofNat i+1))).al nk)) (e2:(c1&&c2)=false->T (.exit 0) ((Md es x (ofNat i)).al nk)) :
  KD (roundOf Tryz.f61 0) T ((Sp es x (ofNat i)).al nk):=by
 refine aq [9,16] [13] (H:=VZ) (live:=Az) (ob h1 ?_)
 cases c1
 ·exact oe (e2 rfl)
 refine oo (h2 rfl) (ob h3 ?_)
 cases c2
 ·exact oe (e2 rfl)
 exact oe (e1 rfl)
theorem GG {x:Int} {T:ej} (e2:T (.exit 0) ((Kq x (ofNat 0)).al nk)) :
  KD (roundOf Tryz.f61 0) T ((Mc x (ofNat 0)).al nk):=by
 refine aq [] [] (H:=VZ) (live:=Az) ?_;exact oe e2
theorem GH {x:Int} (a2:bB ba false 22 [.own [],.dat (.slice [iN x])] none=some ⟨.own [iN x],.keep⟩):ae 61 [.dat nl,iv x] (.own [iN x]):=by
 have hl:KD (.loop (roundOf Tryz.f61 0)) (fun e s=>e=.exit 0/\s=(Kq x (ofNat 0)).al nk) ((Mc x (ofNat 0)).al nk):=
  bm (St:=fun _=>(Mc x (ofNat 0)).al nk) 0 (fun i hi=>absurd hi (Nat.not_lt_zero i)) (GG ⟨rfl,rfl⟩) (i:=0) (Nat.le_refl _)
 refine co [] [40,44] (x:=.of Tryz.f61 Gd Az) ?_;refine lo hl ?_;rintro ex s ⟨rfl,rfl⟩;refine⟨_,rfl,?_⟩;exact oo a2 (oo a2 fi)
theorem GI {e0:ak} {es p q:List ak} {x y:Int} {i:Nat} {c1 c2:Bool} (h1:aF (ofNat i) (ofNat (e0::es).length)=c1) (h2:c1=true->ap ba 22 [.dat (.slice (e0::es)),.dat (.flat (.int .i64 (ofNat i)))]=some ⟨.ref [iN y],.keep⟩) (h3:aB y x=c2)
  (hl:KD (.loop (roundOf Tryz.f61 0)) (fun e s=>e=.exit 0/\s=(Md (e0::es) x (ofNat i)).al nk) ((Sp (e0::es) x (ofNat 0)).al nk))
  (s1:fF ba 22 none (some (.tmp 35)) none [.dat (.slice (e0::es)),iv (ofNat i)]=some ⟨.dat (.slice p),.keep⟩)
  (s2:fF ba 22 (some (.tmp 42)) none none [.dat (.slice (e0::es)),iv (ofNat i)]=some ⟨.dat (.slice q),.keep⟩)
  (a1:bB ba false 22 [.own [],.dat (.slice p)] none=some ⟨.own p,.keep⟩)
  (a2:bB ba false 22 [.own p,.dat (.slice [iN x])] none=some ⟨.own (p++[iN x]),.keep⟩)
  (a3:bB ba false 22 [.own (p++[iN x]),.dat (.slice q)] none=some ⟨.own (p++[iN x]++q),.keep⟩) :
  ae 61 [.dat (.slice (e0::es)),iv x] (match c1&&c2 with|true=>.dat (.slice (e0::es))|false=>.own (p++[iN x]++q)):=by
 refine co [23,30] [27,36,43,37,40,44] (x:=.of Tryz.f61 Gd Az) ?_;refine lo hl ?_;rintro ex s ⟨rfl,rfl⟩;refine⟨_,rfl,?_⟩;refine ob h1 ?_
 cases c1
 ·exact oo s1 (oo s2 (oo a1 (oo a2 (oo a3 fi))))
 refine oo (h2 rfl) (ob h3 ?_)
 cases c2
 ·exact oo s1 (oo s2 (oo a1 (oo a2 (oo a3 fi))))
 exact fi
theorem Xy {l:List Int} {x:Int} (hn:l.length < 100000000):ae 61 [.dat (sl (l.map iN)),iv x] (.dat (sl ((Eu l x).map iN))):=by
 cases l with
 | nil=>exact ko (GH (fE (a:=[]) (b:=[x]) (by simp)))
 | cons y0 r=>
  obtain⟨l,hl⟩:∃l,l=y0::r:=⟨_,rfl⟩;have hnl:(l.map iN)=iN y0::r.map iN:=by rw[hl];rfl
  have hne:sl (l.map iN)=.slice (l.map iN):=by rw[hnl];rfl
  rw[←hl] at hn ⊢;have hle:=QP (l:=l) (x:=x);have hloop:KD (.loop (roundOf Tryz.f61 0)) (fun e s=>e=.exit 0/\s=(Md (l.map iN) x (ofNat (kW l x))).al nk) ((Sp (l.map iN) x (ofNat 0)).al nk):=by
   refine bm (St:=fun i=>(Sp (l.map iN) x (ofNat i)).al nk) (kW l x) ?_ ?_ (i:=0) (Nat.zero_le _)
   ·intro i hi;have hil:i < l.length:=by omega
    have hg:l[i]?=some l[i]:=List.getElem?_eq_getElem hil;refine @sS _ _ (l[i]) _ true true (br (by simpa using hil)) (fun _=>wb hg) (QO hi hg) _ (fun _=>?_) (fun h=>by simp at h);rw[bb (by omega)];rfl
   cases hg:l[kW l x]? with
   | none=>
    have:l.length<=kW l x:=by simpa using hg
    exact @sS _ _ 0 _ false (aF 0 x) (cj (by simp;omega)) (fun h=>by simp at h) rfl _ (fun h=>by simp at h) (fun _=>⟨rfl,rfl⟩)
   | some y=>
    have hil:=(List.getElem?_eq_some_iff.1 hg).1;exact @sS _ _ y _ true false (br (by simpa using hil)) (fun _=>wb hg) (QQ hg) _ (fun h=>by simp at h) (fun _=>⟨rfl,rfl⟩)
  have s1:=FB (l:=l) hle (.tmp 35);have s2:=zl (l:=l) hle (.tmp 42);have a1:=fE (a:=[]) (b:=l.take (kW l x)) (by simp;omega);have a2:=fE (a:=l.take (kW l x)) (b:=[x]) (by simp;omega);have a3:=fE (a:=l.take (kW l x)++[x]) (b:=l.drop (kW l x)) (by simp;omega);rw[List.map_append] at a3;have hins:sl ((fw l (kW l x) x).map iN)=.slice ((l.take (kW l x)).map iN++[x].map iN++(l.drop (kW l x)).map iN):=by
   have:(fw l (kW l x) x).map iN=(l.take (kW l x)).map iN++[x].map iN++(l.drop (kW l x)).map iN:=by simp[fw]
   rw[←this]
   cases h:(fw l (kW l x) x).map iN with
   | nil=>simp[fw] at h
   | cons _ _=>rfl
  rw[hnl] at s1 s2 hloop hne;rw[hnl,hne];unfold Eu
  cases hg:l[kW l x]? with
  | none=>
   have:l.length<=kW l x:=by simpa using hg
   have h:=@GI _ _ _ _ _ 0 _ false (aB 0 x) (cj (by rw[←hnl];simp;omega)) (fun h=>by simp at h) rfl hloop s1 s2 a1 a2 a3;dsimp only;rw[hins];exact ko h
  | some y=>
   have hil:=(List.getElem?_eq_some_iff.1 hg).1;have h:=@GI _ _ _ _ _ y _ true (aB y x) (br (by rw[←hnl];simpa using hil)) (fun _=>by rw[←hnl];exact wb hg) rfl hloop s1 s2 a1 a2 a3;dsimp only;generalize aB y x=c at h
   cases c
   ·dsimp only;rw[hins];exact ko h
   dsimp only;rw[hnl];exact h
def csD (c12 c16 c19 c13 cl:Bool) (im j:Int) (l2:List ak):ak:=
 if c12=true then .slice [iN im] else if (c16||c19)=true then nl else if c13=true then (if cl=true then .slice l2 else .slice [iN im]) else if cl=true then .slice [iN j] else nl
theorem ZD {p s:Int} {es:List ak} {d2:ak} {i:Int} (g2:dj d2) {op dst a b im:Int} {nm:List UInt8} {dx:ak} {k:Int} {tn:List UInt8} {ix:Int} {dt:ak} {ck ci:Int} {cs:List UInt8} (g3:dj dx) (g4:dj dt)
  (h0:aF i 0=false) (h1:aF i (ofNat es.length)=true)
  (hi:ap ba 23 [.dat (.slice es),.dat (.flat (.int .i64 i))]=some ⟨.ref [i64 op,i64 dst,i64 a,i64 b,i64 im,sb nm,dx,i64 k,sb tn,i64 ix,dt,i64 ck,i64 ci,sb cs,nl],.keep⟩)
  {c12 c16 c19 c13 cl:Bool} (e12:aB op 12=c12) (e16:aB op 16=c16) (e19:aB op 19=c19) (e13:aB op 13=c13) (hl:aF (an .i64 (i+1)) (ofNat es.length)=cl) {l2:List ak}
  (k1:ae 61 [.dat nl,iv im] (.dat (.slice [iN im]))) (k2:ae 61 [.dat nl,iv (an .i64 (i+1))] (.dat (.slice [iN (an .i64 (i+1))]))) (k3:ae 61 [.dat (.slice [iN im]),iv (an .i64 (i+1))] (.dat (.slice l2))) :
  ae 29 [.dat (aN p s (.slice es) d2),iv i] (match c12 with|true=>.own [iN im]|false=>.dat (csD c12 c16 c19 c13 cl im (an .i64 (i+1)) l2)):=by
 have q1:=@aS p s (.slice es) _ (.inr ⟨_,rfl⟩) g2;have q2:=@yv false op dst a b im nm _ k tn ix _ ck ci cs g3 g4;have q3:=@Ic 6 op dst a b im nm _ k tn ix _ ck ci cs g3 g4;clear g2 g3 g4;refine co [8,14,24,29,30,32,42] [2,19,20,100006] (x:=.of Tryz.f29 PC QD) ?_;refine oo q1 (ob h0 (ox h1 (oo hi (oo q2 (oo q3 (ob e12 ?_))))))
 cases c12
 ·refine ob e16 ?_
  cases c16
  ·refine ob e19 ?_
   cases c19
   ·refine ob e13 ?_
    cases c13
    ·refine ob hl ?_
     cases cl
     ·exact fi
     exact on k2 fi
    refine on k1 (ob hl ?_)
    cases cl
    ·exact fi
    exact on k3 fi
   exact fi
  exact fi
 exact fi
theorem Ks {op:Int} (h1:op≠12) (h2:op≠16) (h3:op≠19):(lU (eO op)).fin=false:=by
 cases hq:eO op with
 | none=>rfl
 | some s=>
  obtain⟨n,rfl,h4,h5,h6⟩:=pT hq;have hc:n=1∨n=2∨n=3∨n=4∨n=5∨n=6∨n=7∨n=8∨n=9∨n=10∨n=11∨n=12∨n=13∨n=14∨n=15∨n=16∨n=17∨n=18∨n=19∨n=20∨n=21∨n=22:=by omega
  rcases hc with rfl|rfl|rfl|rfl|rfl|rfl|rfl|rfl|rfl|rfl|rfl|rfl|rfl|rfl|rfl|rfl|rfl|rfl|rfl|rfl|rfl|rfl <;> first
   |(cases h6;rfl)
   |exact absurd rfl h1
   |exact absurd rfl h2
   |exact absurd rfl h3
theorem FD {op:Int} (h1:op≠13):(lU (eO op)).cond=false:=by
 cases hq:eO op with
 | none=>rfl
 | some s=>
  obtain⟨n,rfl,h4,h5,h6⟩:=pT hq;have hc:n=1∨n=2∨n=3∨n=4∨n=5∨n=6∨n=7∨n=8∨n=9∨n=10∨n=11∨n=12∨n=13∨n=14∨n=15∨n=16∨n=17∨n=18∨n=19∨n=20∨n=21∨n=22:=by omega
  rcases hc with rfl|rfl|rfl|rfl|rfl|rfl|rfl|rfl|rfl|rfl|rfl|rfl|rfl|rfl|rfl|rfl|rfl|rfl|rfl|rfl|rfl|rfl <;> first
   |(cases h6;rfl)
   |exact absurd rfl h1
theorem QU (a x:Int):Eu [a] x=rF x a:=by
 unfold Eu rF
 by_cases h:a < x
 ·rw[if_pos h];have e:kW [a] x=1:=by simp[kW,dA,h]
  rw[e];rfl
 rw[if_neg h];have e:kW [a] x=0:=by simp[kW,dA,h]
 rw[e];show (match aB a x with|true=>[a]|false=>fw [a] 0 x)=_
 by_cases h2:x=a
 ·subst h2;rw[eu,if_pos rfl]
 rw[if_neg h2]
 have:aB a x=false:=by rw[cN];simpa using fun e=>h2 e.symm
 rw[this];rfl
theorem Xx {p s:Int} {ins:List Ins} {d2:ak} {i:Nat} {x:Ins} (g2:dj d2) (hx:ins[i]?=some x) (hn:ins.length < 1000000000) :
  ae 29 [.dat (aN p s (.slice (encI ins)) d2),iv (ofNat i)] (.dat (sl ((lR ins.length x.op x.im i).map iN))):=by
 have hi:=xn hx;obtain⟨op,dst,a,b,im,nm,az,ar,⟨k,tn,ix,la⟩,ck,ci,cs⟩:=x;have hil:i < ins.length:=(List.getElem?_eq_some_iff.1 hx).1;have hw:an .i64 (ofNat i+1)=ofNat (i+1):=bb (by omega);have hlt:aF (an .i64 (ofNat i+1)) (ofNat (encI ins).length)=decide (i+1 < ins.length):=by
  rw[hw,bH,gv]
 have k1:=fun y=>ko (GH (x:=y) (fE (a:=[]) (b:=[y]) (by simp)))
 have k3:ae 61 [.dat (.slice [iN im]),iv (an .i64 (ofNat i+1))] (.dat (.slice ((rF (ofNat (i+1)) im).map iN))):=by
  have h:=Xy (l:=[im]) (x:=an .i64 (ofNat i+1)) (by simp);rw[QU,hw] at h
  have:=DM (ofNat (i+1)) im
  rw[hw];generalize rF (ofNat (i+1)) im=l at *
  cases l with
  | nil=>exact absurd rfl this
  | cons a r=>exact h
 have h:=ZD (p:=p) (s:=s) (es:=encI ins) (i:=ofNat i) g2 (dq az (ar.map iN)) (dr (ax la)) (by rw[dA];simp) (by rw[bH,gv,decide_eq_true hil]) hi (op:=op) rfl rfl rfl rfl hlt (k1 im) (k1 _) k3;rw[hw] at h;show ae 29 _ (.dat (sl ((lR ins.length op im i).map iN)))
 by_cases h12:op=12
 ·subst h12;exact ko h
 rw[dL h12] at h;refine Eq.mp (congrArg (fun d=>ae 29 _ (.dat d)) ?_) h
 by_cases h16:op=16
 ·subst h16;rfl
 by_cases h19:op=19
 ·subst h19;rfl
 rw[dL h16,dL h19];unfold lR csD;rw[Ks h12 h16 h19,dL h12]
 by_cases h13:op=13
 ·subst h13;have e1:(lU (eO 13)).cond=true:=rfl;have e2:aB 13 13=true:=rfl;rw[e1,e2]
  cases decide (i+1 < ins.length) with
  | true=>
   simp only[Bool.false_eq_true,if_false,Bool.or_self,if_true,Bool.not_false,Bool.true_and,Bool.or_false]
   have:=DM (ofNat (i+1)) im
   generalize rF (ofNat (i+1)) im=l at *
   cases l with
   | nil=>exact absurd rfl this
   | cons a r=>rfl
  | false=>rfl
 rw[FD h13,dL h13]
 cases decide (i+1 < ins.length) <;> rfl
def na (ins:List Ins) (i:Nat):List Nat:=((match ins[i]? with|some x=>lR ins.length x.op x.im i|none=>[]).map Int.toNat).filter (fun j=>decide (j < ins.length))
def Bi (ins:List Ins) (i:Nat):Bool:=match ins[i]? with|some x=>(lU (eO x.op)).call|none=>false
def eh (ins:List Ins):Gr:=⟨ins.length,na ins,Bi ins,fun i _ j hj=>by
 unfold na at hj
 have:=(List.mem_filter.1 hj).2
 simpa using this⟩
def tR (ins:List Ins):Prop:=∀(i:Nat) (x:Ins),ins[i]?=some x->∀j∈lR ins.length x.op x.im i,0<=j/\j < ofNat ins.length
theorem Fj {ins:List Ins} (h:tR ins) {i:Nat} {x:Ins} (hx:ins[i]?=some x):(na ins i).map ofNat=lR ins.length x.op x.im i:=by
 have h1:=h i x hx;unfold na;rw[hx];dsimp only;generalize lR ins.length x.op x.im i=l at h1
 induction l with
 | nil=>rfl
 | cons a r ih=>
  have ha:=h1 a List.mem_cons_self;have ih:=ih (fun j hj=>h1 j (List.mem_cons_of_mem _ hj));have hl:a.toNat < ins.length:=by have:=ha.2;simp only[Int.ofNat_eq_natCast] at this;omega
  rw[List.map_cons,List.filter_cons,if_pos (by simpa using hl),List.map_cons,ih]
  have:ofNat a.toNat=a:=Int.toNat_of_nonneg ha.1
  rw[this]
theorem Ma (n:Nat) (op im:Int) (i:Nat):(lR n op im i).length<=2:=by
 unfold lR
 split
 ·unfold rF;split
  ·simp
  split <;> simp
 ·simp
 ·simp
 simp
theorem vm (ins:List Ins) (i:Nat):(na ins i).length<=2:=by
 unfold na;refine Nat.le_trans (List.length_filter_le _ _) ?_;rw[List.length_map]
 split
 ·exact Ma _ _ _ _
 simp
theorem Gk {ne sl:Int} {ins:List Ins} (h:ins.all (fun x=>iJ (ofNat ins.length) ne sl x)=true):tR ins:=by
 intro i x hx j hj;have hm:x∈ins:=List.mem_of_getElem? hx;have hi:=(List.getElem?_eq_some_iff.1 hx).1;have hv:=List.all_eq_true.1 h x hm;have him:(x.op=12∨x.op=13)->0<=x.im/\x.im < ofNat ins.length:=by
  intro ho;unfold iJ at hv
  split at hv
  ·simp at hv
  simp only[Bool.and_eq_true] at hv;have h2:=hv.2.1;unfold GL at h2
  have:(aB x.op 12||aB x.op 13)=true:=by
   rcases ho with h|h <;> rw[h] <;> rfl
  rw[if_pos this] at h2;simp only[Bool.and_eq_true,Bool.not_eq_true',dA,decide_eq_false_iff_not,decide_eq_true_eq] at h2;omega
 have hc:(lU (eO x.op)).cond=true∨aB x.op 12=true->x.op=12∨x.op=13:=by
  rintro (h|h)
  ·by_cases h13:x.op=13
   ·exact .inr h13
   exfalso
   rw[FD h13] at h;simp at h
  rw[cN] at h;exact .inl (by simpa using h)
 have hsm:∀{a b j:Int},j∈rF a b->j=a∨j=b:=by
  intro a b j h;unfold rF at h
  split at h
  ·simp at h;rcases h with h|h
   ·exact .inr h
   exact .inl h
  split at h
  ·simp at h;exact .inl h
  simp at h;exact h
 unfold lR at hj
 split at hj
 ·rename_i h1 h2;simp only[Bool.and_eq_true,decide_eq_true_eq] at h1;simp only[Bool.or_eq_true] at h2;have h3:=him (hc h2)
  rcases hsm hj with h|h
  ·subst h;simp only[Int.ofNat_eq_natCast];omega
  subst h;exact h3
 ·rename_i h1 h2;simp only[Bool.and_eq_true,decide_eq_true_eq] at h1;simp at hj;subst hj;simp only[Int.ofNat_eq_natCast];omega
 ·rename_i h1 h2;simp only[Bool.or_eq_true] at h2;simp at hj;subst hj;exact him (hc h2)
 simp at hj
open Classical in
noncomputable def lO (ins:List Ins):Bool:=decide (eh ins).yN
theorem yM {ins:List Ins} (h:(eh ins).yN):lO ins=true:=by unfold lO;simpa using h
theorem E8 {ins:List Ins} (h:(eh ins).cover):lO ins=false:=by unfold lO;simpa using Gr.JW h
theorem xr (ins:List Ins) (st:List Nat):∀k,fresh (eh ins) st k<=8*k
 | 0=>Nat.le_refl _
 | k+1=>by
  have ih:=xr ins st k;have h:((eh ins).succ k).length<=2:=vm ins k;simp only[fresh]
  split <;> omega
theorem Ia (G:Gr) (st:List Nat) (stk:List (Nat×Nat)):stk.length<=rI G st stk:=by
 unfold rI
 have:stk.length<=(stk.map (fun x=>LZ x.2 (G.succ x.1).length)).sum:=by
  induction stk with
  | nil=>simp
  | cons a r ih=>
   simp only[List.map_cons,List.sum_cons,List.length_cons]
   have:1<=LZ a.2 (G.succ a.1).length:=by unfold LZ;split <;> omega
   omega
 omega
theorem Jh (ins:List Ins) (st:List Nat) (i:Nat):rI (eh ins) st [(i,0)]<=8*ins.length+1:=by
 have:=xr ins st ins.length
 show fresh (eh ins) st ins.length+_<=_;simp only[List.map_cons,List.map_nil,List.sum_cons,List.sum_nil,LZ,if_true];omega
noncomputable def NT:TI:=match Go.Tp.elemOf ba 146 with|some t=>t|none=>default
theorem Wy:Go.Tp.elemOf ba 146=some NT:=by kernel_rfl
theorem yO:NT.size=2:=by kernel_rfl
theorem XW {m:Name} {n:Nat} (h:n < 1000000000):kb ba 146 [.win m 2 0 n] none=some ⟨iv (ofNat n),.keep⟩:=by
 have e:kb ba 146 [.win m 2 0 n] none=if Nat.ble n lim=true then some ⟨iv (ofNat n),.keep⟩ else none:=by kernel_rfl
 rw[e,if_pos];rw[Nat.ble_eq];simp only[lim];omega
theorem ab6 {m:Name} {n k:Nat} (h:k < n):ap ba 146 [.win m 2 0 n,iv (ofNat k)]=some ⟨.ptr m (k*2),.keep⟩:=by
 have:=Go.Tp.uA (m:=m) (off:=0) (s:=2) Wy yO.symm h
 rw[Nat.zero_add] at this;exact this
theorem Vw {m:Name} {k:Nat} (x:Operand):fF ba 146 none (some x) none [.win m 2 0 (k+1),iv (ofNat k)]=some ⟨.win m 2 0 k,.keep⟩:=by
 have e:fF ba 146 none (some x) none [.win m 2 0 (k+1),iv (ofNat k)]=if (Nat.ble 0 k&&Nat.ble k (k+1)&&Nat.beq 2 NT.size)=true then some ⟨.win m 2 0 k,.keep⟩ else none:=by kernel_rfl
 have h1:Nat.ble k (k+1)=true:=by rw[Nat.ble_eq];omega
 rw[e,h1,yO];simp
theorem Ch:∀(l:List Int) (k:Nat),fb k (cH l)=cH (l.take k)
 | l,0=>by simp[fb,cH]
 | [],k+1=>by simp[fb,cH]
 | a::r,k+1=>by
  have:=Ch r k
  simp only[cH,List.map_cons,fb,List.take_succ_cons] at this ⊢;rw[this]
theorem ad1 {m:Name} {l:List Int} {k:Nat} (x:Int) (h1:k < 100000000) (h2:2*k<=l.length) :
  bB ba true 146 [.win m 2 0 k,.dat (.slice [.agg [iN x,iN 0]])] (some (.cells (cH l)))=some ⟨.undef,.grow (.cells (cH (l.take (2*k)++[x,0]))) 2 (k+1)⟩:=by
 have e:bB ba true 146 [.win m 2 0 k,.dat (.slice [.agg [iN x,iN 0]])] (some (.cells (cH l))) =
   if (Nat.ble ((k+1)*NT.bytes) 140737488355328&&Nat.ble (k+1) lim&&Nat.ble (k*NT.size) (cH l).length&&!cd (fb (k*NT.size) (cH l)++[iv x,iv 0]))=true
   then some ⟨.undef,.grow (.cells (fb (k*NT.size) (cH l)++[iv x,iv 0])) NT.size (k+1)⟩ else none:=by kernel_rfl
 have e2:fb (k*2) (cH l)++[iv x,iv 0]=cH (l.take (2*k)++[x,0]):=by
  rw[Ch,Nat.mul_comm];simp[cH]
 rw[e,yO,e2,wE];have hb:NT.bytes<=1000:=fD (by kernel_rfl);have h3:Nat.ble ((k+1)*NT.bytes) 140737488355328=true:=by
  rw[Nat.ble_eq]
  calc (k+1)*NT.bytes<=100000000*1000:=Nat.mul_le_mul (by omega) hb
   _<=140737488355328:=by decide
 have h4:Nat.ble (k+1) lim=true:=by rw[Nat.ble_eq];simp only[lim];omega
 have h5:Nat.ble (k*2) (cH l).length=true:=by rw[Nat.ble_eq,show (cH l).length=l.length from List.length_map _];omega
 rw[h3,h4,h5];rfl
theorem AZ (a b:Nat):aB (ofNat a) (ofNat b)=decide (a=b):=by
 rw[cN]
 by_cases h:a=b
 ·subst h;simp
 rw[decide_eq_false h,beq_eq_false_iff_ne];intro e;exact h (Int.ofNat.inj e)
theorem Ib {st:List Nat} {i:Nat} (m:Name) (v:Nat) (h:i < st.length):cG ba 3 [.ptr m i,iv (ofNat v)] (some (.cells (cH (st.map ofNat))))=some ⟨.undef,.set (.cells (cH ((st.set i v).map ofNat)))⟩:=by
 rw[List.map_set];exact N5 m _ (by simpa using h)
theorem R9 {st:List Nat} {i:Nat} (h:i < st.length):(st.map ofNat)[i]?=some (ofNat (gg st i)):=by
 rw[List.getElem?_map,List.getElem?_eq_getElem h];unfold gg;rw[List.getD_eq_getElem?_getD,List.getElem?_eq_getElem h];rfl
def tw (stk:List (Nat×Nat)):List Int:=stk.reverse.flatMap (fun x=>[ofNat x.1,ofNat x.2])
theorem nb (i e:Nat) (r:List (Nat×Nat)):tw ((i,e)::r)=tw r++[ofNat i,ofNat e]:=by simp[tw]
theorem lS:∀stk:List (Nat×Nat),(tw stk).length=2*stk.length
 | []=>rfl
 |(i,e)::r=>by rw[nb,List.length_append,lS r];simp;omega
theorem Kj {ks:List Int} {i e:Nat} {r:List (Nat×Nat)} (h:ks.take (2*(r.length+1))=tw ((i,e)::r)):ks[r.length*2]?=some (ofNat i)/\ks[r.length*2+1]?=some (ofNat e)/\ks.take (2*r.length)=tw r/\2*(r.length+1)<=ks.length:=by
 rw[nb] at h;have hl:=lS r;have hlen:2*(r.length+1)<=ks.length:=by
  have:=congrArg List.length h
  rw[List.length_take,List.length_append,hl] at this;simp only[List.length_cons,List.length_nil] at this;omega
 have h1:∀j,j < 2*(r.length+1)->ks[j]?=(tw r++[ofNat i,ofNat e])[j]?:=by
  intro j hj;rw[←h,List.getElem?_take,if_pos hj]
 refine⟨?_,?_,?_,hlen⟩
 ·rw[h1 _ (by omega),List.getElem?_append_right (by omega),hl,show r.length*2 - 2*r.length=0 by omega];rfl
 ·rw[h1 _ (by omega),List.getElem?_append_right (by omega),hl,show r.length*2+1 - 2*r.length=1 by omega];rfl
 have:=congrArg (List.take (2*r.length)) h
 rw[List.take_take,show min (2*r.length) (2*(r.length+1))=2*r.length by omega] at this;rw[this,←hl,List.take_left]
theorem SO {ks:List Int} {i e:Nat} {r:List (Nat×Nat)} (h:ks.take (2*(r.length+1))=tw ((i,e)::r)):(ks.set (r.length*2+1) (ofNat (e+1))).take (2*(r.length+1))=tw ((i,e+1)::r):=by
 have hl:=lS r;rw[List.take_set,h,nb,nb,List.set_append_right _ _ (by omega),hl,show r.length*2+1 - 2*r.length=1 by omega];rfl
noncomputable abbrev NE (p sl:Int) (ins:List Ins) (d2:ak) (m:Nat) (ks:List Int) (st:List Nat) (len:Nat) (start:Nat):aa:=(pM m (cC p sl (.slice (encI ins)) d2) (cH ks) (cH (st.map ofNat)) len (ofNat start) (ofNat ins.length) ins.length).al bc
theorem MY {c1:List ac} {p sl:Int} {d1 d2:ak} (hc:c1=cC p sl d1 d2) {K ss:List ac} {len N:Nat} {start n to:Int}:gF cM ((Cq 1 c1 K ss len start n N to).al bc) ((pM 1 c1 K ss len start n N).al bc):=by
 have h:=me (G:=cM) (n:=bc) (Cq 1 c1 K ss len start n N to) (2 ^ 18+2 ^ 17+2 ^ 5+2 ^ 3+2 ^ 1);have e:((iL (Cq 1 c1 K ss len start n N to) (fun l=>eE l (2 ^ 18+2 ^ 17+2 ^ 5+2 ^ 3+2 ^ 1))).al bc)=((pM 1 c1 K ss len start n N).al bc):=by kernel_rfl
 rw[e] at h;exact h
theorem UJ {p sl:Int} {ins:List Ins} {d2:ak} (g2:dj d2) (hv:tR ins) (hn:ins.length < 1000000) {st:List Nat} {i e start:Nat} {r:List (Nat×Nat)} {ks:List Int} (hI:(eh ins).Inv st ((i,e)::r)) (hk:ks.take (2*(r.length+1))=tw ((i,e)::r)) (hb:r.length+1 < 10000000) {Q:Exit->aa->Prop}
  (q1:(gg st i=2∨(eh ins).call i=true∨e=((eh ins).succ i).length)->Q .normal (NE p sl ins d2 1 ks (st.set i 2) r.length start))
  (q2:∀j,((eh ins).succ i)[e]?=some j->gg (st.set i 1) j=1->(e=0->gg st i≠2)->(e=0->(eh ins).call i=false)->∀ks2,Q .ret ((Oi (cH ks2) (cH ((st.set i 1).map ofNat))).al bc))
  (q3:∀j ks2,((eh ins).succ i)[e]?=some j->gg (st.set i 1) j=2->(e=0->gg st i≠2)->(e=0->(eh ins).call i=false)->ks2.take (2*(r.length+1))=tw ((i,e+1)::r)->Q .normal (NE p sl ins d2 1 ks2 (st.set i 1) (r.length+1) start))
  (q4:∀j ks3,((eh ins).succ i)[e]?=some j->gg (st.set i 1) j≠1->gg (st.set i 1) j≠2->(e=0->gg st i≠2)->(e=0->(eh ins).call i=false)->ks3.take (2*(r.length+2))=tw ((j,0)::(i,e+1)::r)->Q .normal (NE p sl ins d2 2 ks3 (st.set i 1) (r.length+2) start)) :
  KD (roundOf Tryz.f68 1) Q (NE p sl ins d2 1 ks st (r.length+1) start):=by
 obtain⟨k1,k2,k3,k4⟩:=Kj hk;obtain⟨t1,t2,t3,t4,t5,t6⟩:=hI.top;have t1':i < ins.length:=t1;have hst:st.length=ins.length:=hI.len;have hx:ins[i]?=some ins[i]:=List.getElem?_eq_getElem t1';generalize ins[i]=x at hx;have hcall:(eh ins).call i=(lU (eO x.op)).call:=by show Bi ins i=_;unfold Bi;rw[hx]
 have hsucc:=Fj hv hx;have hsl:((eh ins).succ i).length=(lR ins.length x.op x.im i).length:=by rw[←hsucc,List.length_map];rfl
 have hw:an .i64 (ofNat (r.length+1) - 1)=ofNat r.length:=by
  rw[cQ,show ofNat (r.length+1) - 1=ofNat r.length by simp];exact wrap_i64 (by show _<=(r.length:Int);omega) (by show (r.length:Int)<=_;omega)
 have f1:=XW (m:=.out 1) (n:=r.length+1) (by omega);have f2:aF 0 (ofNat (r.length+1))=true:=br (i:=0) (L:=r.length+1) (by omega);have f3:=@ab6 (.out 1) (r.length+1) r.length (by omega);rw[←hw] at f3;have f4:=Er (.out 1) k1;have f5:=xn hx;have f6:=uT x.op;have f7:=Er (.out 1) k2;have f9:=GB (m:=.out 0) (n:=ins.length) t1';have f10:=Er (.out 0) (R9 (st:=st) (i:=i) (by omega));have f12:=Ib (st:=st) (i:=i) (.out 0) 2 (by omega);have f15:=Ib (st:=st) (i:=i) (.out 0) 1 (by omega);have f19:=Ib (st:=st.set i 1) (i:=i) (.out 0) 2 (by rw[List.length_set];omega);rw[List.set_set] at f19;have f13:=Vw (m:=.out 1) (k:=r.length) (.tmp 73);have f14:=Vw (m:=.out 1) (k:=r.length) (.tmp 103);rw[←hw] at f13 f14;have f16:=ZR (p:=p) (sl:=sl) g2 hx (by omega);have hce:aB (ofNat e) 0=decide (e=0):=AZ e 0;have hc2:aB (ofNat (gg st i)) 2=decide (gg st i=2):=AZ (gg st i) 2
 -- what the two first tests say
 have hno:(decide (e=0)&&(decide (gg st i=2)||(lU (eO x.op)).call))=false->(e=0->gg st i≠2)/\(e=0->(eh ins).call i=false):=by
  intro h;rw[hcall]
  constructor
  ·intro h0 h2;rw[decide_eq_true h0,decide_eq_true h2] at h;simp at h
  intro h0;rw[decide_eq_true h0] at h;simp only[Bool.true_and,Bool.or_eq_false_iff] at h;exact h.2
 have hyes:(decide (e=0)&&(decide (gg st i=2)||(lU (eO x.op)).call))=true->gg st i=2∨(eh ins).call i=true∨e=((eh ins).succ i).length:=by
  intro h;simp only[Bool.and_eq_true,Bool.or_eq_true,decide_eq_true_eq] at h;rw[hcall]
  rcases h.2 with h|h
  ·exact .inl h
  exact .inr (.inl h)
 rw[←hsucc] at f16;generalize hl:(eh ins).succ i=l at *;have hl':na ins i=l:=hl;rw[hl'] at f16 hsucc;obtain⟨op,dst,a,b,im,nm,az,ar,⟨xk,tn,ix,la⟩,ck,ci,cs⟩:=x
 cases l with
 | nil=>
  have he:e=0:=by simp at t2;exact t2
  subst he;refine M7 (K:=cH ks) (ss:=cH (st.map ofNat)) g2 f1 f2 f3 f4 f5 f6 f7 f9 f10 hc2 f12 f13 f14 f15 f16 f19 (eb _) (eb _) (eb _) ?_ ?_
  ·intro h;exact q1 (hyes (by simpa using h))
  intro h;exact q1 (.inr (.inr rfl))
 | cons j0 l0=>
  generalize hll:j0::l0=l at *;have hdl:Go.Proofs.YtmpmgmmcaghacaaGreatDoor.sl ((l.map ofNat).map iN)=.slice ((l.map ofNat).map iN):=by rw[←hll];rfl
  rw[hdl] at f16;have f17:kb ba 22 [.dat (.slice ((l.map ofNat).map iN))] none=some ⟨iv (ofNat l.length),.keep⟩:=by
   have:kb ba 22 [.dat (.slice ((l.map ofNat).map iN))] none=some ⟨iv (ofNat ((l.map ofNat).map iN).length),.keep⟩:=by kernel_rfl
   rw[this,List.length_map,List.length_map]
  have f18:aB (ofNat e) (ofNat l.length)=decide (e=l.length):=AZ _ _;have hw2:an .i64 (ofNat e+1)=ofNat (e+1):=bb (by
   have:l.length<=2:=by rw[←hl'];exact vm ins i
   omega)
  have f21:=N5 (l:=ks) (i:=r.length*2+1) (.out 1) (ofNat (e+1)) (by omega);rw[←hw2] at f21
  by_cases hlt:e < l.length
  ·have hg:l[e]?=some l[e]:=List.getElem?_eq_getElem hlt;generalize l[e]=j at hg;have hjn:j < ins.length:=by
    have hm:j∈na ins i:=by rw[hl'];exact List.mem_of_getElem? hg
    exact (eh ins).lt i t1 j hm
   have hg2:(l.map ofNat)[e]?=some (ofNat j):=by rw[List.getElem?_map,hg];rfl
   have f20:=wb hg2;have f22:=GB (m:=.out 0) (n:=ins.length) hjn;have f23:=Er (.out 0) (R9 (st:=st.set i 1) (i:=j) (by rw[List.length_set];omega));have f24:aB (ofNat (gg (st.set i 1) j)) 1=decide (gg (st.set i 1) j=1):=AZ _ 1;have f25:aB (ofNat (gg (st.set i 1) j)) 2=decide (gg (st.set i 1) j=2):=AZ _ 2;have f26:=@ad1 (.out 1) (ks.set (r.length*2+1) (an .i64 (ofNat e+1))) (r.length+1) (ofNat j) (by omega) (by rw[List.length_set];omega);have hts:=SO hk;rw[←hw2] at hts;have hk3:((ks.set (r.length*2+1) (an .i64 (ofNat e+1))).take (2*(r.length+1))++[ofNat j,0]).take (2*(r.length+2))=tw ((j,0)::(i,e+1)::r):=by
    rw[hts,nb j 0,List.take_of_length_le]
    ·rfl
    have:=lS ((i,e+1)::r)
    rw[List.length_append,this];simp;omega
   have key:∀Q0:Exit->aa->Prop,(∀ex s,Q ex s->Q0 ex s)->((decide (e=0)&&(decide (gg st i=2)||(lU (eO op)).call))=false->decide (gg (st.set i 1) j=1)=false->decide (gg (st.set i 1) j=2)=true->Q0 .normal ((Cq 1 (cC p sl (.slice (encI ins)) d2) (cH (ks.set (r.length*2+1) (an .i64 (ofNat e+1)))) (cH ((st.set i 1).map ofNat)) (r.length+1) (ofNat start) (ofNat ins.length) ins.length (ofNat j)).al bc))->
     KD (roundOf Tryz.f68 1) Q0 (NE p sl ins d2 1 ks st (r.length+1) start):=by
    intro Q0 hQ h4;refine Hd (K:=cH ks) (ss:=cH (st.map ofNat)) (cl:=false) g2 f1 f2 f3 f4 f5 f6 f7 hce f9 f10 hc2 f12 f13 f14 f15 f16 f17 (f18.trans (decide_eq_false (by omega))) f19 (fun _=>f20) f21 (fun _=>f22) (fun _=>f23) f24 f25 (fun _=>f26) (fun _=>eb _) (eb _) (eb _) (eb _) (eb _) ?_ ?_ ?_ ?_ ?_
    ·intro h;exact hQ _ _ (q1 (hyes h))
    ·intro _ h;simp at h
    ·intro h _ h1;obtain⟨a1,a2⟩:=hno h;exact hQ _ _ (q2 j hg (of_decide_eq_true h1) a1 a2 _)
    ·intro h _ h1 h2;exact h4 h h1 h2
    intro h _ h1 h2;obtain⟨a1,a2⟩:=hno h;exact hQ _ _ (q4 j _ hg (of_decide_eq_false h1) (of_decide_eq_false h2) a1 a2 hk3)
   refine iU (key (fun ex s=>Q ex s∨(ex=.normal/\Q .normal (NE p sl ins d2 1 (ks.set (r.length*2+1) (an .i64 (ofNat e+1))) (st.set i 1) (r.length+1) start)/\s=((Cq 1 (cC p sl (.slice (encI ins)) d2) (cH (ks.set (r.length*2+1) (an .i64 (ofNat e+1)))) (cH ((st.set i 1).map ofNat)) (r.length+1) (ofNat start) (ofNat ins.length) ins.length (ofNat j)).al bc))) (fun _ _ h=>.inl h) ?_) ?_
   ·intro h h1 h2;obtain⟨a1,a2⟩:=hno h;exact .inr ⟨rfl,q3 j _ hg (of_decide_eq_true h2) a1 a2 hts,rfl⟩
   rintro ex s1 (h|⟨rfl,h,rfl⟩)
   ·exact⟨s1,gF.refl _ _,h⟩
   exact⟨_,MY rfl,h⟩
  have he:e=l.length:=by omega
  refine Hd (K:=cH ks) (K3:=[]) (ss:=cH (st.map ofNat)) (cl:=true) (to:=0) (tv:=0) (tof:=0) g2 f1 f2 f3 f4 f5 f6 f7 hce f9 f10 hc2 f12 f13 f14 f15 f16 f17 (f18.trans (decide_eq_true he)) f19 (fun h=>by simp at h) f21 (fun h=>by simp at h) (fun h=>by simp at h) rfl rfl (fun h=>by simp at h) (fun h=>by simp at h) (eb _) (eb _) (eb _) (eb _) ?_ ?_ ?_ ?_ ?_
  ·intro h;exact q1 (hyes h)
  ·intro h _;exact q1 (.inr (.inr he))
  ·intro _ h;simp at h
  ·intro _ h;simp at h
  intro _ h;simp at h
theorem Ev (k:Nat):∀l:List Int,BI k (cH l)=false
 | []=>rfl
 | a::r=>by show (Sw k (iv a)||BI k (cH r))=_;rw[Ev k r];rfl
def Ft (x y:Nat) (c1:List ac) (len:Nat) (start n:Int) (N:Nat):ab:=⟨[(18,iv start),(17,iv n),(5,.win (.out x) 2 0 len),(3,.win (.out y) 1 0 N),(1,.ptr (.loc 1) 0)],[(.loc 1,.cells c1)],[],0⟩
def Il (x y:Nat) (c1:List ac) (start n:Int) (N:Nat):ab:=⟨[(26,bv false),(18,iv start),(17,iv n),(5,.win (.out x) 2 0 0),(3,.win (.out y) 1 0 N),(1,.ptr (.loc 1) 0)],[(.loc 1,.cells c1)],[],0⟩
theorem Ku {p sl:Int} {d1 d2:ak} {a m:Nat} {ρ:Nat->Nat} (h0:ρ 0=0) (ha:ρ a=m) {ks ss:List Int} {len N:Nat} {start n:Int} :
  Sq ρ (m+1) ((pM a (cC p sl d1 d2) (cH ks) (cH ss) len start n N).al bc)=(pM m (cC p sl d1 d2) (cH ks) (cH ss) len start n N).al bc:=by
 have e1:il ρ ((Ft a 0 (cC p sl d1 d2) len start n N).al bc).tmps=((Ft (ρ a) (ρ 0) (cC p sl d1 d2) len start n N).al bc).tmps:=by kernel_rfl
 rw[h0,ha] at e1;have e2:jJ ρ [(.loc 1,.cells (cC p sl d1 d2))]=[(.loc 1,.cells (cC p sl d1 d2))]:=by kernel_rfl
 have e3:jJ ρ [(.out a,.cells (cH ks)),(.out 0,.cells (cH ss))]=[(.out m,.cells (cH ks)),(.out 0,.cells (cH ss))]:=by simp only[jJ,wX,pW,fJ,h0,ha]
 show (⟨il ρ ((Ft a 0 (cC p sl d1 d2) len start n N).al bc).tmps,jJ ρ [(.loc 1,.cells (cC p sl d1 d2))],jJ ρ [(.out a,.cells (cH ks)),(.out 0,.cells (cH ss))],m+1⟩:aa)=_;rw[e1,e2,e3];rfl
theorem Xq {p sl:Int} {d1 d2:ak} {a m:Nat} {ρ:Nat->Nat} (h0:ρ 0=0) (ha:ρ a=m) {ks ss:List Int} {N:Nat} {start n:Int} :
  Sq ρ (m+1) ((Fu a (cC p sl d1 d2) (cH ks) (cH ss) start n N).al bc)=(Fu m (cC p sl d1 d2) (cH ks) (cH ss) start n N).al bc:=by
 have e1:il ρ ((Il a 0 (cC p sl d1 d2) start n N).al bc).tmps=((Il (ρ a) (ρ 0) (cC p sl d1 d2) start n N).al bc).tmps:=by kernel_rfl
 rw[h0,ha] at e1;have e2:jJ ρ [(.loc 1,.cells (cC p sl d1 d2))]=[(.loc 1,.cells (cC p sl d1 d2))]:=by kernel_rfl
 have e3:jJ ρ [(.out a,.cells (cH ks)),(.out 0,.cells (cH ss))]=[(.out m,.cells (cH ks)),(.out 0,.cells (cH ss))]:=by simp only[jJ,wX,pW,fJ,h0,ha]
 show (⟨il ρ ((Il a 0 (cC p sl d1 d2) start n N).al bc).tmps,jJ ρ [(.loc 1,.cells (cC p sl d1 d2))],jJ ρ [(.out a,.cells (cH ks)),(.out 0,.cells (cH ss))],m+1⟩:aa)=_;rw[e1,e2,e3];rfl
def kY (m:Nat):ab:=⟨[(2,bv true)],[],[],m⟩
theorem Xr {a m:Nat} {ρ:Nat->Nat} {K ss:List ac} {h:Heap}:∃H,Sq ρ m ((Oi K ss).al bc)=⟨((kY m).al bc).tmps,[],H,m⟩:=by
 have e1:il ρ ((kY m).al bc).tmps=((kY m).al bc).tmps:=by kernel_rfl
 refine⟨jJ ρ [(.out 1,.cells K),(.out 0,.cells ss)],?_⟩;show (⟨il ρ ((kY m).al bc).tmps,[],jJ ρ [(.out 1,.cells K),(.out 0,.cells ss)],m⟩:aa)=_;rw[e1]
theorem Zu {p sl:Int} {d1 d2:ak} {ks ss:List Int} {len N:Nat} {start n:Int}:UH ((pM 1 (cC p sl d1 d2) (cH ks) (cH ss) len start n N).al bc)=true:=by
 have e1:BI 2 ((Ft 1 0 (cC p sl d1 d2) len start n N).al bc).tmps=false:=by kernel_rfl
 have e2:GM 2 [(.loc 1,.cells (cC p sl d1 d2))]=false:=by kernel_rfl
 have e3:GM 2 [(.out 1,.cells (cH ks)),(.out 0,.cells (cH ss))]=false:=by
  simp only[GM,Z5,Ev];rfl
 show (!BI 2 ((Ft 1 0 (cC p sl d1 d2) len start n N).al bc).tmps&&(!GM 2 [(.loc 1,.cells (cC p sl d1 d2))]&&(!GM 2 [(.out 1,.cells (cH ks)),(.out 0,.cells (cH ss))]&&lD [(.out 1,.cells (cH ks)),(.out 0,.cells (cH ss))] 2)))=true;rw[e1,e2,e3];rfl
theorem UL {p sl:Int} {d1 d2:ak} {ks ss:List Int} {len N:Nat} {start n:Int} {m:Nat} {T:ej}
  (h:KD (roundOf Tryz.f68 1) (fun e s=>T e (Sq (ig (DW [0,m]) 2 (m+1)) (m+1+(s.next - 2)) s)) ((pM 1 (cC p sl d1 d2) (cH ks) (cH ss) len start n N).al bc)) :
  KD (roundOf Tryz.f68 1) T ((pM m (cC p sl d1 d2) (cH ks) (cH ss) len start n N).al bc):=by
 have h2:=cL.rn h (DW [0,m]) (m+1) Zu;rw[Ku (m:=m) rfl rfl] at h2;refine h2.mono ?_;rintro e s ⟨s1,hq,rfl⟩;exact hq
def Vs (m:Nat) (c1 ss:List ac) (start n:Int) (N:Nat):ab:=⟨[(26,bv false),(18,iv start),(17,iv n),(5,.win (.out m) 2 0 0),(3,.win (.out 0) 1 0 N),(1,.ptr (.loc 1) 0)],[(.loc 1,.cells c1)],[(.out 0,.cells ss)],m+1⟩
theorem UK {p sl:Int} {ins:List Ins} {d2:ak} (g2:dj d2) (hv:tR ins) (hn:ins.length < 1000000) {st:List Nat} {start:Nat} (hs:start < ins.length) (hI:(eh ins).Inv st []) (hd:∀j,j < start->gg st j=2) :
  KD (.loop (roundOf Tryz.f68 1)) (fun e s=>(e=.exit 2/\∃m st2,(eh ins).Inv st2 []/\(∀j,j < start+1->gg st2 j=2)/\s=(Vs m (cC p sl (.slice (encI ins)) d2) (cH (st2.map ofNat)) (ofNat start) (ofNat ins.length) ins.length).al bc)∨(e=.ret/\(eh ins).yN/\∃m,s=(kY m).al bc))
   (NE p sl ins d2 1 [ofNat start,0] st 1 start):=by
 have key:KD (.loop (roundOf Tryz.f68 1)) (fun e s=>(e=.exit 2/\∃m st2 ks,(eh ins).Inv st2 []/\(∀j,j < start+1->gg st2 j=2)/\s=(Fu m (cC p sl (.slice (encI ins)) d2) (cH ks) (cH (st2.map ofNat)) (ofNat start) (ofNat ins.length) ins.length).al bc)∨(e=.ret/\(eh ins).yN/\∃m H,s=⟨((kY m).al bc).tmps,[],H,m⟩))
   (NE p sl ins d2 1 [ofNat start,0] st 1 start):=by
  refine CS (I:=fun μ s=>∃m stA stk ks,(eh ins).Inv stA stk/\(∀j,j < start->gg stA j=2)/\(gg stA start=2∨start∈stk.map Prod.fst)/\ks.take (2*stk.length)=tw stk/\rI (eh ins) stA stk=μ/\μ<=8*ins.length+1/\s=NE p sl ins d2 m ks stA stk.length start) ?_ (m:=rI (eh ins) st [(start,0)]) ⟨1,st,[(start,0)],[ofNat start,0],hI.start hs,hd,.inr (by simp),rfl,rfl,Jh ins st start,rfl⟩;rintro μ s ⟨m,stA,stk,ks,hA,hdA,hsA,hk,hμ,hμb,rfl⟩;have hlen:=Ia (eh ins) stA stk;refine UL ?_
  cases stk with
  | nil=>
   refine Rh ?_;rw[show m+1+(((Fu 1 (cC p sl (.slice (encI ins)) d2) (cH ks) (cH (stA.map ofNat)) (ofNat start) (ofNat ins.length) ins.length).al bc).next - 2)=m+1 from rfl,Xq (m:=m) rfl rfl];refine .inl ⟨rfl,m,stA,ks,hA,?_,rfl⟩;intro j hj
   by_cases h:j < start
   ·exact hdA j h
   have:j=start:=by omega
   subst this
   rcases hsA with h|h
   ·exact h
   simp at h
  | cons t r=>
   obtain⟨i,e⟩:=t;obtain⟨t1,t2,t3,t4,t5,t6⟩:=hA.top;have hil:i < stA.length:=by rw[hA.len];exact t1
   have hlen':r.length+1<=rI (eh ins) stA ((i,e)::r):=hlen
   -- what is done stays so
   have hkeep:∀v,(∀j,gg stA j=2->j=i->v=2)->(∀j,j < start->gg (stA.set i v) j=2):=by
    intro v hv2 j hj;rw[ee hil]
    split
    ·rename_i h;exact hv2 j (hdA j hj) h
    exact hdA j hj
   have hne:(e=0->gg stA i≠2)->∀j,gg stA j=2->j≠i:=by
    intro h j hj hji;subst hji
    by_cases h0:e=0
    ·exact h h0 hj
    have:=(t3 (by omega)).1;omega
   refine UJ g2 hv hn hA hk (by omega) ?_ ?_ ?_ ?_
   ·intro hd1;show ∃μ',μ' < μ/\_;rw[show m+1+((NE p sl ins d2 1 ks (stA.set i 2) r.length start).next - 2)=m+1 from rfl,Ku (m:=m) rfl rfl];refine⟨_,?_,m,stA.set i 2,r,ks,hA.pop hd1,hkeep 2 (fun _ _ _=>rfl),?_,(Kj hk).2.2.1,rfl,?_,rfl⟩
    ·rw[←hμ];exact Gq hil (by decide)
    ·rw[ee hil]
     rcases hsA with h|h
     ·left;split
      ·rfl
      exact h
     rw[List.map_cons,List.mem_cons] at h
     rcases h with h|h
     ·left;rw[if_pos h]
     exact .inr h
    have:=Gq (G:=eh ins) (e:=e) (r:=r) hil (v:=2) (by decide)
    omega
   ·intro j hj h1 h2 h3 ks2;refine .inr ⟨rfl,hA.yN h2 h3 hj h1,m+1+(2 - 2),?_⟩;exact Xr (a:=0) (h:=[])
   ·intro j ks2 hj h1 h2 h3 hk2;have hlt:e < ((eh ins).succ i).length:=(List.getElem?_eq_some_iff.1 hj).1;show ∃μ',μ' < μ/\_;rw[show m+1+((NE p sl ins d2 1 ks2 (stA.set i 1) (r.length+1) start).next - 2)=m+1 from rfl,Ku (m:=m) rfl rfl];have hm:=CR hA h2 hlt (.inl rfl:([]:List (Nat×Nat))=[]∨_);refine⟨_,?_,m,stA.set i 1,(i,e+1)::r,ks2,hA.skip h2 h3 hj h1,hkeep 1 (fun q hq hqi=>absurd hqi (hne h2 q hq)),?_,hk2,rfl,?_,rfl⟩
    ·rw[←hμ];exact hm
    ·rcases hsA with h|h
     ·left;rw[ee hil,if_neg (hne h2 _ h)];exact h
     right;simpa using h
    have hm':rI (eh ins) (stA.set i 1) ((i,e+1)::r) < rI (eh ins) stA ((i,e)::r):=hm;omega
   intro j ks3 hj h1 h1' h2 h3 hk3;have hlt:e < ((eh ins).succ i).length:=(List.getElem?_eq_some_iff.1 hj).1;show ∃μ',μ' < μ/\_;rw[show m+1+((NE p sl ins d2 2 ks3 (stA.set i 1) (r.length+2) start).next - 2)=m+1+1 from rfl,@Ku _ _ _ _ 2 (m+1) (ig (DW [0,m]) 2 (m+1)) rfl rfl];have hm:=CR hA h2 hlt (.inr ⟨j,rfl⟩);refine⟨_,?_,m+1,stA.set i 1,(j,0)::(i,e+1)::r,ks3,hA.push h2 h3 hj h1 h1',hkeep 1 (fun q hq hqi=>absurd hqi (hne h2 q hq)),?_,hk3,rfl,?_,rfl⟩
   ·rw[←hμ];exact hm
   ·rcases hsA with h|h
    ·left;rw[ee hil,if_neg (hne h2 _ h)];exact h
    right;rw[List.map_cons,List.mem_cons] at h;simp only[List.map_cons,List.mem_cons]
    rcases h with h|h
    ·exact .inr (.inl h)
    exact .inr (.inr h)
   have hm':rI (eh ins) (stA.set i 1) ((j,0)::(i,e+1)::r) < rI (eh ins) stA ((i,e)::r):=hm;omega
 refine key.ab4 ?_;rintro e s (⟨rfl,m,st2,ks,h1,h2,rfl⟩|⟨rfl,h1,m,H,rfl⟩)
 ·exact⟨[(.out 0,.cells (cH (st2.map ofNat)))],[(.out m,.cells (cH ks))],List.Perm.swap _ _ _,.inl ⟨rfl,m,st2,h1,h2,rfl⟩⟩
 exact⟨[],H,List.Perm.refl _,.inr ⟨rfl,h1,m,rfl⟩⟩
end Go.Proofs.YtmpmgmmcaghacaaGreatDoor
