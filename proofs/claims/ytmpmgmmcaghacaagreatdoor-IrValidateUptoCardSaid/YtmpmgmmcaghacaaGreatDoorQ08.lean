/- IrValidate returns true and changes nothing, for arguments of bulk at most 1048576 (the card of the second form; conditions: those of the given row). Names are shortened by a program, for the claim's bound. -/
import Derived.Test.YtmpmgmmcaghacaaGreatDoorCards
import Derived.Test.YtmpmgmmcaghacaaGreatDoorTie
import Derived.WalkKit
import Derived.ProofKit
import Derived.OpenShut
import Derived.Deep.DeepHandedRow
import Derived.Deep.DeepWitnessRowRef
import Derived.Test.YtmpmgmmcaghacaaGreatDoorQ07
set_option linter.unusedVariables false
set_option linter.unusedSimpArgs false
open Int (ofNat)
set_option maxRecDepth 100000
set_option maxHeartbeats 4000000
namespace Go.Proofs.YtmpmgmmcaghacaaGreatDoor
open Go.Tp
noncomputable abbrev dy:=Tryz.f20.ntmps
noncomputable abbrev cK:=Tryz.f39.ntmps
noncomputable def V0:Hints:=⟨bV,Ac,bi,rowsOf bi 20⟩
def TJ (c:List ac):Heap:=[(.loc 3,.cells (cC 0 0 nl nl)),(.loc 2,.cells c)]
def pQ (c:List ac):ab:=⟨[(5,iv 0),(3,.ptr (.loc 3) 0),(2,.ptr (.loc 2) 0)],TJ c,[],0⟩
def mB (c:List ac):ab:=⟨[(41,bv false),(5,iv 0),(3,.ptr (.loc 3) 0),(2,.ptr (.loc 2) 0)],TJ c,[],0⟩
def pO (c:List ac):ab:=⟨[(6,iv 0),(3,.ptr (.loc 3) 0),(2,.ptr (.loc 2) 0)],TJ c,[],0⟩
def mA (c:List ac):ab:=⟨[(60,bv false),(6,iv 0),(3,.ptr (.loc 3) 0),(2,.ptr (.loc 2) 0)],TJ c,[],0⟩
theorem ZN {p sl:Int} {es dd:List ak} (h:aF 0 (ofNat es.length)=false) {T:ej} (e:T (.exit 0) ((mB (cC p sl (.slice es) (.slice dd))).al dy)):KD (roundOf Tryz.f20 0) T ((pQ (cC p sl (.slice es) (.slice dd))).al dy):=by
 exact aq [41] [] (H:=V0) (live:=jk) (ob h (oe e))
theorem ZJ {p sl:Int} {es dd:List ak} (h:aF 0 (ofNat dd.length)=false) {T:ej} (e:T (.exit 2) ((mA (cC p sl (.slice es) (.slice dd))).al dy)):KD (roundOf Tryz.f20 1) T ((pO (cC p sl (.slice es) (.slice dd))).al dy):=by
 exact aq [60] [] (H:=V0) (live:=jk) (ob h (oe e))
theorem adD {p sl:Int} {es dd:List ak} {c1 c2 c3 c4:Bool} (h1:aB p 0=c1) (h2:aB sl 0=c2) (h3:aB (ofNat es.length) 0=c3) (h4:aB (ofNat dd.length) 0=c4) 
  (l0:c3=true->c4=true->KD (.loop (roundOf Tryz.f20 0)) (fun e q=>e=.exit 0/\q=(mB (cC p sl (.slice es) (.slice dd))).al dy) ((pQ (cC p sl (.slice es) (.slice dd))).al dy))
  (l1:c3=true->c4=true->KD (.loop (roundOf Tryz.f20 1)) (fun e q=>e=.exit 2/\q=(mA (cC p sl (.slice es) (.slice dd))).al dy) ((pO (cC p sl (.slice es) (.slice dd))).al dy)) :
  ae 20 [.dat (aN p sl (.slice es) (.slice dd)),.dat (aN 0 0 nl nl)] (bv (c1&&(c2&&(c3&&c4)))):=by
 refine co [11,17,26,35] [] (x:=.of Tryz.f20 Ac jk) ?_;refine ox h1 ?_
 cases c1
 ·exact fi
 refine ox h2 ?_
 cases c2
 ·exact fi
 refine ox h3 ?_
 cases c3
 ·exact fi
 refine ox h4 ?_
 cases c4
 ·exact fi
 refine lo (l0 rfl rfl) ?_;rintro ex s ⟨rfl,rfl⟩;refine⟨_,rfl,?_⟩;refine lo (l1 rfl rfl) ?_;rintro ex s ⟨rfl,rfl⟩;refine⟨_,rfl,?_⟩;exact fi
theorem ZO {p sl:Int} {es dd:List ak} (h:aF 0 (ofNat es.length)=false) {T:ej} (e:T (.exit 0) ((mB (cC p sl (.slice es) nl)).al dy)):KD (roundOf Tryz.f20 0) T ((pQ (cC p sl (.slice es) nl)).al dy):=by
 exact aq [41] [] (H:=V0) (live:=jk) (ob h (oe e))
theorem ZK {p sl:Int} {es dd:List ak} {T:ej} (e:T (.exit 2) ((mA (cC p sl (.slice es) nl)).al dy)):KD (roundOf Tryz.f20 1) T ((pO (cC p sl (.slice es) nl)).al dy):=by
 refine aq [] [] (H:=V0) (live:=jk) ?_;exact oe e
theorem adE {p sl:Int} {es dd:List ak} {c1 c2 c3 c4:Bool} (h1:aB p 0=c1) (h2:aB sl 0=c2) (h3:aB (ofNat es.length) 0=c3) 
  (l0:c3=true->KD (.loop (roundOf Tryz.f20 0)) (fun e q=>e=.exit 0/\q=(mB (cC p sl (.slice es) nl)).al dy) ((pQ (cC p sl (.slice es) nl)).al dy))
  (l1:c3=true->KD (.loop (roundOf Tryz.f20 1)) (fun e q=>e=.exit 2/\q=(mA (cC p sl (.slice es) nl)).al dy) ((pO (cC p sl (.slice es) nl)).al dy)) :
  ae 20 [.dat (aN p sl (.slice es) nl),.dat (aN 0 0 nl nl)] (bv (c1&&(c2&&(c3&&true)))):=by
 refine co [11,17,26] [] (x:=.of Tryz.f20 Ac jk) ?_;refine ox h1 ?_
 cases c1
 ·exact fi
 refine ox h2 ?_
 cases c2
 ·exact fi
 refine ox h3 ?_
 cases c3
 ·exact fi
 refine lo (l0 rfl) ?_;rintro ex s ⟨rfl,rfl⟩;refine⟨_,rfl,?_⟩;refine lo (l1 rfl) ?_;rintro ex s ⟨rfl,rfl⟩;refine⟨_,rfl,?_⟩;exact fi
theorem ZP {p sl:Int} {es dd:List ak} {T:ej} (e:T (.exit 0) ((mB (cC p sl nl (.slice dd))).al dy)):KD (roundOf Tryz.f20 0) T ((pQ (cC p sl nl (.slice dd))).al dy):=by
 refine aq [] [] (H:=V0) (live:=jk) ?_;exact oe e
theorem ZL {p sl:Int} {es dd:List ak} (h:aF 0 (ofNat dd.length)=false) {T:ej} (e:T (.exit 2) ((mA (cC p sl nl (.slice dd))).al dy)):KD (roundOf Tryz.f20 1) T ((pO (cC p sl nl (.slice dd))).al dy):=by
 exact aq [60] [] (H:=V0) (live:=jk) (ob h (oe e))
theorem adF {p sl:Int} {es dd:List ak} {c1 c2 c3 c4:Bool} (h1:aB p 0=c1) (h2:aB sl 0=c2) (h4:aB (ofNat dd.length) 0=c4) 
  (l0:c4=true->KD (.loop (roundOf Tryz.f20 0)) (fun e q=>e=.exit 0/\q=(mB (cC p sl nl (.slice dd))).al dy) ((pQ (cC p sl nl (.slice dd))).al dy))
  (l1:c4=true->KD (.loop (roundOf Tryz.f20 1)) (fun e q=>e=.exit 2/\q=(mA (cC p sl nl (.slice dd))).al dy) ((pO (cC p sl nl (.slice dd))).al dy)) :
  ae 20 [.dat (aN p sl nl (.slice dd)),.dat (aN 0 0 nl nl)] (bv (c1&&(c2&&(true&&c4)))):=by
 refine co [11,17,35] [] (x:=.of Tryz.f20 Ac jk) ?_;refine ox h1 ?_
 cases c1
 ·exact fi
 refine ox h2 ?_
 cases c2
 ·exact fi
 refine ox h4 ?_
 cases c4
 ·exact fi
 refine lo (l0 rfl) ?_;rintro ex s ⟨rfl,rfl⟩;refine⟨_,rfl,?_⟩;refine lo (l1 rfl) ?_;rintro ex s ⟨rfl,rfl⟩;refine⟨_,rfl,?_⟩;exact fi
theorem ZQ {p sl:Int} {es dd:List ak} {T:ej} (e:T (.exit 0) ((mB (cC p sl nl nl)).al dy)):KD (roundOf Tryz.f20 0) T ((pQ (cC p sl nl nl)).al dy):=by
 refine aq [] [] (H:=V0) (live:=jk) ?_;exact oe e
theorem ZM {p sl:Int} {es dd:List ak} {T:ej} (e:T (.exit 2) ((mA (cC p sl nl nl)).al dy)):KD (roundOf Tryz.f20 1) T ((pO (cC p sl nl nl)).al dy):=by
 refine aq [] [] (H:=V0) (live:=jk) ?_;exact oe e
theorem adG {p sl:Int} {es dd:List ak} {c1 c2 c3 c4:Bool} (h1:aB p 0=c1) (h2:aB sl 0=c2) 
  (l0:KD (.loop (roundOf Tryz.f20 0)) (fun e q=>e=.exit 0/\q=(mB (cC p sl nl nl)).al dy) ((pQ (cC p sl nl nl)).al dy))
  (l1:KD (.loop (roundOf Tryz.f20 1)) (fun e q=>e=.exit 2/\q=(mA (cC p sl nl nl)).al dy) ((pO (cC p sl nl nl)).al dy)) :
  ae 20 [.dat (aN p sl nl nl),.dat (aN 0 0 nl nl)] (bv (c1&&(c2&&(true&&true)))):=by
 refine co [11,17] [] (x:=.of Tryz.f20 Ac jk) ?_;refine ox h1 ?_
 cases c1
 ·exact fi
 refine ox h2 ?_
 cases c2
 ·exact fi
 refine lo l0 ?_;rintro ex s ⟨rfl,rfl⟩;refine⟨_,rfl,?_⟩;refine lo l1 ?_;rintro ex s ⟨rfl,rfl⟩;refine⟨_,rfl,?_⟩;exact fi
theorem th {n:Nat} (h:aB (ofNat n) 0=true):aF 0 (ofNat n)=false:=by
 rw[cN] at h
 have:(n:Int)=0:=by simpa using h
 rw[dA];simp only[decide_eq_false_iff_not,Int.ofNat_eq_natCast];omega
theorem uS {c:List ac} (h:∀{T:ej},T (.exit 0) ((mB c).al dy)->KD (roundOf Tryz.f20 0) T ((pQ c).al dy)) :
  KD (.loop (roundOf Tryz.f20 0)) (fun e q=>e=.exit 0/\q=(mB c).al dy) ((pQ c).al dy):=by
 refine bm (St:=fun _=>(pQ c).al dy) 0 (fun i hi=>absurd hi (by omega)) ?_ (i:=0) (Nat.le_refl _);exact h ⟨rfl,rfl⟩
theorem uR {c:List ac} (h:∀{T:ej},T (.exit 2) ((mA c).al dy)->KD (roundOf Tryz.f20 1) T ((pO c).al dy)) :
  KD (.loop (roundOf Tryz.f20 1)) (fun e q=>e=.exit 2/\q=(mA c).al dy) ((pO c).al dy):=by
 refine bm (St:=fun _=>(pO c).al dy) 0 (fun i hi=>absurd hi (by omega)) ?_ (i:=0) (Nat.le_refl _);exact h ⟨rfl,rfl⟩
noncomputable def JB:Hints:=⟨bV,zY,bi,rowsOf bi 39⟩
def za (c:List ac) (d n i:Int):ab:=⟨[(6,iv i),(5,iv n),(2,.ptr (.loc 2) 0),(1,iv d)],[(.loc 2,.cells c)],[],0⟩
def DK (c:List ac) (d n i:Int):ab:=⟨[(55,bv false),(6,iv i),(5,iv n),(2,.ptr (.loc 2) 0),(1,iv d)],[(.loc 2,.cells c)],[],0⟩
def nf (e:Int):ab:=⟨[(4,iv e)],[],[],0⟩
def rR (c:List ac) (d i:Int):ab:=⟨[(8,iv i),(2,.ptr (.loc 2) 0),(1,iv d)],[(.loc 2,.cells c)],[],0⟩
def vq (c:List ac) (d i:Int):ab:=⟨[(91,bv false),(8,iv i),(2,.ptr (.loc 2) 0),(1,iv d)],[(.loc 2,.cells c)],[],0⟩
def Cm (c:List ac) (d i k:Int):ab:=⟨[(9,iv k),(8,iv i),(2,.ptr (.loc 2) 0),(1,iv d)],[(.loc 2,.cells c)],[],0⟩
def Ii (c:List ac) (d i k:Int):ab:=⟨[(101,bv false),(9,iv k),(8,iv i),(2,.ptr (.loc 2) 0),(1,iv d)],[(.loc 2,.cells c)],[],0⟩
theorem aeJ {p sl d:Int} {es:List ak} {d2:ak} (g2:dj d2) {op dst a b im:Int} {nm:List UInt8} {dx:ak} {xk:Int} {tn:List UInt8} {ix:Int} {dt:ak} {ck ci:Int} {cs:List UInt8} (g3:dj dx) (g4:dj dt) {i:Int} {ok:Bool} {T:ej} (h0:aF i (ofNat es.length)=true)
  (hi:ap ba 23 [.dat (.slice es),.dat (.flat (.int .i64 i))]=some ⟨.ref [i64 op,i64 dst,i64 a,i64 b,i64 im,sb nm,dx,i64 xk,sb tn,i64 ix,dt,i64 ck,i64 ci,sb cs,nl],.keep⟩) (hv:ae 70 [.dat (aN p sl (.slice es) d2),.dat (eH op dst a b im nm dx xk tn ix dt ck ci cs)] (bv ok))
  (e1:ok=true->T .normal ((za (cC p sl (.slice es) d2) d (ofNat es.length) (an .i64 (i+1))).al cK)) (e2:ok=false->T .ret ((nf 2).al cK)) :
  KD (roundOf Tryz.f39 0) T ((za (cC p sl (.slice es) d2) d (ofNat es.length) i).al cK):=by
 have q2:=@yv false op dst a b im nm _ xk tn ix _ ck ci cs g3 g4;have q5:=@aO false 2 p sl (.slice es) _ (.inr ⟨_,rfl⟩) g2;clear g2 g3 g4;refine aq [55] [58,62,63] (H:=JB) (live:=ka) (ob h0 (oo q5 (oo hi (oo q2 (on hv ?_)))))
 cases ok
 ·exact oe (e2 rfl)
 exact oe (e1 rfl)
theorem abK {p sl d:Int} {es:List ak} {d2:ak} {n i:Int} {T:ej} (h0:aF i n=false) (e:T (.exit 0) ((DK (cC p sl (.slice es) d2) d n i).al cK)) :
  KD (roundOf Tryz.f39 0) T ((za (cC p sl (.slice es) d2) d n i).al cK):=by
 exact aq [55] [] (H:=JB) (live:=ka) (ob h0 (oe e))
theorem aeK {p sl d:Int} {e1:ak} {dd l:List ak} {i k v:Int} {ek:Int} {dn:List UInt8} {ar sk:Int} {sn:List UInt8} {six:Int} {da:ak} {con:Bool} {df:ak} {fu:List UInt8} {tk:Int} {tn:List UInt8} {tix:Int} {ta:ak} {pa cp cs:Int} {d1 d2:ak} {pk:List UInt8} (h1:dj da) (h2:dj df) (h3:dj ta) (h4:dj d1) (h5:dj d2) {c1 c2 c3 z vz:Bool} {T:ej} (f0:aF k (ofNat l.length)=true)
  (hi:ap ba 24 [.dat (.slice dd),.dat (.flat (.int .i64 i))]=some ⟨.ref [.slice l],.keep⟩)
  (hk:ap ba 54 [.dat (.slice l),.dat (.flat (.int .i64 k))]=some ⟨.ref [i64 ek,sb dn,i64 ar,i64 sk,sb sn,i64 six,da,bl con,df,sb fu,i64 tk,sb tn,i64 tix,ta,i64 pa,i64 cp,i64 cs,d1,d2,sb pk],.keep⟩)
  (k1:aF ek 1=c1) (k2:aF 5 ek=c2) (k3:aB ek 2=c3) (hz:ae 20 [.dat (aN cp cs d1 d2),.dat (aN 0 0 nl nl)] (bv z)) (hv:ae 39 [.dat (aN cp cs d1 d2),iv (an .i64 (d+1))] (iv v)) (hvz:aB v 0=vz)
  (t1:(if c3=true then vz else (!(c1||c2)&&z))=true->T .normal ((Cm (cC p sl e1 (.slice dd)) d i (an .i64 (k+1))).al cK))
  (t2:c3=true->vz=false->T .ret ((nf v).al cK)) (t3:c3=false->(!(c1||c2)&&z)=false->T .ret ((nf 2).al cK)) :
  KD (roundOf Tryz.f39 2) T ((Cm (cC p sl e1 (.slice dd)) d i k).al cK):=by
 have q2:=@QK false ek dn ar sk sn six _ con _ fu tk tn tix _ pa cp cs _ _ pk h1 h2 h3 h4 h5;have q3:=@Vo 10 ek dn ar sk sn six _ con _ fu tk tn tix _ pa cp cs _ _ pk h1 h2 h3 h4 h5;have q4:=@QL false 10 ek dn ar sk sn six da con df fu tk tn tix ta pa cp cs _ _ pk h4 h5;clear h1 h2 h3 h4 h5;refine aq [101,114,121,125,129] [98,107,110,111,100010,116,133] (H:=JB) (live:=ka) (oo hi (ob f0 (oo hi (oo hk (oo q2 (oo q3 (ob k3 ?_)))))))
 cases c3
 ·refine ob k1 ?_
  cases c1
  ·refine ob k2 ?_
   cases c2
   ·refine oo q4 (on hz ?_)
    cases z
    ·exact oe (t3 rfl rfl)
    exact oe (t1 rfl)
   exact oe (t3 rfl rfl)
  exact oe (t3 rfl rfl)
 refine oo q4 (on hv (ox hvz ?_))
 cases vz
 ·exact oe (t2 rfl rfl)
 exact oe (t1 rfl)
theorem abL {p sl d:Int} {e1:ak} {dd l:List ak} {i k:Int} {T:ej} (f0:aF k (ofNat l.length)=false)
  (hi:ap ba 24 [.dat (.slice dd),.dat (.flat (.int .i64 i))]=some ⟨.ref [.slice l],.keep⟩) (e:T (.exit 4) ((Ii (cC p sl e1 (.slice dd)) d i k).al cK)) :
  KD (roundOf Tryz.f39 2) T ((Cm (cC p sl e1 (.slice dd)) d i k).al cK):=by
 exact aq [101] [98] (H:=JB) (live:=ka) (oo hi (ob f0 (oe e)))
theorem aeL {p sl d i v:Int} {e1:ak} {dd:List ak} {z:Bool} {T:ej} (f0:aF i (ofNat dd.length)=true)
  (hl:KD (.loop (roundOf Tryz.f39 2)) (fun e q=>(e=.exit 4/\z=true/\∃k,q=(Ii (cC p sl e1 (.slice dd)) d i k).al cK)∨(e=.ret/\z=false/\q=(nf v).al cK)) ((Cm (cC p sl e1 (.slice dd)) d i 0).al cK))
  (t1:z=true->T .normal ((rR (cC p sl e1 (.slice dd)) d (an .i64 (i+1))).al cK)) (t2:z=false->T .ret ((nf v).al cK)) :
  KD (roundOf Tryz.f39 1) T ((rR (cC p sl e1 (.slice dd)) d i).al cK):=by
 refine aq [91] [] (H:=JB) (live:=ka) (ob f0 ?_);refine lo hl ?_;rintro ex s (⟨rfl,rfl,⟨x0,rfl⟩⟩|⟨rfl,rfl,rfl⟩)
 ·refine⟨_,rfl,?_⟩;exact oe (t1 rfl)
 refine⟨_,rfl,?_⟩;exact oe (t2 rfl)
theorem abM {p sl d i:Int} {e1:ak} {dd:List ak} {T:ej} (f0:aF i (ofNat dd.length)=false) (e:T (.exit 2) ((vq (cC p sl e1 (.slice dd)) d i).al cK)) :
  KD (roundOf Tryz.f39 1) T ((rR (cC p sl e1 (.slice dd)) d i).al cK):=by
 exact aq [91] [] (H:=JB) (live:=ka) (ob f0 (oe e))
theorem abN {p sl d:Int} {e1:ak} {T:ej} (e:T (.exit 2) ((vq (cC p sl e1 nl) d 0).al cK)) :
  KD (roundOf Tryz.f39 1) T ((rR (cC p sl e1 nl) d 0).al cK):=by
 refine aq [] [] (H:=JB) (live:=ka) ?_;exact oe e
theorem abG {p sl d:Int} {es dd:List ak} {c1 c2 c3 c4 c5 c6 c7 c8 ok tr z o12 o16 o19:Bool} {v:Int}
  (k1:aF 40 d=c1) (k2:aF 200 sl=c2) (k5:aF p 0=c5) (k6:aF 6 p=c6) (k7:aF sl p=c7) (k3:aF 2000 (ofNat es.length)=c3) (k4:aF 2000 (ofNat dd.length)=c4) (k8:aB (ofNat es.length) 0=c8)
  (hl:c8=false->KD (.loop (roundOf Tryz.f39 0)) (fun e q=>(e=.exit 0/\ok=true/\∃i,q=(DK (cC p sl (.slice es) (.slice dd)) d (ofNat es.length) i).al cK)∨(e=.ret/\ok=false/\q=(nf 2).al cK)) ((za (cC p sl (.slice es) (.slice dd)) d (ofNat es.length) 0).al cK))
  {op:Int} {lc:List ak} (hi:c8=false->ap ba 23 [.dat (.slice es),.dat (.flat (.int .i64 (an .i64 (ofNat es.length - 1))))]=some ⟨.ref (i64 op::lc),.keep⟩)
  (j1:aB op 12=o12) (j2:aB op 16=o16) (j3:aB op 19=o19) (hf:ok=true->ae 71 [.dat (aN p sl (.slice es) (.slice dd))] (bv tr))
  (he:c1=false->KD (.loop (roundOf Tryz.f39 1)) (fun e q=>(e=.exit 2/\z=true/\∃i,q=(vq (cC p sl (.slice es) (.slice dd)) d i).al cK)∨(e=.ret/\z=false/\q=(nf v).al cK)) ((rR (cC p sl (.slice es) (.slice dd)) d 0).al cK)) :
  ae 39 [.dat (aN p sl (.slice es) (.slice dd)),iv d] (iv (nt c1 c2 c3 c4 c5 c6 c7 c8 ok (o12||(o16||o19)) tr (if z=true then 0 else v))):=by
 have q5:=@aO false 2 p sl (.slice es) (.slice dd) (.inr ⟨_,rfl⟩) (.inr ⟨_,rfl⟩);refine co [13,17,23,29,36,40,47,51,74,77,81] [70,84] (x:=.of Tryz.f39 zY ka) ?_;refine ob k1 ?_
 cases c1
 ·refine ob k2 ?_
  cases c2
  ·refine ob k3 ?_
   cases c3
   ·refine ob k4 ?_
    cases c4
    ·refine ob k5 ?_
     cases c5
     ·refine ob k6 ?_
      cases c6
      ·refine ob k7 ?_
       cases c7
       ·refine ob k8 ?_
        cases c8
        ·refine lo (hl rfl) ?_;rintro ex s (⟨rfl,rfl,⟨x0,rfl⟩⟩|⟨rfl,rfl,rfl⟩)
         ·refine⟨_,rfl,?_⟩;refine oo (hi rfl) (ox j1 ?_)
          cases o12
          ·refine ox j2 ?_
           cases o16
           ·refine ox j3 ?_
            cases o19
            ·exact fi
            refine oo q5 (on (hf rfl) ?_)
            cases tr
            ·refine lo (he rfl) ?_;rintro ex s (⟨rfl,rfl,⟨x3,rfl⟩⟩|⟨rfl,rfl,rfl⟩) <;>
             ·refine⟨_,rfl,?_⟩;exact fi
            exact fi
           refine oo q5 (on (hf rfl) ?_)
           cases tr
           ·refine lo (he rfl) ?_;rintro ex s (⟨rfl,rfl,⟨x2,rfl⟩⟩|⟨rfl,rfl,rfl⟩) <;>
            ·refine⟨_,rfl,?_⟩;exact fi
           exact fi
          refine oo q5 (on (hf rfl) ?_)
          cases tr
          ·refine lo (he rfl) ?_;rintro ex s (⟨rfl,rfl,⟨x1,rfl⟩⟩|⟨rfl,rfl,rfl⟩) <;>
           ·refine⟨_,rfl,?_⟩;exact fi
          exact fi
         refine⟨_,rfl,?_⟩;exact fi
        exact fi
       exact fi
      exact fi
     exact fi
    exact fi
   exact fi
  exact fi
 exact fi
theorem abH {p sl d:Int} {es dd:List ak} {c1 c2 c3 c4 c5 c6 c7 c8 ok tr z o12 o16 o19:Bool} {v:Int}
  (k1:aF 40 d=c1) (k2:aF 200 sl=c2) (k5:aF p 0=c5) (k6:aF 6 p=c6) (k7:aF sl p=c7) (k3:aF 2000 (ofNat es.length)=c3) (k8:aB (ofNat es.length) 0=c8)
  (hl:c8=false->KD (.loop (roundOf Tryz.f39 0)) (fun e q=>(e=.exit 0/\ok=true/\∃i,q=(DK (cC p sl (.slice es) nl) d (ofNat es.length) i).al cK)∨(e=.ret/\ok=false/\q=(nf 2).al cK)) ((za (cC p sl (.slice es) nl) d (ofNat es.length) 0).al cK))
  {op:Int} {lc:List ak} (hi:c8=false->ap ba 23 [.dat (.slice es),.dat (.flat (.int .i64 (an .i64 (ofNat es.length - 1))))]=some ⟨.ref (i64 op::lc),.keep⟩)
  (j1:aB op 12=o12) (j2:aB op 16=o16) (j3:aB op 19=o19) (hf:ok=true->ae 71 [.dat (aN p sl (.slice es) nl)] (bv tr))
  (he:c1=false->KD (.loop (roundOf Tryz.f39 1)) (fun e q=>(e=.exit 2/\z=true/\∃i,q=(vq (cC p sl (.slice es) nl) d i).al cK)∨(e=.ret/\z=false/\q=(nf v).al cK)) ((rR (cC p sl (.slice es) nl) d 0).al cK)) :
  ae 39 [.dat (aN p sl (.slice es) nl),iv d] (iv (nt c1 c2 c3 false c5 c6 c7 c8 ok (o12||(o16||o19)) tr (if z=true then 0 else v))):=by
 have q5:=@aO false 2 p sl (.slice es) nl (.inr ⟨_,rfl⟩) (.inl rfl);refine co [13,17,23,36,40,47,51,74,77,81] [70,84] (x:=.of Tryz.f39 zY ka) ?_;refine ob k1 ?_
 cases c1
 ·refine ob k2 ?_
  cases c2
  ·refine ob k3 ?_
   cases c3
   ·refine ob k5 ?_
    cases c5
    ·refine ob k6 ?_
     cases c6
     ·refine ob k7 ?_
      cases c7
      ·refine ob k8 ?_
       cases c8
       ·refine lo (hl rfl) ?_;rintro ex s (⟨rfl,rfl,⟨x0,rfl⟩⟩|⟨rfl,rfl,rfl⟩)
        ·refine⟨_,rfl,?_⟩;refine oo (hi rfl) (ox j1 ?_)
         cases o12
         ·refine ox j2 ?_
          cases o16
          ·refine ox j3 ?_
           cases o19
           ·exact fi
           refine oo q5 (on (hf rfl) ?_)
           cases tr
           ·refine lo (he rfl) ?_;rintro ex s (⟨rfl,rfl,⟨x3,rfl⟩⟩|⟨rfl,rfl,rfl⟩) <;>
            ·refine⟨_,rfl,?_⟩;exact fi
           exact fi
          refine oo q5 (on (hf rfl) ?_)
          cases tr
          ·refine lo (he rfl) ?_;rintro ex s (⟨rfl,rfl,⟨x2,rfl⟩⟩|⟨rfl,rfl,rfl⟩) <;>
           ·refine⟨_,rfl,?_⟩;exact fi
          exact fi
         refine oo q5 (on (hf rfl) ?_)
         cases tr
         ·refine lo (he rfl) ?_;rintro ex s (⟨rfl,rfl,⟨x1,rfl⟩⟩|⟨rfl,rfl,rfl⟩) <;>
          ·refine⟨_,rfl,?_⟩;exact fi
         exact fi
        refine⟨_,rfl,?_⟩;exact fi
       exact fi
      exact fi
     exact fi
    exact fi
   exact fi
  exact fi
 exact fi
theorem abI {p sl d:Int} {es dd:List ak} {c1 c2 c3 c4 c5 c6 c7 c8 ok tr z o12 o16 o19:Bool} {v:Int}
  (k1:aF 40 d=c1) (k2:aF 200 sl=c2) (k5:aF p 0=c5) (k6:aF 6 p=c6) (k7:aF sl p=c7) (k4:aF 2000 (ofNat dd.length)=c4) :
  ae 39 [.dat (aN p sl nl (.slice dd)),iv d] (iv (nt c1 c2 false c4 c5 c6 c7 true false false false 0)):=by
 refine co [13,17,29,36,40,47] [] (x:=.of Tryz.f39 zY ka) ?_;refine ob k1 ?_
 cases c1
 ·refine ob k2 ?_
  cases c2
  ·refine ob k4 ?_
   cases c4
   ·refine ob k5 ?_
    cases c5
    ·refine ob k6 ?_
     cases c6
     ·refine ob k7 ?_
      cases c7 <;>
      ·exact fi
     exact fi
    exact fi
   exact fi
  exact fi
 exact fi
theorem abJ {p sl d:Int} {es dd:List ak} {c1 c2 c3 c4 c5 c6 c7 c8 ok tr z o12 o16 o19:Bool} {v:Int}
  (k1:aF 40 d=c1) (k2:aF 200 sl=c2) (k5:aF p 0=c5) (k6:aF 6 p=c6) (k7:aF sl p=c7) :
  ae 39 [.dat (aN p sl nl nl),iv d] (iv (nt c1 c2 false false c5 c6 c7 true false false false 0)):=by
 refine co [13,17,36,40,47] [] (x:=.of Tryz.f39 zY ka) ?_;refine ob k1 ?_
 cases c1
 ·refine ob k2 ?_
  cases c2
  ·refine ob k5 ?_
   cases c5
   ·refine ob k6 ?_
    cases c6
    ·refine ob k7 ?_
     cases c7 <;>
     ·exact fi
    exact fi
   exact fi
  exact fi
 exact fi
theorem Iz (c:gM):ae 20 [.dat c.enc,.dat (aN 0 0 nl nl)] (bv c.zero):=by
 obtain⟨pa,sl,iz,ins,ez,cD⟩:=c;have h1:ofNat (encI ins).length=ofNat ins.length:=by rw[bH]
 have h2:ofNat (aG cD).length=ofNat cD.length:=by rw[dJ]
 have key:∀(a b:ak),(a=.slice (encI ins)∨(a=nl/\ins=[]))->(b=.slice (aG cD)∨(b=nl/\cD=[]))->ae 20 [.dat (aN pa sl a b),.dat (aN 0 0 nl nl)] (bv (gM.zero (.mk pa sl iz ins ez cD))):=by
  rintro a b (rfl|⟨rfl,rfl⟩) (rfl|⟨rfl,rfl⟩)
  ·have:=@adD pa sl (encI ins) (aG cD) _ _ _ _ rfl rfl rfl rfl (fun h3 h4=>uS (fun e=>ZN (th h3) e)) (fun h3 h4=>uR (fun e=>ZJ (th h4) e))
   rw[h1,h2] at this;exact this
  ·have:=@adE pa sl (encI ins) [] _ _ _ true rfl rfl rfl (fun h3=>uS (fun e=>ZO (dd:=[]) (th h3) e)) (fun h3=>uR (fun e=>ZK (dd:=[]) e))
   rw[h1] at this;exact this
  ·have:=@adF pa sl [] (aG cD) _ _ true _ rfl rfl rfl (fun h4=>uS (fun e=>ZP (es:=[]) e)) (fun h4=>uR (fun e=>ZL (es:=[]) (th h4) e))
   rw[h2] at this;exact this
  exact @adG pa sl [] [] _ _ true true rfl rfl (uS (fun e=>ZQ (es:=[]) (dd:=[]) e)) (uR (fun e=>ZM (es:=[]) (dd:=[]) e))
 refine key (sx iz (encI ins)) (sx ez (aG cD)) ?_ ?_
 ·rcases jG iz (encI ins) with h|⟨h,h0⟩
  ·exact .inl h
  refine .inr ⟨h,?_⟩
  cases ins with
  | nil=>rfl
  | cons a r=>simp[encI] at h0
 rcases jG ez (aG cD) with h|⟨h,h0⟩
 ·exact .inl h
 refine .inr ⟨h,?_⟩
 cases cD with
 | nil=>rfl
 | cons a r=>simp[aG] at h0
theorem OY {p sl d:Int} {ins:List Ins} {ez:Bool} {ed:List ak} (hx:∀x∈ins,x.gN) (hn:ins.length < 1000000) :
  KD (.loop (roundOf Tryz.f39 0)) (fun e q=>(e=.exit 0/\ins.all (fun x=>iJ (ofNat ins.length) (ofNat ed.length) sl x)=true/\∃i,q=(DK (cC p sl (.slice (encI ins)) (sx ez ed)) d (ofNat (encI ins).length) i).al cK)∨(e=.ret/\ins.all (fun x=>iJ (ofNat ins.length) (ofNat ed.length) sl x)=false/\q=(nf 2).al cK))
   ((za (cC p sl (.slice (encI ins)) (sx ez ed)) d (ofNat (encI ins).length) 0).al cK):=by
 have hlen:(encI ins).length=ins.length:=bH ins;refine cV (St:=fun i=>(za (cC p sl (.slice (encI ins)) (sx ez ed)) d (ofNat (encI ins).length) (ofNat i)).al cK) (fun i=>ins.all (fun x=>iJ (ofNat ins.length) (ofNat ed.length) sl x)=(ins.drop i).all (fun x=>iJ (ofNat ins.length) (ofNat ed.length) sl x)) ins.length ?_ ?_ (i:=0) (Nat.zero_le _) rfl
 ·intro i hi hI;have hg:ins[i]?=some ins[i]:=List.getElem?_eq_getElem hi;have hm:ins[i]∈ins:=List.getElem_mem hi;have hd:(ins.drop i).all (fun x=>iJ (ofNat ins.length) (ofNat ed.length) sl x)=(iJ (ofNat ins.length) (ofNat ed.length) sl ins[i]&&(ins.drop (i+1)).all (fun x=>iJ (ofNat ins.length) (ofNat ed.length) sl x)):=by rw[List.drop_eq_getElem_cons hi];rfl
  generalize ins[i]=x at hg hd hm;rw[←hI] at hd;have hw:an .i64 (ofNat i+1)=ofNat (i+1):=bb (by omega);have hv:=@BQ p sl (encI ins) ed ez _ (hx x hm);rw[hlen] at hv;have hi2:=xn hg;generalize iJ (ofNat ins.length) (ofNat ed.length) sl x=b at hv hd;obtain⟨op,dst,a,b',im,nm,az,ar,⟨xk,tn,ix,la⟩,ck,ci,cs⟩:=x;refine aeJ (dq ez ed) (dq az (ar.map iN)) (dr (ax la)) (br (by rw[hlen];exact hi)) hi2 hv ?_ ?_
  ·rintro rfl;rw[hw];exact⟨rfl,hd⟩
  rintro rfl;exact .inr ⟨rfl,hd,rfl⟩
 intro hI;have h1:ins.all (fun x=>iJ (ofNat ins.length) (ofNat ed.length) sl x)=true:=by rw[hI,List.drop_length];rfl
 exact abK (cj (by rw[hlen];omega)) (.inl ⟨rfl,h1,_,rfl⟩)
def EdR (d:Nat) (e:fG):Prop:=match e with
 | .mk _ _ _ _ _ c _=>∀d1:Int,d1=an .i64 (ofNat d+1)->ae 39 [.dat c.enc,iv d1] (iv (c.val (d+1)))
theorem OZ {p sl:Int} {e1:ak} {d:Nat} {dd:List (List fG)} {i:Nat} {l:List fG} (hn:l.length < 1000000) (hi:dd[i]?=some l) (hv:∀e∈l,EdR d e) :
  KD (.loop (roundOf Tryz.f39 2)) (fun e q=>(e=.exit 4/\aB (uP l d) 0=true/\∃k,q=(Ii (cC p sl e1 (.slice (aG dd))) (ofNat d) (ofNat i) k).al cK)∨(e=.ret/\aB (uP l d) 0=false/\q=(nf (uP l d)).al cK))
   ((Cm (cC p sl e1 (.slice (aG dd))) (ofNat d) (ofNat i) 0).al cK):=by
 have hlen:(ir l).length=l.length:=xB l;have hie:=VT hi;refine cV (St:=fun k=>(Cm (cC p sl e1 (.slice (aG dd))) (ofNat d) (ofNat i) (ofNat k)).al cK) (fun k=>uP l d=uP (l.drop k) d) l.length ?_ ?_ (i:=0) (Nat.zero_le _) rfl
 ·intro k hk hI;have hg:l[k]?=some l[k]:=List.getElem?_eq_getElem hk;have hm:l[k]∈l:=List.getElem_mem hk;generalize l[k]=e at hg hm;rw[Hi hg] at hI;have hv1:=hv e hm;have hi2:=VS hg;have hw:an .i64 (ofNat k+1)=ofNat (k+1):=bb (by omega);obtain⟨ek,⟨dn,ar,⟨sk,sn,six,sa⟩,con,fl⟩,fu,⟨tk,tn,tix,ta⟩,pa,c,pk⟩:=e;have hc:ae 39 [.dat c.enc,iv (an .i64 (ofNat d+1))] (iv (c.val (d+1))):=hv1 _ rfl;have hz:=Iz c;rw[fG.yH] at hI;generalize c.val (d+1)=v at hc hI;generalize c.zero=z at hz hI;obtain⟨cp,cs,iz,ins,ez,cD⟩:=c;have hi3:ap ba _ [.dat (.slice (ir l)),.dat (.flat (.int .i64 (ofNat k)))]=some ⟨.ref [i64 ek,sb dn,i64 ar,i64 sk,sb sn,i64 six,Go.Proofs.YtmpmgmmcaghacaaGreatDoor.sl (ax sa),bl con,Go.Proofs.YtmpmgmmcaghacaaGreatDoor.sl (BZ fl),sb fu,i64 tk,sb tn,i64 tix,Go.Proofs.YtmpmgmmcaghacaaGreatDoor.sl (ax ta),i64 pa,i64 cp,i64 cs,sx iz (encI ins),sx ez (aG cD),sb pk],.keep⟩:=hi2;have h12:aB ek 2=true->aF ek 1=false/\aF 5 ek=false:=by
   intro h;rw[cN] at h
   have:ek=2:=by simpa using h
   subst this;exact⟨rfl,rfl⟩
  have hzc:ae 20 [.dat (aN cp cs (sx iz (encI ins)) (sx ez (aG cD))),.dat (aN 0 0 nl nl)] (bv z):=hz;have hvc:ae 39 [.dat (aN cp cs (sx iz (encI ins)) (sx ez (aG cD))),iv (an .i64 (ofNat d+1))] (iv v):=hc;have hE:uP l d=(if aB (sc (aF ek 1) (aF 5 ek) (aB ek 2) z v) 0=true then uP (l.drop (k+1)) d else sc (aF ek 1) (aF 5 ek) (aB ek 2) z v):=hI;generalize hb1:aF ek 1=b1 at hE h12;generalize hb2:aF 5 ek=b2 at hE h12;generalize hb3:aB ek 2=b3 at hE h12;refine aeK (dr _) (dr _) (dr _) (dq _ _) (dq _ _) (br (by rw[hlen];exact hk)) hie hi3 hb1 hb2 hb3 hzc hvc rfl ?_ ?_ ?_
  ·intro h;rw[hw];refine⟨rfl,?_⟩;rw[hE]
   cases b3
   ·have h:(!(b1||b2)&&z)=true:=h;simp only[Bool.and_eq_true,Bool.not_eq_true',Bool.or_eq_false_iff] at h;obtain⟨⟨rfl,rfl⟩,rfl⟩:=h
    have:sc false false false true v=0:=rfl
    rw[this];exact if_pos rfl
   obtain⟨rfl,rfl⟩:=h12 rfl;have h:aB v 0=true:=h
   have:sc false false true z v=v:=rfl
   rw[this,if_pos h]
  ·intro h h2;subst h;obtain⟨rfl,rfl⟩:=h12 rfl;have e:sc false false true z v=v:=rfl;rw[e,h2] at hE
   have:uP l d=v:=hE
   rw[this];exact .inr ⟨rfl,h2,rfl⟩
  intro h h2;subst h;have e:sc b1 b2 false z v=2:=by
   unfold sc
   cases b1 <;> cases b2 <;> cases z <;> simp_all
  rw[e] at hE
  have:uP l d=2:=hE
  rw[this];exact .inr ⟨rfl,rfl,rfl⟩
 intro hI;rw[List.drop_length] at hI;have h1:aB (uP l d) 0=true:=by rw[hI,uP];rfl
 exact abL (cj (by rw[hlen];omega)) hie (.inl ⟨rfl,h1,_,rfl⟩)
theorem O0 {p sl:Int} {e1:ak} {d:Nat} {dd:List (List fG)} (hn:dd.length < 1000000) (hl:∀l∈dd,l.length < 1000000) (hv:∀l∈dd,∀e∈l,EdR d e) :
  KD (.loop (roundOf Tryz.f39 1)) (fun e q=>(e=.exit 2/\aB (kB dd d) 0=true/\∃i,q=(vq (cC p sl e1 (.slice (aG dd))) (ofNat d) i).al cK)∨(e=.ret/\aB (kB dd d) 0=false/\q=(nf (kB dd d)).al cK))
   ((rR (cC p sl e1 (.slice (aG dd))) (ofNat d) 0).al cK):=by
 have hlen:(aG dd).length=dd.length:=dJ dd;refine cV (St:=fun k=>(rR (cC p sl e1 (.slice (aG dd))) (ofNat d) (ofNat k)).al cK) (fun k=>kB dd d=kB (dd.drop k) d) dd.length ?_ ?_ (i:=0) (Nat.zero_le _) rfl
 ·intro k hk hI;have hg:dd[k]?=some dd[k]:=List.getElem?_eq_getElem hk;have hm:dd[k]∈dd:=List.getElem_mem hk;generalize dd[k]=l at hg hm;rw[Db hg] at hI;have hw:an .i64 (ofNat k+1)=ofNat (k+1):=bb (by omega);have hF:=@OZ p sl e1 d _ _ _ (hl l hm) hg (hv l hm);refine aeL (br (by rw[hlen];exact hk)) hF ?_ ?_
  ·intro h;rw[hw];refine⟨rfl,?_⟩;rw[hI,h];rfl
  intro h;rw[h] at hI
  have:kB dd d=uP l d:=hI
  rw[this];exact .inr ⟨rfl,h,rfl⟩
 intro hI;rw[List.drop_length] at hI;have h1:aB (kB dd d) 0=true:=by rw[hI,kB];rfl
 exact abM (cj (by rw[hlen];omega)) (.inl ⟨rfl,h1,_,rfl⟩)
theorem Ov (op:Int):(lU (eO op)).fin=(aB op 12||(aB op 16||aB op 19)):=by
 by_cases h12:op=12
 ·subst h12;rfl
 by_cases h16:op=16
 ·subst h16;rfl
 by_cases h19:op=19
 ·subst h19;rfl
 rw[Ks h12 h16 h19,dL h12,dL h16,dL h19];rfl
theorem DX {pa sl:Int} {iz ez:Bool} {ins:List Ins} {cD:List (List fG)} {d:Nat} (hx:∀x∈ins,x.gN) (hn:ins.length < 1000000) (hne:cD.length < 1000000) (hl:∀l∈cD,l.length < 1000000)
  (hv:d<=40->∀l∈cD,∀e∈l,EdR d e) :
  ae 39 [.dat (gM.enc (.mk pa sl iz ins ez cD)),iv (ofNat d)] (iv (gM.val (.mk pa sl iz ins ez cD) d)):=by
 have h1:ofNat (encI ins).length=ofNat ins.length:=by rw[bH]
 have h2:ofNat (aG cD).length=ofNat cD.length:=by rw[dJ]
 have e0:gM.enc (.mk pa sl iz ins ez cD)=aN pa sl (sx iz (encI ins)) (sx ez (aG cD)):=rfl;rw[e0,gM.yH]
 rcases jG iz (encI ins) with hi|⟨hi,hi0⟩
 ·rw[hi];have hlI:=@OY pa sl (ofNat d) _ ez (aG cD) hx hn;rw[h2] at hlI;have hidx:∀c8:Bool,aB (ofNat ins.length) 0=c8->∃(op:Int) (lc:List ak),(c8=false->ap ba 23 [.dat (.slice (encI ins)),.dat (.flat (.int .i64 (an .i64 (ofNat (encI ins).length - 1))))]=some ⟨.ref (i64 op::lc),.keep⟩)/\oC ins=(aB op 12||(aB op 16||aB op 19)):=by
   intro c8 hc
   cases c8
   ·have hp:0 < ins.length:=by
     rcases Nat.eq_zero_or_pos ins.length with h|h
     ·rw[h] at hc;simp[cN] at hc
     exact h
    have hg:ins[ins.length - 1]?=some ins[ins.length - 1]:=List.getElem?_eq_getElem (by omega);have hw:an .i64 (ofNat (encI ins).length - 1)=ofNat (ins.length - 1):=by
     rw[h1,cQ,show ofNat ins.length - 1=ofNat (ins.length - 1) by simp;omega];exact wrap_i64 (by show _<=((ins.length - 1:Nat):Int);omega) (by show ((ins.length - 1:Nat):Int)<=_;omega)
    have hf:oC ins=(lU (eO ins[ins.length - 1].op)).fin:=by unfold oC;rw[hg]
    generalize ins[ins.length - 1]=x at hg hf;have hi2:=xn hg;rw[←hw] at hi2;obtain⟨op,dst,a,b',im,nm,az,ar,⟨xk,tn,ix,la⟩,ck,ci,cs⟩:=x;exact⟨op,_,fun _=>hi2,hf.trans (Ov op)⟩
   have:ins=[]:=by
    cases ins with
    | nil=>rfl
    | cons a r=>exact absurd hc (by simp[cN];omega)
   subst this;exact⟨0,[],fun h=>by simp at h,rfl⟩
  obtain⟨op,lc,hop,hfin⟩:=hidx _ rfl;have hfr:∀ok:Bool,ins.all (fun x=>iJ (ofNat ins.length) (ofNat cD.length) sl x)=ok->(ok=true->ae 71 [.dat (aN pa sl (.slice (encI ins)) (sx ez (aG cD)))] (bv (lO ins))):=by
   intro ok h1 h2;rw[h2] at h1;exact O7 (dq ez (aG cD)) (Gk h1) hn
  have hz:∀v:Int,(if aB v 0=true then (0:Int) else v)=v:=by
   intro v
   split
   ·rename_i h;rw[cN] at h;simpa using (beq_iff_eq.1 h).symm
   rfl
  rcases jG ez (aG cD) with he|⟨he,he0⟩
  ·rw[he] at hlI hfr ⊢;have hE:=fun hc:aF 40 (ofNat d)=false=>@O0 pa sl (.slice (encI ins)) d _ hne hl (hv (Gy hc))
   have:=abG (p:=pa) (sl:=sl) (d:=ofNat d) (es:=encI ins) (dd:=aG cD) rfl rfl rfl rfl rfl (by rw[h1]) (by rw[h2]) (by rw[h1]) (fun _=>hlI) hop rfl rfl rfl (hfr _ rfl) hE
   rw[hz,←hfin] at this;exact this
  rw[he] at hlI hfr ⊢;have hed:cD=[]:=by
   cases cD with
   | nil=>rfl
   | cons a r=>simp[aG] at he0
  subst hed;have hE2:KD (.loop (roundOf Tryz.f39 1)) (fun e q=>(e=.exit 2/\true=true/\∃i,q=(vq (cC pa sl (.slice (encI ins)) nl) (ofNat d) i).al cK)∨(e=.ret/\true=false/\q=(nf 0).al cK)) ((rR (cC pa sl (.slice (encI ins)) nl) (ofNat d) 0).al cK):=by
   refine bm (St:=fun _=>(rR (cC pa sl (.slice (encI ins)) nl) (ofNat d) 0).al cK) 0 (fun i hi=>absurd hi (by omega)) ?_ (i:=0) (Nat.le_refl _);exact abN (.inl ⟨rfl,rfl,_,rfl⟩)
  have:=@abH pa sl (ofNat d) (encI ins) [] _ _ _ true _ _ _ _ _ _ _ _ _ _ _ rfl rfl rfl rfl rfl (by rw[h1]) (by rw[h1]) (fun _=>hlI) _ _ hop rfl rfl rfl (hfr _ rfl) (fun _=>hE2)
  rw[←hfin] at this;exact this
 rw[hi];have hins:ins=[]:=by
  cases ins with
  | nil=>rfl
  | cons a r=>simp[encI] at hi0
 subst hins;have hh:∀c4:Bool,aF 2000 (ofNat cD.length)=c4->C0 d pa sl [] cD.length (kB cD d)=nt (aF 40 (ofNat d)) (aF 200 sl) false c4 (aF pa 0) (aF 6 pa) (aF sl pa) true false false false 0:=by
  intro c4 h;subst h;unfold C0 nt;have e1:aB (ofNat ([]:List Ins).length) 0=true:=rfl;have e2:aF 2000 (ofNat ([]:List Ins).length)=false:=rfl;rw[e1,e2];simp only[Bool.or_true,if_true]
 rw[hh _ rfl]
 rcases jG ez (aG cD) with he|⟨he,he0⟩
 ·rw[he]
  have:=@abI pa sl (ofNat d) [] (aG cD) _ _ true _ _ _ _ true true true true true true true 0 rfl rfl rfl rfl rfl rfl
  rw[h2] at this;exact this
 rw[he];have hed:cD=[]:=by
  cases cD with
  | nil=>rfl
  | cons a r=>simp[aG] at he0
 subst hed;exact @abJ pa sl (ofNat d) [] [] _ _ true true _ _ _ true true true true true true true 0 rfl rfl rfl rfl rfl
mutual
theorem nW:∀(c:gM) (d:Nat),c.ok->d<=41->ae 39 [.dat c.enc,iv (ofNat d)] (iv (c.val d))
 | .mk pa sl iz ins ez cD,d,h,hd=>by
  simp only[gM.ok] at h;obtain⟨h1,h2,h3,h4⟩:=h;exact DX h1 h2 h3 (fun l hl=>(Al h4 l hl).1) (fun hd2=>FW cD d h4 hd2)
theorem FW:∀(l:List (List fG)) (d:Nat),nj l->d<=40->∀x∈l,∀e∈x,EdR d e
 | [],_,_,_,x,hx,_,_=>by simp at hx
 | a::r,d,h,hd,x,hx,e,he=>by
  simp only[nj] at h
  rcases List.mem_cons.1 hx with hx|hx
  ·rw[hx] at he;exact KF a d h.2.1 hd e he
  exact FW r d h.2.2 hd x hx e he
theorem KF:∀(l:List fG) (d:Nat),Ss l->d<=40->∀e∈l,EdR d e
 | [],_,_,_,e,he=>by simp at he
 | a::r,d,h,hd,e,he=>by
  simp only[Ss] at h
  rcases List.mem_cons.1 he with he|he
  ·rw[he];exact Tq a d h.1 hd
  exact KF r d h.2 hd e he
theorem Tq:∀(e:fG) (d:Nat),e.ok->d<=40->EdR d e
 | .mk ek dc fu sg pa c pk,d,h,hd=>by
  simp only[fG.ok] at h;intro d1 hd1;have hw:an .i64 (ofNat d+1)=ofNat (d+1):=bb (by omega);rw[hd1,hw];exact nW c (d+1) h.2.2 (by omega)
end
theorem Vf {p s v:Int} {d1 d2:ak} (g1:dj d1) (g2:dj d2) (h:ae 38 [.dat (aN p s d1 d2),iv 1] (iv v)):ae 13 [.dat (aN p s d1 d2)] (iv v):=by
 have q1:=aS (p:=p) (s:=s) g1 g2;have q3:=aO false 1 (p:=p) (s:=s) g1 g2;clear g1 g2;refine co [] [1,3] (x:=.of Tryz.f13 P2 QG) ?_;exact oo q1 (oo q3 (on h fi))
theorem aal {p s v:Int} {d1 d2:ak} (g1:dj d1) (g2:dj d2) (h:ae 39 [.dat (aN p s d1 d2),iv 1] (iv v)):ae 14 [.dat (aN p s d1 d2)] (iv v):=by
 have q1:=aS (p:=p) (s:=s) g1 g2;have q3:=aO false 1 (p:=p) (s:=s) g1 g2;clear g1 g2;refine co [] [1,3] (x:=.of Tryz.f14 PV QF) ?_;exact oo q1 (oo q3 (on h fi))
theorem SH:ae 12 [] (bv true):=dE _ _ _ _ _ (by kernel_rfl)
def VX (l:List ak) (K:Int) (m:List ak) (K2:Int):Heap:=[(.out 1,.cells [.dat (.slice m),iv K2]),(.out 0,.cells [.dat (.slice l),iv K])]
theorem abW (l:List ak) (K:Int) (m:List ak):KC 10 [.dat (.slice m)] (cW l K) 1 (XQ ⟨.ptr (.out 1) 0,VX l K m 0,2⟩):=by
 have hf:=ay.frame (V2 (l:=m)) (fun o=>o) (heap:=cW l K) (rest:=cW l K) (next:=1) (List.Perm.refl _) rfl rfl rfl rfl;refine hf.mono ?_;rintro v' h' m' ⟨v0,h1,n1,⟨rfl,rfl,rfl⟩,rfl,rfl,rfl⟩;exact⟨rfl,rfl,rfl⟩
theorem S1 {l m:List ak} {K k k2:Int} {d d2:ak} (h:KC 11 [cq,.dat d] (cW m k) 1 (XQ ⟨.dat d2,cW m k2,1⟩)) :
  KC 11 [.ptr (.out 1) 0,.dat d] (VX l K m k) 2 (XQ ⟨.dat d2,VX l K m k2,2⟩):=by
 have e1:∀(k:Int) (ρ:Nat->Nat),ρ 0=1->jJ ρ (cW m k)=[(.out 1,.cells [.dat (.slice m),iv k])]:=by
  intro k ρ h0;simp[cW,jJ,pW,wX,il,fx,h0]
 have hf:=ay.frame h (fun _=>1) (heap:=VX l K m k) (rest:=cW l K) (next:=2) (by rw[e1 _ _ rfl];exact List.Perm.refl _) (by rfl) (by simp[gH,cW,BS,gZ,iq]) (by rfl) rfl;refine hf.mono ?_;rintro v' h' m' ⟨v0,h1,n1,⟨rfl,rfl,rfl⟩,rfl,rfl,rfl⟩;rw[e1 _ _ rfl];exact⟨rfl,rfl,rfl⟩
theorem XY {l m:List ak} {p s p2 s2 K K2 v v2:Int} {d1 d2 d3 d4:ak} (g1:dj d1) (g2:dj d2) (g3:dj d3) (g4:dj d4)
  (hc:KC 9 [cq,iv 2] (cW l 0) 1 (XQ ⟨.dat (aN p s d1 d2),cW l K,1⟩)) (hs:KC 11 [cq,.dat (aN p s d1 d2)] (cW m 0) 1 (XQ ⟨.dat (aN p2 s2 d3 d4),cW m K2,1⟩)) (hk:ae 12 [] (bv true))
  (h1:ae 13 [.dat (aN p s d1 d2)] (iv v)) (h2:ae 14 [.dat (aN p s d1 d2)] (iv v)) (h3:ae 13 [.dat (aN p2 s2 d3 d4)] (iv v2)) (h4:ae 14 [.dat (aN p2 s2 d3 d4)] (iv v2)) (he:aB v v=true) (he2:aB v2 v2=true) :
  ae 3 [.dat (.slice l),.dat (.slice m)] (bv true):=by
 have hN:=V2 (l:=l);have hM:=abW l K m;have hS:=S1 (l:=l) (K:=K) hs;have q3:=aO false 5 (p:=p) (s:=s) g1 g2;have q4:=yY 5 (p:=p) (s:=s) g1 g2;have q5:=aO false 6 (p:=p2) (s:=s2) g3 g4;have q6:=yY 6 (p:=p2) (s:=s2) g3 g4;clear g1 g2 g3 g4;refine co [20,27] [100005,12,100006,16,18,23,25] (x:=.of Tryz.f3 XA VO) ?_;exact oh hN (oh hc (oo q4 (oo q3 (oh hM (oh hS (oo q6 (on hk (oo q3 (oo q3 (on h1 (on h2 (ob he (oo q5 (oo q5 (on h3 (on h4 (ob he2 fi)))))))))))))))))
theorem XX {l m:List Int} (hl:l.length < 10000000) (hm:m.length < 10000000) (_hr:inR l) (hr2:inR m):ae 3 [.dat (.slice (l.map iN)),.dat (.slice (m.map iN))] (bv true):=by
 obtain⟨c,k2,hg,_,hc⟩:=Uz hl 0 (Nat.zero_le _);obtain⟨d,k3,hd,_,hs⟩:=Uw hm hr2 hg (Nat.zero_le _);have hok:=hg.ok;obtain⟨pa,s,iz,ins,ez,cD⟩:=c;obtain⟨pa2,s2,iz2,ins2,ez2,eds2⟩:=d;have hV:=oW _ 1 hok (by omega);have hR:=nW _ 1 hok (by omega);have hV2:=oW _ 1 hd (by omega);have hR2:=nW _ 1 hd (by omega);have g1:=dq iz (encI ins);have g2:=dq ez (aG cD);have g3:=dq iz2 (encI ins2);have g4:=dq ez2 (aG eds2);exact XY g1 g2 g3 g4 hc hs SH (Vf g1 g2 hV) (aal g1 g2 hR) (Vf g3 g4 hV2) (aal g3 g4 hR2) (eu _) (eu _)
end Go.Proofs.YtmpmgmmcaghacaaGreatDoor
namespace Go.Proofs.YtmpmgmmcaghacaaGreatDoor
open Go.ChangeShapes Go.WideShapes Go.ChangeAt Go.RowKit Go.Tp
open Go.ChangeMaps (open_string shut_string)
theorem own:ownKnob Tryz.prog.godebug=none:=by kernel_rfl
theorem kids:Kids Tryz.prog (· < Tryz.prog.types.size):=kids_rows (by kernel_rfl) (by kernel_rfl)
theorem full:∀t e,t < Tryz.prog.types.size->Tryz.prog.underlying t=some (.slice e)->0 < Tryz.prog.cellsOf e:=slices_full_of Tryz.prog (by kernel_rfl)
theorem MV:Tryz.prog.globalNamed "telpher/typeterm.reserved"=some 8:=by kernel_rfl
theorem GO:Tryz.prog.globalNamed "telpher/ir.primitives"=some 4:=by kernel_rfl
theorem X6:Tryz.prog.globalNamed "telpher/telmake.Funcs"=some 2:=by kernel_rfl
theorem GP:Tryz.prog.globalNamed "telpher/telmake.fieldNames"=some 3:=by kernel_rfl
theorem Q2:Tryz.prog.globalNamed "telpher/telmake.strings"=some 1:=by kernel_rfl
theorem JC:Tryz.prog.globalNamed "telpher/telmake.leafNames"=some 5:=by kernel_rfl
theorem M1:Tryz.prog.globalNamed "telpher/telmake.anyNames"=some 0:=by kernel_rfl
theorem Q4 {W:World} (h:laidMetH Tryz.prog Rows.irValidateUptoRow.laid W):∀g cs,cM g=some cs->eN W xl g 0 cs:=by
 have h':laidMet Tryz.prog Rows.irValidateUptoRow.laid W:=h;obtain⟨ps,⟨_,_,_,_,_,_,_,_,_,_,⟨_,_,_,_,_,_,_,_,_,_,⟨_,_,_,_,_,_,_,_,_,_,⟨g3,t3,cs3,fu3,p3,q3,a3,b3,c3,d3,⟨g4,t4,cs4,fu4,p4,q4,a4,b4,c4,d4,⟨g5,t5,cs5,fu5,p5,q5,a5,b5,c5,d5,⟨g6,t6,cs6,fu6,p6,q6,a6,b6,c6,d6,⟨g7,t7,cs7,fu7,p7,q7,a7,b7,c7,d7,⟨g8,t8,cs8,fu8,p8,q8,a8,b8,c8,d8,⟨g9,t9,cs9,fu9,p9,q9,a9,b9,c9,d9,_,_⟩,_⟩,_⟩,_⟩,_⟩,_⟩,_⟩,_⟩,_⟩,_⟩,_⟩:=h';intro g cs hg;unfold cM at hg
 split at hg
 ·obtain rfl:=Option.some.inj hg;exact jm (l:=HH) M1 (by kernel_rfl) Tryz.underlying70 Tryz.underlying9 (by kernel_rfl) (by decide) ⟨g9,t9,cs9,fu9,p9,a9,b9,c9,d9⟩
 ·obtain rfl:=Option.some.inj hg;exact jm (l:=H5) Q2 (by kernel_rfl) Tryz.underlying70 Tryz.underlying9 (by kernel_rfl) (by decide) ⟨g7,t7,cs7,fu7,p7,a7,b7,c7,d7⟩
 ·obtain rfl:=Option.some.inj hg;exact jm (l:=AP) X6 (by kernel_rfl) Tryz.underlying70 Tryz.underlying9 (by kernel_rfl) (by decide) ⟨g5,t5,cs5,fu5,p5,a5,b5,c5,d5⟩
 ·obtain rfl:=Option.some.inj hg;exact jm (l:=JK) GP (by kernel_rfl) Tryz.underlying70 Tryz.underlying9 (by kernel_rfl) (by decide) ⟨g6,t6,cs6,fu6,p6,a6,b6,c6,d6⟩
 ·obtain rfl:=Option.some.inj hg;exact jm (l:=Po) GO (by kernel_rfl) Tryz.underlying70 Tryz.underlying9 (by kernel_rfl) (by decide) ⟨g4,t4,cs4,fu4,p4,a4,b4,c4,d4⟩
 ·obtain rfl:=Option.some.inj hg;exact jm (l:=lq) JC (by kernel_rfl) Tryz.underlying70 Tryz.underlying9 (by kernel_rfl) (by decide) ⟨g8,t8,cs8,fu8,p8,a8,b8,c8,d8⟩
 ·obtain rfl:=Option.some.inj hg;exact jm (l:=tG) MV (by kernel_rfl) Tryz.underlying70 Tryz.underlying9 (by kernel_rfl) (by decide) ⟨g3,t3,cs3,fu3,p3,a3,b3,c3,d3⟩
 simp at hg
theorem one_le {H:Type} (d:DataW H):1<=Rows.uptoBulk d:=by
 cases d with
 | lit l=>cases l <;> simp[Rows.uptoBulk]
 | nil=>simp[Rows.uptoBulk]
 | ptr d=>simp[Rows.uptoBulk]
 | slice elems spare=>simp[Rows.uptoBulk]
 | agg parts=>simp[Rows.uptoBulk]
 | iface t d=>simp[Rows.uptoBulk]
 | map entries=>simp[Rows.uptoBulk]
 | held h=>simp[Rows.uptoBulk]
theorem Gx {H:Type}:∀l:List (DataW H),l.length<=Rows.uptoBulkAll l
 | []=>by simp[Rows.uptoBulkAll]
 | x::r=>by
  have h1:=one_le x;have h2:=Gx r;simp only[Rows.uptoBulkAll,List.length_cons];omega
theorem CL {H:Type} {d:DataW H}:∀{l:List (DataW H)},d∈l->Rows.uptoBulk d<=Rows.uptoBulkAll l
 | [],h=>by cases h
 | x::r,h=>by
  simp only[Rows.uptoBulkAll]
  rcases List.mem_cons.1 h with e|h
  ·subst e;omega
  have:=CL h;omega
theorem LW {H:Type} {l els rest:List (DataW H)} (hk:Rows.uptoSmall H l=true) (hm:DataW.slice els rest∈l):els.length<=1048576:=by
 have h:Rows.uptoBulkAll l<=1048576:=of_decide_eq_true hk;have h1:=CL hm;have h2:=Gx els;simp only[Rows.uptoBulk] at h1;omega
set_option maxRecDepth 100000 in
theorem RD (H:Type) (enc:TypeId×Value->H) (W:World) (base:Nat) (args:Array Value) (ds gs:List (DataW H)) (before:List MemPlace)
  (hval:∀(j:Nat) t v,Tryz.f3.params[j]?=some t->args[j]?=some v->Value.okWide Tryz.prog W .any base t v)
  (hW:DataW.Whole enc Tryz.prog Tryz.f3.params.toList Rows.irValidateSpec.vars false W args.toList ds gs before) (hL:laidMetH Tryz.prog Rows.irValidateUptoRow.laid W) (hk:Rows.uptoSmall H (ds++gs)=true) :
  Calls Tryz.prog 3 args W fun e W'=>∃v,e=.returned v/\Rows.irValidateSpec.post enc Tryz.prog Tryz.f3 false true false false W args v W':=by
 have hW':=hW;obtain⟨p,q,hA0,hV,rfl,hfz,hnd⟩:=hW;have hA:DataW.TrodAll enc Tryz.prog W 0 (fun _=>true) true Tryz.f3.params.toList args.toList ds p:=hA0;have hAk:=hA;rw[Tryz.params3] at hA hval;obtain⟨v0,vs0,d0,ds0,p0,q0,hargs,rfl,rfl,h0,r0⟩:=trodAll_cons hA;obtain⟨v1,vs1,d1,ds1,p1,q1,rfl,rfl,rfl,h1,r1⟩:=trodAll_cons r0;obtain⟨rfl,rfl,rfl⟩:=trodAll_nil r1;obtain rfl:args=#[v0,v1]:=by cases args;simp_all
 obtain⟨rfl,rfl⟩:=trodVars_none hV;obtain⟨a0,len0,cap0,hv0⟩:=okWide_slice Tryz.underlying22 (hval 0 22 v0 rfl rfl);obtain⟨l0,hd0,hi0,hr0⟩:=Dq (outs fun _=>none) Tryz.underlying22 Tryz.underlying3 (by kernel_rfl) (by rw[hv0];rfl) h0;obtain⟨a1,len1,cap1,hv1⟩:=okWide_slice Tryz.underlying22 (hval 1 22 v1 rfl rfl);obtain⟨l1,hd1,hi1,hr1⟩:=Dq (outs fun _=>none) Tryz.underlying22 Tryz.underlying3 (by kernel_rfl) (by rw[hv1];rfl) h1;have hb0:l0.length<=1048576:=by
  rcases hd0 with⟨_,e⟩|⟨els,rest,e,e2⟩
  ·rw[e];simp
  rw[←e2];exact LW (rest:=rest) hk (by rw[←e];simp)
 have hb1:l1.length<=1048576:=by
  rcases hd1 with⟨_,e⟩|⟨els,rest,e,e2⟩
  ·rw[e];simp
  rw[←e2];exact LW (rest:=rest) hk (by rw[←e];simp)
 refine (wz W (args:=[v0,v1]) (aD (b1:=[]) (b2:=[]) (hr0 (by unfold lim;omega)) (aD (b1:=[]) (b2:=[]) (hr1 (by unfold lim;omega)) aP)) (XX (by omega:l0.length < 10000000) (by omega:l1.length < 10000000) hi0 hi1 ) rfl (Q4 hL)).mono ?_;rintro e W' ⟨rfl,hkp,hB⟩;refine⟨_,rfl,?_⟩;simp only[List.append_nil] at hW' hAk;have hargs:=DataW.TrodAll.respare (spare':=fun b=>decide (b < W.heap.size)) kids full (by rw[Tryz.params3];decide) (yL hB hAk) (fun p hp=>by simpa using hW'.lt p hp);refine⟨_,_,_,[],_,[],hW',?_,hargs,rfl,World.keptBut_mono (fun p hp=>hp.elim) hkp,fun h=>by cases h⟩;exact trodAll_cons_mk (shut_bool Tryz.underlying4 _) trodAll_mk0
def aaT:List Int:=[0,1,28,2,29,14,24,3,30,22,20,15,25,17,4,8,31,27,13,23,21,19,16,7,26,12,18,6,11,5,10,9]
def aaS:List Int:=[0,1,56,2,57,49,28,3,61,58,42,50,38,29,17,4,62,47,59,36,45,43,51,22,53,39,33,30,24,18,12,5,63,55,48,27,60,41,37,16,46,35,44,21,52,32,23,11,54,26,40,15,34,20,31,10,25,14,19,9,13,8,7,6]
def Pp:Nat->Int->List Int
 | 0,_=>[]
 | n+1,k=>k::Pp n (k*10)
noncomputable def vT (os:Os):World:=
 let N:=(World.settled Tryz.prog os).heap.size
 let strs (l:List (List UInt8)):Array Value:=(l.map fun b=>Value.string ⟨⟨b⟩⟩).toArray
 let w0:=World.holding Tryz.prog os ⟨#[.cells (strs tG) 9,.cells (strs Po) 9,.cells (strs AP) 9,.cells (strs JK) 9,.cells (strs H5) 9,.cells (strs lq) 9,.cells (strs HH) 9],#[],[]⟩
 let put (h:Array Obj) (g:Nat) (cs:Array Value):Array Obj:=h.modify g fun
  | .cells _ t frozen=>.cells cs t frozen
  | o=>o
 let ints (k:IntKind) (l:List Int):Array Value:=(l.map fun i=>Value.int k i).toArray
 let h1:=put w0.heap 8 #[.slice (some ⟨N,0,none⟩) 5 5]
 let h2:=put h1 4 #[.slice (some ⟨N+1,0,none⟩) 8 8]
 let h3:=put h2 2 #[.slice (some ⟨N+2,0,none⟩) 3 3]
 let h4:=put h3 3 #[.slice (some ⟨N+3,0,none⟩) 6 6]
 let h5:=put h4 1 #[.slice (some ⟨N+4,0,none⟩) 6 6]
 let h6:=put h5 5 #[.slice (some ⟨N+5,0,none⟩) 4 4]
 let h7:=put h6 0 #[.slice (some ⟨N+6,0,none⟩) 11 11]
 let h8:=put h7 6 (ints .u64 (Pp 20 1))
 let h9:=put h8 9 (ints .u8 aaT)
 let h10:=put h9 10 (ints .u8 aaS)
 {w0 with heap:=h10 }
theorem QN (os:Os) (args:Array Value):laidMet Tryz.prog Rows.irValidateUptoRow.laid ((vT os).forCall (fun _ _=>0) ⟨#[],args,[]⟩).memory:=
 laidMet_of_run' 16 (by kernel_rfl) (by kernel_rfl)
noncomputable def NG:Array Value:=#[.slice none 0 0,.slice none 0 0]
theorem reads (os:Os) {H:Type} (enc:TypeId×Value->H):∃places,DataW.whole enc Tryz.prog ((vT os).forCall (fun _ _=>0) ⟨#[],NG,[]⟩).memory Tryz.f3.params.toList Rows.irValidateSpec.vars false NG.toList 8=some ([.nil,.nil],[],places):=
 ⟨[],by kernel_rfl⟩
set_option maxRecDepth 100000 in
theorem lifted (os:Os) (started:os.Started) (H:Type) (enc:TypeId×Value->H) (F:Stop.Interp) :
  ReturnsInHanded {} Tryz.checked os 3 .any ((Rows.OpenSpec.upto Rows.irValidateSpec).preRow enc Tryz.prog Tryz.f3 Rows.irValidateUptoRow.domain false Rows.irValidateUptoRow.laid) (((Rows.OpenSpec.upto Rows.irValidateSpec).at F).post enc Tryz.prog Tryz.f3 false true false false):=by
 obtain⟨places,hx⟩:=reads os enc;refine returnsInHanded_of_row (C:=Tryz.checked) (s:=(Rows.OpenSpec.upto Rows.irValidateSpec)) own started (by kernel_rfl) Tryz.func3
  (witness_row_atRef (enc:=enc) (C:=Tryz.checked) false (vT os) NG rfl (by kernel_rfl) (by kernel_rfl) (by kernel_rfl)
   (OpenSpec.preRow_of_cond 8 hx (by kernel_rfl) (fun k hk=>by cases hk;kernel_rfl) (by kernel_rfl) (QN os _))) ?_
 intro W base args ds gs before hval hW _ hcond _ hL _ _;exact RD H enc W base args ds gs before hval hW hL (hcond _ rfl)
end Go.Proofs.YtmpmgmmcaghacaaGreatDoor
namespace Go.Proofs.YtmpmgmmcaghacaaGreatDoor
open Go.ChangeShapes Go.WideShapes Go.ChangeAt Go.RowKit Go.Tp
set_option maxHeartbeats 4000000 in
set_option maxRecDepth 100000 in
theorem said:Rows.IrValidateUptoSaid:=
 OpenClaim.holds_of_cond 3 Tryz.f3 rfl rfl rfl rfl rfl rfl rfl ⟨rfl,rfl,rfl,rfl,rfl⟩ rfl rfl rfl rfl rfl (by as_aux_lemma=>kernel_rfl) Tryz.func3 (by as_aux_lemma=>kernel_rfl)
  (of_decide_eq_true (by as_aux_lemma=>kernel_rfl)) (by unfold Func.isWrapper;first|(rw[if_pos (by decide +kernel)];kernel_rfl)|(rw[if_neg (by decide +kernel)];exact⟨rfl,rfl⟩))
  (fun os started H enc _ F=>by rw[OpenClaim.pre_eq_preRow];exact lifted os started H enc F)
set_option maxRecDepth 100000 in
theorem plain (f:FuncId) (fn:Func) (hf:Tryz.pinned.checked.prog.funcNamed "telpher/tellaw13.IrValidate"=some f) (hfn:Tryz.pinned.checked.prog.funcs[f]?=some fn) :
  false=Tryz.pinned.checked.prog.looks []/\∀(j:Nat) t,fn.params[j]?=some t->Tryz.pinned.checked.prog.wantsStandIn t=false:=by
 obtain rfl:f=3:=Option.some.inj ((show Tryz.prog.funcNamed "telpher/tellaw13.IrValidate"=some 3 by kernel_rfl).symm.trans hf) |>.symm
 obtain rfl:fn=Tryz.f3:=(Option.some.inj (Tryz.func3.symm.trans hfn)).symm;refine⟨by kernel_rfl,fun j t ht=>?_⟩;rw[Tryz.params3] at ht;have w22:Tryz.prog.wantsStandIn 22=false:=by kernel_rfl
 have hm:=Array.mem_of_getElem? ht;have key:∀x∈([22,22]:List Nat),x=22:=by decide
 have h3:=key t (by simpa using hm)
 rcases h3 with rfl
 ·exact w22
theorem irValidate_card:Rows.IrValidateUptoCardSaid:=
 Claim7.holds_tied_plain_at .later [] _ _ _ _ said (fun _ h=>by cases h) (by kernel_rfl) (fun _ h=>by cases h) irValidateUpto_row_tie rfl ⟨rfl,rfl⟩ (by kernel_rfl) rfl plain (by kernel_rfl)
end Go.Proofs.YtmpmgmmcaghacaaGreatDoor
#print axioms Go.Proofs.YtmpmgmmcaghacaaGreatDoor.irValidate_card
