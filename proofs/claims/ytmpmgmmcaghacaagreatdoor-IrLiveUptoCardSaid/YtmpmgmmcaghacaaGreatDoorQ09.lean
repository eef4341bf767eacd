/- Part 9 of what the last text proves. -/
import Derived.Test.YtmpmgmmcaghacaaGreatDoorQ08
set_option linter.unusedVariables false
set_option linter.unusedSimpArgs false
open Int (ofNat)
set_option maxRecDepth 100000
set_option maxHeartbeats 4000000
namespace Go.Proofs.YtmpmgmmcaghacaaGreatDoor
open Go.Tp
noncomputable abbrev aoE:=Tryz.f25.ntmps
noncomputable abbrev amJ:=Tryz.f7.ntmps
noncomputable abbrev sJ:=Tryz.f137.ntmps
noncomputable abbrev qg:=Tryz.f94.ntmps
noncomputable abbrev nZ:=Tryz.f181.ntmps
noncomputable abbrev og:=Tryz.f106.ntmps
noncomputable abbrev fN:=Tryz.f153.ntmps
noncomputable abbrev jW:=Tryz.f109.ntmps
noncomputable abbrev An:=Tryz.f87.ntmps
noncomputable abbrev iG:=Tryz.f70.ntmps
noncomputable abbrev bO:=Tryz.f71.ntmps
noncomputable def hHI:Hints:=⟨bV,P8,bi,rowsOf bi 25⟩
def asv (l:ak) (n i:Int):ab:=⟨[(5,iv i),(0,.dat l),(1,iv n)],[],[],0⟩
def atH (l:ak) (n i:Int):ab:=⟨[(9,bv false),(5,iv i),(0,.dat l),(1,iv n)],[],[],0⟩
def au2:ab:=⟨[(4,bv true)],[],[],0⟩
theorem axu {d:List ak} {n i x:Int} {c:Bool} {T:ej} (o:aF i (ofNat d.length)=true) (a:ap ba 22 [.dat (.slice d),iv i]=some ⟨.ref [iN x],.keep⟩) (b:aB x n=c)
  (E:c=true->T .ret (au2.al aoE)) (F:c=false->T .normal ((asv (.slice d) n (an .i64 (i+1))).al aoE)) :
  KD (roundOf Tryz.f25 0) T ((asv (.slice d) n i).al aoE):=by
 refine aq [9,17] [14] (H:=hHI) (live:=aqG) (ob o (oo a (ob b ?_)))
 cases c
 ·exact oe (F rfl)
 exact oe (E rfl)
theorem axt {a:List ak} {n i:Int} {T:ej} (o:aF i (ofNat a.length)=false) (e:T (.exit 0) ((atH (.slice a) n i).al aoE)) :
  KD (roundOf Tryz.f25 0) T ((asv (.slice a) n i).al aoE):=by
 exact aq [9] [] (H:=hHI) (live:=aqG) (ob o (oe e))
theorem axv {n i:Int} {T:ej} (o:aF i 0=false) (e:T (.exit 0) ((atH nl n i).al aoE)) :
  KD (roundOf Tryz.f25 0) T ((asv nl n i).al aoE):=by
 exact aq [9] [] (H:=hHI) (live:=aqG) (ob o (oe e))
theorem aue {l:ak} {n:Int} {r:Bool} (a:KD (.loop (roundOf Tryz.f25 0)) (fun e q=>(e=.exit 0/\r=false/\∃i,q=(atH l n i).al aoE)∨(e=.ret/\r=true/\q=au2.al aoE)) ((asv l n 0).al aoE)) :
  ae 25 [.dat l,iv n] (bv r):=by
 refine co [] [] (x:=.of Tryz.f25 P8 aqG) ?_;refine lo a ?_;rintro b s (⟨rfl,rfl,⟨c,rfl⟩⟩|⟨rfl,rfl,rfl⟩)
 ·refine⟨_,rfl,?_⟩;exact fi
 refine⟨_,rfl,?_⟩;exact fi
noncomputable def hLi:Hints:=⟨bV,atS,bi,rowsOf bi 7⟩
def slL (lv:ak) (i:Int):Sl:=[(5,iv i),(4,.dat lv),(3,.ptr (.loc 3) 0)]
def slS (lv:ak) (i:Int) (c:ak) (b:Int) (d:Bool) (a:ak) (s:Int):Sl:=[(10,iv s),(9,.dat a),(8,bv d),(7,iv b),(6,.dat c),(5,iv i),(4,.dat lv),(3,.ptr (.loc 3) 0)]
def slK (lv:ak) (i:Int) (c:ak) (b:Int) (d:Bool) (a:ak) (s:Int) (w:Bool) (k:Int):Sl:=(12,iv k)::(11,bv w)::slS lv i c b d a s
section
variable {K i p s:Int} {T:ej} {a l:List ak} {w:Bool}
theorem axr {sl:Int} {r:List ak} {q t:ak} {n:Int} {m:Bool} {k:List ak} {h c:Bool} {f j:Int} {d:ak} (o:aF f (ofNat a.length)=true)
  (v:ap ba 22 [.dat (.slice a),iv f]=some ⟨.ref [iN j],.keep⟩) (b:ap ba 55 [.dat (.slice k),iv j]=some ⟨.ref [d],.keep⟩) (x:eB ba false 22 [.ref [d]] none=some ⟨.dat d,.keep⟩)
  (g:ae 25 [.dat d,iv s] (bv h)) (G:aB n s=c)
  (e:∀u,u=(w||(h&&!(m&&c)))->T .normal ((⟨slK (.slice k) i t n m (.slice a) s u (an .i64 (f+1)),amK (cC p sl (.slice r) q),cW l K,1⟩:ab).al amJ)) :
  KD (roundOf Tryz.f7 2) T ((⟨slK (.slice k) i t n m (.slice a) s w f,amK (cC p sl (.slice r) q),cW l K,1⟩:ab).al amJ):=by
 have E:=e _ rfl;refine aq [75,94] [83,85,86] (H:=hLi) (live:=apm) (ob o ?_)
 cases w
 ·refine oo v (oo b (oo x (on g ?_)))
  cases h
  ·exact oe E
  cases m
  ·exact oe E
  refine ob G ?_
  cases c <;>
  ·exact oe E
 exact oe E
theorem awF {sl:Int} {d:List ak} {b lv g:ak} {c:Int} {h:Bool} {f:Int} (o:aF f (ofNat a.length)=false)
  (e:T (.exit 4) ((⟨(75,bv false)::slK lv i g c h (.slice a) s w f,amK (cC p sl (.slice d) b),cW l K,1⟩:ab).al amJ)) :
  KD (roundOf Tryz.f7 2) T ((⟨slK lv i g c h (.slice a) s w f,amK (cC p sl (.slice d) b),cW l K,1⟩:ab).al amJ):=by
 exact aq [75] [] (H:=hLi) (live:=apm) (ob o (oe e))
theorem awG {sl:Int} {c:List ak} {a lv d:ak} {b:Int} {g:Bool} {f:Int} (o:aF f 0=false)
  (e:T (.exit 4) ((⟨(75,bv false)::slK lv i d b g nl s w f,amK (cC p sl (.slice c) a),cW l K,1⟩:ab).al amJ)) :
  KD (roundOf Tryz.f7 2) T ((⟨slK lv i d b g nl s w f,amK (cC p sl (.slice c) a),cW l K,1⟩:ab).al amJ):=by
 exact aq [75] [] (H:=hLi) (live:=apm) (ob o (oe e))
theorem axq {sl:Int} {n:List ak} {j c h:ak} {m:Int} {r:Bool} {w1:Bool} {d:ak} (o:aF s sl=true) (u:ae 25 [.dat c,iv s] (bv w))
  (t:KD (.loop (roundOf Tryz.f7 2)) (fun e q=>e=.exit 4/\∃k,q=(⟨(75,bv false)::slK (.slice a) i c m r h s w1 k,amK (cC p sl (.slice n) j),cW l K,1⟩:ab).al amJ) ((⟨slK (.slice a) i c m r h s w 0,amK (cC p sl (.slice n) j),cW l K,1⟩:ab).al amJ))
  (b:ap ba 55 [.dat (.slice a),iv i]=some ⟨.ref [d],.keep⟩) (f:eB ba false 22 [.ref [d]] none=some ⟨.dat d,.keep⟩) (g:ae 25 [.dat d,iv s] (bv w1))
  (e:T .normal ((⟨slS (.slice a) i c m r h (an .i64 (s+1)),amK (cC p sl (.slice n) j),cW l K,1⟩:ab).al amJ)) :
  KD (roundOf Tryz.f7 1) T ((⟨slS (.slice a) i c m r h s,amK (cC p sl (.slice n) j),cW l K,1⟩:ab).al amJ):=by
 refine aq [66] [102,103] (H:=hLi) (live:=apm) (ob o (on u ?_));refine lo t ?_;rintro v s ⟨rfl,⟨x,rfl⟩⟩;refine⟨_,rfl,?_⟩;refine oo b (oo f (on g ?_))
 cases w1 <;>
 ·exact oe e
theorem awE {sl:Int} {d:List ak} {b lv f a:ak} {c:Int} {g:Bool} (o:aF s sl=false)
  (e:T (.exit 2) ((⟨(66,bv false)::slS lv i f c g a s,amK (cC p sl (.slice d) b),cW l K,1⟩:ab).al amJ)) :
  KD (roundOf Tryz.f7 1) T ((⟨slS lv i f c g a s,amK (cC p sl (.slice d) b),cW l K,1⟩:ab).al amJ):=by
 exact aq [66] [] (H:=hLi) (live:=apm) (ob o (oe e))
theorem axs {sl:Int} {b:List ak} {c us g:ak} {dv:Int} {wr:Bool} {k:List ak} {d:ak} (h:dj c) (o:aF i (ofNat a.length)=true) (j:ap ba 23 [.dat (.slice b),iv i]=some ⟨.ref k,.keep⟩) (f:eB ba false 45 [.ref k] none=some ⟨.dat d,.keep⟩)
  (r:ae 24 [.dat d] (.dat us)) (D:ae 22 [.dat d] (.tup [iv dv,bv wr])) (n:ae 16 [.dat (aN p sl (.slice b) c),iv i] (.dat g))
  (m:KD (.loop (roundOf Tryz.f7 1)) (fun e q=>e=.exit 2/\∃s,q=(⟨(66,bv false)::slS (.slice a) i us dv wr g s,amK (cC p sl (.slice b) c),cW l K,1⟩:ab).al amJ) ((⟨slS (.slice a) i us dv wr g 0,amK (cC p sl (.slice b) c),cW l K,1⟩:ab).al amJ))
  (e:T .normal ((⟨slL (.slice a) (an .i64 (i+1)),amK (cC p sl (.slice b) c),cW l K,1⟩:ab).al amJ)) :
  KD (roundOf Tryz.f7 0) T ((⟨slL (.slice a) i,amK (cC p sl (.slice b) c),cW l K,1⟩:ab).al amJ):=by
 have t:=@aO false 3 p sl (.slice b) _ (.inr ⟨_,rfl⟩) h;clear h;refine aq [42] [48,49,55,56,60] (H:=hLi) (live:=apm) (ob o (oo j (oo f (on r (oo j (oo f (on D (oo t (on n ?_)))))))));refine lo m ?_;rintro u s ⟨rfl,⟨v,rfl⟩⟩;refine⟨_,rfl,?_⟩;exact oe e
theorem awH {sl:Int} {c:List ak} {b:ak} (o:aF i (ofNat a.length)=false) (e:T (.exit 0) ((⟨(42,bv false)::slL (.slice a) i,amK (cC p sl (.slice c) b),cW l K,1⟩:ab).al amJ)) :
  KD (roundOf Tryz.f7 0) T ((⟨slL (.slice a) i,amK (cC p sl (.slice c) b),cW l K,1⟩:ab).al amJ):=by
 exact aq [42] [] (H:=hLi) (live:=apm) (ob o (oe e))
end
variable {K M P d i k r v:Int} {S l:List ak} {b:List UInt8} {c:Bool} {t:Ty}
theorem avL {p sl:Int} {c:List ak} {d:ak} (h:dj d) (j:KC 9 [cq,iv 1] (cW l 0) 1 (XQ ⟨.dat (aN p sl (.slice c) d),cW l K,1⟩)) (k:ae 12 [] (bv true))
  (a:ae 13 [.dat (aN p sl (.slice c) d)] (iv v)) (b:ae 14 [.dat (aN p sl (.slice c) d)] (iv v)) (f:ae 21 [.dat (aN p sl (.slice c) d)] (.dat nl)) (V:aB v 0=false) (g:aB v v=true) :
  ae 7 [.dat (.slice l)] (bv true):=by
 have i:=V2 (l:=l);have e:=@aO false 3 p sl (.slice c) _ (.inr ⟨_,rfl⟩) h;have m:=@asV 3 p sl (.slice c) _ (.inr ⟨_,rfl⟩) h;refine co [25,29] [100003,16,21,23,27] (x:=.of Tryz.f7 atS apm) ?_;exact oh i (oh j (oo m (oo e (on f (on k (oo e (oo e (on a (on b (ox g (oo e (on b (ox V fi)))))))))))))
theorem auU {p sl:Int} {d c:List ak} {g:ak} (j:dj g) (m:KC 9 [cq,iv 1] (cW l 0) 1 (XQ ⟨.dat (aN p sl (.slice d) g),cW l K,1⟩)) (n:ae 12 [] (bv true))
  (a:ae 13 [.dat (aN p sl (.slice d) g)] (iv 0)) (b:ae 14 [.dat (aN p sl (.slice d) g)] (iv 0)) (f:ae 21 [.dat (aN p sl (.slice d) g)] (.dat (.slice c))) (o:aB (ofNat c.length) (ofNat d.length)=true)
  (O:KD (.loop (roundOf Tryz.f7 0)) (fun e q=>e=.exit 0/\∃i,q=(⟨(42,bv false)::slL (.slice c) i,amK (cC p sl (.slice d) g),cW l K,1⟩:ab).al amJ) ((⟨slL (.slice c) 0,amK (cC p sl (.slice d) g),cW l K,1⟩:ab).al amJ)) :
  ae 7 [.dat (.slice l)] (bv true):=by
 have k:=V2 (l:=l);have h:=@aO false 3 p sl (.slice d) _ (.inr ⟨_,rfl⟩) j;have r:=@asV 3 p sl (.slice d) _ (.inr ⟨_,rfl⟩) j;clear j;refine co [38] [100003,16,21,23,27] (x:=.of Tryz.f7 atS apm) ?_;refine oh k (oh m (oo r (oo h (on f (on n (oo h (oo h (on a (on b (oo h (on b (ox o ?_))))))))))));refine lo O ?_;rintro t s ⟨rfl,⟨u,rfl⟩⟩;refine⟨_,rfl,?_⟩;exact fi
theorem C2 (i:Int):ae 95 [iv i] (.dat (Ty.mk 5 [] i []).enc):=by
 refine co [] [] (x:=.of Tryz.f95 P8 Qv) ?_;exact fi
theorem C3:ae 104 [] (.dat (Ty.mk 0 [] 0 []).enc):=by
 refine co [] [] (x:=.of Tryz.f104 P8 Eo) ?_;exact fi
theorem Ux:ae 140 [] (.dat (Ty.mk 1 [] 0 []).enc):=by
 refine co [] [] (x:=.of Tryz.f140 P8 Eo) ?_;exact fi
theorem qq (n:List UInt8):ae 96 [.dat (sb n),.dat nl] (.dat (Ty.mk 2 n 0 []).enc):=by
 refine co [] [] (x:=.of Tryz.f96 P8 Qu) ?_;exact fi
theorem AO (n:List UInt8) (x:ak) (l:List ak):ae 96 [.dat (sb n),.dat (.slice (x::l))] (.dat (.agg [i64 2,sb n,i64 0,.slice (x::l)])):=by
 refine co [] [] (x:=.of Tryz.f96 P8 Qu) ?_;exact fi
theorem LK (x:ak) (l:List ak):ae 138 [.dat (.slice (x::l))] (.dat (.agg [i64 4,sb [],i64 0,.slice (x::l)])):=by
 refine co [] [] (x:=.of Tryz.f138 P8 Qv) ?_;exact fi
theorem qs (t u:Ty):ae 139 [.dat t.enc,.dat u.enc] (.dat (Ty.mk 6 [] 0 [t,u]).enc):=by
 refine co [] [] (x:=.of Tryz.f139 P8 Ls) ?_;obtain⟨k,l,m,i⟩:=t
 rcases i with _|⟨b,c⟩
 ·obtain⟨n,o,p,j⟩:=u
  rcases j with _|⟨q,r⟩ <;>
  ·exact fi
 obtain⟨d,e,f,a⟩:=u
 rcases a with _|⟨g,h⟩ <;>
 ·exact fi
theorem Ro {L:List (List UInt8)} {i:Nat} (h:L[i]?=some b):(encS L)[i]?=some (sb b):=by simp[encS,h,sb]
noncomputable def tiS:TI:=match Go.Tp.elemOf ba 70 with|some t=>t|none=>default
theorem Wz:Go.Tp.elemOf ba 70=some tiS:=by kernel_rfl
theorem Fa:tiS.size=1:=by kernel_rfl
theorem uB {L:List (List UInt8)} {i:Nat} (h:L[i]?=some b):ap ba 70 [.dat (.slice (encS L)),.dat (.flat (.int .i64 (ofNat i)))]=some ⟨.ref [sb b],.keep⟩:=
 pd Wz rfl (Ro h) (by rfl) (by decide)
theorem VU {l:List vh} {i:Nat} {t:vh} (h:l[i]?=some t):ap ba 112 [.dat (.slice (lJ l)),.dat (.flat (.int .i64 (ofNat i)))]=some ⟨.ref t.cells,.keep⟩:=
 pd WA rfl (Rt h) (by exact ZB t) (by decide)
theorem Qk (a:KC 32 [cq,iv (an .i64 (ofNat S.length+4))] (cW l k) 1 (XQ ⟨iv r,cW l K,1⟩)) (c:aF r 4=true)
  (i:ap ba 70 [.dat (.slice (encS lq)),.dat (.flat (.int .i64 r))]=some ⟨.ref [sb b],.keep⟩) :
  KC 137 [cq,.dat (.slice S),iv P,iv v] (cW l k) 1 (XQ ⟨.dat (Ty.mk 2 b 0 []).enc,cW l K,1⟩):=by
 have f:=qq b;refine co [19] [22] (x:=.of Tryz.f137 Af uh) ?_;exact oh a (ob c (oo i (on f fi)))
noncomputable def QY:Hints:=⟨bV,Af,bi,rowsOf bi 137⟩
def XG (lo:Heap) (n:List UInt8) (a:List Ty):Heap:=(.loc 11,.cells [iv 2,.dat (sb n),iv 0,abQ a])::lo
def Ji (c:List ac):Heap:=[(.loc 10,.cells c),(.loc 8,.cells [iv 0,.dat (sb []),iv 0,.dat nl])]
def Oe (lo:Heap) (l S:List ak) (P v K i:Int):ab:=⟨[(12,iv i),(11,.ptr (.loc 11) 0),(10,.ptr (.loc 10) 0),(8,.ptr (.loc 8) 0),(0,cq),(1,.dat (.slice S)),(2,iv P),(3,iv v)],lo,cW l K,1⟩
def Vq (lo:Heap) (l S:List ak) (P v K i:Int):ab:=⟨[(36,bv false),(12,iv i),(11,.ptr (.loc 11) 0),(10,.ptr (.loc 10) 0),(8,.ptr (.loc 8) 0),(0,cq),(1,.dat (.slice S)),(2,iv P),(3,iv v)],lo,cW l K,1⟩
theorem Qg {h u f j:Int} {n o:List UInt8} {m:Bool} {k c:List ak} {g:List Ty} (a:aF i u=true)
  (b:KC 173 [cq,.dat (.slice S),iv (an .i64 (P - 1)),iv v] (cW l K) 1 (XQ ⟨.dat t.enc,cW l h,1⟩)) (w:g.length < 1000000000) {T:ej}
  (e:T .normal ((Oe (XG (Ji (cellsD n u f o j k m c)) n (g++[t])) l S P v h (an .i64 (i+1))).al sJ)) :
  KD (roundOf Tryz.f137 0) T ((Oe (XG (Ji (cellsD n u f o j k m c)) n g) l S P v K i).al sJ):=by
 have p:=U5 (t:=t) w;rcases g with _|⟨d,r⟩ <;>
 ·refine aq [36] [48] (H:=QY) (live:=uh) (ob a (oh b ?_));obtain⟨q,s,x,y⟩:=t;exact oo p (oe e)
theorem TC {u f g:Int} {n t:List UInt8} {j:Bool} {h c:List ak} {b:List Ty} (a:aF i u=false) {T:ej}
  (e:T (.exit 0) ((Vq (XG (Ji (cellsD n u f t g h j c)) n b) l S P v K i).al sJ)) :
  KD (roundOf Tryz.f137 0) T ((Oe (XG (Ji (cellsD n u f t g h j c)) n b) l S P v K i).al sJ):=by
 rcases b with _|⟨d,r⟩ <;>
 ·exact aq [36] [] (H:=QY) (live:=uh) (ob a (oe e))
theorem Ql {n g:List UInt8} {u f c ie:Int} {d:Bool} {la lb:List ak} {h:List Ty} (a:KC 32 [cq,iv (an .i64 (ofNat S.length+4))] (cW l k) 1 (XQ ⟨iv r,cW l K,1⟩)) (b:aF r 4=false)
  (i:ap ba 112 [.dat (.slice S),.dat (.flat (.int .i64 (an .i64 (r - 4))))]=some ⟨.ref [sb n,i64 u,i64 f,sb g,i64 c,sl la,bl d,sl lb],.keep⟩)
  (j:KD (.loop (roundOf Tryz.f137 0)) (fun e s=>e=.exit 0/\s=(Vq (XG (Ji (cellsD n u f g c la d lb)) n h) l S P v M ie).al sJ) ((Oe (XG (Ji (cellsD n u f g c la d lb)) n []) l S P v K 0).al sJ)) :
  KC 137 [cq,.dat (.slice S),iv P,iv v] (cW l k) 1 (XQ ⟨.dat (Ty.mk 2 n 0 h).enc,cW l M,1⟩):=by
 have m:=SV 10 n u f g c la d lb
 rcases h with _|⟨t,h⟩ <;>
 ·refine co [19] [28,100010] (x:=.of Tryz.f137 Af uh) ?_;refine oh a (ob b (oo i (oo m ?_)));refine lo j ?_;rintro o s ⟨rfl,rfl⟩;refine⟨_,rfl,?_⟩;exact fi
theorem U3 (a:KC 32 [cq,iv 6] (cW l k) 1 (XQ ⟨iv r,cW l K,1⟩)) (b:aF r 2=true) (f:aF 0 v=true) (g:KC 32 [cq,iv v] (cW l K) 1 (XQ ⟨iv i,cW l M,1⟩)) :
  KC 173 [cq,.dat (.slice S),iv P,iv v] (cW l k) 1 (XQ ⟨.dat (Ty.mk 5 [] i []).enc,cW l M,1⟩):=by
 have G:=C2 i;refine co [14,17] [] (x:=.of Tryz.f173 qa oy) ?_;exact oh a (ob b (ob f (oh g (on G fi))))
theorem Sd {q:Bool} (a:KC 32 [cq,iv 6] (cW l k) 1 (XQ ⟨iv r,cW l K,1⟩)) (d:aF r 2=q) (f:aF 0 v=c) (e:q=true->c=false) (D:aF 0 P=false) (g:KC 32 [cq,iv 4] (cW l K) 1 (XQ ⟨iv i,cW l M,1⟩))
  (h:ap ba 70 [.dat (.slice (encS lq)),.dat (.flat (.int .i64 i))]=some ⟨.ref [sb b],.keep⟩) :
  KC 173 [cq,.dat (.slice S),iv P,iv v] (cW l k) 1 (XQ ⟨.dat (Ty.mk 2 b 0 []).enc,cW l M,1⟩):=by
 have G:=qq b
 cases q
 ·refine co [14,25] [29] (x:=.of Tryz.f173 qa oy) ?_;exact oh a (ob d (ox D (oh g (oo h (on G fi)))))
 obtain rfl:=e rfl;refine co [14,17,25] [29] (x:=.of Tryz.f173 qa oy) ?_;exact oh a (ob d (ob f (ox D (oh g (oo h (on G fi))))))
theorem Nt {q d:Bool} (a:KC 32 [cq,iv 6] (cW l k) 1 (XQ ⟨iv r,cW l K,1⟩)) (b:aF r 2=q) (f:aF 0 v=d) (e:q=true->d=false) (D:aF 0 P=true) (g:aF r 4=true)
  (G:KC 137 [cq,.dat (.slice S),iv P,iv v] (cW l K) 1 (XQ ⟨.dat t.enc,cW l M,1⟩)) :
  KC 173 [cq,.dat (.slice S),iv P,iv v] (cW l k) 1 (XQ ⟨.dat t.enc,cW l M,1⟩):=by
 obtain⟨i,j,h,c⟩:=t
 cases q
 ·rcases c with _|⟨x,c⟩ <;>
  ·refine co [14,25,34] [] (x:=.of Tryz.f173 qa oy) ?_;exact oh a (ob b (ox D (ob g (oh G fi))))
 obtain rfl:=e rfl
 rcases c with _|⟨x,c⟩ <;>
 ·refine co [14,17,25,34] [] (x:=.of Tryz.f173 qa oy) ?_;exact oh a (ob b (ob f (ox D (ob g (oh G fi)))))
theorem Sb (a:KC 32 [cq,iv 6] (cW l k) 1 (XQ ⟨iv r,cW l K,1⟩)) (b:aF r 2=false) (D:aF 0 P=true) (g:aF r 4=false)
  (G:KC 94 [cq,.dat (.slice S),iv (an .i64 (P - 1)),iv 0] (cW l K) 1 (XQ ⟨.dat t.enc,cW l M,1⟩)) :
  KC 173 [cq,.dat (.slice S),iv P,iv v] (cW l k) 1 (XQ ⟨.dat t.enc,cW l M,1⟩):=by
 obtain⟨e,f,d,c⟩:=t
 rcases c with _|⟨x,c⟩ <;>
 ·refine co [14,25,34] [] (x:=.of Tryz.f173 qa oy) ?_;exact oh a (ob b (ox D (ob g (oh G fi))))
abbrev dR (l:List ak) (k n r K:Int):Prop:=KC 32 [cq,iv n] (cW l k) 1 (XQ ⟨iv r,cW l K,1⟩)
abbrev eC (l S:List ak) (P v k:Int) (d:ak) (K:Int):Prop:=KC 94 [cq,.dat (.slice S),iv P,iv v] (cW l k) 1 (XQ ⟨.dat d,cW l K,1⟩)
abbrev wP (l S:List ak) (P v k:Int) (d:ak) (K:Int):Prop:=KC 137 [cq,.dat (.slice S),iv P,iv v] (cW l k) 1 (XQ ⟨.dat d,cW l K,1⟩)
theorem yR (a:dR l k 14 0 K) (d:aF 0 P=c) (g:dR l K 4 i M)
  (e:ap ba 70 [.dat (.slice (encS lq)),.dat (.flat (.int .i64 i))]=some ⟨.ref [sb b],.keep⟩):eC l S P v k (Ty.mk 2 b 0 []).enc M:=by
 have G:=qq b;refine co [17] [29] (x:=.of Tryz.f94 gd eF) ?_;refine oh a (ox d ?_)
 cases c <;>
 ·exact oh g (oo e (on G fi))
theorem yQ (a:dR l k 14 1 K) (d:aF 0 P=c) (g:dR l K 4 i M)
  (e:ap ba 70 [.dat (.slice (encS lq)),.dat (.flat (.int .i64 i))]=some ⟨.ref [sb b],.keep⟩):eC l S P v k (Ty.mk 2 b 0 []).enc M:=by
 have G:=qq b;refine co [17] [29] (x:=.of Tryz.f94 gd eF) ?_;refine oh a (ox d ?_)
 cases c <;>
 ·exact oh g (oo e (on G fi))
theorem atd (a:dR l k 14 r K) (c:aF 0 P=false) (f:aF 5 r=true) (g:dR l K 4 i M)
  (d:ap ba 70 [.dat (.slice (encS lq)),.dat (.flat (.int .i64 i))]=some ⟨.ref [sb b],.keep⟩):eC l S P v k (Ty.mk 2 b 0 []).enc M:=by
 have G:=qq b;refine co [17,20] [29] (x:=.of Tryz.f94 gd eF) ?_;exact oh a (ox c (ob f (oh g (oo d (on G fi)))))
theorem Fh (a:dR l k 14 2 K) (b:aF 0 P=c):eC l S P v k (Ty.mk 0 [] 0 []).enc K:=by
 have G:=C3;refine co [17] [] (x:=.of Tryz.f94 gd eF) ?_;refine oh a (ox b ?_)
 cases c <;>
 ·exact on G fi
theorem Cd (a:dR l k 14 3 K) (b:aF 0 P=c) (f:aF 0 v=true) (g:dR l K v i M):eC l S P v k (Ty.mk 5 [] i []).enc M:=by
 have G:=C2 i;refine co [17,39] [] (x:=.of Tryz.f94 gd eF) ?_;refine oh a (ox b ?_)
 cases c <;>
 ·exact ob f (oh g (on G fi))
theorem Cg (a:dR l k 14 3 K) (b:aF 0 P=c) (f:aF 0 v=false) (g:wP l S P v K t.enc M):eC l S P v k t.enc M:=by
 obtain⟨h,i,e,d⟩:=t
 rcases d with _|⟨x,d⟩ <;>
 ·refine co [17,39] [] (x:=.of Tryz.f94 gd eF) ?_;refine oh a (ox b ?_)
  cases c <;>
  ·exact ob f (oh g fi)
theorem Cc (a:dR l k 14 4 K) (b:aF 0 P=c) (f:aF 0 v=true) (g:dR l K v i M):eC l S P v k (Ty.mk 5 [] i []).enc M:=by
 have G:=C2 i;refine co [17,39] [] (x:=.of Tryz.f94 gd eF) ?_;refine oh a (ox b ?_)
 cases c <;>
 ·exact ob f (oh g (on G fi))
theorem Cf (a:dR l k 14 4 K) (b:aF 0 P=c) (f:aF 0 v=false) (g:wP l S P v K t.enc M):eC l S P v k t.enc M:=by
 obtain⟨h,i,e,d⟩:=t
 rcases d with _|⟨x,d⟩ <;>
 ·refine co [17,39] [] (x:=.of Tryz.f94 gd eF) ?_;refine oh a (ox b ?_)
  cases c <;>
  ·exact ob f (oh g fi)
theorem Ce (a:dR l k 14 5 K) (b:aF 0 P=c) (g:wP l S P v K t.enc M):eC l S P v k t.enc M:=by
 obtain⟨f,h,e,d⟩:=t
 rcases d with _|⟨x,d⟩ <;>
 ·refine co [17] [] (x:=.of Tryz.f94 gd eF) ?_;refine oh a (ox b ?_)
  cases c <;>
  ·exact oh g fi
theorem L5 (a:dR l k 14 6 K) (b:aF 0 P=true) (g:wP l S P v K t.enc M):eC l S P v k t.enc M:=by
 obtain⟨e,f,d,c⟩:=t
 rcases c with _|⟨x,c⟩ <;>
 ·refine co [17] [] (x:=.of Tryz.f94 gd eF) ?_;exact oh a (ox b (oh g fi))
theorem L4 (a:dR l k 14 7 K) (b:aF 0 P=true) (g:wP l S P v K t.enc M):eC l S P v k t.enc M:=by
 obtain⟨e,f,d,c⟩:=t
 rcases c with _|⟨x,c⟩ <;>
 ·refine co [17] [] (x:=.of Tryz.f94 gd eF) ?_;exact oh a (ox b (oh g fi))
theorem NX {u:Ty} (a:dR l k 14 8 K) (b:aF 0 P=true) (g:eC l S (an .i64 (P - 1)) v K t.enc M) (G:eC l S (an .i64 (P - 1)) v M u.enc d):eC l S P v k (Ty.mk 4 [] 0 [t,u]).enc d:=by
 have f:=LK t.enc [u.enc];obtain⟨i,j,h,c⟩:=t;obtain⟨n,o,m,e⟩:=u
 rcases c with _|⟨x,c⟩ <;>
 ·rcases e with _|⟨y,e⟩ <;>
  ·refine co [17] [] (x:=.of Tryz.f94 gd eF) ?_;exact oh a (ox b (oh g (oh G (on f fi))))
theorem NW {u:Ty} (a:dR l k 14 9 K) (b:aF 0 P=true) (g:eC l S (an .i64 (P - 1)) v K t.enc M) (G:eC l S (an .i64 (P - 1)) v M u.enc d):eC l S P v k (Ty.mk 4 [] 0 [t,u]).enc d:=by
 have f:=LK t.enc [u.enc];obtain⟨i,j,h,c⟩:=t;obtain⟨n,o,m,e⟩:=u
 rcases c with _|⟨x,c⟩ <;>
 ·rcases e with _|⟨y,e⟩ <;>
  ·refine co [17] [] (x:=.of Tryz.f94 gd eF) ?_;exact oh a (ox b (oh g (oh G (on f fi))))
noncomputable def VV:Hints:=⟨bV,gd,bi,rowsOf bi 94⟩
def ab0 (a:List Ty):Heap:=[(.loc 10,.cells [iv 3,.dat (sb []),iv 0,abQ a]),(.loc 8,.cells [iv 0,.dat (sb []),iv 0,.dat nl])]
def Ig (l S:List ak) (P v n K i:Int) (a:List Ty):ab:=⟨[(12,iv i),(11,iv n),(10,.ptr (.loc 10) 0),(8,.ptr (.loc 8) 0),(0,cq),(1,.dat (.slice S)),(2,iv P),(3,iv v)],ab0 a,cW l K,1⟩
def Ko (l S:List ak) (P v n K i:Int) (a:List Ty):ab:=⟨[(83,bv false),(12,iv i),(11,iv n),(10,.ptr (.loc 10) 0),(8,.ptr (.loc 8) 0),(0,cq),(1,.dat (.slice S)),(2,iv P),(3,iv v)],ab0 a,cW l K,1⟩
theorem NR {n g:Int} {c:List Ty} (a:aF i n=true) (b:eC l S (an .i64 (P - 1)) v K t.enc g) (w:c.length < 1000000000) {T:ej}
  (e:T .normal ((Ig l S P v n g (an .i64 (i+1)) (c++[t])).al qg)) :
  KD (roundOf Tryz.f94 0) T ((Ig l S P v n K i c).al qg):=by
 have f:=U5 (t:=t) w;rcases c with _|⟨d,r⟩ <;>
 ·refine aq [83] [95] (H:=VV) (live:=eF) (ob a (oh b ?_));obtain⟨h,j,k,m⟩:=t;exact oo f (oe e)
theorem SN {n:Int} {b:List Ty} (a:aF i n=false) {T:ej}
  (e:T (.exit 1) ((Ko l S P v n K i b).al qg)) :
  KD (roundOf Tryz.f94 0) T ((Ig l S P v n K i b).al qg):=by
 rcases b with _|⟨d,r⟩ <;>
 ·exact aq [83] [] (H:=VV) (live:=eF) (ob a (oe e))
theorem HY {n h:Int} {c:List Ty} (a:dR l k 14 10 K) (b:aF 0 P=true) (g:dR l K 4 n M)
  (f:KD (.loop (roundOf Tryz.f94 0)) (fun e s=>e=.exit 1/\s=(Ko l S P v n d h c).al qg) ((Ig l S P v n M 0 []).al qg)):eC l S P v k (Ty.mk 3 [] 0 c).enc d:=by
 rcases c with _|⟨x,i⟩ <;>
 ·refine co [17] [] (x:=.of Tryz.f94 gd eF) ?_;refine oh a (ox b (oh g ?_));refine lo f ?_;rintro j s ⟨rfl,rfl⟩;refine⟨_,rfl,?_⟩;exact fi
theorem HX {n h:Int} {c:List Ty} (a:dR l k 14 11 K) (b:aF 0 P=true) (g:dR l K 4 n M)
  (f:KD (.loop (roundOf Tryz.f94 0)) (fun e s=>e=.exit 1/\s=(Ko l S P v n d h c).al qg) ((Ig l S P v n M 0 []).al qg)):eC l S P v k (Ty.mk 3 [] 0 c).enc d:=by
 rcases c with _|⟨x,i⟩ <;>
 ·refine co [17] [] (x:=.of Tryz.f94 gd eF) ?_;refine oh a (ox b (oh g ?_));refine lo f ?_;rintro j s ⟨rfl,rfl⟩;refine⟨_,rfl,?_⟩;exact fi
theorem NZ {c:Int} {u:Ty} (a:dR l k 14 12 K) (b:aF 0 P=true) (g:dR l K 2 0 M) (G:eC l S (an .i64 (P - 1)) (an .i64 (v+1)) M u.enc c):eC l S P v k (Ty.mk 6 [] 0 [.mk 0 [] 0 [],u]).enc c:=by
 have e:=C3;have f:=qs (.mk 0 [] 0 []) u;obtain⟨i,j,h,d⟩:=u
 rcases d with _|⟨y,d⟩ <;>
 ·refine co [17] [] (x:=.of Tryz.f94 gd eF) ?_;exact oh a (ox b (on e (oh g (oh G (on f fi)))))
theorem NY {e:Int} {u:Ty} (a:dR l k 14 12 K) (b:aF 0 P=true) (f:dR l K 2 1 M) (g:eC l S 1 0 M t.enc d) (G:eC l S (an .i64 (P - 1)) (an .i64 (v+1)) d u.enc e):eC l S P v k (Ty.mk 6 [] 0 [t,u]).enc e:=by
 have i:=C3;have j:=qs t u;obtain⟨n,o,m,c⟩:=t;obtain⟨q,r,p,h⟩:=u
 rcases c with _|⟨x,c⟩ <;>
 ·rcases h with _|⟨y,h⟩ <;>
  ·refine co [17] [] (x:=.of Tryz.f94 gd eF) ?_;exact oh a (ox b (on i (oh f (oh g (oh G (on j fi))))))
theorem HZ (a:dR l k 14 13 K) (b:aF 0 P=true) (g:dR l K 4 0 M):eC l S P v k (Ty.mk 1 [] 0 []).enc M:=by
 have c:=Ux;refine co [17] [] (x:=.of Tryz.f94 gd eF) ?_;exact oh a (ox b (oh g (on c fi)))
def J6:Ty:=.mk 6 [] 0 [.mk 0 [] 0 [],.mk 2 [66,111,120] 0 [.mk 5 [] 0 []]]
theorem L9 (a:dR l k 14 13 K) (b:aF 0 P=true) (g:dR l K 4 1 M):eC l S P v k J6.enc M:=by
 have G:=C3;have c:=C2 0;have d:=AO [66,111,120] (Ty.mk 5 [] 0 []).enc [];have e:=qs (.mk 0 [] 0 []) (.mk 2 [66,111,120] 0 [.mk 5 [] 0 []]);refine co [17] [] (x:=.of Tryz.f94 gd eF) ?_;exact oh a (ox b (oh g (on G (on c (on d (on e fi))))))
theorem L8 (a:dR l k 14 13 K) (b:aF 0 P=true) (g:dR l K 4 2 M):eC l S P v k J6.enc M:=by
 have G:=C3;have c:=C2 0;have d:=AO [66,111,120] (Ty.mk 5 [] 0 []).enc [];have e:=qs (.mk 0 [] 0 []) (.mk 2 [66,111,120] 0 [.mk 5 [] 0 []]);refine co [17] [] (x:=.of Tryz.f94 gd eF) ?_;exact oh a (ox b (oh g (on G (on c (on d (on e fi))))))
theorem L7 (a:dR l k 14 13 K) (b:aF 0 P=true) (g:dR l K 4 3 M):eC l S P v k J6.enc M:=by
 have G:=C3;have c:=C2 0;have d:=AO [66,111,120] (Ty.mk 5 [] 0 []).enc [];have e:=qs (.mk 0 [] 0 []) (.mk 2 [66,111,120] 0 [.mk 5 [] 0 []]);refine co [17] [] (x:=.of Tryz.f94 gd eF) ?_;exact oh a (ox b (oh g (on G (on c (on d (on e fi))))))
mutual
def Ty.from (P:List UInt8->Nat->Prop):Ty->Prop
 | .mk k n _ a=>(k=2->P n a.length)/\lz P a
def lz (P:List UInt8->Nat->Prop):List Ty->Prop
 | []=>True
 | t::r=>t.from P/\lz P r
end
theorem GW {P:List UInt8->Nat->Prop}:∀{l:List Ty},(∀t∈l,t.from P)->lz P l
 | [],_=>trivial
 | t::r,h=>⟨h t (by simp),GW (fun x a=>h x (by grind))⟩
theorem af4:∀{l:List Ty},(∀t∈l,t.fY)->fg l
 | [],_=>by simp[fg]
 | t::r,h=>by exact⟨h t (by simp),af4 (fun x a=>h x (by grind))⟩
structure GT (P:List UInt8->Nat->Prop) (N:Nat) (t:Ty) (k k2:Nat):Prop where
 size:t.size+4*k<=4*k2+1
 ix:t.fY
 frm:t.from P
 le:k<=k2
 top:k2<=N
def GR (l:List Int) (P:List UInt8->Nat->Prop) (g:FuncId) (a:List ac) (k:Nat):Prop:=∃t K,GT P l.length t k K/\KC g a (cW (l.map iN) (ofNat k)) 1 (XQ ⟨.dat t.enc,cW (l.map iN) (ofNat K),1⟩)
theorem JZ {l:List Int} {P:List UInt8->Nat->Prop} {g:FuncId} {o:List ac} {k:Nat} (D:k<=l.length) (h:∀C,k<=C->C<=l.length->GR l P g o C):∀n:Nat,∃(j:List Ty) (m:Nat->Nat),j.length=n/\m 0=k/\k<=m n/\m n<=l.length/\aQ j+4*k<=4*m n+n/\fg j/\lz P j ∧
  ∀i t,j[i]?=some t->KC g o (cW (l.map iN) (ofNat (m i))) 1 (XQ ⟨.dat t.enc,cW (l.map iN) (ofNat (m (i+1))),1⟩)
 | 0=>⟨[],fun _=>k,rfl,rfl,Nat.le_refl _,D,by simp[aQ],by simp[fg],trivial,fun i t h=>by simp at h⟩
 | n+1=>by
  obtain⟨j,m,w,b,f,E,G,F,H,I⟩:=JZ D h n;obtain⟨t,K,T,e⟩:=h (m n) f E;have z:aQ (j++[t])=aQ j+t.size:=by
   have:=@ld (j++[t]) n t (by rw[←w];simp)
   rw[show (j++[t]).take (n+1)=j++[t] from List.take_of_length_le (by simp;omega),show (j++[t]).take n=j by rw[←w];simp] at this;exact this
  have p:∀{Q:Ty->Prop},(∀x∈j,Q x)->Q t->∀x∈j++[t],Q x:=by
   intro Q A d x c
   rcases List.mem_append.1 c with c|c
   ·exact A x c
   simp at c;rw[c];exact d
  have s:∀{l:List Ty},fg l->∀x∈l,x.fY:=by
   intro l
   induction l with
   | nil=>intro _ x c;simp at c
   | cons a r B=>intro h x c;simp only[fg] at h;rcases List.mem_cons.1 c with rfl|c;exact h.1;exact B h.2 x c
  have v:∀{l:List Ty},lz P l->∀x∈l,x.from P:=by
   intro l
   induction l with
   | nil=>intro _ x c;simp at c
   | cons a r B=>intro h x c;simp only[lz] at h;rcases List.mem_cons.1 c with rfl|c;exact h.1;exact B h.2 x c
  refine⟨j++[t],fun i=>if i<=n then m i else K,by simp[w],by simp[b],?_,?_,?_,af4 (p (s F) T.ix),GW (p (v H) T.frm),?_⟩
  ·have:=T.le;dsimp only;rw[if_neg (by omega:¬n+1<=n)];omega
  ·have:=T.top;dsimp only;rw[if_neg (by omega:¬n+1<=n)];omega
  ·have:=T.size;dsimp only;rw[if_neg (by omega:¬n+1<=n),z];omega
  intro i u q
  by_cases J:i < n
  ·rw[List.getElem?_append_left (by omega)] at q;dsimp only;rw[if_pos (by omega:i<=n),if_pos (by omega:i+1<=n)];exact I i u q
  have y:i=n:=by
   have:=(List.getElem?_eq_some_iff.1 q).1
   simp at this;omega
  subst y;rw[List.getElem?_append_right (by omega),w,Nat.sub_self] at q;simp at q;subst q;dsimp only;rw[if_pos (Nat.le_refl _),if_neg (by omega:¬i+1<=i)];exact e
theorem jj {a b:Nat} (h:a < b):aF (ofNat a) (ofNat b)=true:=by rw[gv,decide_eq_true h]
theorem mL {a b:Nat} (h:¬a < b):aF (ofNat a) (ofNat b)=false:=by rw[gv,decide_eq_false h]
theorem IG (h:0 < P):aF 0 P=true:=by rw[dA,decide_eq_true h]
theorem Qi (h:¬0 < P):aF 0 P=false:=by rw[dA,decide_eq_false h]
theorem mX (a:0<=P) (b:P<=100):an .i64 (P - 1)=P - 1:=by rw[cQ,wrap_i64 (by omega) (by omega)]
theorem Uf (i:Nat) (h:i < 4):∃b,lq[i]?=some b/\b∈lq:=⟨lq[i],List.getElem?_eq_getElem h,List.getElem_mem h⟩
theorem AB {i:Nat} (h:i < 4):∃b,b∈lq/\ap ba 70 [.dat (.slice (encS lq)),.dat (.flat (.int .i64 (ofNat i)))]=some ⟨.ref [sb b],.keep⟩:=by
 grind[Uf,uB]
theorem oH {P:List UInt8->Nat->Prop} {N k K:Nat} (hP:P b 0) (a:k<=K) (c:K<=N):GT P N (.mk 2 b 0 []) k K:=
 ⟨by grind[Ty.size,aQ],by simp[Ty.fY,fg,aB],by grind[Ty.from,lz],a,c⟩
theorem AL {P:List UInt8->Nat->Prop} {N k K i:Nat} (d:i < 100) (a:k<=K) (c:K<=N):GT P N (.mk 5 [] (ofNat i) []) k K:=
 ⟨by grind[Ty.size,aQ],by exact⟨fun _=>jj (b:=9223372036854775808) (Nat.lt_of_lt_of_le d (by decide)),trivial⟩,by simp[Ty.from,lz],a,c⟩
section
variable {l:List Int} {ds:List vh} {P:List UInt8->Nat->Prop} (hl:l.length < 10000000) (hds:ds.length < 1000) (har:∀d∈ds,∃n:Nat,d.ar=ofNat n/\n<=4/\P d.nm n) (hP0:∀b∈lq,P b 0) (hPB:P [66,111,120] 1)
def aA (S:List vh) (P:Int) (v:Nat):List ac:=[cq,.dat (.slice (lJ S)),iv P,iv (ofNat v)]
include hl hds har hP0
theorem Gm {k:Nat} (T:k<=l.length) {a:Int} {v:Nat} (o:0<=a) (h3:a<=3) (Z:∀s,k < s->s<=l.length->GR l P 173 (aA ds (a - 1) v) s):GR l P 137 (aA ds a v) k:=by
 have Y:an .i64 (ofNat (lJ ds).length+4)=ofNat (ds.length+4):=by
  rw[Hh,cQ];exact wrap_i64 (by simp;omega) (by simp;omega)
 obtain⟨r,K,⟨hr,z,h,A⟩,y⟩:=aR (n:=ds.length+4) (by omega:l.length < 1000000000) T (by omega) (by omega);rw[←Y] at y
 by_cases g:r < 4
 ·obtain⟨b,R,w⟩:=AB g;exact⟨_,K,oH (hP0 b R) z h,Qk y (jj g) w⟩
 have j:r - 4 < ds.length:=by omega
 have J:ds[r - 4]?=some ds[r - 4]:=List.getElem?_eq_getElem j;obtain⟨n,N,W,e⟩:=har _ (List.getElem_mem j);have V:=A (by omega);obtain⟨x,G,p,q,c3,H,c5,I,L,M⟩:=@JZ _ P 173 (aA ds (a - 1) v) _ h (fun s U B=>Z s (by omega) B) n;have w:=VU J;have C:ofNat (r - 4)=an .i64 (ofNat r - 4):=by
  rw[cQ,wrap_i64 (by simp;omega) (by simp;omega)];simp;omega
 rw[C] at w;generalize ds[r - 4]=d at *;obtain⟨E,u,⟨f,t,ix,la⟩,sK,F⟩:=d;dsimp only at N e;subst N;refine⟨.mk 2 E 0 x,G n,⟨by simp only[Ty.size];omega,by simp only[Ty.fY];exact⟨by simp[aB],I⟩,by simp only[Ty.from];exact⟨fun _=>by rw[p];exact e,L⟩,by omega,H⟩,?_⟩;refine Ql (la:=ax la) (lb:=BZ F) (ie:=ofNat n) y (mL g) w ?_;rw[←q];refine cA (St:=fun i=>(Oe (XG (Ji (cellsD E (ofNat n) f t ix (ax la) sK (BZ F))) E (x.take i)) (l.map iN) (lJ ds) a (ofNat v) (ofNat (G i)) (ofNat i)).al sJ) n ?_ ?_ (i:=0) (Nat.zero_le _)
 ·intro i hi2;have m:x[i]?=some x[i]:=List.getElem?_eq_getElem (by omega);have c:=M i _ m;have D:a - 1=an .i64 (a - 1):=(mX o (by omega)).symm;unfold aA at c;rw[D] at c;refine Qg (jj hi2) c (by rw[List.length_take];omega) ?_;rw[bb (by omega),←Fi m];exact rfl
 refine TC (mL (by omega)) ⟨rfl,?_⟩;rw[List.take_of_length_le (by omega)]
omit hds har in
theorem Sc {k:Nat} (hk:k<=l.length) {dp:Int} {v:Nat} (h0:-1<=dp) (h3:dp<=3) (hv:v < 100) (ihn:0 < dp->∀k',k<=k'->k'<=l.length->GR l P 137 (aA ds dp v) k') (iht:0 < dp->∀k',k < k'->k'<=l.length->GR l P 94 (aA ds (dp - 1) 0) k'):GR l P 173 (aA ds dp v) k:=by
 obtain⟨r,k2,⟨hr,hk2,hk3,hk4⟩,hc⟩:=aR (n:=6) (by omega:l.length < 1000000000) hk (by omega) (by omega)
 by_cases hv0:r < 2/\0 < v
 ·obtain⟨i,k3,⟨hi,hk5,hk6,hk7⟩,hc2⟩:=aR (n:=v) (by omega:l.length < 1000000000) hk3 hv0.2 (by omega);exact⟨_,k3,AL (by omega) (by omega) hk6,U3 hc (jj hv0.1) (jj (a:=0) hv0.2) hc2⟩
 have hcc:aF (ofNat r) (ofNat 2)=true->aF (ofNat 0) (ofNat v)=false:=by
  intro h;rw[gv,decide_eq_true_eq] at h;grind[mL]
 by_cases hdp:0 < dp
 ·by_cases hr4:r < 4
  ·obtain⟨t,k3,ht,hct⟩:=ihn hdp k2 hk2 hk3;refine⟨t,k3,⟨?_,ht.ix,ht.frm,?_,ht.top⟩,Nt hc rfl rfl hcc (IG hdp) (jj hr4) hct⟩
   ·have:=ht.size;omega
   have:=ht.le;omega
  obtain⟨t,k3,ht,hct⟩:=iht hdp k2 (hk4 (by omega)) hk3;rw[←mX (by omega:0<=dp) (by omega)] at hct;refine⟨t,k3,⟨?_,ht.ix,ht.frm,?_,ht.top⟩,Sb hc (mL (b:=2) (by omega)) (IG hdp) (mL hr4) hct⟩
  ·have:=ht.size;omega
  have:=ht.le;omega
 obtain⟨i,k3,⟨hi,hk5,hk6,hk7⟩,hc2⟩:=aR (n:=4) (by omega:l.length < 1000000000) hk3 (by omega) (by omega);obtain⟨b,hb,hix⟩:=AB hi;exact⟨_,k3,oH (hP0 b hb) (by omega) hk6,Sd hc rfl rfl hcc (Qi hdp) hc2 hix⟩
omit hds har in
include hPB in
theorem Kl {k:Nat} (hk:k<=l.length) {dp:Int} {v:Nat} (h0:0<=dp) (h3:dp<=3) (hv:v+dp<=10) (ihn:∀k',k < k'->k'<=l.length->GR l P 137 (aA ds dp v) k')
  (iht:∀k',k < k'->k'<=l.length->∀(dp:Int) (v:Nat),0<=dp->dp<=3->v+dp<=10->GR l P 94 (aA ds dp v) k'):GR l P 94 (aA ds dp v) k:=by
 obtain⟨r,k2,⟨hr,hk2,hk3,hk4⟩,hc⟩:=aR (n:=14) (by omega:l.length < 1000000000) hk (by omega) (by omega);have leaf:∃i k3 b,(k2<=k3/\k3<=l.length/\P b 0)/\dR (l.map iN) (ofNat k2) 4 (ofNat i) (ofNat k3)/\ap ba 70 [.dat (.slice (encS lq)),.dat (.flat (.int .i64 (ofNat i)))]=some ⟨.ref [sb b],.keep⟩:=by
  obtain⟨i,k3,⟨hi,hk5,hk6,hk7⟩,hc2⟩:=aR (n:=4) (by omega:l.length < 1000000000) hk3 (by omega) (by omega);obtain⟨b,hb,hix⟩:=AB hi;exact⟨i,k3,b,⟨hk5,hk6,hP0 b hb⟩,hc2,hix⟩
 have hnam:∀{c:Nat},0 < r->∃t k3,GT P l.length t k k3/\wP (l.map iN) (lJ ds) dp (ofNat v) (ofNat k2) t.enc (ofNat k3):=by
  intro c h;obtain⟨t,k3,ht,hct⟩:=ihn k2 (hk4 h) hk3;exact⟨t,k3,⟨by have:=ht.size;omega,ht.ix,ht.frm,by have:=ht.le;omega,ht.top⟩,hct⟩
 by_cases hdp:0 < dp
 ·have hd:=IG hdp;have sub:∀(k':Nat),k < k'->k'<=l.length->∃t k3,GT P l.length t k' k3/\eC (l.map iN) (lJ ds) (an .i64 (dp - 1)) (ofNat v) (ofNat k') t.enc (ofNat k3):=by
   intro k' h1 h2;obtain⟨t,k3,ht,hct⟩:=iht k' h1 h2 (dp - 1) v (by omega) (by omega) (by omega);rw[mX (by omega) (by omega)];exact⟨t,k3,ht,hct⟩
  have hcase:r=0∨r=1∨r=2∨r=3∨r=4∨r=5∨r=6∨r=7∨r=8∨r=9∨r=10∨r=11∨r=12∨r=13:=by omega
  have hun:0 < r->∃t u k3 k4,GT P l.length (.mk 4 [] 0 [t,u]) k k4/\eC (l.map iN) (lJ ds) (an .i64 (dp - 1)) (ofNat v) (ofNat k2) t.enc (ofNat k3)/\eC (l.map iN) (lJ ds) (an .i64 (dp - 1)) (ofNat v) (ofNat k3) u.enc (ofNat k4):=by
   intro h;have hkk:=hk4 h;obtain⟨t,k3,ht,hct⟩:=sub k2 hkk hk3;obtain⟨u,k4,hu,hcu⟩:=sub k3 (by have:=ht.le;omega) ht.top;refine⟨t,u,k3,k4,⟨?_,?_,?_,?_,hu.top⟩,hct,hcu⟩
   ·have:=ht.size;have:=hu.size;simp only[Ty.size,aQ];omega
   ·simp only[Ty.fY,fg];exact⟨by simp[aB],ht.ix,hu.ix,trivial⟩
   ·simp only[Ty.from,lz];exact⟨fun h=>by simp at h,ht.frm,hu.frm,trivial⟩
   have:=ht.le;have:=hu.le;omega
  have htup:0 < r->∃n k3 ts k4,dR (l.map iN) (ofNat k2) 4 n (ofNat k3)/\GT P l.length (.mk 3 [] 0 ts) k k4/\KD (.loop (roundOf Tryz.f94 0)) (fun e s=>e=.exit 1/\s=(Ko (l.map iN) (lJ ds) dp (ofNat v) n (ofNat k4) n ts).al qg) ((Ig (l.map iN) (lJ ds) dp (ofNat v) n (ofNat k3) 0 []).al qg):=by
   intro h;have hkk:=hk4 h;obtain⟨n,k3,⟨hn,hk5,hk6,hk7⟩,hc2⟩:=aR (n:=4) (by omega:l.length < 1000000000) hk3 (by omega) (by omega);obtain⟨ts,ks,c1,c2,c3,c4,c5,c6,c7,c8⟩:=@JZ _ P 94 (aA ds (dp - 1) v) _ hk6 (fun k' h1 h2=>iht k' (by omega) h2 (dp - 1) v (by omega) (by omega) (by omega)) n;refine⟨_,k3,ts,ks n,hc2,⟨by simp only[Ty.size];omega,by simp only[Ty.fY];exact⟨by simp[aB],c6⟩,by simp only[Ty.from];exact⟨fun h=>by simp at h,c7⟩,by omega,c4⟩,?_⟩;rw[←c2];refine cA (St:=fun i=>(Ig (l.map iN) (lJ ds) dp (ofNat v) (ofNat n) (ofNat (ks i)) (ofNat i) (ts.take i)).al qg) n ?_ ?_ (i:=0) (Nat.zero_le _)
   ·intro i hi2;have hti:ts[i]?=some ts[i]:=List.getElem?_eq_getElem (by omega);have hci:=c8 i _ hti;unfold aA at hci;rw[←mX h0 (by omega)] at hci;refine NR (jj hi2) hci (by rw[List.length_take];omega) ?_;rw[bb (by omega),←Fi hti];exact rfl
   refine SN (mL (by omega)) ⟨rfl,?_⟩;rw[List.take_of_length_le (by omega)]
  rcases hcase with rfl|rfl|rfl|rfl|rfl|rfl|rfl|rfl|rfl|rfl|rfl|rfl|rfl|rfl
  ·obtain⟨i,k3,b,⟨g1,g2,g3⟩,hc2,hix⟩:=leaf;exact⟨_,k3,oH g3 (by omega) g2,yR hc rfl hc2 hix⟩
  ·obtain⟨i,k3,b,⟨g1,g2,g3⟩,hc2,hix⟩:=leaf;exact⟨_,k3,oH g3 (by omega) g2,yQ hc rfl hc2 hix⟩
  ·exact⟨_,k2,⟨by simp[Ty.size,aQ];omega,by simp[Ty.fY,fg,aB],by simp[Ty.from,lz],hk2,hk3⟩,Fh hc rfl⟩
  ·by_cases hv0:0 < v
   ·obtain⟨i,k3,⟨hi,hk5,hk6,hk7⟩,hc2⟩:=aR (n:=v) (by omega:l.length < 1000000000) hk3 hv0 (by omega);exact⟨_,k3,AL (by omega) (by omega) hk6,Cd hc rfl (jj (a:=0) hv0) hc2⟩
   obtain⟨t,k3,ht,hct⟩:=hnam (c:=0) (by omega);exact⟨t,k3,ht,Cg hc rfl (mL (a:=0) hv0) hct⟩
  ·by_cases hv0:0 < v
   ·obtain⟨i,k3,⟨hi,hk5,hk6,hk7⟩,hc2⟩:=aR (n:=v) (by omega:l.length < 1000000000) hk3 hv0 (by omega);exact⟨_,k3,AL (by omega) (by omega) hk6,Cc hc rfl (jj (a:=0) hv0) hc2⟩
   obtain⟨t,k3,ht,hct⟩:=hnam (c:=0) (by omega);exact⟨t,k3,ht,Cf hc rfl (mL (a:=0) hv0) hct⟩
  ·obtain⟨t,k3,ht,hct⟩:=hnam (c:=0) (by omega);exact⟨t,k3,ht,Ce hc rfl hct⟩
  ·obtain⟨t,k3,ht,hct⟩:=hnam (c:=0) (by omega);exact⟨t,k3,ht,L5 hc hd hct⟩
  ·obtain⟨t,k3,ht,hct⟩:=hnam (c:=0) (by omega);exact⟨t,k3,ht,L4 hc hd hct⟩
  ·obtain⟨t,u,k3,k4,g,ht,hu⟩:=hun (by omega);exact⟨_,k4,g,NX hc hd ht hu⟩
  ·obtain⟨t,u,k3,k4,g,ht,hu⟩:=hun (by omega);exact⟨_,k4,g,NW hc hd ht hu⟩
  ·obtain⟨n,k3,ts,k4,hn,g,hlp⟩:=htup (by omega);exact⟨_,k4,g,HY hc hd hn hlp⟩
  ·obtain⟨n,k3,ts,k4,hn,g,hlp⟩:=htup (by omega);exact⟨_,k4,g,HX hc hd hn hlp⟩
  ·have hkk:=hk4 (by omega);obtain⟨i,k3,⟨hi,hk5,hk6,hk7⟩,hc2⟩:=aR (n:=2) (by omega:l.length < 1000000000) hk3 (by omega) (by omega);have hwv:an .i64 (ofNat v+1)=ofNat (v+1):=bb (by omega);have hwp:an .i64 (dp - 1)=dp - 1:=mX h0 (by omega)
   by_cases hi0:i=0
   ·subst hi0;obtain⟨u,k4,hu,hcu⟩:=iht k3 (by omega) hk6 (dp - 1) (v+1) (by omega) (by omega) (by omega);refine⟨_,k4,⟨?_,?_,?_,?_,hu.top⟩,NZ hc hd hc2 (by rw[hwp,hwv];exact hcu)⟩
    ·have:=hu.size;simp only[Ty.size,aQ];omega
    ·simp only[Ty.fY,fg];exact⟨by simp[aB],⟨by simp[aB],trivial⟩,hu.ix,trivial⟩
    ·simp only[Ty.from,lz];exact⟨fun h=>by simp at h,⟨fun h=>by simp at h,trivial⟩,hu.frm,trivial⟩
    have:=hu.le;omega
   have hi1:i=1:=by omega
   subst hi1;obtain⟨t,k4,ht,hct⟩:=iht k3 (by omega) hk6 1 0 (by omega) (by omega) (by omega);obtain⟨u,k5,hu,hcu⟩:=iht k4 (by have:=ht.le;omega) ht.top (dp - 1) (v+1) (by omega) (by omega) (by omega);refine⟨_,k5,⟨?_,?_,?_,?_,hu.top⟩,NY hc hd hc2 hct (by rw[hwp,hwv];exact hcu)⟩
   ·have:=ht.size;have:=hu.size;simp only[Ty.size,aQ];omega
   ·simp only[Ty.fY,fg];exact⟨by simp[aB],ht.ix,hu.ix,trivial⟩
   ·simp only[Ty.from,lz];exact⟨fun h=>by simp at h,ht.frm,hu.frm,trivial⟩
   have:=ht.le;have:=hu.le;omega
  have hkk:=hk4 (by omega);obtain⟨i,k3,⟨hi,hk5,hk6,hk7⟩,hc2⟩:=aR (n:=4) (by omega:l.length < 1000000000) hk3 (by omega) (by omega);have gb:GT P l.length J6 k k3:=⟨by simp[J6,Ty.size,aQ];omega,by simp[J6,Ty.fY,fg,aB,aF],by simp[J6,Ty.from,lz];exact hPB,by omega,hk6⟩;have hic:i=0∨i=1∨i=2∨i=3:=by omega
  rcases hic with rfl|rfl|rfl|rfl
  ·exact⟨_,k3,⟨by simp[Ty.size,aQ];omega,by simp[Ty.fY,fg,aB],by simp[Ty.from,lz],by omega,hk6⟩,HZ hc hd hc2⟩
  ·exact⟨_,k3,gb,L9 hc hd hc2⟩
  ·exact⟨_,k3,gb,L8 hc hd hc2⟩
  exact⟨_,k3,gb,L7 hc hd hc2⟩
 have hd:=Qi hdp
 by_cases h5:5 < r
 ·obtain⟨i,k3,b,⟨g1,g2,g3⟩,hc2,hix⟩:=leaf;exact⟨_,k3,oH g3 (by omega) g2,atd hc hd (jj (a:=5) h5) hc2 hix⟩
 have hcase:r=0∨r=1∨r=2∨r=3∨r=4∨r=5:=by omega
 rcases hcase with rfl|rfl|rfl|rfl|rfl|rfl
 ·obtain⟨i,k3,b,⟨g1,g2,g3⟩,hc2,hix⟩:=leaf;exact⟨_,k3,oH g3 (by omega) g2,yR hc rfl hc2 hix⟩
 ·obtain⟨i,k3,b,⟨g1,g2,g3⟩,hc2,hix⟩:=leaf;exact⟨_,k3,oH g3 (by omega) g2,yQ hc rfl hc2 hix⟩
 ·exact⟨_,k2,⟨by simp[Ty.size,aQ];omega,by simp[Ty.fY,fg,aB],by simp[Ty.from,lz],hk2,hk3⟩,Fh hc rfl⟩
 ·by_cases hv0:0 < v
  ·obtain⟨i,k3,⟨hi,hk5,hk6,hk7⟩,hc2⟩:=aR (n:=v) (by omega:l.length < 1000000000) hk3 hv0 (by omega);exact⟨_,k3,AL (by omega) (by omega) hk6,Cd hc rfl (jj (a:=0) hv0) hc2⟩
  obtain⟨t,k3,ht,hct⟩:=hnam (c:=0) (by omega);exact⟨t,k3,ht,Cg hc rfl (mL (a:=0) hv0) hct⟩
 ·by_cases hv0:0 < v
  ·obtain⟨i,k3,⟨hi,hk5,hk6,hk7⟩,hc2⟩:=aR (n:=v) (by omega:l.length < 1000000000) hk3 hv0 (by omega);exact⟨_,k3,AL (by omega) (by omega) hk6,Cc hc rfl (jj (a:=0) hv0) hc2⟩
  obtain⟨t,k3,ht,hct⟩:=hnam (c:=0) (by omega);exact⟨t,k3,ht,Cf hc rfl (mL (a:=0) hv0) hct⟩
 obtain⟨t,k3,ht,hct⟩:=hnam (c:=0) (by omega);exact⟨t,k3,ht,Ce hc rfl hct⟩
include hPB in
theorem Us:∀(m k:Nat),k<=l.length->l.length - k<=m->
  (∀(dp:Int) (v:Nat),0<=dp->dp<=3->v+dp<=10->GR l P 137 (aA ds dp v) k)/\(∀(dp:Int) (v:Nat),-1<=dp->dp<=3->v+dp<=10->GR l P 173 (aA ds dp v) k)/\(∀(dp:Int) (v:Nat),0<=dp->dp<=3->v+dp<=10->GR l P 94 (aA ds dp v) k):=by
 intro m
 induction m with
 | zero=>
  intro k hk hm;have hn:∀(dp:Int) (v:Nat),0<=dp->dp<=3->v+dp<=10->GR l P 137 (aA ds dp v) k:=fun dp v h0 h3 hv=>Gm hl hds har hP0 hk h0 h3 (fun k' h1 h2=>by omega)
  refine⟨hn,?_,?_⟩
  ·intro dp v h0 h3 hv;refine Sc hl hP0 hk h0 h3 (by omega) (fun hp k' h1 h2=>?_) (fun hp k' h1 h2=>by omega)
   have:k'=k:=by omega
   subst this;exact hn dp v (by omega) h3 hv
  intro dp v h0 h3 hv;exact Kl hl hP0 hPB hk h0 h3 hv (fun k' h1 h2=>by omega) (fun k' h1 h2=>by omega)
 | succ m ih=>
  intro k hk hm;have hn:∀(dp:Int) (v:Nat),0<=dp->dp<=3->v+dp<=10->GR l P 137 (aA ds dp v) k:=fun dp v h0 h3 hv=>Gm hl hds har hP0 hk h0 h3 (fun k' h1 h2=>(ih k' h2 (by omega)).2.1 _ _ (by omega) (by omega) (by omega))
  refine⟨hn,?_,?_⟩
  ·intro dp v h0 h3 hv;refine Sc hl hP0 hk h0 h3 (by omega) (fun hp k' h1 h2=>?_) (fun hp k' h1 h2=>(ih k' h2 (by omega)).2.2 _ _ (by omega) (by omega) (by omega))
   by_cases hkk:k'=k
   ·subst hkk;exact hn dp v (by omega) h3 hv
   exact (ih k' h2 (by omega)).1 _ _ (by omega) h3 hv
  intro dp v h0 h3 hv;exact Kl hl hP0 hPB hk h0 h3 hv (fun k' h1 h2=>(ih k' h2 (by omega)).1 _ _ h0 h3 hv) (fun k' h1 h2 dp v a b c=>(ih k' h2 (by omega)).2.2 _ _ a b c)
end
def mq:List vh:=[⟨[66,111,120],1,(.mk 0 [] 0 []),false,[]⟩,
 ⟨[67,101,108,108],1,(.mk 2 [66,111,120] 0 [(.mk 5 [] 0 [])]),true,[⟨[105,116,101,109],(.mk 5 [] 0 [])⟩]⟩,
 ⟨[73,110,116,66,111,120],0,(.mk 2 [66,111,120] 0 [(.mk 2 [73,110,116] 0 [])]),true,[⟨[105,116,101,109],(.mk 2 [73,110,116] 0 [])⟩]⟩,
 ⟨[83,104,97,112,101],0,(.mk 0 [] 0 []),false,[]⟩,
 ⟨[68,111,116],0,(.mk 2 [83,104,97,112,101] 0 []),true,[]⟩,
 ⟨[68,105,115,107],0,(.mk 2 [83,104,97,112,101] 0 []),true,[⟨[114,97,100,105,117,115],(.mk 2 [73,110,116] 0 [])⟩]⟩,
 ⟨[80,97,105,114],2,(.mk 0 [] 0 []),true,[⟨[102,105,114,115,116],(.mk 5 [] 0 [])⟩,⟨[115,101,99,111,110,100],(.mk 5 [] 1 [])⟩]⟩,
 ⟨[78,101,115,116],1,(.mk 2 [66,111,120] 0 [(.mk 2 [66,111,120] 0 [(.mk 5 [] 0 [])])]),true,[⟨[105,110,110,101,114],(.mk 2 [66,111,120] 0 [(.mk 5 [] 0 [])])⟩]⟩]
theorem oK:ae 65 [] (.own (lJ mq)):=dE _ _ _ _ _ (by kernel_rfl)
def X3:List (List UInt8):=mq.map vh.nm++Zx
structure DOk (d:vh):Prop where
 gN:d.gN
 ar:∃n:Nat,d.ar=ofNat n/\n<=2
 nm:d.nm∈X3
 flen:d.fl.length<=2
structure GD (ds:List vh):Prop where
 len:ds.length<=900
 each:∀d∈ds,DOk d
 abs:∃d∈ds,d.sK=false
section
variable {l:List Int} {ds:List vh} (hl:l.length < 10000000) (hd:GD ds)
include hl hd
end
variable {N:Nat} {T:ej} {a b i k m p x:Int} {c d r y:Bool} {l:List ak} {n s:List UInt8} {t:Ty}
theorem HF:GD mq where
 len:=by decide
 each:=by
  have c:∀d∈mq,(d.sup.size < 100000000/\d.sup.fY)/\(∀f∈d.fl,f.ty.size < 100000000/\f.ty.fY)/\d.fl.length<=2/\(∃n:Nat,d.ar=ofNat n/\n<=2):=by
   intro d D;simp only[mq,List.mem_cons,List.mem_nil_iff,or_false] at D
   rcases D with rfl|rfl|rfl|rfl|rfl|rfl|rfl|rfl <;>
    simp[Ty.size,aQ,Ty.fY,fg,aF]
   all_goals first|exact⟨0,rfl,by omega⟩|exact⟨1,rfl,by omega⟩|exact⟨2,rfl,by omega⟩
  intro d D;obtain⟨a,b,e,g⟩:=c d D;exact⟨⟨a,b,by omega⟩,g,List.mem_append_left _ (List.mem_map_of_mem D),e⟩
 abs:=⟨_,List.mem_cons_self,rfl⟩
theorem SR {S:List ak} {K:Int} (h:eC l S 3 0 k t.enc K):KC 64 [cq,.dat (.slice S)] (cW l k) 1 (XQ ⟨.dat t.enc,cW l K,1⟩):=by
 obtain⟨b,d,c,a⟩:=t
 rcases a with _|⟨x,a⟩ <;>
 ·refine co [] [] (x:=.of Tryz.f64 P8 Qu) ?_;exact oh h fi
theorem Qa {z:Bool} {j:ak} (G:j=sx z []) {i sl:Int} {g h:ak} (K:dj g) (L:dj h) {o d a b m:Int} {n:List UInt8} {k:Int} {t:List UInt8} {v:Int} {y:ak} {C I:Int} {c:List UInt8} {s:kG} {r u D A B:Bool} (M:dj y)
  (l:KD (.loop (roundOf Tryz.f97 0)) (fun e q=>e=.exit 0/\q=(Od j 0 (cC i sl g h) (cX o d a b m n j k t v y C I c) (cS s) (ofNat 0)).al gL)
   ((Fo j 0 (cC i sl g h) (cX o d a b m n j k t v y C I c) (cS s) (ofNat 0)).al gL))
  (E:KC 141 [iv d,bv s.dst,.ptr (.out 0) 0] (hC i sl g h) 1 (XQ ⟨bv r,hC i sl g h,1⟩))
  (F:KC 141 [iv a,bv s.a,.ptr (.out 0) 0] (hC i sl g h) 1 (XQ ⟨bv u,hC i sl g h,1⟩))
  (f:KC 141 [iv b,bv (s.b&&!(A&&B)),.ptr (.out 0) 0] (hC i sl g h) 1 (XQ ⟨bv D,hC i sl g h,1⟩))
  (R:aB o 3=A) (S:aB m 5=B) :
  ae 97 [.dat (aN i sl g h),.dat (eH o d a b m n j k t v y C I c),.dat s.enc] (bv (r&&(u&&D))):=by
 have N:=aS (p:=i) (s:=sl) K L;have O:=@bw o d a b m n j k t v _ C I c (G ▸ dq z []) M;obtain⟨w,U,V,H,W,Y,J,Z,s8,s9,P,Q⟩:=s
 cases z <;>
 ·subst G;refine co [28,32] [3,4] (x:=.of Tryz.f97 P8 sO) ?_;refine oo N (oo O ?_);refine lo l ?_;rintro T s ⟨rfl,rfl⟩;refine⟨_,rfl,?_⟩;refine ob R ?_
  cases A
  ·cases J <;>
   ·refine oh E ?_
    cases r
    ·exact fi
    refine oh F ?_
    cases u
    ·exact fi
    cases H <;>
    ·exact oh f fi
  refine ob S ?_
  cases B <;>
  ·cases J <;>
   ·refine oh E ?_
    cases r
    ·exact fi
    refine oh F ?_
    cases u
    ·exact fi
    cases H <;>
    ·exact oh f fi
theorem adK {l sl:Int} {g i:ak} (v:dj g) (w:dj i) (x:Ins) (s:kG) (N:x.ar.length < 1000000000) :
  ae 97 [.dat (aN l sl g i),.dat x.enc,.dat s.enc] (bv (Ge sl x s)):=by
 obtain⟨j,d,a,b,m,n,o,u,⟨k,t,p,q⟩,C,I,c⟩:=x;have z:=@ES l d sl g i s.dst;have A:=@ES l a sl g i s.a;have f:=@ES l b sl g i (s.b&&!(aB j 3&&aB m 5))
 cases u with
 | nil=>
  have h:=@Qa o (sx o []) rfl _ _ _ _ v w j _ _ _ m n k t p _ C I c _ _ _ _ _ _ (dr (ax q)) ME z A f rfl rfl;have e:Ge sl ⟨j,d,a,b,m,n,o,[],⟨k,t,p,q⟩,C,I,c⟩ s=(fB d sl s.dst&&(fB a sl s.a&&fB b sl (s.b&&!(aB j 3&&aB m 5)))):=by
   have B:aB (ofNat ([]:List Int).length) 0=true:=rfl;have D:aF 6 (ofNat ([]:List Int).length)=false:=rfl;grind[Ge,Jo,Ins.unary]
  rw[e];exact h
 | cons y r=>
  have h:=@Tx ((y::r).map iN) _ _ _ _ v w j _ _ _ m n k t p _ C I c _ _ _ _ _ _ _ _ _ (dr (ax q)) (P9 N) z A f rfl rfl rfl rfl;rw[List.length_map] at h;exact h
def Ins.sK (x:Ins):Prop:=x.cs∈H5/\(-1000000<=x.ci/\x.ci<=1000000)/\(-1000000<=x.im/\x.im<=1000000)
theorem ahm (h:s∈H5):s.length < 1000000000:=by
 have:∀s∈H5,s.length < 1000000000:=by decide
 grind
def Ins.gN (x:Ins):Prop:=x.ty.gN/\x.ar.length < 1000000000/\x.sK
theorem ER {p sl:Int} {j d:List ak} (z:Bool) {x:Ins} (h:x.gN) :
  ae 67 [.dat (aN p sl (.slice j) (sx z d)),.dat x.enc] (bv (iJ (ofNat j.length) (ofNat d.length) sl x)):=by
 obtain⟨T,A,F⟩:=h;have o:=uT x.op;have w:=@adK p sl (.slice j) (sx z d) (.inr ⟨_,rfl⟩) (dq z d) x (lU (eO x.op)) A;have y:=@adL p sl j d z x;have f:=Dj x.nm;have G:=aul (J1 x.ty (by have:=T.1;omega)) (J4 (t:=x.ty) (by have:=T.1;omega) T.2);have B:=ET (UY x.ty (.mk 0 [] 0 []) (by have:=T.1;omega));have D:=UZ (k:=x.ck) (i:=x.ci) (ahm F.1);obtain⟨g,n,a,b,m,nm,v,u,⟨k,r,q,l⟩,C,I,c⟩:=x;have E:=Wb (d1:=.slice j) (d2:=sx z d) (.inr ⟨_,rfl⟩) (dq z d) (dq v (u.map iN)) (dr (ax l)) o w y f rfl G B D rfl;have e:iJ (ofNat j.length) (ofNat d.length) sl ⟨g,n,a,b,m,nm,v,u,⟨k,r,q,l⟩,C,I,c⟩=(shS (eO g)&&(Ge sl ⟨g,n,a,b,m,nm,v,u,⟨k,r,q,l⟩,C,I,c⟩ (lU (eO g))&&(GL (ofNat j.length) (ofNat d.length) g m&&((if (lU (eO g)).nm=true then isIdent nm else jP nm [])&&((if (lU (eO g)).ty=true then (aB (Ty.mk k r q l).validate 0&&LD (Ty.mk k r q l).fv) else NC (Ty.mk k r q l) (.mk 0 [] 0 []))&&(mN C I c&&((lU (eO g)).sK||aB C 0))))))):=by
  unfold iJ
  cases H:eO g with
  | none=>rfl
  | some s=>rfl
 rw[e];exact E
theorem Cw {s:List Int}:jc s x≠[]:=by
 grind[jc,GK]
theorem OM {u:Nat} {s:List Int} (h:s≠[]):eP k x u s≠[]:=by
 grind[eP,Cw]
mutual
theorem adC:∀(t:Ty) (u:Nat) {s:List Int},s≠[]->t.cf u s≠[]
 | .mk k n x l,u,s,h=>by exact EP l u (OM h)
theorem EP {k:Int}:∀(l:List Ty) {j:Nat} (u:Nat) {s:List Int},s≠[]->se k l j u s≠[]
 | [],j,u,s,h=>by exact h
 | t::r,j,u,s,h=>by exact EP r u (adC t _ h)
end
mutual
theorem Dh:∀(t:Ty) (u:Nat),LD (t.cf u [])=t.closed u
 | .mk k n x l,u=>by
  rw[Ty.cf,Ty.closed]
  cases c:aB k 5 with
  | false=>
   have e:eP k x u []=[]:=by grind[eP]
   rw[e,Bool.false_and,Bool.not_false,Bool.true_and];exact sZ l u 0
  | true=>
   cases J:aF x (ofNat u) with
   | true=>
    have e:eP k x u []=[]:=by grind[eP]
    rw[e,Bool.not_true,Bool.and_false,Bool.not_false,Bool.true_and];exact sZ l u 0
   | false=>
    have e:eP k x u []≠[]:=by grind[eP,Cw]
    have b:=EP (k:=k) l (j:=0) u e;cases h:se k l 0 u (eP k x u []) with
    | nil=>grind
    | cons _ _=>rfl
theorem sZ {k:Int}:∀(l:List Ty) (u j:Nat),LD (se k l j u [])=fA k j l u
 | [],u,j=>by rfl
 | t::r,u,j=>by
  rw[se,fA];have h:=Dh t (u+ey k j)
  cases a:t.closed (u+ey k j) with
  | true=>
   have e:t.cf (u+ey k j) []=[]:=by grind[LD]
   rw[e,Bool.true_and];exact sZ r u (j+1)
  | false=>
   grind[LD,EP]
end
theorem CC (h:t.gN):ae 108 [.dat t.enc] (bv (t.closed 0)):=by
 rw[←Dh t 0];exact FY h.1 h.2
noncomputable def hRP:Hints:=⟨bV,P8,bi,rowsOf bi 181⟩
def stP (lo:Heap) (i:Int):ab:=⟨[(3,iv i),(1,.ptr (.loc 1) 0)],lo,[],0⟩
def aaZ (lo:Heap) (i:Int):ab:=⟨[(15,bv false),(3,iv i),(1,.ptr (.loc 1) 0)],lo,[],0⟩
def aa0:ab:=⟨[(2,bv false)],[],[],0⟩
theorem OJ {e:Int} {l:List Ty} {i:Nat} (j:i < (ax l).length) (m:l[i]?=some t) (h:ae 181 [.dat t.enc] (bv c))
  (E:c=true->T .normal ((stP (kr 1 k n e (.slice (ax l))) (an .i64 (ofNat i+1))).al nZ)) (F:c=false->T .ret (aa0.al nZ)) :
  KD (roundOf Tryz.f181 0) T ((stP (kr 1 k n e (.slice (ax l))) (ofNat i)).al nZ):=by
 have a:=br j;have g:=pF m;generalize ax l=p at *;obtain⟨K,lR,o,f⟩:=t
 rcases f with _|⟨b,d⟩ <;>
 ·refine aq [15] [21] (H:=hRP) (live:=uc) (ob a (oo g (on h ?_)))
  cases c
  ·exact oe (F rfl)
  exact oe (E rfl)
theorem S9 (e:T (.exit 0) ((aaZ (kr 1 k n b (sl l)) (ofNat l.length)).al nZ)) :
  KD (roundOf Tryz.f181 0) T ((stP (kr 1 k n b (sl l)) (ofNat l.length)).al nZ):=by
 have a:=cj (i:=l.length) (L:=l.length) (by omega)
 rcases l with _|⟨x,l⟩
 ·refine aq [] [] (H:=hRP) (live:=uc) ?_;exact oe e
 exact aq [15] [] (H:=hRP) (live:=uc) (ob a (oe e))
theorem Xm {q f:Bool} (G:aB k 5=c) (g:ae 108 [.dat (.agg [i64 k,sb n,i64 a,sl l])] (bv f)) (b:aB k 2=q)
  (h:KD (.loop (roundOf Tryz.f181 0)) (fun e s=>(e=.exit 0/\d=false/\s=(aaZ (kr 1 k n a (sl l)) (ofNat l.length)).al nZ)∨(e=.ret/\d=true/\s=aa0.al nZ)) ((stP (kr 1 k n a (sl l)) (ofNat 0)).al nZ)) :
  ae 181 [.dat (.agg [i64 k,sb n,i64 a,sl l])] (bv (c||f||(q&&!d))):=by
 rcases l with _|⟨x,l⟩ <;>
 ·cases q <;>
  ·refine co [6,27] [] (x:=.of Tryz.f181 P8 uc) ?_;refine ob G ?_
   cases c
   ·refine on g ?_
    cases f
    ·refine lo h ?_;rintro i s (⟨rfl,rfl,rfl⟩|⟨rfl,rfl,rfl⟩)
     ·refine⟨_,rfl,?_⟩;exact ob b fi
     refine⟨_,rfl,?_⟩;exact fi
    exact fi
   exact fi
theorem Bw {l:List Ty} {i:Nat} (h:l[i]?=some t):gT (l.drop i)=(!t.plain||gT (l.drop (i+1))):=by rw[kT h,gT]
mutual
theorem Tn:∀t:Ty,t.gN->ae 181 [.dat t.enc] (bv t.plain)
 | .mk k n x l,h=>by
  have e:=CC h;obtain⟨a,b⟩:=h;simp only[Ty.size] at a;have q:=zR l (by omega) b.2;have m:=gw l;refine Xm rfl e rfl ?_;refine cV (St:=fun i=>(stP (kr 1 k n x (sl (ax l))) (ofNat i)).al nZ) (fun i=>gT l=gT (l.drop i)) (ax l).length ?_ ?_ (i:=0) (Nat.zero_le _) rfl
  ·intro i d f;obtain⟨t,T,o⟩:=get_mem d;have D:=Bw T;rw[←f] at D;have g:=nR d;have p:an .i64 (ofNat i+1)=ofNat (i+1):=bb (by grind);have e:=q t o;rw[g];generalize t.plain=c at e D;refine OJ d T e ?_ ?_
   ·rintro rfl;rw[p];exact⟨rfl,D⟩
   rintro rfl;exact .inr ⟨rfl,D,rfl⟩
  intro f;refine S9 (.inl ⟨rfl,?_,rfl⟩);grind[aH,gT]
theorem zR:∀l:List Ty,aQ l < 100000000->fg l->∀t∈l,ae 181 [.dat t.enc] (bv t.plain)
 | [],_,_,t,T=>by grind
 | u::r,h,j,t,T=>by
  simp only[aQ] at h;rcases List.mem_cons.1 T with a|T
  ·rw[a];exact Tn u ⟨by omega,j.1⟩
  exact zR r (by omega) j.2 t T
end
theorem FN:HI (fun n=>aqT (jA n) (X 149 [GC n] [] 0)) 256=true:=by kernel_rfl
theorem O3 (c:UInt8):ae 149 [GC c.toNat] (bv (jA c.toNat)):=dE _ _ _ _ _ (qD (rC FN _ c.toNat_lt))
theorem Mp:HI (fun n=>aqT (B6 n) (X 150 [GC n] [] 0)) 256=true:=by kernel_rfl
theorem Xw (c:UInt8):ae 150 [GC c.toNat] (bv (B6 c.toNat)):=dE _ _ _ _ _ (qD (rC Mp _ c.toNat_lt))
noncomputable def hRI:Hints:=⟨bV,P8,bi,rowsOf bi 106⟩
def stJ (b:List UInt8) (i:Int):ab:=⟨[(3,iv i),(0,.dat (sb b))],[],[],0⟩
def aa2 (b:List UInt8) (i:Int):ab:=⟨[(21,bv false),(3,iv i),(0,.dat (sb b))],[],[],0⟩
def aa3:ab:=⟨[(2,bv false)],[],[],0⟩
theorem Ms {b:List UInt8} {c:UInt8} {i:Nat} {e:Bool} {L:Int} (j:ofNat b.length=L) (a:aF (ofNat i) (ofNat b.length)=true) (h:qP ba 9 [.dat (sb b),.dat (.flat (.int .i64 (ofNat i)))]=some ⟨GC c.toNat,.keep⟩) (f:ae 150 [GC c.toNat] (bv e)) (g:aB (ofNat c.toNat) 45=d)
  (E:(e&&!d)=true->T .normal ((stJ b (an .i64 (ofNat i+1))).al og)) (F:(e&&!d)=false->T .ret (aa3.al og)) :
  KD (roundOf Tryz.f106 0) T ((stJ b (ofNat i)).al og):=by
 refine aq [21,33] [26,32] (H:=hRI) (live:=um) (ob a (oo h (on f ?_)))
 cases e
 ·exact oe (F rfl)
 refine oo h (ob g ?_)
 cases d
 ·exact oe (E rfl)
 exact oe (F rfl)
theorem ON {b:List UInt8} (e:T (.exit 0) ((aa2 b (ofNat b.length)).al og)) :
  KD (roundOf Tryz.f106 0) T ((stJ b (ofNat b.length)).al og):=by
 have a:=cj (i:=b.length) (L:=b.length) (by omega);exact aq [21] [] (H:=hRI) (live:=um) (ob a (oe e))
theorem Td {b:List UInt8} {c:UInt8} {p q a:Bool} (g:aF 24 (ofNat (c::b).length)=p) (f:ae 149 [GC c.toNat] (bv q))
  (l:p=false->KD (.loop (roundOf Tryz.f106 0)) (fun e s=>(e=.exit 0/\a=true/\s=(aa2 (c::b) (ofNat (c::b).length)).al og)∨(e=.ret/\a=false/\s=aa3.al og)) ((stJ (c::b) (ofNat 0)).al og)) :
  ae 106 [.dat (sb (c::b))] (bv (!p&&q&&a)):=by
 have h:=aou (b:=c::b) (i:=0) rfl
 cases p
 ·have d:=l rfl;refine co [10] [14] (x:=.of Tryz.f106 P8 um) ?_;refine ob g (oo h (on f ?_))
  cases q
  ·exact fi
  refine lo d ?_;rintro j s (⟨rfl,rfl,rfl⟩|⟨rfl,rfl,rfl⟩) <;>
  ·refine⟨_,rfl,?_⟩;exact fi
 refine co [10] [] (x:=.of Tryz.f106 P8 um) ?_;exact ob g fi
theorem Tc:ae 106 [.dat (sb [])] (bv false):=dE _ _ _ _ _ (by kernel_rfl)
theorem yj (b:List UInt8):ae 106 [.dat (sb b)] (bv (isIdent b)):=by
 cases b with
 | nil=>exact Tc
 | cons c b=>
  have f:=O3 c;have e:isIdent (c::b)=(!aF 24 (ofNat (c::b).length)&&jA c.toNat&&(c::b).all (fun c=>lY c.toNat)):=by
   have F:Nat.ble (b.length+1) 24=!aF 24 (ofNat (c::b).length):=by
    rw[show (24:Int)=ofNat 24 from rfl,gv]
    by_cases h:24 < (c::b).length
    ·rw[decide_eq_true h];simp at h ⊢;rw[Bool.eq_false_iff,ne_eq,Nat.ble_eq];omega
    rw[decide_eq_false h];simp at h ⊢;omega
   show (Nat.ble (b.length+1) 24&&jA c.toNat&&(c::b).all (fun c=>lY c.toNat))=_;rw[F]
  rw[e];refine Td rfl f (fun g=>?_);have a:(c::b).length < 1000:=by
   rw[show (24:Int)=ofNat 24 from rfl,gv] at g;simp only[decide_eq_false_iff_not] at g;omega
  obtain⟨l,k⟩:∃l,l=c::b:=⟨_,rfl⟩;rw[←k] at a ⊢;clear k g e f;refine cV (St:=fun i=>(stJ l (ofNat i)).al og) (fun i=>l.all (fun c=>lY c.toNat)=(l.drop i).all (fun c=>lY c.toNat)) l.length ?_ ?_ (i:=0) (Nat.zero_le _) rfl
  ·intro i j d;have T:l[i]?=some l[i]:=List.getElem?_eq_getElem j;generalize l[i]=t at T;have D:(l.drop i).all (fun c=>lY c.toNat)=(lY t.toNat&&(l.drop (i+1)).all (fun c=>lY c.toNat)):=by rw[kT T];rfl
   rw[←d] at D;have m:an .i64 (ofNat i+1)=ofNat (i+1):=bb (by omega);have F:lY t.toNat=(B6 t.toNat&&!(aB (ofNat t.toNat) 45)):=by
    show (!Nat.beq t.toNat 45&&B6 t.toNat)=(B6 t.toNat&&!(Nat.beq t.toNat 45));rw[Bool.and_comm]
   rw[F] at D;refine Ms rfl (br j) (aou T) (Xw t) rfl ?_ ?_
   ·intro h;rw[h] at D;rw[m];exact⟨rfl,D⟩
   intro h;rw[h] at D;exact .inr ⟨rfl,D,rfl⟩
  intro d;rw[List.drop_length] at d;exact ON (.inl ⟨rfl,d,rfl⟩)
theorem abO (b:List UInt8):ae 180 [.dat (sb b)] (bv (aeh b)):=by
 have e:aeh b=(jP b [65,110,121]||jP b [78,101,118,101,114]||jP b [116,117,112,108,101]||jP b [117,110,105,111,110]||jP b [101,120,105,115,116,115]):=by
  grind[aeh,tG]
 rw[e];generalize a:jP b [65,110,121]=p;generalize i:jP b [78,101,118,101,114]=q;generalize f:jP b [116,117,112,108,101]=c;generalize g:jP b [117,110,105,111,110]=d;generalize G:jP b [101,120,105,115,116,115]=h;refine co [4,7,11,15,19] [] (x:=.of Tryz.f180 P8 QH) ?_;refine ob a ?_
 cases p
 ·refine ob i ?_
  cases q
  ·refine ob f ?_
   cases c
   ·refine ob g ?_
    cases d
    ·refine ob G ?_
     cases h <;>
     ·exact fi
    exact fi
   exact fi
  exact fi
 exact fi
theorem kinds (k:Int) {p q e h i:Bool} (o:aB k 0=c) (a:aB k 1=p) (b:aB k 2=q) (f:aB k 3=d) (g:aB k 4=e) (G:aB k 5=h) (j:aB k 6=i) :
  (c=true/\p=false/\q=false/\d=false/\e=false/\h=false/\i=false)∨(c=false/\p=true/\q=false/\d=false/\e=false/\h=false/\i=false)∨(c=false/\p=false/\q=true/\d=false/\e=false/\h=false/\i=false)∨(c=false/\p=false/\q=false/\d=true/\e=false/\h=false/\i=false)∨(c=false/\p=false/\q=false/\d=false/\e=true/\h=false/\i=false)∨(c=false/\p=false/\q=false/\d=false/\e=false/\h=true/\i=false)∨(c=false/\p=false/\q=false/\d=false/\e=false/\h=false/\i=true)∨(c=false/\p=false/\q=false/\d=false/\e=false/\h=false/\i=false):=by
 subst o a b f g G j
 by_cases l:k=0
 ·subst l;exact .inl ⟨rfl,rfl,rfl,rfl,rfl,rfl,rfl⟩
 by_cases m:k=1
 ·subst m;exact .inr (.inl ⟨rfl,rfl,rfl,rfl,rfl,rfl,rfl⟩)
 by_cases n:k=2
 ·subst n;exact .inr (.inr (.inl ⟨rfl,rfl,rfl,rfl,rfl,rfl,rfl⟩))
 grind[dL]
noncomputable def Z7:Hints:=⟨bV,P8,bi,rowsOf bi 153⟩
def Sn (j:Nat) (lo:Heap) (n:Nat) (i:Int):ab:=⟨[(j,iv i),(3,iv (ofNat n)),(1,.ptr (.loc 1) 0)],lo,[],0⟩
def N6 (q j:Nat) (lo:Heap) (n:Nat) (i:Int):ab:=⟨[(q,bv false),(j,iv i),(3,iv (ofNat n)),(1,.ptr (.loc 1) 0)],lo,[],0⟩
def SW:ab:=⟨[(2,bv false)],[],[],0⟩
theorem Mr {e:Int} {l:List Ty} {i:Nat} (j:i < (ax l).length) (m:l[i]?=some t) (h:ae 181 [.dat t.enc] (bv c))
  (E:c=true->T .normal ((Sn 4 (kr 1 k n e (.slice (ax l))) (ax l).length (an .i64 (ofNat i+1))).al fN)) (F:c=false->T .ret (SW.al fN)) :
  KD (roundOf Tryz.f153 0) T ((Sn 4 (kr 1 k n e (.slice (ax l))) (ax l).length (ofNat i)).al fN):=by
 have a:=br j;have g:=pF m;generalize ax l=p at *;obtain⟨K,lR,o,f⟩:=t
 rcases f with _|⟨b,d⟩ <;>
 ·refine aq [65] [71] (H:=Z7) (live:=dH) (ob a (oo g (on h ?_)))
  cases c
  ·exact oe (F rfl)
  exact oe (E rfl)
theorem OD (e:T (.exit 1) ((N6 65 4 (kr 1 k n b (sl l)) l.length (ofNat l.length)).al fN)) :
  KD (roundOf Tryz.f153 0) T ((Sn 4 (kr 1 k n b (sl l)) l.length (ofNat l.length)).al fN):=by
 have a:=cj (i:=l.length) (L:=l.length) (by omega)
 rcases l with _|⟨x,l⟩
 ·refine aq [] [] (H:=Z7) (live:=dH) ?_;exact oe e
 exact aq [65] [] (H:=Z7) (live:=dH) (ob a (oe e))
theorem Mq {e:Int} {l:List Ty} {i:Nat} (j:i < (ax l).length) (m:l[i]?=some t) (h:ae 153 [.dat t.enc] (bv c))
  (E:c=true->T .normal ((Sn 5 (kr 1 k n e (.slice (ax l))) (ax l).length (an .i64 (ofNat i+1))).al fN)) (F:c=false->T .ret (SW.al fN)) :
  KD (roundOf Tryz.f153 1) T ((Sn 5 (kr 1 k n e (.slice (ax l))) (ax l).length (ofNat i)).al fN):=by
 have a:=br j;have g:=pF m;generalize ax l=p at *;obtain⟨K,lR,o,f⟩:=t
 rcases f with _|⟨b,d⟩ <;>
 ·refine aq [97] [103] (H:=Z7) (live:=dH) (ob a (oo g (on h ?_)))
  cases c
  ·exact oe (F rfl)
  exact oe (E rfl)
theorem OC (e:T (.exit 3) ((N6 97 5 (kr 1 k n b (sl l)) l.length (ofNat l.length)).al fN)) :
  KD (roundOf Tryz.f153 1) T ((Sn 5 (kr 1 k n b (sl l)) l.length (ofNat l.length)).al fN):=by
 have a:=cj (i:=l.length) (L:=l.length) (by omega)
 rcases l with _|⟨x,l⟩
 ·refine aq [] [] (H:=Z7) (live:=dH) ?_;exact oe e
 exact aq [97] [] (H:=Z7) (live:=dH) (ob a (oe e))
theorem WT {u:Int} {l:List Ty} {cp L:Bool} (O:ae 106 [.dat (sb n)] (bv (isIdent n))) (R:ae 180 [.dat (sb n)] (bv (aeh n))) (J:gT l=cp) (m:l=[]->L=false)
  (v:∀t r,l=t::r->ae 108 [.dat t.enc] (bv (ik l)))
  (K:KD (.loop (roundOf Tryz.f153 0)) (fun e s=>(e=.exit 1/\cp=false/\s=(N6 65 4 (kr 1 k n u (sl (ax l))) (ax l).length (ofNat (ax l).length)).al fN)∨(e=.ret/\cp=true/\s=SW.al fN)) ((Sn 4 (kr 1 k n u (sl (ax l))) (ax l).length (ofNat 0)).al fN))
  (j:KD (.loop (roundOf Tryz.f153 1)) (fun e s=>(e=.exit 3/\L=false/\s=(N6 97 5 (kr 1 k n u (sl (ax l))) (ax l).length (ofNat (ax l).length)).al fN)∨(e=.ret/\L=true/\s=SW.al fN)) ((Sn 5 (kr 1 k n u (sl (ax l))) (ax l).length (ofNat 0)).al fN)) :
  ae 153 [.dat (Ty.mk k n u l).enc] (bv (vQ k n u l&&!L)):=by
 unfold vQ;rw[J];clear J;generalize ik l=fc at v;generalize isIdent n=I at O;generalize aeh n=U at R;generalize o:aB k 0=c0;generalize a:aB k 1=p;generalize b:aB k 2=c2;generalize f:aB k 3=c3;generalize g:aB k 4=c4;generalize G:aB k 5=c5;generalize E:aB k 6=c6;generalize N:jP n []=c;generalize h:aB u 0=d;generalize z:aF 6 (ofNat (ax l).length)=S;generalize D:aF (ofNat (ax l).length) 2=Y;generalize w:aB (ofNat (ax l).length) 0=V;generalize C:aB (ofNat (ax l).length) 2=F;generalize P:aF u 0=x0;generalize Q:aF 200 u=x2;have W:=kinds k o a b f g G E
 rcases l with _|⟨t,r⟩
 ·have M:=m rfl;subst M;have z6:S=false:=z.symm;have z2:Y=true:=D.symm;have T:V=true:=w.symm;have y2:F=false:=C.symm;subst z6;subst z2;subst T;subst y2;have A:=j.mono (Q':=fun e s=>e=.exit 3/\s=(N6 97 5 (kr 1 k n u (sl (ax []))) (ax []).length (ofNat (ax []).length)).al fN) (by
   rintro e s (⟨q1,_,q2⟩|⟨_,q,_⟩)
   ·exact⟨q1,q2⟩
   simp at q)
  clear v m z D w C j
  rcases W with⟨rfl,rfl,rfl,rfl,rfl,rfl,rfl⟩|⟨rfl,rfl,rfl,rfl,rfl,rfl,rfl⟩|⟨rfl,rfl,rfl,rfl,rfl,rfl,rfl⟩|⟨rfl,rfl,rfl,rfl,rfl,rfl,rfl⟩|⟨rfl,rfl,rfl,rfl,rfl,rfl,rfl⟩|⟨rfl,rfl,rfl,rfl,rfl,rfl,rfl⟩|⟨rfl,rfl,rfl,rfl,rfl,rfl,rfl⟩|⟨rfl,rfl,rfl,rfl,rfl,rfl,rfl⟩
  ·refine co [11,15,20,24,30] [] (x:=.of Tryz.f153 P8 dH) ?_;refine ox b (ox N ?_)
   cases c
   ·exact fi
   refine ox G (ox h ?_)
   cases d
   ·exact fi
   exact ob o fi
  ·refine co [11,15,20,24,30,31] [] (x:=.of Tryz.f153 P8 dH) ?_;refine ox b (ox N ?_)
   cases c
   ·exact fi
   refine ox G (ox h ?_)
   cases d
   ·exact fi
   exact ob o (ob a fi)
  ·refine co [11,20,24,30,31,35,49] [] (x:=.of Tryz.f153 P8 dH) ?_;refine ox b (ox G (ox h ?_))
   cases d
   ·exact fi
   refine ob o (ob a (ob G (ob b (on O ?_))))
   cases I
   ·exact fi
   refine on R ?_
   cases U
   ·refine lo K ?_;rintro B s (⟨rfl,rfl,rfl⟩|⟨rfl,rfl,rfl⟩)
    ·refine⟨_,rfl,?_⟩;refine lo A ?_;rintro B s ⟨rfl,rfl⟩;refine⟨_,rfl,?_⟩;exact fi
    refine⟨_,rfl,?_⟩;exact fi
   exact fi
  ·refine co [11,15,20,24,30,31,35,49,76] [] (x:=.of Tryz.f153 P8 dH) ?_;refine ox b (ox N ?_)
   cases c
   ·exact fi
   refine ox G (ox h ?_)
   cases d
   ·exact fi
   refine ob o (ob a (ob G (ob b (ob f ?_))));refine lo A ?_;rintro B s ⟨rfl,rfl⟩;refine⟨_,rfl,?_⟩;exact fi
  ·refine co [11,15,20,24,30,31,35,49,76,80] [] (x:=.of Tryz.f153 P8 dH) ?_;refine ox b (ox N ?_)
   cases c
   ·exact fi
   refine ox G (ox h ?_)
   cases d
   ·exact fi
   exact ob o (ob a (ob G (ob b (ob f (ob g fi)))))
  ·refine co [11,15,20,30,31,35,41,46] [] (x:=.of Tryz.f153 P8 dH) ?_;refine ox b (ox N ?_)
   cases c
   ·exact fi
   refine ox G (ob o (ob a (ob G (ox P ?_))))
   cases x0
   ·refine ox Q ?_
    cases x2 <;>
    ·exact fi
   exact fi
  ·refine co [11,15,20,24,30,31,35,49,76,80,84] [] (x:=.of Tryz.f153 P8 dH) ?_;refine ox b (ox N ?_)
   cases c
   ·exact fi
   refine ox G (ox h ?_)
   cases d
   ·exact fi
   exact ob o (ob a (ob G (ob b (ob f (ob g (ob E fi))))))
  refine co [11,15,20,24,30,31,35,49,76,80,84] [] (x:=.of Tryz.f153 P8 dH) ?_;refine ox b (ox N ?_)
  cases c
  ·exact fi
  refine ox G (ox h ?_)
  cases d
  ·exact fi
  exact ob o (ob a (ob G (ob b (ob f (ob g (ob E fi))))))
 have H:=v t r rfl;have T:V=false:=w.symm;subst T;have g0:=pF (l:=t::r) (i:=0) rfl;clear v m w;obtain⟨tk,tn,ad,Z⟩:=t
 rcases Z with _|⟨y,Z⟩ <;>
 ·rcases W with⟨rfl,rfl,rfl,rfl,rfl,rfl,rfl⟩|⟨rfl,rfl,rfl,rfl,rfl,rfl,rfl⟩|⟨rfl,rfl,rfl,rfl,rfl,rfl,rfl⟩|⟨rfl,rfl,rfl,rfl,rfl,rfl,rfl⟩|⟨rfl,rfl,rfl,rfl,rfl,rfl,rfl⟩|⟨rfl,rfl,rfl,rfl,rfl,rfl,rfl⟩|⟨rfl,rfl,rfl,rfl,rfl,rfl,rfl⟩|⟨rfl,rfl,rfl,rfl,rfl,rfl,rfl⟩
  ·refine co [11,15,20,24,30] [] (x:=.of Tryz.f153 P8 dH) ?_;refine ox b (ox N ?_)
   cases c
   ·exact fi
   refine ox G (ox h ?_)
   cases d
   ·exact fi
   exact ob o fi
  ·refine co [11,15,20,24,30,31] [] (x:=.of Tryz.f153 P8 dH) ?_;refine ox b (ox N ?_)
   cases c
   ·exact fi
   refine ox G (ox h ?_)
   cases d
   ·exact fi
   exact ob o (ob a fi)
  ·refine co [11,20,24,30,31,35,49,61] [] (x:=.of Tryz.f153 P8 dH) ?_;refine ox b (ox G (ox h ?_))
   cases d
   ·exact fi
   refine ob o (ob a (ob G (ob b (on O ?_))))
   cases I
   ·exact fi
   refine on R ?_
   cases U
   ·refine ob z ?_
    cases S
    ·refine lo K ?_;rintro B s (⟨rfl,rfl,rfl⟩|⟨rfl,rfl,rfl⟩)
     ·refine⟨_,rfl,?_⟩;refine lo j ?_;rintro B s (⟨rfl,rfl,rfl⟩|⟨rfl,rfl,rfl⟩) <;>
      ·refine⟨_,rfl,?_⟩;exact fi
     refine⟨_,rfl,?_⟩;exact fi
    exact fi
   exact fi
  ·refine co [11,15,20,24,30,31,35,49,76,78] [] (x:=.of Tryz.f153 P8 dH) ?_;refine ox b (ox N ?_)
   cases c
   ·exact fi
   refine ox G (ox h ?_)
   cases d
   ·exact fi
   refine ob o (ob a (ob G (ob b (ob f (ob z ?_)))))
   cases S
   ·refine lo j ?_;rintro B s (⟨rfl,rfl,rfl⟩|⟨rfl,rfl,rfl⟩) <;>
    ·refine⟨_,rfl,?_⟩;exact fi
   exact fi
  ·refine co [11,15,20,24,30,31,35,49,76,80,82] [] (x:=.of Tryz.f153 P8 dH) ?_;refine ox b (ox N ?_)
   cases c
   ·exact fi
   refine ox G (ox h ?_)
   cases d
   ·exact fi
   refine ob o (ob a (ob G (ob b (ob f (ob g (ob D ?_))))))
   cases Y
   ·refine lo j ?_;rintro B s (⟨rfl,rfl,rfl⟩|⟨rfl,rfl,rfl⟩) <;>
    ·refine⟨_,rfl,?_⟩;exact fi
   exact fi
  ·refine co [11,15,20,30,31,35] [] (x:=.of Tryz.f153 P8 dH) ?_;refine ox b (ox N ?_)
   cases c
   ·exact fi
   exact ox G (ob o (ob a (ob G fi)))
  ·refine co [11,15,20,24,30,31,35,49,76,80,84,86] [90] (x:=.of Tryz.f153 P8 dH) ?_;refine ox b (ox N ?_)
   cases c
   ·exact fi
   refine ox G (ox h ?_)
   cases d
   ·exact fi
   refine ob o (ob a (ob G (ob b (ob f (ob g (ob E (ox C ?_)))))))
   cases F
   ·exact fi
   refine oo g0 (on H ?_)
   cases fc
   ·exact fi
   refine lo j ?_;rintro B s (⟨rfl,rfl,rfl⟩|⟨rfl,rfl,rfl⟩) <;>
   ·refine⟨_,rfl,?_⟩;exact fi
  refine co [11,15,20,24,30,31,35,49,76,80,84] [] (x:=.of Tryz.f153 P8 dH) ?_;refine ox b (ox N ?_)
  cases c
  ·exact fi
  refine ox G (ox h ?_)
  cases d
  ·exact fi
  exact ob o (ob a (ob G (ob b (ob f (ob g (ob E fi))))))
theorem Kc {l:List Ty} {i:Nat} (h:l[i]?=some t):pA (l.drop i)=(!t.valid||pA (l.drop (i+1))):=by rw[kT h,pA]
mutual
theorem O1:∀t:Ty,t.gN->ae 153 [.dat t.enc] (bv t.valid)
 | .mk k n x l,h=>by
  obtain⟨a,b⟩:=h;simp only[Ty.size] at a;simp only[Ty.fY] at b;have v:=Kz l (by omega) b.2;have q:=zR l (by omega) b.2;have s:=gw l;have j:∀t r,l=t::r->ae 108 [.dat t.enc] (bv (ik l)):=by
   rintro t r rfl;simp only[aQ] at a;simp only[fg] at b;exact CC ⟨by omega,b.2.1⟩
  rw[Ty.valid];refine WT (cp:=gT l) (yj n) (abO n) rfl (by rintro rfl;rw[pA]) j ?_ ?_
  ·refine cV (St:=fun i=>(Sn 4 (kr 1 k n x (sl (ax l))) (ax l).length (ofNat i)).al fN) (fun i=>gT l=gT (l.drop i)) (ax l).length ?_ ?_ (i:=0) (Nat.zero_le _) rfl
   ·intro i d f;obtain⟨t,T,m⟩:=get_mem d;have D:=Bw T;rw[←f] at D;have g:=nR d;have o:an .i64 (ofNat i+1)=ofNat (i+1):=bb (by rw[aH] at d;omega);have e:=q t m;rw[g];generalize t.plain=c at e D;refine Mr d T e ?_ ?_
    ·rintro rfl;rw[o];exact⟨rfl,D⟩
    rintro rfl;exact .inr ⟨rfl,D,rfl⟩
   intro f;refine OD (.inl ⟨rfl,?_,rfl⟩);rw[f,aH,List.drop_length,gT]
  refine cV (St:=fun i=>(Sn 5 (kr 1 k n x (sl (ax l))) (ax l).length (ofNat i)).al fN) (fun i=>pA l=pA (l.drop i)) (ax l).length ?_ ?_ (i:=0) (Nat.zero_le _) rfl
  ·intro i d f;obtain⟨t,T,m⟩:=get_mem d;have D:=Kc T;rw[←f] at D;have g:=nR d;have o:an .i64 (ofNat i+1)=ofNat (i+1):=bb (by rw[aH] at d;omega);have e:=v t m;rw[g];generalize t.valid=c at e D;refine Mq d T e ?_ ?_
   ·rintro rfl;rw[o];exact⟨rfl,D⟩
   rintro rfl;exact .inr ⟨rfl,D,rfl⟩
  intro f;refine OC (.inl ⟨rfl,?_,rfl⟩);rw[f,aH,List.drop_length,pA]
theorem Kz:∀l:List Ty,aQ l < 100000000->fg l->∀t∈l,ae 153 [.dat t.enc] (bv t.valid)
 | [],_,_,t,T=>by simp at T
 | u::r,h,p,t,T=>by
  simp only[aQ] at h;simp only[fg] at p
  rcases List.mem_cons.1 T with a|T
  ·rw[a];exact O1 u ⟨by omega,p.1⟩
  exact Kz r (by omega) p.2 t T
end
def HR (b a c:Bool):Int:=match b||a with|true=>4|false=>(match c with|true=>0|false=>2)
theorem SG (t:Ty):t.validate=HR (aF 200 (ofNat t.size)) (aF 12 (ofNat t.depth)) t.valid:=by
 unfold Ty.validate HR
 grind
theorem abj {d:Int} {e:List UInt8} {n:Int} {h g:Bool} (a:ae 151 [.dat (.agg [i64 k,sb e,i64 d,sl l])] (iv n)) (N:aF 200 n=h) (b:ae 152 [.dat (.agg [i64 k,sb e,i64 d,sl l])] (iv m)) (i:aF 12 m=g)
  (f:ae 153 [.dat (.agg [i64 k,sb e,i64 d,sl l])] (bv c)):ae 107 [.dat (.agg [i64 k,sb e,i64 d,sl l])] (iv (HR h g c)):=by
 rcases l with _|⟨x,l⟩ <;>
 ·refine co [6,10] [] (x:=.of Tryz.f107 P8 Lw) ?_;refine on a (ob N ?_)
  cases h
  ·refine on b (ob i ?_)
   cases g
   ·refine on f ?_
    cases c <;>
    ·exact fi
   exact fi
  exact fi
theorem IA (h:t.gN):ae 107 [.dat t.enc] (iv t.validate):=by
 have a:=O2 t (by have:=h.1;omega);have b:=KG t (by have:=h.1;omega);have f:=O1 t h;obtain⟨k,n,c,l⟩:=t;exact abj a rfl b rfl f
theorem jy {e n sl:Int} {c d:ak} (g:dj c) (h:dj d):ae 105 [.dat (aN e sl c d),iv n] (bv (eo n sl)):=by
 have i:=aS (p:=e) (s:=sl) g h;unfold eo;generalize a:aF n 0=f;generalize b:aF n sl=q;refine co [6,11] [2] (x:=.of Tryz.f105 P8 Lx) ?_;refine oo i (ox a ?_)
 cases f
 ·refine ob b ?_
  cases q <;>
  ·exact fi
 exact fi
noncomputable def VY:Hints:=⟨bV,P8,bi,rowsOf bi 109⟩
def Mb (k i:Int) (s:List UInt8) (j:Int):ab:=⟨[(3,iv j),(1,.ptr (.loc 1) 0)],K9 k i s,[],0⟩
def N9 (q:Nat) (k i:Int) (s:List UInt8):ab:=⟨[(q,bv false),(3,iv (ofNat s.length)),(1,.ptr (.loc 1) 0)],K9 k i s,[],0⟩
def Oa:ab:=⟨[(2,bv false)],[],[],0⟩
theorem Iw {j:Nat} {c:UInt8} {Q:Bool} (a:aF (ofNat j) (ofNat s.length)=true) (b:qP ba 9 [.dat (sb s),.dat (.flat (.int .i64 (ofNat j)))]=some ⟨GC c.toNat,.keep⟩)
  (f:aF (ofNat c.toNat) 32=r) (g:aF 126 (ofNat c.toNat)=Q) (E:(!r&&!Q)=true->T .normal ((Mb k i s (an .i64 (ofNat j+1))).al jW)) (F:(!r&&!Q)=false->T .ret (Oa.al jW)) :
  KD (roundOf Tryz.f109 0) T ((Mb k i s (ofNat j)).al jW):=by
 refine aq [37,44,50] [43,49] (H:=VY) (live:=uj) (ob a (oo b (ob f ?_)))
 cases r
 ·refine oo b (ob g ?_)
  cases Q
  ·exact oe (E rfl)
  exact oe (F rfl)
 exact oe (F rfl)
theorem Mw (E:T (.exit 0) ((N9 37 k i s).al jW)) :
  KD (roundOf Tryz.f109 0) T ((Mb k i s (ofNat s.length)).al jW):=by
 have a:=cj (i:=s.length) (L:=s.length) (by omega);exact aq [37] [] (H:=VY) (live:=uj) (ob a (oe E))
theorem Mv (N:s.length < 1000000000) :
  KD (.loop (roundOf Tryz.f109 0)) (fun e q=>(e=.exit 0/\s.all (fun c=>eQ c.toNat)=true/\q=(N9 37 k i s).al jW)∨(e=.ret/\s.all (fun c=>eQ c.toNat)=false/\q=Oa.al jW)) ((Mb k i s (ofNat 0)).al jW):=by
 refine cV (St:=fun j=>(Mb k i s (ofNat j)).al jW) (fun j=>s.all (fun c=>eQ c.toNat)=(s.drop j).all (fun c=>eQ c.toNat)) s.length ?_ ?_ (i:=0) (Nat.zero_le _) rfl
 ·intro j d b;have J:s[j]?=some s[j]:=List.getElem?_eq_getElem d;have D:(s.drop j).all (fun c=>eQ c.toNat)=(eQ s[j].toNat&&(s.drop (j+1)).all (fun c=>eQ c.toNat)):=by rw[List.drop_eq_getElem_cons d];rfl
  have f:an .i64 (ofNat j+1)=ofNat (j+1):=bb (by omega);generalize s[j]=c at J D;have w:eQ c.toNat=(!aF (ofNat c.toNat) 32&&!aF 126 (ofNat c.toNat)):=rfl;rw[←b,w] at D;refine Iw (br d) (aou J) rfl rfl ?_ ?_
  ·intro h;rw[h] at D;rw[f];exact⟨rfl,D⟩
  intro h;rw[h] at D;exact .inr ⟨rfl,D,rfl⟩
 intro b;have a:s.all (fun c=>eQ c.toNat)=true:=by rw[b,List.drop_length];rfl
 exact Mw (.inl ⟨rfl,a,rfl⟩)
theorem OU {p m n h u t:Bool} (o:aB k 0=c) (a:aB k 1=p) (b:aB k 2=m) (f:aB k 3=n) (g:aB i 0=h) (G:aB i 1=r) (v:jP s []=u) (w:aF 2000 (ofNat s.length)=t)
  (l:KD (.loop (roundOf Tryz.f109 0)) (fun e q=>(e=.exit 0/\d=true/\q=(N9 37 k i s).al jW)∨(e=.ret/\d=false/\q=Oa.al jW)) ((Mb k i s (ofNat 0)).al jW)) :
  ae 109 [.dat (lI k i s)] (bv (if (!n&&!u)=true then false else if (!p&&(!m&&!h))=true then false else if d=false then false else if (c||p)=true then true else if m=true then h||r else if n=true then !t else false)):=by
 cases u
 ·refine co [11,21,55,56,25,58,61,65,30,68,72,15] [] (x:=.of Tryz.f109 P8 uj) ?_;refine ox f ?_
  cases n
  ·exact ox v fi
  refine ox a ?_
  cases p
  ·refine ox b ?_
   cases m
   ·refine ox g ?_
    cases h
    ·exact fi
    refine lo l ?_;rintro j s (⟨rfl,rfl,rfl⟩|⟨rfl,rfl,rfl⟩)
    ·refine⟨_,rfl,?_⟩;refine ob o ?_
     cases c
     ·refine ob a (ob b (ob f (ox w ?_)))
      cases t <;>
      ·exact fi
     exact fi
    refine⟨_,rfl,?_⟩;exact fi
   refine lo l ?_;rintro j s (⟨rfl,rfl,rfl⟩|⟨rfl,rfl,rfl⟩)
   ·refine⟨_,rfl,?_⟩;refine ob o ?_
    cases c
    ·refine ob a (ob b (ob g ?_))
     cases h
     ·refine ob G ?_
      cases r <;>
      ·exact fi
     exact fi
    exact fi
   refine⟨_,rfl,?_⟩;exact fi
  refine lo l ?_;rintro j s (⟨rfl,rfl,rfl⟩|⟨rfl,rfl,rfl⟩)
  ·refine⟨_,rfl,?_⟩;refine ob o ?_
   cases c
   ·exact ob a fi
   exact fi
  refine⟨_,rfl,?_⟩;exact fi
 refine co [11,21,55,56,25,58,61,65,30,68,72,15] [] (x:=.of Tryz.f109 P8 uj) ?_;refine ox f ?_
 cases n
 ·refine ox v (ox a ?_)
  cases p
  ·refine ox b ?_
   cases m
   ·refine ox g ?_
    cases h
    ·exact fi
    refine lo l ?_;rintro j s (⟨rfl,rfl,rfl⟩|⟨rfl,rfl,rfl⟩)
    ·refine⟨_,rfl,?_⟩;refine ob o ?_
     cases c
     ·exact ob a (ob b (ob f fi))
     exact fi
    refine⟨_,rfl,?_⟩;exact fi
   refine lo l ?_;rintro j s (⟨rfl,rfl,rfl⟩|⟨rfl,rfl,rfl⟩)
   ·refine⟨_,rfl,?_⟩;refine ob o ?_
    cases c
    ·refine ob a (ob b (ob g ?_))
     cases h
     ·refine ob G ?_
      cases r <;>
      ·exact fi
     exact fi
    exact fi
   refine⟨_,rfl,?_⟩;exact fi
  refine lo l ?_;rintro j s (⟨rfl,rfl,rfl⟩|⟨rfl,rfl,rfl⟩)
  ·refine⟨_,rfl,?_⟩;refine ob o ?_
   cases c
   ·exact ob a fi
   exact fi
  refine⟨_,rfl,?_⟩;exact fi
 refine ox a ?_
 cases p
 ·refine ox b ?_
  cases m
  ·refine ox g ?_
   cases h
   ·exact fi
   refine lo l ?_;rintro j s (⟨rfl,rfl,rfl⟩|⟨rfl,rfl,rfl⟩)
   ·refine⟨_,rfl,?_⟩;refine ob o ?_
    cases c
    ·refine ob a (ob b (ob f (ox w ?_)))
     cases t <;>
     ·exact fi
    exact fi
   refine⟨_,rfl,?_⟩;exact fi
  refine lo l ?_;rintro j s (⟨rfl,rfl,rfl⟩|⟨rfl,rfl,rfl⟩)
  ·refine⟨_,rfl,?_⟩;refine ob o ?_
   cases c
   ·refine ob a (ob b (ob g ?_))
    cases h
    ·refine ob G ?_
     cases r <;>
     ·exact fi
    exact fi
   exact fi
  refine⟨_,rfl,?_⟩;exact fi
 refine lo l ?_;rintro j s (⟨rfl,rfl,rfl⟩|⟨rfl,rfl,rfl⟩)
 ·refine⟨_,rfl,?_⟩;refine ob o ?_
  cases c
  ·exact ob a fi
  exact fi
 refine⟨_,rfl,?_⟩;exact fi
theorem DZ (N:s.length < 1000000000):ae 109 [.dat (lI k i s)] (bv (sY k i s)):=OU rfl rfl rfl rfl rfl rfl rfl rfl (Mv N)
noncomputable def hVE:Hints:=⟨bV,KO,bi,rowsOf bi 87⟩
def abZ (k i:Int) (s:List UInt8):Heap:=[(.loc 3,.cells [iv 0,iv 0,.dat (sb []),.dat nl]),(.loc 2,.cells [iv k,iv i,.dat (sb s),.dat nl])]
def SX (k i:Int) (s:List UInt8):ab:=⟨[(5,iv 0),(3,.ptr (.loc 3) 0),(2,.ptr (.loc 2) 0)],abZ k i s,[],0⟩
def N7 (q:Nat) (k i:Int) (s:List UInt8):ab:=⟨[(q,bv false),(5,iv 0),(3,.ptr (.loc 3) 0),(2,.ptr (.loc 2) 0)],abZ k i s,[],0⟩
theorem SF (E:T (.exit 0) ((N7 38 k i s).al An)) :
  KD (roundOf Tryz.f87 0) T ((SX k i s).al An):=by
 refine aq [] [] (H:=hVE) (live:=Jl) ?_;exact oe E
theorem SE :
  KD (.loop (roundOf Tryz.f87 0)) (fun e q=>e=.exit 0/\q=(N7 38 k i s).al An) ((SX k i s).al An):=by
 refine cA (St:=fun _=>(SX k i s).al An) 0 (fun i a=>absurd a (by omega)) ?_ (i:=0) (Nat.le_refl _);exact SF ⟨rfl,rfl⟩
theorem Wc {p:Bool} (a:aB k 0=p) (b:aB i 0=c) (f:jP s []=d)
  (l:KD (.loop (roundOf Tryz.f87 0)) (fun e q=>e=.exit 0/\q=(N7 38 k i s).al An) ((SX k i s).al An)) :
  ae 87 [.dat (lI k i s),.dat (lI 0 0 [])] (bv (p&&(c&&d))):=by
 refine co [10,16,23] [] (x:=.of Tryz.f87 KO Jl) ?_;refine ox a ?_
 cases p
 ·exact fi
 refine ox b ?_
 cases c
 ·exact fi
 refine ox f ?_
 cases d
 ·exact fi
 refine lo l ?_;rintro g s ⟨rfl,rfl⟩;refine⟨_,rfl,?_⟩;exact fi
theorem vF:ae 87 [.dat (lI k i s),.dat (lI 0 0 [])] (bv (B5 k i s)):=Wc rfl rfl rfl SE
def cU (s:kG):List ac:=[bv s.dst,bv s.a,bv s.b,bv s.im,bv s.nm,bv s.ar,bv s.ty,bv s.sK]
noncomputable def hRV:Hints:=⟨bV,cF,bi,rowsOf bi 70⟩
def ab1 (q a b:List ac):Heap:=[(.loc 5,.cells b),(.loc 3,.cells a),(.loc 2,.cells q)]
def BJ (q a b:List ac) (i:Int):ab:=⟨[(6,iv i),(5,.ptr (.loc 5) 0),(3,.ptr (.loc 3) 0),(2,.ptr (.loc 2) 0)],ab1 q a b,[],0⟩
def Cn (q a b:List ac) (i:Int):ab:=⟨[(142,bv false),(6,iv i),(5,.ptr (.loc 5) 0),(3,.ptr (.loc 3) 0),(2,.ptr (.loc 2) 0)],ab1 q a b,[],0⟩
def N8:ab:=⟨[(4,bv false)],[],[],0⟩
theorem OE {u:List Int} {t sl j:Int} {e f:ak} (o:dj e) (q:dj f) {d:Int} {l:List UInt8} {h:Int} {y:ak} {C I:Int} {g:List UInt8} {s:kG} {i:Nat} (x:i < (u.map iN).length) (z:u[i]?=some t)
  (w:ae 105 [.dat (aN p sl e f),iv t] (bv c))
  (E:c=true->T .normal ((BJ (cC p sl e f) (cX j d a b m n (.slice (u.map iN)) k l h y C I g) (cU s) (an .i64 (ofNat i+1))).al iG)) (F:c=false->T .ret (N8.al iG)) :
  KD (roundOf Tryz.f70 0) T ((BJ (cC p sl e f) (cX j d a b m n (.slice (u.map iN)) k l h y C I g) (cU s) (ofNat i)).al iG):=by
 have r:=br x;have v:=wb z;have A:=aO false 2 (p:=p) (s:=sl) o q;generalize u.map iN=B at *;refine aq [142] [145,149] (H:=hRV) (live:=bu) (ob r (oo A (oo v (on w ?_))))
 cases c
 ·exact oe (F rfl)
 exact oe (E rfl)
theorem S7 {d:List ak} {sl h:Int} {f g:ak} {e:Int} {t:List UInt8} {y:ak} {C I:Int} {c:List UInt8} {s:kG}
  (E:T (.exit 0) ((Cn (cC p sl f g) (cX h e a b m n (.slice d) k t x y C I c) (cU s) (ofNat d.length)).al iG)) :
  KD (roundOf Tryz.f70 0) T ((BJ (cC p sl f g) (cX h e a b m n (.slice d) k t x y C I c) (cU s) (ofNat d.length)).al iG):=by
 have j:=cj (i:=d.length) (L:=d.length) (by omega);exact aq [142] [] (H:=hRV) (live:=bu) (ob j (oe E))
theorem OH {sl g:Int} {e f:ak} {d:Int} {t:List UInt8} {y:ak} {C I:Int} {c:List UInt8} {s:kG}
  (E:T (.exit 0) ((Cn (cC p sl e f) (cX g d a b m n nl k t x y C I c) (cU s) 0).al iG)) :
  KD (roundOf Tryz.f70 0) T ((BJ (cC p sl e f) (cX g d a b m n nl k t x y C I c) (cU s) 0).al iG):=by
 refine aq [] [] (H:=hRV) (live:=bu) ?_;exact oe E
theorem Kt {u:List Int} (N:u.length < 1000000000) {p sl r:Int} {g h:ak} (w:dj g) (z:dj h) {d a b m:Int} {o:List UInt8} {k:Int} {v:List UInt8} {x:Int} {y:ak} {C I:Int} {j:List UInt8} {s:kG} :
  KD (.loop (roundOf Tryz.f70 0)) (fun e q=>(e=.exit 0/\u.all (fun n=>eo n sl)=true/\q=(Cn (cC p sl g h) (cX r d a b m o (.slice (u.map iN)) k v x y C I j) (cU s) (ofNat (u.map iN).length)).al iG)∨(e=.ret/\u.all (fun n=>eo n sl)=false/\q=N8.al iG))
   ((BJ (cC p sl g h) (cX r d a b m o (.slice (u.map iN)) k v x y C I j) (cU s) 0).al iG):=by
 refine cV (St:=fun i=>(BJ (cC p sl g h) (cX r d a b m o (.slice (u.map iN)) k v x y C I j) (cU s) (ofNat i)).al iG) (fun i=>u.all (fun n=>eo n sl)=(u.drop i).all (fun n=>eo n sl)) (u.map iN).length ?_ ?_ (i:=0) (Nat.zero_le _) rfl
 ·intro i D l;have f:i < u.length:=by grind
  have T:u[i]?=some (u[i]):=List.getElem?_eq_getElem f;have A:(u.drop i).all (fun n=>eo n sl)=(eo u[i] sl&&(u.drop (i+1)).all (fun n=>eo n sl)):=by rw[List.drop_eq_getElem_cons f];rfl
  generalize u[i]=t at T A;rw[←l] at A;have B:=@jy p t sl _ _ w z;generalize eo t sl=c at B A;have F:an .i64 (ofNat i+1)=ofNat (i+1):=bb (by omega);refine OE w z D T B ?_ ?_
  ·rintro rfl;rw[F];exact⟨rfl,A⟩
  rintro rfl;exact .inr ⟨rfl,A,rfl⟩
 intro l;have E:u.all (fun n=>eo n sl)=true:=by
  grind
 exact S7 (.inl ⟨rfl,E,rfl⟩)
theorem OG {p sl j:Int} {f g:ak} {d a b m:Int} {n:List UInt8} {k:Int} {t:List UInt8} {h:Int} {y:ak} {C I:Int} {c:List UInt8} {s:kG} :
  KD (.loop (roundOf Tryz.f70 0)) (fun e q=>e=.exit 0/\q=(Cn (cC p sl f g) (cX j d a b m n nl k t h y C I c) (cU s) 0).al iG)
   ((BJ (cC p sl f g) (cX j d a b m n nl k t h y C I c) (cU s) 0).al iG):=by
 refine cA (St:=fun _=>(BJ (cC p sl f g) (cX j d a b m n nl k t h y C I c) (cU s) 0).al iG) 0 (fun i l=>absurd l (by omega)) ?_ (i:=0) (Nat.le_refl _);exact OH ⟨rfl,rfl⟩
def rvF (s:kG) (a:Int) (r t e u v w x y z k l m d n q o p b c f g h i j:Bool):Bool:=
 ((s.dst||r)&&((s.a||t)&&((s.b||e)&&((s.im||u)&&((s.nm||v)&&((s.ar||!w)&&((s.ty||x)&&(s.sK||y)))))))) &&
 (((!(s.dst&&!k)&&(!(s.a&&!l)&&(!(s.b&&!m)&&!z)))&&d)&&(((!s.nm||n)&&((!s.ty||(q&&o))&&(!s.sK||p))) &&
 (if (aB a 12||aB a 13)=true then !b&&i else if aB a 3=true then !c&&(!f&&(!h||e)) else if aB a 8=true then !b&&g else if aB a 17=true then !b&&j else if (aB a 20||aB a 22)=true then !c else true)))
def BE (n:Nat):Prop:=∀{p sl:Int} {h:List ak} {g:ak} (_:dj g) {i:List ak} {f a b m:Int} {l:List UInt8} {k:Int} {t:List UInt8} {j:Int} {y:ak} {C I:Int} {c:List UInt8} (_:dj y) {K L M N O P Q R S A B D d E J G H o u v w x z r:Bool} {F:Int},
  aB f 0=K->aB a 0=L->aB b 0=M->aB m 0=N->jP l []=O->aF 0 (ofNat i.length)=P->aF 6 (ofNat i.length)=S->ae 104 [] (.dat (Ty.mk 0 [] 0 []).enc)->ae 86 [.dat (.agg [i64 k,sb t,i64 j,y]),.dat (Ty.mk 0 [] 0 []).enc] (bv Q)->ae 87 [.dat (lI C I c),.dat (lI 0 0 [])] (bv R)->
  ae 105 [.dat (aN p sl (.slice h) g),iv f] (bv A)->ae 105 [.dat (aN p sl (.slice h) g),iv a] (bv B)->ae 105 [.dat (aN p sl (.slice h) g),iv b] (bv D)->
  ae 106 [.dat (sb l)] (bv E)->ae 107 [.dat (.agg [i64 k,sb t,i64 j,y])] (iv F)->aB F 0=J->ae 108 [.dat (.agg [i64 k,sb t,i64 j,y])] (bv G)->ae 109 [.dat (lI C I c)] (bv H)->
  aF m 0=o->aF m 1=u->aF 7 m=v->aF m 6=w->aB m 5=x->aF m (ofNat h.length)=z->(∀s,g=.slice s->aF m (ofNat s.length)=r)->(g=nl->r=o)->
  KD (.loop (roundOf Tryz.f70 0)) (fun e q=>(e=.exit 0/\d=true/\q=(Cn (cC p sl (.slice h) g) (cX (ofNat n) f a b m l (.slice i) k t j y C I c) (cU (lU (amR n))) (ofNat i.length)).al iG)∨(e=.ret/\d=false/\q=N8.al iG)) ((BJ (cC p sl (.slice h) g) (cX (ofNat n) f a b m l (.slice i) k t j y C I c) (cU (lU (amR n))) 0).al iG)->
  ae 70 [.dat (aN p sl (.slice h) g),.dat (eH (ofNat n) f a b m l (.slice i) k t j y C I c)] (bv (rvF (lU (amR n)) (ofNat n) K L M N O P Q R S A B D d E J G H o u v w x z r))
def BF (n:Nat):Prop:=∀{p sl:Int} {h:List ak} {g:ak} (_:dj g) {f a b m:Int} {j:List UInt8} {k:Int} {t:List UInt8} {i:Int} {y:ak} {C I:Int} {c:List UInt8} (_:dj y) {J K L M N O P Q R z A B d D H F G l s u v w x o:Bool} {E:Int},
  aB f 0=J->aB a 0=K->aB b 0=L->aB m 0=M->jP j []=N->O=false->R=false->d=true->ae 104 [] (.dat (Ty.mk 0 [] 0 []).enc)->ae 86 [.dat (.agg [i64 k,sb t,i64 i,y]),.dat (Ty.mk 0 [] 0 []).enc] (bv P)->ae 87 [.dat (lI C I c),.dat (lI 0 0 [])] (bv Q)->
  ae 105 [.dat (aN p sl (.slice h) g),iv f] (bv z)->ae 105 [.dat (aN p sl (.slice h) g),iv a] (bv A)->ae 105 [.dat (aN p sl (.slice h) g),iv b] (bv B)->
  ae 106 [.dat (sb j)] (bv D)->ae 107 [.dat (.agg [i64 k,sb t,i64 i,y])] (iv E)->aB E 0=H->ae 108 [.dat (.agg [i64 k,sb t,i64 i,y])] (bv F)->ae 109 [.dat (lI C I c)] (bv G)->
  aF m 0=l->aF m 1=s->aF 7 m=u->aF m 6=v->aB m 5=w->aF m (ofNat h.length)=x->(∀r,g=.slice r->aF m (ofNat r.length)=o)->(g=nl->o=l)->
  KD (.loop (roundOf Tryz.f70 0)) (fun e q=>e=.exit 0/\q=(Cn (cC p sl (.slice h) g) (cX (ofNat n) f a b m j nl k t i y C I c) (cU (lU (amR n))) 0).al iG) ((BJ (cC p sl (.slice h) g) (cX (ofNat n) f a b m j nl k t i y C I c) (cU (lU (amR n))) 0).al iG)->
  ae 70 [.dat (aN p sl (.slice h) g),.dat (eH (ofNat n) f a b m j nl k t i y C I c)] (bv (rvF (lU (amR n)) (ofNat n) J K L M N O P Q R z A B d D H F G l s u v w x o))
theorem OF {sl f:Int} {i j:ak} (l:dj i) (o:dj j) {d:Int} {h:ak} {t:List UInt8} {w:Int} {y:ak} {C I:Int} {c:List UInt8} (q:dj h) (r:dj y) {g c2:Bool} (u:aF f 1=g) (B:aF 22 f=c2) (e:g=false->c2=true) (v:ae 62 [iv f] (.dat kG.zero.use)) :
  ae 70 [.dat (aN p sl i j),.dat (eH f d a b m n h k t w y C I c)] (bv false):=by
 have z:=aS (p:=p) (s:=sl) l o;have A:=@bw f d a b m n h k t w _ C I c q r;cases g
 ·obtain rfl:=e rfl;refine co [12,16] [2,3] (x:=.of Tryz.f70 cF bu) ?_;exact oo z (oo A (on v (ob u (ob B fi))))
 refine co [12] [2,3] (x:=.of Tryz.f70 cF bu) ?_;exact oo z (oo A (on v (ob u fi)))
theorem abB:BE 1:=by
 intro p sl j W h f e a b m n k t i y C I c g z1 P Q R S T U z8 V z t2 t3 d w1 w5 w3 L Z i1 i2 i3 i4 i5 i6 w2 u1 A B D E F H J G u8 K v2 v3 x1 x2 x5 x3 M y0 y1 y2 y3 y4 y5 N O l;have o:=sR 1 (by decide) (by decide);clear N O;have q:=@aS p sl (.slice j) _ (.inr ⟨_,rfl⟩) h;have r:=@bw (ofNat 1) e a b m n (.slice f) k t i _ C I c (.inr ⟨_,rfl⟩) g;have u:=@aO false 2 p sl (.slice j) _ (.inr ⟨_,rfl⟩) h;have v:=@bD false 3 (ofNat 1) e a b m n (.slice f) k t i y C I c (.inr ⟨_,rfl⟩) g;have w:=@bg false 3 (ofNat 1) e a b m n (.slice f) k t i y C I c (.inr ⟨_,rfl⟩) g;clear h g;refine co [33,43,53,63,74,136] [2,3,83,104,182] (x:=.of Tryz.f70 cF bu) ?_;refine oo q (oo r (on o (ox A ?_)))
 cases P
 ·exact fi
 refine ox B ?_
 cases Q
 ·exact fi
 refine ox D ?_
 cases R
 ·exact fi
 refine ox E ?_
 cases S
 ·exact fi
 refine ob F ?_
 cases T
 ·refine oo v (on J (on G ?_))
  cases U
  ·exact fi
  refine oo u (on K ?_)
  cases z
  ·exact fi
  refine ob H ?_
  cases V
  ·refine lo l ?_;rintro Y s (⟨rfl,rfl,rfl⟩|⟨rfl,rfl,rfl⟩)
   ·refine⟨_,rfl,?_⟩;refine oo w (on M ?_)
    cases L <;>
    ·exact fi
   refine⟨_,rfl,?_⟩;exact fi
  exact fi
 exact fi
theorem abC:BF 1:=by
 intro p sl i U f e a b m n k t h y C I c g z1 P Q R S z6 T z8 z9 w t2 t3 d w1 w5 w3 L W Y Z i3 i4 i5 i6 w2 u1 z A B D E G J H F u8 K v2 v3 x1 x2 x5 x3 M y0 y1 y2 y3 y4 y5 N O l;subst E G J;have j:=sR 1 (by decide) (by decide);clear N O;have o:=@aS p sl (.slice i) _ (.inr ⟨_,rfl⟩) f;have q:=@bw (ofNat 1) e a b m n nl k t h _ C I c (.inl rfl) g;have r:=@aO false 2 p sl (.slice i) _ (.inr ⟨_,rfl⟩) f;have u:=@bD false 3 (ofNat 1) e a b m n nl k t h y C I c (.inl rfl) g;have v:=@bg false 3 (ofNat 1) e a b m n nl k t h y C I c (.inl rfl) g;clear f g;refine co [33,43,53,63] [2,3,83,104,182] (x:=.of Tryz.f70 cF bu) ?_;refine oo o (oo q (on j (ox z ?_)))
 cases P
 ·exact fi
 refine ox A ?_
 cases Q
 ·exact fi
 refine ox B ?_
 cases R
 ·exact fi
 refine ox D ?_
 cases S
 ·exact fi
 refine oo u (on H (on F ?_))
 cases T
 ·exact fi
 refine oo r (on K ?_)
 cases w
 ·exact fi
 refine lo l ?_;rintro V s ⟨rfl,rfl⟩;refine⟨_,rfl,?_⟩;refine oo v (on M ?_)
 cases L <;>
 ·exact fi
theorem abz:BE 2:=by
 intro p sl j W h f e a b m n k t i y C I c g z1 z2 P Q R S T U V z A t3 d w1 w5 w3 w4 Z i1 i2 i3 i4 i5 i6 w2 u1 u2 B D E F J K G H L M v3 x1 x2 x5 x3 x4 y0 y1 y2 y3 y4 y5 N O l;have q:=sR 2 (by decide) (by decide);clear N O;have r:=@aS p sl (.slice j) _ (.inr ⟨_,rfl⟩) h;have u:=@bw (ofNat 2) e a b m n (.slice f) k t i _ C I c (.inr ⟨_,rfl⟩) g;have o:=@aO false 2 p sl (.slice j) _ (.inr ⟨_,rfl⟩) h;have v:=@bD false 3 (ofNat 2) e a b m n (.slice f) k t i y C I c (.inr ⟨_,rfl⟩) g;have w:=@bg false 3 (ofNat 2) e a b m n (.slice f) k t i y C I c (.inr ⟨_,rfl⟩) g;clear h g;refine co [43,53,63,74,136] [2,3,83,95,104,114] (x:=.of Tryz.f70 cF bu) ?_;refine oo r (oo u (on q (ox B ?_)))
 cases P
 ·exact fi
 refine ox D ?_
 cases Q
 ·exact fi
 refine ox E ?_
 cases R
 ·exact fi
 refine ob F ?_
 cases S
 ·refine oo v (on K (on G ?_))
  cases T
  ·exact fi
  refine oo w (on H ?_)
  cases U
  ·exact fi
  refine oo o (on L ?_)
  cases z
  ·exact fi
  refine oo o (on M ?_)
  cases A
  ·exact fi
  refine ob J ?_
  cases V
  ·refine lo l ?_;rintro Y s (⟨rfl,rfl,rfl⟩|⟨rfl,rfl,rfl⟩) <;>
   ·refine⟨_,rfl,?_⟩;exact fi
  exact fi
 exact fi
theorem abA:BF 2:=by
 intro p sl i U f e a b m n k t h y C I c g z1 z2 P Q R z6 S T z9 w z t3 d w1 w5 w3 w4 W Y Z i3 i4 i5 i6 w2 u1 u2 A B D E H K J F G L M v3 x1 x2 x5 x3 x4 y0 y1 y2 y3 y4 y5 N O l;subst E H K;have o:=sR 2 (by decide) (by decide);clear N O;have q:=@aS p sl (.slice i) _ (.inr ⟨_,rfl⟩) f;have r:=@bw (ofNat 2) e a b m n nl k t h _ C I c (.inl rfl) g;have j:=@aO false 2 p sl (.slice i) _ (.inr ⟨_,rfl⟩) f;have u:=@bD false 3 (ofNat 2) e a b m n nl k t h y C I c (.inl rfl) g;have v:=@bg false 3 (ofNat 2) e a b m n nl k t h y C I c (.inl rfl) g;clear f g;refine co [43,53,63] [2,3,83,95,104,114] (x:=.of Tryz.f70 cF bu) ?_;refine oo q (oo r (on o (ox A ?_)))
 cases P
 ·exact fi
 refine ox B ?_
 cases Q
 ·exact fi
 refine ox D ?_
 cases R
 ·exact fi
 refine oo u (on J (on F ?_))
 cases S
 ·exact fi
 refine oo v (on G ?_)
 cases T
 ·exact fi
 refine oo j (on L ?_)
 cases w
 ·exact fi
 refine oo j (on M ?_)
 cases z
 ·exact fi
 refine lo l ?_;rintro V s ⟨rfl,rfl⟩;refine⟨_,rfl,?_⟩;exact fi
theorem abx:BE 3:=by
 intro p sl o d2 h f e a b m n k t i y C I c g z1 z2 W z4 Y Z z7 z8 z9 D E F d w1 w5 w3 w4 i0 r u i3 v i5 i6 w2 u1 u2 G u4 H J M N K L O P Q x1 x2 x5 x3 x4 y0 R S y3 T y5 U V l;have q:=sR 3 (by decide) (by decide);clear U V;have w:=@aS p sl (.slice o) _ (.inr ⟨_,rfl⟩) h;have z:=@bw (ofNat 3) e a b m n (.slice f) k t i _ C I c (.inr ⟨_,rfl⟩) g;have j:=@aO false 2 p sl (.slice o) _ (.inr ⟨_,rfl⟩) h;have A:=@bD false 3 (ofNat 3) e a b m n (.slice f) k t i y C I c (.inr ⟨_,rfl⟩) g;have B:=@bg false 3 (ofNat 3) e a b m n (.slice f) k t i y C I c (.inr ⟨_,rfl⟩) g;clear h g;refine co [63,74,136,207,211,216,220] [2,3,83,95,104,114,125] (x:=.of Tryz.f70 cF bu) ?_;refine oo w (oo z (on q (ox H ?_)))
 cases Y
 ·exact fi
 refine ob J ?_
 cases Z
 ·refine oo A (on N (on K ?_))
  cases z7
  ·exact fi
  refine oo B (on L ?_)
  cases z8
  ·exact fi
  refine oo j (on O ?_)
  cases D
  ·exact fi
  refine oo j (on P ?_)
  cases E
  ·exact fi
  refine oo j (on Q ?_)
  cases F
  ·exact fi
  refine ob M ?_
  cases z9
  ·refine lo l ?_;rintro ex s (⟨rfl,rfl,rfl⟩|⟨rfl,rfl,rfl⟩)
   ·refine⟨_,rfl,?_⟩;refine ox R ?_
    cases r
    ·refine ox S ?_
     cases u
     ·refine ox T ?_
      cases v
      ·exact fi
      refine ob G ?_
      cases W <;>
      ·exact fi
     exact fi
    exact fi
   refine⟨_,rfl,?_⟩;exact fi
  exact fi
 exact fi
theorem aby:BF 3:=by
 intro p sl j d2 f e a b m n k t h y C I c g z1 z2 W z4 Y z6 Z z8 z9 B D E d w1 w5 w3 w4 i0 q r i3 u i5 i6 w2 u1 u2 F u4 G H L N M J K O P Q x1 x2 x5 x3 x4 y0 R S y3 T y5 U V l;subst H L N;have o:=sR 3 (by decide) (by decide);clear U V;have v:=@aS p sl (.slice j) _ (.inr ⟨_,rfl⟩) f;have w:=@bw (ofNat 3) e a b m n nl k t h _ C I c (.inl rfl) g;have i:=@aO false 2 p sl (.slice j) _ (.inr ⟨_,rfl⟩) f;have z:=@bD false 3 (ofNat 3) e a b m n nl k t h y C I c (.inl rfl) g;have A:=@bg false 3 (ofNat 3) e a b m n nl k t h y C I c (.inl rfl) g;clear f g;refine co [63,207,211,216,220] [2,3,83,95,104,114,125] (x:=.of Tryz.f70 cF bu) ?_;refine oo v (oo w (on o (ox G ?_)))
 cases Y
 ·exact fi
 refine oo z (on M (on J ?_))
 cases Z
 ·exact fi
 refine oo A (on K ?_)
 cases z8
 ·exact fi
 refine oo i (on O ?_)
 cases B
 ·exact fi
 refine oo i (on P ?_)
 cases D
 ·exact fi
 refine oo i (on Q ?_)
 cases E
 ·exact fi
 refine lo l ?_;rintro ex s ⟨rfl,rfl⟩;refine⟨_,rfl,?_⟩;refine ox R ?_
 cases q
 ·refine ox S ?_
  cases r
  ·refine ox T ?_
   cases u
   ·exact fi
   refine ob F ?_
   cases W <;>
   ·exact fi
  exact fi
 exact fi
theorem abv:BE 4:=by
 intro p sl j W h f e a b m n k t i y C I c g z1 Q R S T z6 z7 U V z t2 t3 d w1 K J w4 Z i1 i2 i3 i4 i5 i6 w2 u1 A B D E u6 G ua u7 F H v2 v3 x1 L N M x4 y0 y1 y2 y3 y4 y5 O P l;have q:=sR 4 (by decide) (by decide);clear O P;have r:=@aS p sl (.slice j) _ (.inr ⟨_,rfl⟩) h;have u:=@bw (ofNat 4) e a b m n (.slice f) k t i _ C I c (.inr ⟨_,rfl⟩) g;have v:=@aO false 2 p sl (.slice j) _ (.inr ⟨_,rfl⟩) h;have o:=@bD false 3 (ofNat 4) e a b m n (.slice f) k t i y C I c (.inr ⟨_,rfl⟩) g;have w:=@bg false 3 (ofNat 4) e a b m n (.slice f) k t i y C I c (.inr ⟨_,rfl⟩) g;clear h g;refine co [33,43,53,63,136,168] [2,3,95,104,166,171] (x:=.of Tryz.f70 cF bu) ?_;refine oo r (oo u (on q (ox A ?_)))
 cases Q
 ·exact fi
 refine ox B ?_
 cases R
 ·exact fi
 refine ox D ?_
 cases S
 ·exact fi
 refine ox E ?_
 cases T
 ·exact fi
 refine oo w (on F ?_)
 cases U
 ·exact fi
 refine oo v (on H ?_)
 cases z
 ·exact fi
 refine ob G ?_
 cases V
 ·refine lo l ?_;rintro Y s (⟨rfl,rfl,rfl⟩|⟨rfl,rfl,rfl⟩)
  ·refine⟨_,rfl,?_⟩;refine oo o (on L (ox N ?_))
   cases K
   ·exact fi
   refine oo o (on M ?_)
   cases J <;>
   ·exact fi
  refine⟨_,rfl,?_⟩;exact fi
 exact fi
theorem abw:BF 4:=by
 intro p sl i W f e a b m n k t h y C I c g z1 R S T U z6 z7 V z9 w t2 t3 d w1 L K w4 Z i1 i2 i3 i4 i5 i6 w2 u1 z A B D E G H ua u7 F J v2 v3 x1 M O N x4 y0 y1 y2 y3 y4 y5 P Q l;subst E G H;have o:=sR 4 (by decide) (by decide);clear P Q;have q:=@aS p sl (.slice i) _ (.inr ⟨_,rfl⟩) f;have r:=@bw (ofNat 4) e a b m n nl k t h _ C I c (.inl rfl) g;have u:=@aO false 2 p sl (.slice i) _ (.inr ⟨_,rfl⟩) f;have j:=@bD false 3 (ofNat 4) e a b m n nl k t h y C I c (.inl rfl) g;have v:=@bg false 3 (ofNat 4) e a b m n nl k t h y C I c (.inl rfl) g;clear f g;refine co [33,43,53,63,168] [2,3,95,104,166,171] (x:=.of Tryz.f70 cF bu) ?_;refine oo q (oo r (on o (ox z ?_)))
 cases R
 ·exact fi
 refine ox A ?_
 cases S
 ·exact fi
 refine ox B ?_
 cases T
 ·exact fi
 refine ox D ?_
 cases U
 ·exact fi
 refine oo v (on F ?_)
 cases V
 ·exact fi
 refine oo u (on J ?_)
 cases w
 ·exact fi
 refine lo l ?_;rintro Y s ⟨rfl,rfl⟩;refine⟨_,rfl,?_⟩;refine oo j (on M (ox O ?_))
 cases L
 ·exact fi
 refine oo j (on N ?_)
 cases K <;>
 ·exact fi
theorem abt:BE 5:=by
 intro p sl j W h f e a b m n k t i y C I c g z1 z2 Q R z5 S T U V z A t3 d M w5 w3 w4 Z i1 i2 i3 i4 i5 i6 w2 u1 u2 B D u5 E H J F G K L v3 N x2 x5 x3 x4 y0 y1 y2 y3 y4 y5 O P l;have q:=sR 5 (by decide) (by decide);clear O P;have r:=@aS p sl (.slice j) _ (.inr ⟨_,rfl⟩) h;have u:=@bw (ofNat 5) e a b m n (.slice f) k t i _ C I c (.inr ⟨_,rfl⟩) g;have o:=@aO false 2 p sl (.slice j) _ (.inr ⟨_,rfl⟩) h;have v:=@bD false 3 (ofNat 5) e a b m n (.slice f) k t i y C I c (.inr ⟨_,rfl⟩) g;have w:=@bg false 3 (ofNat 5) e a b m n (.slice f) k t i y C I c (.inr ⟨_,rfl⟩) g;clear h g;refine co [43,53,74,136] [2,3,83,95,104,114] (x:=.of Tryz.f70 cF bu) ?_;refine oo r (oo u (on q (ox B ?_)))
 cases Q
 ·exact fi
 refine ox D ?_
 cases R
 ·exact fi
 refine ob E ?_
 cases S
 ·refine oo v (on J (on F ?_))
  cases T
  ·exact fi
  refine oo w (on G ?_)
  cases U
  ·exact fi
  refine oo o (on K ?_)
  cases z
  ·exact fi
  refine oo o (on L ?_)
  cases A
  ·exact fi
  refine ob H ?_
  cases V
  ·refine lo l ?_;rintro Y s (⟨rfl,rfl,rfl⟩|⟨rfl,rfl,rfl⟩)
   ·refine⟨_,rfl,?_⟩;refine on N ?_
    cases M <;>
    ·exact fi
   refine⟨_,rfl,?_⟩;exact fi
  exact fi
 exact fi
theorem abu:BF 5:=by
 intro p sl i U f e a b m n k t h y C I c g z1 z2 Q R z5 z6 S T z9 w z t3 d M w5 w3 w4 W Y Z i3 i4 i5 i6 w2 u1 u2 A B u5 D G J H E F K L v3 N x2 x5 x3 x4 y0 y1 y2 y3 y4 y5 O P l;subst D G J;have o:=sR 5 (by decide) (by decide);clear O P;have q:=@aS p sl (.slice i) _ (.inr ⟨_,rfl⟩) f;have r:=@bw (ofNat 5) e a b m n nl k t h _ C I c (.inl rfl) g;have j:=@aO false 2 p sl (.slice i) _ (.inr ⟨_,rfl⟩) f;have u:=@bD false 3 (ofNat 5) e a b m n nl k t h y C I c (.inl rfl) g;have v:=@bg false 3 (ofNat 5) e a b m n nl k t h y C I c (.inl rfl) g;clear f g;refine co [43,53] [2,3,83,95,104,114] (x:=.of Tryz.f70 cF bu) ?_;refine oo q (oo r (on o (ox A ?_)))
 cases Q
 ·exact fi
 refine ox B ?_
 cases R
 ·exact fi
 refine oo u (on H (on E ?_))
 cases S
 ·exact fi
 refine oo v (on F ?_)
 cases T
 ·exact fi
 refine oo j (on K ?_)
 cases w
 ·exact fi
 refine oo j (on L ?_)
 cases z
 ·exact fi
 refine lo l ?_;rintro V s ⟨rfl,rfl⟩;refine⟨_,rfl,?_⟩;refine on N ?_
 cases M <;>
 ·exact fi
theorem abq:BE 6:=by
 intro p sl j W h f e a b m n k t i y C I c g Q z2 z3 R z5 S T U V t1 z A d M w5 w3 w4 Z i1 i2 i3 i4 i5 i6 w2 B u2 u3 D u5 E H J F G v1 K L N x2 x5 x3 x4 y0 y1 y2 y3 y4 y5 O P l;have q:=sR 6 (by decide) (by decide);clear O P;have r:=@aS p sl (.slice j) _ (.inr ⟨_,rfl⟩) h;have u:=@bw (ofNat 6) e a b m n (.slice f) k t i _ C I c (.inr ⟨_,rfl⟩) g;have o:=@aO false 2 p sl (.slice j) _ (.inr ⟨_,rfl⟩) h;have v:=@bD false 3 (ofNat 6) e a b m n (.slice f) k t i y C I c (.inr ⟨_,rfl⟩) g;have w:=@bg false 3 (ofNat 6) e a b m n (.slice f) k t i y C I c (.inr ⟨_,rfl⟩) g;clear h g;refine co [24,53,74,136] [2,3,83,95,114,125] (x:=.of Tryz.f70 cF bu) ?_;refine oo r (oo u (on q (ox B ?_)))
 cases Q
 ·exact fi
 refine ox D ?_
 cases R
 ·exact fi
 refine ob E ?_
 cases S
 ·refine oo v (on J (on F ?_))
  cases T
  ·exact fi
  refine oo w (on G ?_)
  cases U
  ·exact fi
  refine oo o (on K ?_)
  cases z
  ·exact fi
  refine oo o (on L ?_)
  cases A
  ·exact fi
  refine ob H ?_
  cases V
  ·refine lo l ?_;rintro Y s (⟨rfl,rfl,rfl⟩|⟨rfl,rfl,rfl⟩)
   ·refine⟨_,rfl,?_⟩;refine on N ?_
    cases M <;>
    ·exact fi
   refine⟨_,rfl,?_⟩;exact fi
  exact fi
 exact fi
theorem abr:BF 6:=by
 intro p sl i U f e a b m n k t h y C I c g Q z2 z3 R z5 z6 S T z9 t1 w z d M w5 w3 w4 W Y Z i3 i4 i5 i6 w2 A u2 u3 B u5 D G J H E F v1 K L N x2 x5 x3 x4 y0 y1 y2 y3 y4 y5 O P l;subst D G J;have o:=sR 6 (by decide) (by decide);clear O P;have q:=@aS p sl (.slice i) _ (.inr ⟨_,rfl⟩) f;have r:=@bw (ofNat 6) e a b m n nl k t h _ C I c (.inl rfl) g;have j:=@aO false 2 p sl (.slice i) _ (.inr ⟨_,rfl⟩) f;have u:=@bD false 3 (ofNat 6) e a b m n nl k t h y C I c (.inl rfl) g;have v:=@bg false 3 (ofNat 6) e a b m n nl k t h y C I c (.inl rfl) g;clear f g;refine co [24,53] [2,3,83,95,114,125] (x:=.of Tryz.f70 cF bu) ?_;refine oo q (oo r (on o (ox A ?_)))
 cases Q
 ·exact fi
 refine ox B ?_
 cases R
 ·exact fi
 refine oo u (on H (on E ?_))
 cases S
 ·exact fi
 refine oo v (on F ?_)
 cases T
 ·exact fi
 refine oo j (on K ?_)
 cases w
 ·exact fi
 refine oo j (on L ?_)
 cases z
 ·exact fi
 refine lo l ?_;rintro V s ⟨rfl,rfl⟩;refine⟨_,rfl,?_⟩;refine on N ?_
 cases M <;>
 ·exact fi
theorem abo:BE 7:=by
 intro p sl j U h f e a b m n k t i y C I c g z1 N O P Q z6 R S T z t2 t3 d w1 w5 w3 w4 W Y Z i3 i4 i5 i6 w2 u1 A B D E u6 H J F G K v2 v3 x1 x2 x5 x3 x4 y0 y1 y2 y3 y4 y5 L M l;have o:=sR 7 (by decide) (by decide);clear L M;have q:=@aS p sl (.slice j) _ (.inr ⟨_,rfl⟩) h;have r:=@bw (ofNat 7) e a b m n (.slice f) k t i _ C I c (.inr ⟨_,rfl⟩) g;have u:=@aO false 2 p sl (.slice j) _ (.inr ⟨_,rfl⟩) h;have v:=@bD false 3 (ofNat 7) e a b m n (.slice f) k t i y C I c (.inr ⟨_,rfl⟩) g;have w:=@bg false 3 (ofNat 7) e a b m n (.slice f) k t i y C I c (.inr ⟨_,rfl⟩) g;clear h g;refine co [33,43,53,63,136] [2,3,83,95,104] (x:=.of Tryz.f70 cF bu) ?_;refine oo q (oo r (on o (ox A ?_)))
 cases N
 ·exact fi
 refine ox B ?_
 cases O
 ·exact fi
 refine ox D ?_
 cases P
 ·exact fi
 refine ox E ?_
 cases Q
 ·exact fi
 refine oo v (on J (on F ?_))
 cases R
 ·exact fi
 refine oo w (on G ?_)
 cases S
 ·exact fi
 refine oo u (on K ?_)
 cases z
 ·exact fi
 refine ob H ?_
 cases T
 ·refine lo l ?_;rintro V s (⟨rfl,rfl,rfl⟩|⟨rfl,rfl,rfl⟩) <;>
  ·refine⟨_,rfl,?_⟩;exact fi
 exact fi
theorem abp:BF 7:=by
 intro p sl i U f e a b m n k t h y C I c g z1 O P Q R z6 S T z9 w t2 t3 d w1 w5 w3 w4 W Y Z i3 i4 i5 i6 w2 u1 z A B D E H K J F G L v2 v3 x1 x2 x5 x3 x4 y0 y1 y2 y3 y4 y5 M N l;subst E H K;have j:=sR 7 (by decide) (by decide);clear M N;have o:=@aS p sl (.slice i) _ (.inr ⟨_,rfl⟩) f;have q:=@bw (ofNat 7) e a b m n nl k t h _ C I c (.inl rfl) g;have r:=@aO false 2 p sl (.slice i) _ (.inr ⟨_,rfl⟩) f;have u:=@bD false 3 (ofNat 7) e a b m n nl k t h y C I c (.inl rfl) g;have v:=@bg false 3 (ofNat 7) e a b m n nl k t h y C I c (.inl rfl) g;clear f g;refine co [33,43,53,63] [2,3,83,95,104] (x:=.of Tryz.f70 cF bu) ?_;refine oo o (oo q (on j (ox z ?_)))
 cases O
 ·exact fi
 refine ox A ?_
 cases P
 ·exact fi
 refine ox B ?_
 cases Q
 ·exact fi
 refine ox D ?_
 cases R
 ·exact fi
 refine oo u (on J (on F ?_))
 cases S
 ·exact fi
 refine oo v (on G ?_)
 cases T
 ·exact fi
 refine oo r (on L ?_)
 cases w
 ·exact fi
 refine lo l ?_;rintro V s ⟨rfl,rfl⟩;refine⟨_,rfl,?_⟩;exact fi
theorem abm:BE 8:=by
 intro p sl j Z h f e a b m n k t i y C I c g z1 z2 S z4 T U V W Y B D t3 d w1 w5 w3 w4 r i1 i2 u i4 i5 i6 w2 u1 u2 E u4 F G K L H J M N v3 x1 x2 x5 x3 x4 O y1 y2 P y4 y5 Q R l;have q:=sR 8 (by decide) (by decide);clear Q R;have v:=@aS p sl (.slice j) _ (.inr ⟨_,rfl⟩) h;have w:=@bw (ofNat 8) e a b m n (.slice f) k t i _ C I c (.inr ⟨_,rfl⟩) g;have o:=@aO false 2 p sl (.slice j) _ (.inr ⟨_,rfl⟩) h;have z:=@bD false 3 (ofNat 8) e a b m n (.slice f) k t i y C I c (.inr ⟨_,rfl⟩) g;have A:=@bg false 3 (ofNat 8) e a b m n (.slice f) k t i y C I c (.inr ⟨_,rfl⟩) g;clear h g;refine co [43,63,74,136,227,231] [2,3,83,95,104,114] (x:=.of Tryz.f70 cF bu) ?_;refine oo v (oo w (on q (ox E ?_)))
 cases S
 ·exact fi
 refine ox F ?_
 cases T
 ·exact fi
 refine ob G ?_
 cases U
 ·refine oo z (on L (on H ?_))
  cases V
  ·exact fi
  refine oo A (on J ?_)
  cases W
  ·exact fi
  refine oo o (on M ?_)
  cases B
  ·exact fi
  refine oo o (on N ?_)
  cases D
  ·exact fi
  refine ob K ?_
  cases Y
  ·refine lo l ?_;rintro ex s (⟨rfl,rfl,rfl⟩|⟨rfl,rfl,rfl⟩)
   ·refine⟨_,rfl,?_⟩;refine ox O ?_
    cases r
    ·refine ob P ?_
     cases u <;>
     ·exact fi
    exact fi
   refine⟨_,rfl,?_⟩;exact fi
  exact fi
 exact fi
theorem abn:BF 8:=by
 intro p sl i W f e a b m n k t h y C I c g z1 z2 S z4 T z6 U V z9 A B t3 d w1 w5 w3 w4 q Z i2 r i4 i5 i6 w2 u1 u2 D u4 E F J L K G H M N v3 x1 x2 x5 x3 x4 O y1 y2 P y4 y5 Q R l;subst F J L;have o:=sR 8 (by decide) (by decide);clear Q R;have u:=@aS p sl (.slice i) _ (.inr ⟨_,rfl⟩) f;have v:=@bw (ofNat 8) e a b m n nl k t h _ C I c (.inl rfl) g;have j:=@aO false 2 p sl (.slice i) _ (.inr ⟨_,rfl⟩) f;have w:=@bD false 3 (ofNat 8) e a b m n nl k t h y C I c (.inl rfl) g;have z:=@bg false 3 (ofNat 8) e a b m n nl k t h y C I c (.inl rfl) g;clear f g;refine co [43,63,227,231] [2,3,83,95,104,114] (x:=.of Tryz.f70 cF bu) ?_;refine oo u (oo v (on o (ox D ?_)))
 cases S
 ·exact fi
 refine ox E ?_
 cases T
 ·exact fi
 refine oo w (on K (on G ?_))
 cases U
 ·exact fi
 refine oo z (on H ?_)
 cases V
 ·exact fi
 refine oo j (on M ?_)
 cases A
 ·exact fi
 refine oo j (on N ?_)
 cases B
 ·exact fi
 refine lo l ?_;rintro Y s ⟨rfl,rfl⟩;refine⟨_,rfl,?_⟩;refine ox O ?_
 cases q
 ·refine ob P ?_
  cases r <;>
  ·exact fi
 exact fi
theorem abk:BE 9:=by
 intro p sl j Z h f e a b m n k t i y C I c g z1 z2 S T U V z7 W Y z A t3 d w1 M L w4 i0 i1 i2 i3 i4 i5 i6 w2 u1 u2 B D E F H ua u7 G J K v3 x1 N P O x4 y0 y1 y2 y3 y4 y5 Q R l;have r:=sR 9 (by decide) (by decide);clear Q R;have u:=@aS p sl (.slice j) _ (.inr ⟨_,rfl⟩) h;have v:=@bw (ofNat 9) e a b m n (.slice f) k t i _ C I c (.inr ⟨_,rfl⟩) g;have o:=@aO false 2 p sl (.slice j) _ (.inr ⟨_,rfl⟩) h;have q:=@bD false 3 (ofNat 9) e a b m n (.slice f) k t i y C I c (.inr ⟨_,rfl⟩) g;have w:=@bg false 3 (ofNat 9) e a b m n (.slice f) k t i y C I c (.inr ⟨_,rfl⟩) g;clear h g;refine co [43,53,63,74,136,168] [2,3,95,104,114,166,171] (x:=.of Tryz.f70 cF bu) ?_;refine oo u (oo v (on r (ox B ?_)))
 cases S
 ·exact fi
 refine ox D ?_
 cases T
 ·exact fi
 refine ox E ?_
 cases U
 ·exact fi
 refine ob F ?_
 cases V
 ·refine oo w (on G ?_)
  cases W
  ·exact fi
  refine oo o (on J ?_)
  cases z
  ·exact fi
  refine oo o (on K ?_)
  cases A
  ·exact fi
  refine ob H ?_
  cases Y
  ·refine lo l ?_;rintro ex s (⟨rfl,rfl,rfl⟩|⟨rfl,rfl,rfl⟩)
   ·refine⟨_,rfl,?_⟩;refine oo q (on N (ox P ?_))
    cases M
    ·exact fi
    refine oo q (on O ?_)
    cases L <;>
    ·exact fi
   refine⟨_,rfl,?_⟩;exact fi
  exact fi
 exact fi
theorem abl:BF 9:=by
 intro p sl i W f e a b m n k t h y C I c g z1 z2 S T U z6 z7 V z9 w z t3 d w1 M L w4 Z i1 i2 i3 i4 i5 i6 w2 u1 u2 A B D E G H ua u7 F J K v3 x1 N P O x4 y0 y1 y2 y3 y4 y5 Q R l;subst E G H;have q:=sR 9 (by decide) (by decide);clear Q R;have r:=@aS p sl (.slice i) _ (.inr ⟨_,rfl⟩) f;have u:=@bw (ofNat 9) e a b m n nl k t h _ C I c (.inl rfl) g;have j:=@aO false 2 p sl (.slice i) _ (.inr ⟨_,rfl⟩) f;have o:=@bD false 3 (ofNat 9) e a b m n nl k t h y C I c (.inl rfl) g;have v:=@bg false 3 (ofNat 9) e a b m n nl k t h y C I c (.inl rfl) g;clear f g;refine co [43,53,63,168] [2,3,95,104,114,166,171] (x:=.of Tryz.f70 cF bu) ?_;refine oo r (oo u (on q (ox A ?_)))
 cases S
 ·exact fi
 refine ox B ?_
 cases T
 ·exact fi
 refine ox D ?_
 cases U
 ·exact fi
 refine oo v (on F ?_)
 cases V
 ·exact fi
 refine oo j (on J ?_)
 cases w
 ·exact fi
 refine oo j (on K ?_)
 cases z
 ·exact fi
 refine lo l ?_;rintro Y s ⟨rfl,rfl⟩;refine⟨_,rfl,?_⟩;refine oo o (on N (ox P ?_))
 cases M
 ·exact fi
 refine oo o (on O ?_)
 cases L <;>
 ·exact fi
theorem Xi:BE 10:=by
 intro p sl j U h f e a b m n k t i y C I c g z1 O P Q z5 z6 R S T z t2 t3 d K w5 w3 w4 W Y Z i3 i4 i5 i6 w2 u1 A B D u5 u6 G H E F J v2 v3 L x2 x5 x3 x4 y0 y1 y2 y3 y4 y5 M N l;have o:=sR 10 (by decide) (by decide);clear M N;have q:=@aS p sl (.slice j) _ (.inr ⟨_,rfl⟩) h;have r:=@bw (ofNat 10) e a b m n (.slice f) k t i _ C I c (.inr ⟨_,rfl⟩) g;have u:=@aO false 2 p sl (.slice j) _ (.inr ⟨_,rfl⟩) h;have v:=@bD false 3 (ofNat 10) e a b m n (.slice f) k t i y C I c (.inr ⟨_,rfl⟩) g;have w:=@bg false 3 (ofNat 10) e a b m n (.slice f) k t i y C I c (.inr ⟨_,rfl⟩) g;clear h g;refine co [33,43,53,136] [2,3,83,95,104] (x:=.of Tryz.f70 cF bu) ?_;refine oo q (oo r (on o (ox A ?_)))
 cases O
 ·exact fi
 refine ox B ?_
 cases P
 ·exact fi
 refine ox D ?_
 cases Q
 ·exact fi
 refine oo v (on H (on E ?_))
 cases R
 ·exact fi
 refine oo w (on F ?_)
 cases S
 ·exact fi
 refine oo u (on J ?_)
 cases z
 ·exact fi
 refine ob G ?_
 cases T
 ·refine lo l ?_;rintro V s (⟨rfl,rfl,rfl⟩|⟨rfl,rfl,rfl⟩)
  ·refine⟨_,rfl,?_⟩;refine on L ?_
   cases K <;>
   ·exact fi
  refine⟨_,rfl,?_⟩;exact fi
 exact fi
theorem Xj:BF 10:=by
 intro p sl i U f e a b m n k t h y C I c g z1 P Q R z5 z6 S T z9 w t2 t3 d L w5 w3 w4 W Y Z i3 i4 i5 i6 w2 u1 z A B u5 D G J H E F K v2 v3 M x2 x5 x3 x4 y0 y1 y2 y3 y4 y5 N O l;subst D G J;have j:=sR 10 (by decide) (by decide);clear N O;have o:=@aS p sl (.slice i) _ (.inr ⟨_,rfl⟩) f;have q:=@bw (ofNat 10) e a b m n nl k t h _ C I c (.inl rfl) g;have r:=@aO false 2 p sl (.slice i) _ (.inr ⟨_,rfl⟩) f;have u:=@bD false 3 (ofNat 10) e a b m n nl k t h y C I c (.inl rfl) g;have v:=@bg false 3 (ofNat 10) e a b m n nl k t h y C I c (.inl rfl) g;clear f g;refine co [33,43,53] [2,3,83,95,104] (x:=.of Tryz.f70 cF bu) ?_;refine oo o (oo q (on j (ox z ?_)))
 cases P
 ·exact fi
 refine ox A ?_
 cases Q
 ·exact fi
 refine ox B ?_
 cases R
 ·exact fi
 refine oo u (on H (on E ?_))
 cases S
 ·exact fi
 refine oo v (on F ?_)
 cases T
 ·exact fi
 refine oo r (on K ?_)
 cases w
 ·exact fi
 refine lo l ?_;rintro V s ⟨rfl,rfl⟩;refine⟨_,rfl,?_⟩;refine on M ?_
 cases L <;>
 ·exact fi
theorem Xg:BE 11:=by
 intro p sl j U h f e a b m n k t i y C I c g z1 O P Q z5 z6 R S T z t2 t3 d K w5 w3 w4 W Y Z i3 i4 i5 i6 w2 u1 A B D u5 u6 G H E F J v2 v3 L x2 x5 x3 x4 y0 y1 y2 y3 y4 y5 M N l;have o:=sR 11 (by decide) (by decide);clear M N;have q:=@aS p sl (.slice j) _ (.inr ⟨_,rfl⟩) h;have r:=@bw (ofNat 11) e a b m n (.slice f) k t i _ C I c (.inr ⟨_,rfl⟩) g;have u:=@aO false 2 p sl (.slice j) _ (.inr ⟨_,rfl⟩) h;have v:=@bD false 3 (ofNat 11) e a b m n (.slice f) k t i y C I c (.inr ⟨_,rfl⟩) g;have w:=@bg false 3 (ofNat 11) e a b m n (.slice f) k t i y C I c (.inr ⟨_,rfl⟩) g;clear h g;refine co [33,43,53,136] [2,3,83,95,104] (x:=.of Tryz.f70 cF bu) ?_;refine oo q (oo r (on o (ox A ?_)))
 cases O
 ·exact fi
 refine ox B ?_
 cases P
 ·exact fi
 refine ox D ?_
 cases Q
 ·exact fi
 refine oo v (on H (on E ?_))
 cases R
 ·exact fi
 refine oo w (on F ?_)
 cases S
 ·exact fi
 refine oo u (on J ?_)
 cases z
 ·exact fi
 refine ob G ?_
 cases T
 ·refine lo l ?_;rintro V s (⟨rfl,rfl,rfl⟩|⟨rfl,rfl,rfl⟩)
  ·refine⟨_,rfl,?_⟩;refine on L ?_
   cases K <;>
   ·exact fi
  refine⟨_,rfl,?_⟩;exact fi
 exact fi
theorem Xh:BF 11:=by
 intro p sl i U f e a b m n k t h y C I c g z1 P Q R z5 z6 S T z9 w t2 t3 d L w5 w3 w4 W Y Z i3 i4 i5 i6 w2 u1 z A B u5 D G J H E F K v2 v3 M x2 x5 x3 x4 y0 y1 y2 y3 y4 y5 N O l;subst D G J;have j:=sR 11 (by decide) (by decide);clear N O;have o:=@aS p sl (.slice i) _ (.inr ⟨_,rfl⟩) f;have q:=@bw (ofNat 11) e a b m n nl k t h _ C I c (.inl rfl) g;have r:=@aO false 2 p sl (.slice i) _ (.inr ⟨_,rfl⟩) f;have u:=@bD false 3 (ofNat 11) e a b m n nl k t h y C I c (.inl rfl) g;have v:=@bg false 3 (ofNat 11) e a b m n nl k t h y C I c (.inl rfl) g;clear f g;refine co [33,43,53] [2,3,83,95,104] (x:=.of Tryz.f70 cF bu) ?_;refine oo o (oo q (on j (ox z ?_)))
 cases P
 ·exact fi
 refine ox A ?_
 cases Q
 ·exact fi
 refine ox B ?_
 cases R
 ·exact fi
 refine oo u (on H (on E ?_))
 cases S
 ·exact fi
 refine oo v (on F ?_)
 cases T
 ·exact fi
 refine oo r (on K ?_)
 cases w
 ·exact fi
 refine lo l ?_;rintro V s ⟨rfl,rfl⟩;refine⟨_,rfl,?_⟩;refine on M ?_
 cases L <;>
 ·exact fi
theorem Xe:BE 12:=by
 intro p sl j Y h f e a b m n k t i y C I c g P Q R z4 S T U V W t1 t2 t3 d w1 w5 w3 w4 q i1 i2 i3 i4 r i6 w2 A B D u4 E F J K G H v1 v2 v3 x1 x2 x5 x3 x4 L y1 y2 y3 y4 M N O l;have o:=sR 12 (by decide) (by decide);clear N O;have u:=@aS p sl (.slice j) _ (.inr ⟨_,rfl⟩) h;have v:=@bw (ofNat 12) e a b m n (.slice f) k t i _ C I c (.inr ⟨_,rfl⟩) g;have q3:=@aO false 2 p sl (.slice j) _ (.inr ⟨_,rfl⟩) h;have w:=@bD false 3 (ofNat 12) e a b m n (.slice f) k t i y C I c (.inr ⟨_,rfl⟩) g;have z:=@bg false 3 (ofNat 12) e a b m n (.slice f) k t i y C I c (.inr ⟨_,rfl⟩) g;clear h g;refine co [24,33,43,63,74,136,194,201] [2,3,83,95] (x:=.of Tryz.f70 cF bu) ?_;refine oo u (oo v (on o (ox A ?_)))
 cases P
 ·exact fi
 refine ox B ?_
 cases Q
 ·exact fi
 refine ox D ?_
 cases R
 ·exact fi
 refine ox E ?_
 cases S
 ·exact fi
 refine ob F ?_
 cases T
 ·refine oo w (on K (on G ?_))
  cases U
  ·exact fi
  refine oo z (on H ?_)
  cases V
  ·exact fi
  refine ob J ?_
  cases W
  ·refine lo l ?_;rintro Z s (⟨rfl,rfl,rfl⟩|⟨rfl,rfl,rfl⟩)
   ·refine⟨_,rfl,?_⟩;refine ox L ?_
    cases q
    ·refine ob M ?_
     cases r <;>
     ·exact fi
    exact fi
   refine⟨_,rfl,?_⟩;exact fi
  exact fi
 exact fi
theorem Xf:BF 12:=by
 intro p sl i V f e a b m n k t h y C I c g P Q R z4 S z6 T U z9 t1 t2 t3 d w1 w5 w3 w4 o Y Z i3 i4 q i6 w2 z A B u4 D E H K J F G v1 v2 v3 x1 x2 x5 x3 x4 L y1 y2 y3 y4 M N O l;subst E H K;have j:=sR 12 (by decide) (by decide);clear N O;have r:=@aS p sl (.slice i) _ (.inr ⟨_,rfl⟩) f;have u:=@bw (ofNat 12) e a b m n nl k t h _ C I c (.inl rfl) g;have q3:=@aO false 2 p sl (.slice i) _ (.inr ⟨_,rfl⟩) f;have v:=@bD false 3 (ofNat 12) e a b m n nl k t h y C I c (.inl rfl) g;have w:=@bg false 3 (ofNat 12) e a b m n nl k t h y C I c (.inl rfl) g;clear f g;refine co [24,33,43,63,194,201] [2,3,83,95] (x:=.of Tryz.f70 cF bu) ?_;refine oo r (oo u (on j (ox z ?_)))
 cases P
 ·exact fi
 refine ox A ?_
 cases Q
 ·exact fi
 refine ox B ?_
 cases R
 ·exact fi
 refine ox D ?_
 cases S
 ·exact fi
 refine oo v (on J (on F ?_))
 cases T
 ·exact fi
 refine oo w (on G ?_)
 cases U
 ·exact fi
 refine lo l ?_;rintro W s ⟨rfl,rfl⟩;refine⟨_,rfl,?_⟩;refine ox L ?_
 cases o
 ·refine ob M ?_
  cases q <;>
  ·exact fi
 exact fi
theorem Xc:BE 13:=by
 intro p sl j Z h f e a b m n k t i y C I c g R z2 S z4 T U V W Y t1 B t3 d w1 w5 w3 w4 q i1 i2 i3 i4 r i6 w2 D u2 E u4 F G K L H J v1 M v3 x1 x2 x5 x3 x4 N y1 y2 y3 y4 O P Q l;have o:=sR 13 (by decide) (by decide);clear P Q;have u:=@aS p sl (.slice j) _ (.inr ⟨_,rfl⟩) h;have v:=@bw (ofNat 13) e a b m n (.slice f) k t i _ C I c (.inr ⟨_,rfl⟩) g;have w:=@aO false 2 p sl (.slice j) _ (.inr ⟨_,rfl⟩) h;have z:=@bD false 3 (ofNat 13) e a b m n (.slice f) k t i y C I c (.inr ⟨_,rfl⟩) g;have A:=@bg false 3 (ofNat 13) e a b m n (.slice f) k t i y C I c (.inr ⟨_,rfl⟩) g;clear h g;refine co [24,43,63,74,136,194,201] [2,3,83,95,114] (x:=.of Tryz.f70 cF bu) ?_;refine oo u (oo v (on o (ox D ?_)))
 cases R
 ·exact fi
 refine ox E ?_
 cases S
 ·exact fi
 refine ox F ?_
 cases T
 ·exact fi
 refine ob G ?_
 cases U
 ·refine oo z (on L (on H ?_))
  cases V
  ·exact fi
  refine oo A (on J ?_)
  cases W
  ·exact fi
  refine oo w (on M ?_)
  cases B
  ·exact fi
  refine ob K ?_
  cases Y
  ·refine lo l ?_;rintro ex s (⟨rfl,rfl,rfl⟩|⟨rfl,rfl,rfl⟩)
   ·refine⟨_,rfl,?_⟩;refine ox N ?_
    cases q
    ·refine ob O ?_
     cases r <;>
     ·exact fi
    exact fi
   refine⟨_,rfl,?_⟩;exact fi
  exact fi
 exact fi
theorem Xd:BF 13:=by
 intro p sl i W f e a b m n k t h y C I c g R z2 S z4 T z6 U V z9 t1 A t3 d w1 w5 w3 w4 o Z i2 i3 i4 q i6 w2 B u2 D u4 E F J L K G H v1 M v3 x1 x2 x5 x3 x4 N y1 y2 y3 y4 O P Q l;subst F J L;have j:=sR 13 (by decide) (by decide);clear P Q;have r:=@aS p sl (.slice i) _ (.inr ⟨_,rfl⟩) f;have u:=@bw (ofNat 13) e a b m n nl k t h _ C I c (.inl rfl) g;have v:=@aO false 2 p sl (.slice i) _ (.inr ⟨_,rfl⟩) f;have w:=@bD false 3 (ofNat 13) e a b m n nl k t h y C I c (.inl rfl) g;have z:=@bg false 3 (ofNat 13) e a b m n nl k t h y C I c (.inl rfl) g;clear f g;refine co [24,43,63,194,201] [2,3,83,95,114] (x:=.of Tryz.f70 cF bu) ?_;refine oo r (oo u (on j (ox B ?_)))
 cases R
 ·exact fi
 refine ox D ?_
 cases S
 ·exact fi
 refine ox E ?_
 cases T
 ·exact fi
 refine oo w (on K (on G ?_))
 cases U
 ·exact fi
 refine oo z (on H ?_)
 cases V
 ·exact fi
 refine oo v (on M ?_)
 cases A
 ·exact fi
 refine lo l ?_;rintro Y s ⟨rfl,rfl⟩;refine⟨_,rfl,?_⟩;refine ox N ?_
 cases o
 ·refine ob O ?_
  cases q <;>
  ·exact fi
 exact fi
theorem Xa:BE 14:=by
 intro p sl j V h f e a b m n k t i y C I c g M N O P Q R S T U t1 t2 t3 d w1 w5 w3 w4 Y Z i2 i3 i4 i5 i6 w2 w z A B D E H J F G v1 v2 v3 x1 x2 x5 x3 x4 y0 y1 y2 y3 y4 y5 K L l;have o:=sR 14 (by decide) (by decide);clear K L;have q:=@aS p sl (.slice j) _ (.inr ⟨_,rfl⟩) h;have r:=@bw (ofNat 14) e a b m n (.slice f) k t i _ C I c (.inr ⟨_,rfl⟩) g;have q3:=@aO false 2 p sl (.slice j) _ (.inr ⟨_,rfl⟩) h;have u:=@bD false 3 (ofNat 14) e a b m n (.slice f) k t i y C I c (.inr ⟨_,rfl⟩) g;have v:=@bg false 3 (ofNat 14) e a b m n (.slice f) k t i y C I c (.inr ⟨_,rfl⟩) g;clear h g;refine co [24,33,43,53,63,74,136] [2,3,83,95] (x:=.of Tryz.f70 cF bu) ?_;refine oo q (oo r (on o (ox w ?_)))
 cases M
 ·exact fi
 refine ox z ?_
 cases N
 ·exact fi
 refine ox A ?_
 cases O
 ·exact fi
 refine ox B ?_
 cases P
 ·exact fi
 refine ox D ?_
 cases Q
 ·exact fi
 refine ob E ?_
 cases R
 ·refine oo u (on J (on F ?_))
  cases S
  ·exact fi
  refine oo v (on G ?_)
  cases T
  ·exact fi
  refine ob H ?_
  cases U
  ·refine lo l ?_;rintro W s (⟨rfl,rfl,rfl⟩|⟨rfl,rfl,rfl⟩) <;>
   ·refine⟨_,rfl,?_⟩;exact fi
  exact fi
 exact fi
theorem Xb:BF 14:=by
 intro p sl i T f e a b m n k t h y C I c g M N O P Q z6 R S z9 t1 t2 t3 d w1 w5 w3 w4 V W Y Z i4 i5 i6 w2 v w z A B D G J H E F v1 v2 v3 x1 x2 x5 x3 x4 y0 y1 y2 y3 y4 y5 K L l;subst D G J;have j:=sR 14 (by decide) (by decide);clear K L;have o:=@aS p sl (.slice i) _ (.inr ⟨_,rfl⟩) f;have q:=@bw (ofNat 14) e a b m n nl k t h _ C I c (.inl rfl) g;have q3:=@aO false 2 p sl (.slice i) _ (.inr ⟨_,rfl⟩) f;have r:=@bD false 3 (ofNat 14) e a b m n nl k t h y C I c (.inl rfl) g;have u:=@bg false 3 (ofNat 14) e a b m n nl k t h y C I c (.inl rfl) g;clear f g;refine co [24,33,43,53,63] [2,3,83,95] (x:=.of Tryz.f70 cF bu) ?_;refine oo o (oo q (on j (ox v ?_)))
 cases M
 ·exact fi
 refine ox w ?_
 cases N
 ·exact fi
 refine ox z ?_
 cases O
 ·exact fi
 refine ox A ?_
 cases P
 ·exact fi
 refine ox B ?_
 cases Q
 ·exact fi
 refine oo r (on H (on E ?_))
 cases R
 ·exact fi
 refine oo u (on F ?_)
 cases S
 ·exact fi
 refine lo l ?_;rintro U s ⟨rfl,rfl⟩;refine⟨_,rfl,?_⟩;exact fi
theorem W8:BE 15:=by
 intro p sl j W h f e a b m n k t i y C I c g O z2 P Q R S T U V t1 z t3 d w1 w5 w3 w4 Z i1 i2 i3 i4 i5 i6 w2 A u2 B D E F J K G H v1 L v3 x1 x2 x5 x3 x4 y0 y1 y2 y3 y4 y5 M N l;have o:=sR 15 (by decide) (by decide);clear M N;have q:=@aS p sl (.slice j) _ (.inr ⟨_,rfl⟩) h;have r:=@bw (ofNat 15) e a b m n (.slice f) k t i _ C I c (.inr ⟨_,rfl⟩) g;have u:=@aO false 2 p sl (.slice j) _ (.inr ⟨_,rfl⟩) h;have v:=@bD false 3 (ofNat 15) e a b m n (.slice f) k t i y C I c (.inr ⟨_,rfl⟩) g;have w:=@bg false 3 (ofNat 15) e a b m n (.slice f) k t i y C I c (.inr ⟨_,rfl⟩) g;clear h g;refine co [24,43,53,63,74,136] [2,3,83,95,114] (x:=.of Tryz.f70 cF bu) ?_;refine oo q (oo r (on o (ox A ?_)))
 cases O
 ·exact fi
 refine ox B ?_
 cases P
 ·exact fi
 refine ox D ?_
 cases Q
 ·exact fi
 refine ox E ?_
 cases R
 ·exact fi
 refine ob F ?_
 cases S
 ·refine oo v (on K (on G ?_))
  cases T
  ·exact fi
  refine oo w (on H ?_)
  cases U
  ·exact fi
  refine oo u (on L ?_)
  cases z
  ·exact fi
  refine ob J ?_
  cases V
  ·refine lo l ?_;rintro Y s (⟨rfl,rfl,rfl⟩|⟨rfl,rfl,rfl⟩) <;>
   ·refine⟨_,rfl,?_⟩;exact fi
  exact fi
 exact fi
theorem W9:BF 15:=by
 intro p sl i U f e a b m n k t h y C I c g O z2 P Q R z6 S T z9 t1 w t3 d w1 w5 w3 w4 W Y Z i3 i4 i5 i6 w2 z u2 A B D E H K J F G v1 L v3 x1 x2 x5 x3 x4 y0 y1 y2 y3 y4 y5 M N l;subst E H K;have j:=sR 15 (by decide) (by decide);clear M N;have o:=@aS p sl (.slice i) _ (.inr ⟨_,rfl⟩) f;have q:=@bw (ofNat 15) e a b m n nl k t h _ C I c (.inl rfl) g;have r:=@aO false 2 p sl (.slice i) _ (.inr ⟨_,rfl⟩) f;have u:=@bD false 3 (ofNat 15) e a b m n nl k t h y C I c (.inl rfl) g;have v:=@bg false 3 (ofNat 15) e a b m n nl k t h y C I c (.inl rfl) g;clear f g;refine co [24,43,53,63] [2,3,83,95,114] (x:=.of Tryz.f70 cF bu) ?_;refine oo o (oo q (on j (ox z ?_)))
 cases O
 ·exact fi
 refine ox A ?_
 cases P
 ·exact fi
 refine ox B ?_
 cases Q
 ·exact fi
 refine ox D ?_
 cases R
 ·exact fi
 refine oo u (on J (on F ?_))
 cases S
 ·exact fi
 refine oo v (on G ?_)
 cases T
 ·exact fi
 refine oo r (on L ?_)
 cases w
 ·exact fi
 refine lo l ?_;rintro V s ⟨rfl,rfl⟩;refine⟨_,rfl,?_⟩;exact fi
theorem W6:BE 16:=by
 intro p sl j W h f e a b m n k t i y C I c g O z2 P Q R S T U V t1 z t3 d w1 w5 w3 w4 Z i1 i2 i3 i4 i5 i6 w2 A u2 B D E F J K G H v1 L v3 x1 x2 x5 x3 x4 y0 y1 y2 y3 y4 y5 M N l;have o:=sR 16 (by decide) (by decide);clear M N;have q:=@aS p sl (.slice j) _ (.inr ⟨_,rfl⟩) h;have r:=@bw (ofNat 16) e a b m n (.slice f) k t i _ C I c (.inr ⟨_,rfl⟩) g;have u:=@aO false 2 p sl (.slice j) _ (.inr ⟨_,rfl⟩) h;have v:=@bD false 3 (ofNat 16) e a b m n (.slice f) k t i y C I c (.inr ⟨_,rfl⟩) g;have w:=@bg false 3 (ofNat 16) e a b m n (.slice f) k t i y C I c (.inr ⟨_,rfl⟩) g;clear h g;refine co [24,43,53,63,74,136] [2,3,83,95,114] (x:=.of Tryz.f70 cF bu) ?_;refine oo q (oo r (on o (ox A ?_)))
 cases O
 ·exact fi
 refine ox B ?_
 cases P
 ·exact fi
 refine ox D ?_
 cases Q
 ·exact fi
 refine ox E ?_
 cases R
 ·exact fi
 refine ob F ?_
 cases S
 ·refine oo v (on K (on G ?_))
  cases T
  ·exact fi
  refine oo w (on H ?_)
  cases U
  ·exact fi
  refine oo u (on L ?_)
  cases z
  ·exact fi
  refine ob J ?_
  cases V
  ·refine lo l ?_;rintro Y s (⟨rfl,rfl,rfl⟩|⟨rfl,rfl,rfl⟩) <;>
   ·refine⟨_,rfl,?_⟩;exact fi
  exact fi
 exact fi
theorem W7:BF 16:=by
 intro p sl i U f e a b m n k t h y C I c g O z2 P Q R z6 S T z9 t1 w t3 d w1 w5 w3 w4 W Y Z i3 i4 i5 i6 w2 z u2 A B D E H K J F G v1 L v3 x1 x2 x5 x3 x4 y0 y1 y2 y3 y4 y5 M N l;subst E H K;have j:=sR 16 (by decide) (by decide);clear M N;have o:=@aS p sl (.slice i) _ (.inr ⟨_,rfl⟩) f;have q:=@bw (ofNat 16) e a b m n nl k t h _ C I c (.inl rfl) g;have r:=@aO false 2 p sl (.slice i) _ (.inr ⟨_,rfl⟩) f;have u:=@bD false 3 (ofNat 16) e a b m n nl k t h y C I c (.inl rfl) g;have v:=@bg false 3 (ofNat 16) e a b m n nl k t h y C I c (.inl rfl) g;clear f g;refine co [24,43,53,63] [2,3,83,95,114] (x:=.of Tryz.f70 cF bu) ?_;refine oo o (oo q (on j (ox z ?_)))
 cases O
 ·exact fi
 refine ox A ?_
 cases P
 ·exact fi
 refine ox B ?_
 cases Q
 ·exact fi
 refine ox D ?_
 cases R
 ·exact fi
 refine oo u (on J (on F ?_))
 cases S
 ·exact fi
 refine oo v (on G ?_)
 cases T
 ·exact fi
 refine oo r (on L ?_)
 cases w
 ·exact fi
 refine lo l ?_;rintro V s ⟨rfl,rfl⟩;refine⟨_,rfl,?_⟩;exact fi
theorem W4:BE 17:=by
 intro p sl i d2 W f e a b m n k t h y C I c g N O P z4 Q R S T U t1 t2 t3 d w1 w5 w3 w4 Y i1 i2 i3 i4 i5 B w2 D E F u4 G H L M J K v1 v2 v3 x1 x2 x5 x3 x4 v y1 y2 y3 y4 y5 w z l;have A:=sR 17 (by decide) (by decide)
 rcases W with rfl|⟨j,rfl⟩
 ·obtain rfl:=z rfl;clear w z;have o:=@aS p sl (.slice i) nl (.inr ⟨_,rfl⟩) (.inl rfl);have q:=@bw (ofNat 17) e a b m n (.slice f) k t h _ C I c (.inr ⟨_,rfl⟩) g;have Z:=@aO false 2 p sl (.slice i) nl (.inr ⟨_,rfl⟩) (.inl rfl);have r:=@bD false 3 (ofNat 17) e a b m n (.slice f) k t h y C I c (.inr ⟨_,rfl⟩) g;have u:=@bg false 3 (ofNat 17) e a b m n (.slice f) k t h y C I c (.inr ⟨_,rfl⟩) g;clear g;refine co [24,33,43,63,74,136,237,244] [2,3,83,95] (x:=.of Tryz.f70 cF bu) ?_;refine oo o (oo q (on A (ox D ?_)))
  cases N
  ·exact fi
  refine ox E ?_
  cases O
  ·exact fi
  refine ox F ?_
  cases P
  ·exact fi
  refine ox G ?_
  cases Q
  ·exact fi
  refine ob H ?_
  cases R
  ·refine oo r (on M (on J ?_))
   cases S
   ·exact fi
   refine oo u (on K ?_)
   cases T
   ·exact fi
   refine ob L ?_
   cases U
   ·refine lo l ?_;rintro V s (⟨rfl,rfl,rfl⟩|⟨rfl,rfl,rfl⟩)
    ·refine⟨_,rfl,?_⟩;refine ox v ?_
     cases B
     ·exact ob v fi
     exact fi
    refine⟨_,rfl,?_⟩;exact fi
   exact fi
  exact fi
 have y8:=w j rfl;clear w z;have o:=@aS p sl (.slice i) (.slice j) (.inr ⟨_,rfl⟩) (.inr ⟨_,rfl⟩);have q:=@bw (ofNat 17) e a b m n (.slice f) k t h _ C I c (.inr ⟨_,rfl⟩) g;have Z:=@aO false 2 p sl (.slice i) (.slice j) (.inr ⟨_,rfl⟩) (.inr ⟨_,rfl⟩);have r:=@bD false 3 (ofNat 17) e a b m n (.slice f) k t h y C I c (.inr ⟨_,rfl⟩) g;have u:=@bg false 3 (ofNat 17) e a b m n (.slice f) k t h y C I c (.inr ⟨_,rfl⟩) g;clear g;refine co [24,33,43,63,74,136,237,244] [2,3,83,95] (x:=.of Tryz.f70 cF bu) ?_;refine oo o (oo q (on A (ox D ?_)))
 cases N
 ·exact fi
 refine ox E ?_
 cases O
 ·exact fi
 refine ox F ?_
 cases P
 ·exact fi
 refine ox G ?_
 cases Q
 ·exact fi
 refine ob H ?_
 cases R
 ·refine oo r (on M (on J ?_))
  cases S
  ·exact fi
  refine oo u (on K ?_)
  cases T
  ·exact fi
  refine ob L ?_
  cases U
  ·refine lo l ?_;rintro V s (⟨rfl,rfl,rfl⟩|⟨rfl,rfl,rfl⟩)
   ·refine⟨_,rfl,?_⟩;refine ox v ?_
    cases Y
    ·refine ob y8 ?_
     cases B <;>
     ·exact fi
    exact fi
   refine⟨_,rfl,?_⟩;exact fi
  exact fi
 exact fi
theorem W5:BF 17:=by
 intro p sl h Z R e a b m n k t f y C I c g K L M z4 N z6 O P z9 t1 t2 t3 d w1 w5 w3 w4 S i1 i2 i3 i4 i5 A w2 B D E u4 F U V W J G H v1 v2 v3 x1 x2 x5 x3 x4 u y1 y2 y3 y4 y5 v w l;subst U V W;have z:=sR 17 (by decide) (by decide)
 rcases R with rfl|⟨i,rfl⟩
 ·obtain rfl:=w rfl;clear v w;have j:=@aS p sl (.slice h) nl (.inr ⟨_,rfl⟩) (.inl rfl);have o:=@bw (ofNat 17) e a b m n nl k t f _ C I c (.inl rfl) g;have T:=@aO false 2 p sl (.slice h) nl (.inr ⟨_,rfl⟩) (.inl rfl);have q:=@bD false 3 (ofNat 17) e a b m n nl k t f y C I c (.inl rfl) g;have r:=@bg false 3 (ofNat 17) e a b m n nl k t f y C I c (.inl rfl) g;clear g;refine co [24,33,43,63,237,244] [2,3,83,95] (x:=.of Tryz.f70 cF bu) ?_;refine oo j (oo o (on z (ox B ?_)))
  cases K
  ·exact fi
  refine ox D ?_
  cases L
  ·exact fi
  refine ox E ?_
  cases M
  ·exact fi
  refine ox F ?_
  cases N
  ·exact fi
  refine oo q (on J (on G ?_))
  cases O
  ·exact fi
  refine oo r (on H ?_)
  cases P
  ·exact fi
  refine lo l ?_;rintro Q s ⟨rfl,rfl⟩;refine⟨_,rfl,?_⟩;refine ox u ?_
  cases A
  ·exact ob u fi
  exact fi
 have Y:=v i rfl;clear v w;have j:=@aS p sl (.slice h) (.slice i) (.inr ⟨_,rfl⟩) (.inr ⟨_,rfl⟩);have o:=@bw (ofNat 17) e a b m n nl k t f _ C I c (.inl rfl) g;have T:=@aO false 2 p sl (.slice h) (.slice i) (.inr ⟨_,rfl⟩) (.inr ⟨_,rfl⟩);have q:=@bD false 3 (ofNat 17) e a b m n nl k t f y C I c (.inl rfl) g;have r:=@bg false 3 (ofNat 17) e a b m n nl k t f y C I c (.inl rfl) g;clear g;refine co [24,33,43,63,237,244] [2,3,83,95] (x:=.of Tryz.f70 cF bu) ?_;refine oo j (oo o (on z (ox B ?_)))
 cases K
 ·exact fi
 refine ox D ?_
 cases L
 ·exact fi
 refine ox E ?_
 cases M
 ·exact fi
 refine ox F ?_
 cases N
 ·exact fi
 refine oo q (on J (on G ?_))
 cases O
 ·exact fi
 refine oo r (on H ?_)
 cases P
 ·exact fi
 refine lo l ?_;rintro Q s ⟨rfl,rfl⟩;refine⟨_,rfl,?_⟩;refine ox u ?_
 cases S
 ·refine ob Y ?_
  cases A <;>
  ·exact fi
 exact fi
theorem avv:BE 18:=by
 intro p sl j V h f e a b m n k t i y C I c g M N O P Q R S T U t1 t2 t3 d w1 w5 w3 w4 Y Z i2 i3 i4 i5 i6 w2 w z A B D E H J F G v1 v2 v3 x1 x2 x5 x3 x4 y0 y1 y2 y3 y4 y5 K L l;have o:=sR 18 (by decide) (by decide);clear K L;have q:=@aS p sl (.slice j) _ (.inr ⟨_,rfl⟩) h;have r:=@bw (ofNat 18) e a b m n (.slice f) k t i _ C I c (.inr ⟨_,rfl⟩) g;have q3:=@aO false 2 p sl (.slice j) _ (.inr ⟨_,rfl⟩) h;have u:=@bD false 3 (ofNat 18) e a b m n (.slice f) k t i y C I c (.inr ⟨_,rfl⟩) g;have v:=@bg false 3 (ofNat 18) e a b m n (.slice f) k t i y C I c (.inr ⟨_,rfl⟩) g;clear h g;refine co [24,33,43,53,63,74,136] [2,3,83,95] (x:=.of Tryz.f70 cF bu) ?_;refine oo q (oo r (on o (ox w ?_)))
 cases M
 ·exact fi
 refine ox z ?_
 cases N
 ·exact fi
 refine ox A ?_
 cases O
 ·exact fi
 refine ox B ?_
 cases P
 ·exact fi
 refine ox D ?_
 cases Q
 ·exact fi
 refine ob E ?_
 cases R
 ·refine oo u (on J (on F ?_))
  cases S
  ·exact fi
  refine oo v (on G ?_)
  cases T
  ·exact fi
  refine ob H ?_
  cases U
  ·refine lo l ?_;rintro W s (⟨rfl,rfl,rfl⟩|⟨rfl,rfl,rfl⟩) <;>
   ·refine⟨_,rfl,?_⟩;exact fi
  exact fi
 exact fi
theorem W3:BF 18:=by
 intro p sl i T f e a b m n k t h y C I c g M N O P Q z6 R S z9 t1 t2 t3 d w1 w5 w3 w4 V W Y Z i4 i5 i6 w2 v w z A B D G J H E F v1 v2 v3 x1 x2 x5 x3 x4 y0 y1 y2 y3 y4 y5 K L l;subst D G J;have j:=sR 18 (by decide) (by decide);clear K L;have o:=@aS p sl (.slice i) _ (.inr ⟨_,rfl⟩) f;have q:=@bw (ofNat 18) e a b m n nl k t h _ C I c (.inl rfl) g;have q3:=@aO false 2 p sl (.slice i) _ (.inr ⟨_,rfl⟩) f;have r:=@bD false 3 (ofNat 18) e a b m n nl k t h y C I c (.inl rfl) g;have u:=@bg false 3 (ofNat 18) e a b m n nl k t h y C I c (.inl rfl) g;clear f g;refine co [24,33,43,53,63] [2,3,83,95] (x:=.of Tryz.f70 cF bu) ?_;refine oo o (oo q (on j (ox v ?_)))
 cases M
 ·exact fi
 refine ox w ?_
 cases N
 ·exact fi
 refine ox z ?_
 cases O
 ·exact fi
 refine ox A ?_
 cases P
 ·exact fi
 refine ox B ?_
 cases Q
 ·exact fi
 refine oo r (on H (on E ?_))
 cases R
 ·exact fi
 refine oo u (on F ?_)
 cases S
 ·exact fi
 refine lo l ?_;rintro U s ⟨rfl,rfl⟩;refine⟨_,rfl,?_⟩;exact fi
theorem W0:BE 19:=by
 intro p sl j W h f e a b m n k t i y C I c g O z2 P Q R S T U V t1 z t3 d w1 w5 w3 w4 Z i1 i2 i3 i4 i5 i6 w2 A u2 B D E F J K G H v1 L v3 x1 x2 x5 x3 x4 y0 y1 y2 y3 y4 y5 M N l;have o:=sR 19 (by decide) (by decide);clear M N;have q:=@aS p sl (.slice j) _ (.inr ⟨_,rfl⟩) h;have r:=@bw (ofNat 19) e a b m n (.slice f) k t i _ C I c (.inr ⟨_,rfl⟩) g;have u:=@aO false 2 p sl (.slice j) _ (.inr ⟨_,rfl⟩) h;have v:=@bD false 3 (ofNat 19) e a b m n (.slice f) k t i y C I c (.inr ⟨_,rfl⟩) g;have w:=@bg false 3 (ofNat 19) e a b m n (.slice f) k t i y C I c (.inr ⟨_,rfl⟩) g;clear h g;refine co [24,43,53,63,74,136] [2,3,83,95,114] (x:=.of Tryz.f70 cF bu) ?_;refine oo q (oo r (on o (ox A ?_)))
 cases O
 ·exact fi
 refine ox B ?_
 cases P
 ·exact fi
 refine ox D ?_
 cases Q
 ·exact fi
 refine ox E ?_
 cases R
 ·exact fi
 refine ob F ?_
 cases S
 ·refine oo v (on K (on G ?_))
  cases T
  ·exact fi
  refine oo w (on H ?_)
  cases U
  ·exact fi
  refine oo u (on L ?_)
  cases z
  ·exact fi
  refine ob J ?_
  cases V
  ·refine lo l ?_;rintro Y s (⟨rfl,rfl,rfl⟩|⟨rfl,rfl,rfl⟩) <;>
   ·refine⟨_,rfl,?_⟩;exact fi
  exact fi
 exact fi
theorem avu:BF 19:=by
 intro p sl i U f e a b m n k t h y C I c g O z2 P Q R z6 S T z9 t1 w t3 d w1 w5 w3 w4 W Y Z i3 i4 i5 i6 w2 z u2 A B D E H K J F G v1 L v3 x1 x2 x5 x3 x4 y0 y1 y2 y3 y4 y5 M N l;subst E H K;have j:=sR 19 (by decide) (by decide);clear M N;have o:=@aS p sl (.slice i) _ (.inr ⟨_,rfl⟩) f;have q:=@bw (ofNat 19) e a b m n nl k t h _ C I c (.inl rfl) g;have r:=@aO false 2 p sl (.slice i) _ (.inr ⟨_,rfl⟩) f;have u:=@bD false 3 (ofNat 19) e a b m n nl k t h y C I c (.inl rfl) g;have v:=@bg false 3 (ofNat 19) e a b m n nl k t h y C I c (.inl rfl) g;clear f g;refine co [24,43,53,63] [2,3,83,95,114] (x:=.of Tryz.f70 cF bu) ?_;refine oo o (oo q (on j (ox z ?_)))
 cases O
 ·exact fi
 refine ox A ?_
 cases P
 ·exact fi
 refine ox B ?_
 cases Q
 ·exact fi
 refine ox D ?_
 cases R
 ·exact fi
 refine oo u (on J (on F ?_))
 cases S
 ·exact fi
 refine oo v (on G ?_)
 cases T
 ·exact fi
 refine oo r (on L ?_)
 cases w
 ·exact fi
 refine lo l ?_;rintro V s ⟨rfl,rfl⟩;refine⟨_,rfl,?_⟩;exact fi
theorem WY:BE 20:=by
 intro p sl j V h f e a b m n k t i y C I c g N O P z4 Q R S T U t1 t2 t3 d w1 w5 w3 w4 Y q Z i3 i4 i5 i6 w2 z A B u4 D E H J F G v1 v2 v3 x1 x2 x5 x3 x4 y0 K y2 y3 y4 y5 L M l;have o:=sR 20 (by decide) (by decide);clear L M;have r:=@aS p sl (.slice j) _ (.inr ⟨_,rfl⟩) h;have u:=@bw (ofNat 20) e a b m n (.slice f) k t i _ C I c (.inr ⟨_,rfl⟩) g;have q3:=@aO false 2 p sl (.slice j) _ (.inr ⟨_,rfl⟩) h;have v:=@bD false 3 (ofNat 20) e a b m n (.slice f) k t i y C I c (.inr ⟨_,rfl⟩) g;have w:=@bg false 3 (ofNat 20) e a b m n (.slice f) k t i y C I c (.inr ⟨_,rfl⟩) g;clear h g;refine co [24,33,43,63,74,136,251] [2,3,83,95] (x:=.of Tryz.f70 cF bu) ?_;refine oo r (oo u (on o (ox z ?_)))
 cases N
 ·exact fi
 refine ox A ?_
 cases O
 ·exact fi
 refine ox B ?_
 cases P
 ·exact fi
 refine ox D ?_
 cases Q
 ·exact fi
 refine ob E ?_
 cases R
 ·refine oo v (on J (on F ?_))
  cases S
  ·exact fi
  refine oo w (on G ?_)
  cases T
  ·exact fi
  refine ob H ?_
  cases U
  ·refine lo l ?_;rintro W s (⟨rfl,rfl,rfl⟩|⟨rfl,rfl,rfl⟩)
   ·refine⟨_,rfl,?_⟩;refine ox K ?_
    cases q <;>
    ·exact fi
   refine⟨_,rfl,?_⟩;exact fi
  exact fi
 exact fi
theorem WZ:BF 20:=by
 intro p sl i T f e a b m n k t h y C I c g N O P z4 Q z6 R S z9 t1 t2 t3 d w1 w5 w3 w4 V o W Y Z i5 i6 w2 w z A u4 B D G J H E F v1 v2 v3 x1 x2 x5 x3 x4 y0 K y2 y3 y4 y5 L M l;subst D G J;have j:=sR 20 (by decide) (by decide);clear L M;have q:=@aS p sl (.slice i) _ (.inr ⟨_,rfl⟩) f;have r:=@bw (ofNat 20) e a b m n nl k t h _ C I c (.inl rfl) g;have q3:=@aO false 2 p sl (.slice i) _ (.inr ⟨_,rfl⟩) f;have u:=@bD false 3 (ofNat 20) e a b m n nl k t h y C I c (.inl rfl) g;have v:=@bg false 3 (ofNat 20) e a b m n nl k t h y C I c (.inl rfl) g;clear f g;refine co [24,33,43,63,251] [2,3,83,95] (x:=.of Tryz.f70 cF bu) ?_;refine oo q (oo r (on j (ox w ?_)))
 cases N
 ·exact fi
 refine ox z ?_
 cases O
 ·exact fi
 refine ox A ?_
 cases P
 ·exact fi
 refine ox B ?_
 cases Q
 ·exact fi
 refine oo u (on H (on E ?_))
 cases R
 ·exact fi
 refine oo v (on F ?_)
 cases S
 ·exact fi
 refine lo l ?_;rintro U s ⟨rfl,rfl⟩;refine⟨_,rfl,?_⟩;refine ox K ?_
 cases o <;>
 ·exact fi
theorem WW:BE 21:=by
 intro p sl j V h f e a b m n k t i y C I c g M N O P Q R S T U t1 t2 t3 d w1 w5 w3 w4 Y Z i2 i3 i4 i5 i6 w2 w z A B D E H J F G v1 v2 v3 x1 x2 x5 x3 x4 y0 y1 y2 y3 y4 y5 K L l;have o:=sR 21 (by decide) (by decide);clear K L;have q:=@aS p sl (.slice j) _ (.inr ⟨_,rfl⟩) h;have r:=@bw (ofNat 21) e a b m n (.slice f) k t i _ C I c (.inr ⟨_,rfl⟩) g;have q3:=@aO false 2 p sl (.slice j) _ (.inr ⟨_,rfl⟩) h;have u:=@bD false 3 (ofNat 21) e a b m n (.slice f) k t i y C I c (.inr ⟨_,rfl⟩) g;have v:=@bg false 3 (ofNat 21) e a b m n (.slice f) k t i y C I c (.inr ⟨_,rfl⟩) g;clear h g;refine co [24,33,43,53,63,74,136] [2,3,83,95] (x:=.of Tryz.f70 cF bu) ?_;refine oo q (oo r (on o (ox w ?_)))
 cases M
 ·exact fi
 refine ox z ?_
 cases N
 ·exact fi
 refine ox A ?_
 cases O
 ·exact fi
 refine ox B ?_
 cases P
 ·exact fi
 refine ox D ?_
 cases Q
 ·exact fi
 refine ob E ?_
 cases R
 ·refine oo u (on J (on F ?_))
  cases S
  ·exact fi
  refine oo v (on G ?_)
  cases T
  ·exact fi
  refine ob H ?_
  cases U
  ·refine lo l ?_;rintro W s (⟨rfl,rfl,rfl⟩|⟨rfl,rfl,rfl⟩) <;>
   ·refine⟨_,rfl,?_⟩;exact fi
  exact fi
 exact fi
theorem WX:BF 21:=by
 intro p sl i T f e a b m n k t h y C I c g M N O P Q z6 R S z9 t1 t2 t3 d w1 w5 w3 w4 V W Y Z i4 i5 i6 w2 v w z A B D G J H E F v1 v2 v3 x1 x2 x5 x3 x4 y0 y1 y2 y3 y4 y5 K L l;subst D G J;have j:=sR 21 (by decide) (by decide);clear K L;have o:=@aS p sl (.slice i) _ (.inr ⟨_,rfl⟩) f;have q:=@bw (ofNat 21) e a b m n nl k t h _ C I c (.inl rfl) g;have q3:=@aO false 2 p sl (.slice i) _ (.inr ⟨_,rfl⟩) f;have r:=@bD false 3 (ofNat 21) e a b m n nl k t h y C I c (.inl rfl) g;have u:=@bg false 3 (ofNat 21) e a b m n nl k t h y C I c (.inl rfl) g;clear f g;refine co [24,33,43,53,63] [2,3,83,95] (x:=.of Tryz.f70 cF bu) ?_;refine oo o (oo q (on j (ox v ?_)))
 cases M
 ·exact fi
 refine ox w ?_
 cases N
 ·exact fi
 refine ox z ?_
 cases O
 ·exact fi
 refine ox A ?_
 cases P
 ·exact fi
 refine ox B ?_
 cases Q
 ·exact fi
 refine oo r (on H (on E ?_))
 cases R
 ·exact fi
 refine oo u (on F ?_)
 cases S
 ·exact fi
 refine lo l ?_;rintro U s ⟨rfl,rfl⟩;refine⟨_,rfl,?_⟩;exact fi
theorem WU:BE 22:=by
 intro p sl j U h f e a b m n k t i y C I c g z1 O P z4 Q z6 R S T A t2 t3 d w1 w5 w3 w4 W q Y Z i4 i5 i6 w2 u1 B D u4 E u6 H J F G K v2 v3 x1 x2 x5 x3 x4 y0 L y2 y3 y4 y5 M N l;have o:=sR 22 (by decide) (by decide);clear M N;have r:=@aS p sl (.slice j) _ (.inr ⟨_,rfl⟩) h;have u:=@bw (ofNat 22) e a b m n (.slice f) k t i _ C I c (.inr ⟨_,rfl⟩) g;have v:=@aO false 2 p sl (.slice j) _ (.inr ⟨_,rfl⟩) h;have w:=@bD false 3 (ofNat 22) e a b m n (.slice f) k t i y C I c (.inr ⟨_,rfl⟩) g;have z:=@bg false 3 (ofNat 22) e a b m n (.slice f) k t i y C I c (.inr ⟨_,rfl⟩) g;clear h g;refine co [33,43,63,136,251] [2,3,83,95,104] (x:=.of Tryz.f70 cF bu) ?_;refine oo r (oo u (on o (ox B ?_)))
 cases O
 ·exact fi
 refine ox D ?_
 cases P
 ·exact fi
 refine ox E ?_
 cases Q
 ·exact fi
 refine oo w (on J (on F ?_))
 cases R
 ·exact fi
 refine oo z (on G ?_)
 cases S
 ·exact fi
 refine oo v (on K ?_)
 cases A
 ·exact fi
 refine ob H ?_
 cases T
 ·refine lo l ?_;rintro V s (⟨rfl,rfl,rfl⟩|⟨rfl,rfl,rfl⟩)
  ·refine⟨_,rfl,?_⟩;refine ox L ?_
   cases q <;>
   ·exact fi
  refine⟨_,rfl,?_⟩;exact fi
 exact fi
theorem WV:BF 22:=by
 intro p sl i U f e a b m n k t h y C I c g z1 P Q z4 R z6 S T z9 z t2 t3 d w1 w5 w3 w4 W o Y Z i4 i5 i6 w2 u1 A B u4 D E H K J F G L v2 v3 x1 x2 x5 x3 x4 y0 M y2 y3 y4 y5 N O l;subst E H K;have j:=sR 22 (by decide) (by decide);clear N O;have q:=@aS p sl (.slice i) _ (.inr ⟨_,rfl⟩) f;have r:=@bw (ofNat 22) e a b m n nl k t h _ C I c (.inl rfl) g;have u:=@aO false 2 p sl (.slice i) _ (.inr ⟨_,rfl⟩) f;have v:=@bD false 3 (ofNat 22) e a b m n nl k t h y C I c (.inl rfl) g;have w:=@bg false 3 (ofNat 22) e a b m n nl k t h y C I c (.inl rfl) g;clear f g;refine co [33,43,63,251] [2,3,83,95,104] (x:=.of Tryz.f70 cF bu) ?_;refine oo q (oo r (on j (ox A ?_)))
 cases P
 ·exact fi
 refine ox B ?_
 cases Q
 ·exact fi
 refine ox D ?_
 cases R
 ·exact fi
 refine oo v (on J (on F ?_))
 cases S
 ·exact fi
 refine oo w (on G ?_)
 cases T
 ·exact fi
 refine oo u (on L ?_)
 cases z
 ·exact fi
 refine lo l ?_;rintro V s ⟨rfl,rfl⟩;refine⟨_,rfl,?_⟩;refine ox M ?_
 cases o <;>
 ·exact fi
theorem abi:∀n:Nat,1<=n->n<=22->BE n
 | 0,h,_=>absurd h (by omega)
 | 1,_,_=>abB
 | 2,_,_=>abz
 | 3,_,_=>abx
 | 4,_,_=>abv
 | 5,_,_=>abt
 | 6,_,_=>abq
 | 7,_,_=>abo
 | 8,_,_=>abm
 | 9,_,_=>abk
 | 10,_,_=>Xi
 | 11,_,_=>Xg
 | 12,_,_=>Xe
 | 13,_,_=>Xc
 | 14,_,_=>Xa
 | 15,_,_=>W8
 | 16,_,_=>W6
 | 17,_,_=>W4
 | 18,_,_=>avv
 | 19,_,_=>W0
 | 20,_,_=>WY
 | 21,_,_=>WW
 | 22,_,_=>WU
 | n+23,_,h=>absurd h (by omega)
theorem aeH:∀n:Nat,1<=n->n<=22->BF n
 | 0,h,_=>absurd h (by omega)
 | 1,_,_=>abC
 | 2,_,_=>abA
 | 3,_,_=>aby
 | 4,_,_=>abw
 | 5,_,_=>abu
 | 6,_,_=>abr
 | 7,_,_=>abp
 | 8,_,_=>abn
 | 9,_,_=>abl
 | 10,_,_=>Xj
 | 11,_,_=>Xh
 | 12,_,_=>Xf
 | 13,_,_=>Xd
 | 14,_,_=>Xb
 | 15,_,_=>W9
 | 16,_,_=>W7
 | 17,_,_=>W5
 | 18,_,_=>W3
 | 19,_,_=>avu
 | 20,_,_=>WZ
 | 21,_,_=>WX
 | 22,_,_=>WV
 | n+23,_,h=>absurd h (by omega)
theorem O8:ae 104 [] (.dat (Ty.mk 0 [] 0 []).enc):=by
 refine co [] [] (x:=.of Tryz.f104 P8 Eo) ?_;exact fi
theorem DY {sl:Int} {es f:List ak} (z:Bool) {x:Ins} (h:x.gN) :
  ae 70 [.dat (aN p sl (.slice es) (sx z f)),.dat x.enc] (bv (Et (ofNat es.length) (ofNat f.length) sl x)):=by
 obtain⟨T,A,L⟩:=h;replace L:=ahm L.1;have G:=O6 x.ty (.mk 0 [] 0 []) (by have:=T.1;omega);have i:=IA T;have F:=FY (t:=x.ty) T.1 T.2;obtain⟨M,d,a,b,m,j,H,u,⟨k,w,v,g⟩,C,I,c⟩:=x;have D:=dq z f;have O:∀E,sx z f=.slice E->aF m (ofNat E.length)=aF m (ofNat f.length):=by
  intro E h
  cases f with
  | nil=>
   cases z
   ·simp[sx,nl] at h
   cases h;rfl
  | cons y r=>cases h;rfl
 have P:sx z f=nl->aF m (ofNat f.length)=aF m 0:=by
  intro h
  cases f with
  | nil=>rfl
  | cons y r=>simp[sx,nl] at h
 cases J:aF M 1 with
 | true=>
  have e:Et (ofNat es.length) (ofNat f.length) sl ⟨M,d,a,b,m,j,H,u,⟨k,w,v,g⟩,C,I,c⟩=false:=by
   unfold Et;rw[DQ J]
  rw[e];exact OF (.inr ⟨_,rfl⟩) D (dq H (u.map iN)) (dr (ax g)) J rfl (fun h=>by simp at h) (Ki (.inl J))
 | false=>
  cases K:aF M 23 with
  | false=>
   have e:Et (ofNat es.length) (ofNat f.length) sl ⟨M,d,a,b,m,j,H,u,⟨k,w,v,g⟩,C,I,c⟩=false:=by
    unfold Et;rw[DR K]
   rw[e];refine OF (.inr ⟨_,rfl⟩) D (dq H (u.map iN)) (dr (ax g)) J (c2:=true) ?_ (fun _=>rfl) (Ki (.inr K));rw[dA] at K ⊢;simp only[decide_eq_false_iff_not,decide_eq_true_eq] at K ⊢;omega
  | true=>
   obtain⟨n,rfl,o,q⟩:=zo J K;have N:eO (ofNat n)=some (lU (amR n)):=by
    show amR n=_
    cases Q:amR n with
    | some s=>rfl
    | none=>
     exfalso
     have:∀n:Nat,1<=n->n<=22->amR n≠none:=by
      intro n
      match n with
      | 0=>intro h;omega
      | 1|2|3|4|5|6|7|8|9|10|11|12|13|14|15|16|17|18|19|20|21|22=>intro _ _ h;simp[amR] at h
      | n+23=>intro _ h;omega
     exact this n o q Q
   have e:Et (ofNat es.length) (ofNat f.length) sl ⟨ofNat n,d,a,b,m,j,H,u,⟨k,w,v,g⟩,C,I,c⟩=rvF (lU (amR n)) (ofNat n) (aB d 0) (aB a 0) (aB b 0) (aB m 0) (jP j []) (aF 0 (ofNat u.length)) (NC (.mk k w v g) (.mk 0 [] 0 [])) (B5 C I c) (aF 6 (ofNat u.length)) (eo d sl) (eo a sl) (eo b sl) (u.all (fun n=>eo n sl)) (isIdent j) (aB (Ty.mk k w v g).validate 0) (LD (Ty.mk k w v g).fv) (sY C I c) (aF m 0) (aF m 1) (aF 7 m) (aF m 6) (aB m 5) (aF m (ofNat es.length)) (aF m (ofNat f.length)):=by
    unfold Et;rw[N];rfl
   rw[e]
   cases u with
   | nil=>
    cases H
    ·have l:=@OG p sl (ofNat n) (.slice es) (sx z f) d a b m j k w v (Go.Proofs.YtmpmgmmcaghacaaGreatDoor.sl (ax g)) C I c (lU (amR n));exact aeH n o q D (dr (ax g)) rfl rfl rfl rfl rfl rfl rfl rfl O8 G vF (jy (.inr ⟨_,rfl⟩) D) (jy (.inr ⟨_,rfl⟩) D) (jy (.inr ⟨_,rfl⟩) D) (yj j) i rfl F (DZ L) rfl rfl rfl rfl rfl rfl O P l
    have l:=@Kt [] (by decide) p sl (ofNat n) (.slice es) (sx z f) (.inr ⟨_,rfl⟩) D d a b m j k w v (Go.Proofs.YtmpmgmmcaghacaaGreatDoor.sl (ax g)) C I c (lU (amR n));exact abi n o q D (dr (ax g)) (i:=[]) rfl rfl rfl rfl rfl rfl rfl O8 G vF (jy (.inr ⟨_,rfl⟩) D) (jy (.inr ⟨_,rfl⟩) D) (jy (.inr ⟨_,rfl⟩) D) (yj j) i rfl F (DZ L) rfl rfl rfl rfl rfl rfl O P l
   | cons y r=>
    have l:=@Kt (y::r) A p sl (ofNat n) (.slice es) (sx z f) (.inr ⟨_,rfl⟩) D d a b m j k w v (Go.Proofs.YtmpmgmmcaghacaaGreatDoor.sl (ax g)) C I c (lU (amR n));have B:((y::r).map iN).length=(y::r).length:=List.length_map _;exact abi n o q D (dr (ax g)) (i:=(y::r).map iN) rfl rfl rfl rfl rfl (by rw[B]) (by rw[B]) O8 G vF (jy (.inr ⟨_,rfl⟩) D) (jy (.inr ⟨_,rfl⟩) D) (jy (.inr ⟨_,rfl⟩) D) (yj j) i rfl F (DZ L) rfl rfl rfl rfl rfl rfl O P l
theorem BQ {p sl:Int} {b a:List ak} (z:Bool) {x:Ins} (h:x.gN) :
  ae 70 [.dat (aN p sl (.slice b) (sx z a)),.dat x.enc] (bv (iJ (ofNat b.length) (ofNat a.length) sl x)):=by
 grind[X0,DY]
def zb (m:Nat) (p a:List ac) (start n:Int) (N:Nat):ab:=⟨[(18,iv start),(17,iv n),(3,.win (.out 0) 1 0 N),(1,.ptr (.loc 1) 0)],[(.loc 1,.cells p)],[(.out 0,.cells a)],m⟩
def Fs (m:Nat) (p a:List ac) (start n:Int) (N:Nat):ab:=⟨[(19,bv false),(18,iv start),(17,iv n),(3,.win (.out 0) 1 0 N),(1,.ptr (.loc 1) 0)],[(.loc 1,.cells p)],[(.out 0,.cells a)],m⟩
theorem Re {sl:Int} {b:List ak} {a:ak} {d:List ac} {start n:Int} (o:aF start n=true)
  (l:KD (.loop (roundOf Tryz.f68 1)) (fun e q=>(e=.exit 2/\∃m c,T .normal ((zb (m+1) (cC p sl (.slice b) a) c (an .i64 (start+1)) n N).al bc)/\q=(Vs m (cC p sl (.slice b) a) c start n N).al bc)∨(e=.ret/\∃m,T .ret ((kY m).al bc)/\q=(kY m).al bc))
   ((pM 1 (cC p sl (.slice b) a) [iv start,iv 0] d 1 start n N).al bc)) :
  KD (roundOf Tryz.f68 0) T ((zb 1 (cC p sl (.slice b) a) d start n N).al bc):=by
 refine aq [19] [] (H:=hFC) (live:=sQ) (ob o ?_);refine lo l ?_;rintro h s (⟨rfl,⟨i,⟨j,f,rfl⟩⟩⟩|⟨rfl,⟨k,g,rfl⟩⟩)
 ·refine⟨_,rfl,?_⟩;exact oe f
 refine⟨_,rfl,?_⟩;exact oe g
theorem UF {sl:Int} {b:List ak} {a:ak} {c:List ac} {start n:Int} (o:aF start n=false) (e:T (.exit 0) ((Fs 1 (cC p sl (.slice b) a) c start n N).al bc)) :
  KD (roundOf Tryz.f68 0) T ((zb 1 (cC p sl (.slice b) a) c start n N).al bc):=by
 exact aq [19] [] (H:=hFC) (live:=sQ) (ob o (oe e))
theorem Zq {s:Int} {c:List ak} {d:ak} (f:dj d) {n:Nat} {ss0:List ac} {b:Bool} (N:n=c.length)
  (a:fR ba 22 [iv (ofNat c.length),iv (ofNat c.length)]=some ⟨.undef,.grow (.cells ss0) 1 n⟩) (g:bh (.cells ss0)=true)
  (l:KD (.loop (roundOf Tryz.f68 0)) (fun e q=>(e=.exit 0/\b=false/\∃m j i,q=(Fs m (cC p s (.slice c) d) j i (ofNat c.length) n).al bc)∨(e=.ret/\b=true/\∃m,q=(kY m).al bc))
   ((zb 1 (cC p s (.slice c) d) ss0 0 (ofNat c.length) n).al bc)) :
  ae 68 [.dat (aN p s (.slice c) d)] (bv b):=by
 have h:=@aS p s (.slice c) _ (.inr ⟨_,rfl⟩) f;refine co [500014] [1,14] (x:=.of Tryz.f68 KQ sQ) ?_;refine oo h (oo a (ob g ?_));refine lo l ?_;rintro k s (⟨rfl,rfl,⟨o,⟨r,⟨t,rfl⟩⟩⟩⟩|⟨rfl,rfl,⟨u,rfl⟩⟩) <;>
 ·refine⟨_,rfl,?_⟩;exact fi
def Fq (y:Nat) (p:List ac) (start n:Int) (N:Nat):ab:=⟨[(18,iv start),(17,iv n),(3,.win (.out y) 1 0 N),(1,.ptr (.loc 1) 0)],[(.loc 1,.cells p)],[],0⟩
def Ik (y:Nat) (p:List ac) (start n:Int) (N:Nat):ab:=⟨[(19,bv false),(18,iv start),(17,iv n),(3,.win (.out y) 1 0 N),(1,.ptr (.loc 1) 0)],[(.loc 1,.cells p)],[],0⟩
theorem Vx {sl:Int} {b c:ak} {a m:Nat} {ρ:Nat->Nat} (o:ρ 0=0) {d:List Int} {start n:Int} :
  Sq ρ m ((zb a (cC p sl b c) (cH d) start n N).al bc)=(zb m (cC p sl b c) (cH d) start n N).al bc:=by
 have E:il ρ ((Fq 0 (cC p sl b c) start n N).al bc).tmps=((Fq (ρ 0) (cC p sl b c) start n N).al bc).tmps:=by kernel_rfl
 rw[o] at E;have F:jJ ρ [(.loc 1,.cells (cC p sl b c))]=[(.loc 1,.cells (cC p sl b c))]:=by kernel_rfl
 have e:jJ ρ [(.out 0,.cells (cH d))]=[(.out 0,.cells (cH d))]:=by simp only[jJ,wX,pW,fJ,o]
 show (⟨il ρ ((Fq 0 (cC p sl b c) start n N).al bc).tmps,jJ ρ [(.loc 1,.cells (cC p sl b c))],jJ ρ [(.out 0,.cells (cH d))],m⟩:aa)=_;rw[E,F,e];rfl
theorem Xo {sl:Int} {b c:ak} {a m:Nat} {ρ:Nat->Nat} (o:ρ 0=0) {d:List Int} {start n:Int} :
  Sq ρ m ((Fs a (cC p sl b c) (cH d) start n N).al bc)=(Fs m (cC p sl b c) (cH d) start n N).al bc:=by
 have E:il ρ ((Ik 0 (cC p sl b c) start n N).al bc).tmps=((Ik (ρ 0) (cC p sl b c) start n N).al bc).tmps:=by kernel_rfl
 rw[o] at E;have F:jJ ρ [(.loc 1,.cells (cC p sl b c))]=[(.loc 1,.cells (cC p sl b c))]:=by kernel_rfl
 have e:jJ ρ [(.out 0,.cells (cH d))]=[(.out 0,.cells (cH d))]:=by simp only[jJ,wX,pW,fJ,o]
 show (⟨il ρ ((Ik 0 (cC p sl b c) start n N).al bc).tmps,jJ ρ [(.loc 1,.cells (cC p sl b c))],jJ ρ [(.out 0,.cells (cH d))],m⟩:aa)=_;rw[E,F,e];rfl
theorem Xp {a m:Nat} {ρ:Nat->Nat}:Sq ρ m ((kY a).al bc)=(kY m).al bc:=by
 rfl
theorem Zt {sl:Int} {a b:ak} {c:List Int} {start n:Int}:UH ((zb 1 (cC p sl a b) (cH c) start n N).al bc)=true:=by
 have E:BI 1 ((Fq 0 (cC p sl a b) start n N).al bc).tmps=false:=by kernel_rfl
 have F:GM 1 [(.loc 1,.cells (cC p sl a b))]=false:=by kernel_rfl
 have d:GM 1 [(.out 0,.cells (cH c))]=false:=by
  simp only[GM,Z5,Ev];rfl
 show (!BI 1 ((Fq 0 (cC p sl a b) start n N).al bc).tmps&&(!GM 1 [(.loc 1,.cells (cC p sl a b))]&&(!GM 1 [(.out 0,.cells (cH c))]&&aeQ [(.out 0,.cells (cH c))] 1)))=true;rw[E,F,d];rfl
theorem UE {sl:Int} {a c:ak} {d:List Int} {start n:Int} {m:Nat}
  (h:KD (roundOf Tryz.f68 0) (fun e s=>T e (Sq (ig (DW [0]) 1 m) (m+(s.next - 1)) s)) ((zb 1 (cC p sl a c) (cH d) start n N).al bc)) :
  KD (roundOf Tryz.f68 0) T ((zb m (cC p sl a c) (cH d) start n N).al bc):=by
 have b:=cL.rn h (DW [0]) m Zt;rw[Vx (m:=m) (ρ:=DW [0]) rfl] at b;refine b.mono ?_;rintro e s ⟨g,f,rfl⟩;exact f
theorem ZT {sl:Int} {c:List Ins} {g:ak} (u:dj g) (V:tR c) (N:c.length < 1000000) :
  ae 68 [.dat (aN p sl (.slice (encI c)) g)] (bv (lO c)):=by
 have k:cH (List.replicate c.length 0)=cH ((List.replicate c.length 0).map ofNat):=by rw[List.map_replicate];rfl
 have h:=TF (n:=c.length) N;rw[k] at h;have d:(encI c).length=c.length:=bH c;refine Zq (n:=c.length) (ss0:=cH ((List.replicate c.length 0).map ofNat)) u d.symm (by rw[d];exact h) (lB _) ?_;rw[d];have r:KD (.loop (roundOf Tryz.f68 0)) (fun e q=>(e=.exit 0/\lO c=false/\∃m y i,q=(Fs m (cC p sl (.slice (encI c)) g) y i (ofNat c.length) c.length).al bc)∨(e=.ret/\lO c=true/\∃m,q=(kY m).al bc))
   ((zb 1 (cC p sl (.slice (encI c)) g) (cH ((List.replicate c.length 0).map ofNat)) 0 (ofNat c.length) c.length).al bc):=by
  refine CS (I:=fun μ s=>∃i m o,i<=c.length/\μ=c.length - i/\(eh c).Inv o []/\(∀j,j < i->gg o j=2)/\s=(zb m (cC p sl (.slice (encI c)) g) (cH (o.map ofNat)) (ofNat i) (ofNat c.length) c.length).al bc) ?_ (m:=c.length) ⟨0,1,List.replicate c.length 0,Nat.zero_le _,rfl,Gr.Inv.init,fun j w=>absurd w (Nat.not_lt_zero j),rfl⟩;rintro μ s ⟨i,m,o,z,rfl,v,D,rfl⟩;refine UE ?_
  by_cases f:i < c.length
  ·have x:an .i64 (ofNat i+1)=ofNat (i+1):=bb (by omega);refine Re (br f) ?_;refine (UK u V N f v D).mono ?_;rintro e q (⟨rfl,l,t,a,b,rfl⟩|⟨rfl,a,l,rfl⟩)
   ·refine .inl ⟨rfl,l,_,?_,rfl⟩;show ∃μ',μ' < c.length - i/\_;refine⟨c.length - (i+1),by omega,i+1,m+(l+1 - 1),t,f,rfl,a,b,?_⟩;rw[x];exact Vx (ρ:=ig (DW [0]) 1 m) rfl
   refine .inr ⟨rfl,l,?_,rfl⟩;exact .inr ⟨rfl,yM a,_,Xp⟩
  have:i=c.length:=by omega
  subst this;refine UF (cj (by omega)) ?_;refine .inl ⟨rfl,E8 (v.cover D),_,_,_,Xo (ρ:=ig (DW [0]) 1 m) rfl⟩
 exact r
noncomputable def Sx:Hints:=⟨bV,P8,bi,rowsOf bi 71⟩
def Jj (p:List ac):Heap:=[(.loc 1,.cells p)]
def BY (a:List ac):Heap:=[(.out 0,.cells a)]
def Cs (p b:List ac) (n:Nat) (a:Bool):ab:=⟨[(4,bv a),(3,.win (.out 0) 1 0 n),(1,.ptr (.loc 1) 0)],Jj p,BY b,1⟩
def vt (p b:List ac) (n:Nat) (a:Bool) (i:Int):ab:=⟨[(20,bv false),(5,iv i),(4,bv a),(3,.win (.out 0) 1 0 n),(1,.ptr (.loc 1) 0)],Jj p,BY b,1⟩
def Oj (p a:List ac) (n:Nat):ab:=⟨[(14,bv false),(3,.win (.out 0) 1 0 n),(1,.ptr (.loc 1) 0)],Jj p,BY a,1⟩
def lT (p b:List ac) (n:Nat) (a:Bool) (i:Int):ab:=⟨[(5,iv i),(4,bv a),(3,.win (.out 0) 1 0 n),(1,.ptr (.loc 1) 0)],Jj p,BY b,1⟩
def DL (p b:List ac) (n:Nat) (a:Bool) (i:Int):ab:=⟨[(20,bv false),(5,iv i),(4,bv a),(3,.win (.out 0) 1 0 n),(1,.ptr (.loc 1) 0)],Jj p,BY b,1⟩
def rS (p d:List ac) (n:Nat) (a:Bool) (i:Int) (b:Bool) (c:ak) (k:Int):ab:=⟨[(8,iv k),(7,.dat c),(6,bv b),(5,iv i),(4,bv a),(3,.win (.out 0) 1 0 n),(1,.ptr (.loc 1) 0)],Jj p,BY d,1⟩
def vr (p d:List ac) (n:Nat) (a:Bool) (i:Int) (b:Bool) (c:ak) (k:Int):ab:=⟨[(29,bv false),(8,iv k),(7,.dat c),(6,bv b),(5,iv i),(4,bv a),(3,.win (.out 0) 1 0 n),(1,.ptr (.loc 1) 0)],Jj p,BY d,1⟩
def Cr (a:List ac) (n:Nat) (k:Int):ab:=⟨[(9,iv k),(3,.win (.out 0) 1 0 n)],[],BY a,1⟩
def Im (a:List ac) (n:Nat) (k:Int):ab:=⟨[(66,bv false),(9,iv k),(3,.win (.out 0) 1 0 n)],[],BY a,1⟩
def Io (a:List ac):ab:=⟨[(2,bv true)],[],BY a,1⟩
theorem afb {s:Int} {h:List ak} {g:ak} {d:List ac} {n c:Nat} {f b:Bool} {j:Int} {a:List ak}
  (l:aF k (ofNat a.length)=true) (m:ap ba 22 [.dat (.slice a),iv k]=some ⟨.ref [iN j],.keep⟩)
  (o:ap ba 35 [.win (.out 0) 1 0 n,iv j]=some ⟨.ptr (.out 0) c,.keep⟩) (q:eB ba false 4 [.ptr (.out 0) c] (some (.cells d))=some ⟨bv y,.keep⟩)
  (e:T .normal ((rS (cC p s (.slice h) g) d n f i (b&&y) (.slice a) (an .i64 (k+1))).al bO)) :
  KD (roundOf Tryz.f71 2) T ((rS (cC p s (.slice h) g) d n f i b (.slice a) k).al bO):=by
 refine aq [29] [37,39,40] (H:=Sx) (live:=jZ) (ob l ?_)
 cases b
 ·exact oe e
 exact oo m (oo o (oo q (oe e)))
theorem adx {s:Int} {f:List ak} {d:ak} {g:List ac} {n:Nat} {b:Bool} {a:List ak}
  (h:aF k (ofNat a.length)=false)
  (e:T (.exit 4) ((vr (cC p s (.slice f) d) g n c i b (.slice a) k).al bO)) :
  KD (roundOf Tryz.f71 2) T ((rS (cC p s (.slice f) d) g n c i b (.slice a) k).al bO):=by
 exact aq [29] [] (H:=Sx) (live:=jZ) (ob h (oe e))
theorem ady {s:Int} {d:List ak} {c:ak} {f:List ac} {n:Nat} {a b:Bool}
  (e:T (.exit 4) ((vr (cC p s (.slice d) c) f n a i b nl 0).al bO)) :
  KD (roundOf Tryz.f71 2) T ((rS (cC p s (.slice d) c) f n a i b nl 0).al bO):=by
 refine aq [] [] (H:=Sx) (live:=jZ) ?_;exact oe e
theorem afc {s:Int} {d:List ak} {h:ak} (A:dj h) {m u:List ac} {n v:Nat} {b t:Bool} {z:Int} {j:List ak} {c:List ak} (o:aF i 0=false)
  (a:ae 29 [.dat (aN p s (.slice d) h),iv i] (.dat (.slice j)))
  (l:KD (.loop (roundOf Tryz.f71 2)) (fun e q=>e=.exit 4/\q=(vr (cC p s (.slice d) h) m n r i b (.slice j) k).al bO) ((rS (cC p s (.slice d) h) m n r i true (.slice j) 0).al bO))
  (B:ap ba 23 [.dat (.slice d),iv i]=some ⟨.ref (i64 z::c),.keep⟩) (f:ae 110 [iv z] (bv t))
  (g:ap ba 35 [.win (.out 0) 1 0 n,iv i]=some ⟨.ptr (.out 0) v,.keep⟩) (G:eB ba false 4 [.ptr (.out 0) v] (some (.cells m))=some ⟨bv y,.keep⟩)
  (w:cG ba 4 [.ptr (.out 0) v,bv true] (some (.cells m))=some ⟨.undef,.set (.cells u)⟩) (x:bh (.cells u)=true)
  (E:((b||t)&&!y)=true->T .normal ((lT (cC p s (.slice d) h) u n true (an .i64 (i - 1))).al bO))
  (F:((b||t)&&!y)=false->T .normal ((lT (cC p s (.slice d) h) m n r (an .i64 (i - 1))).al bO)) :
  KD (roundOf Tryz.f71 1) T ((lT (cC p s (.slice d) h) m n r i).al bO):=by
 have C:=@aO false 1 p s (.slice d) _ (.inr ⟨_,rfl⟩) A;refine aq [20,600062] [23,56,57,62,100062,47] (H:=Sx) (live:=jZ) (ox o (oo C (on a ?_)));refine lo l ?_;rintro D s ⟨rfl,rfl⟩;refine⟨_,rfl,?_⟩
 cases b
 ·refine oo B (on f ?_)
  cases t
  ·exact oe (F rfl)
  refine oo g (oo G ?_)
  cases y
  ·exact oo g (oo w (ob x (oe (E rfl))))
  exact oe (F rfl)
 refine oo g (oo G ?_)
 cases y
 ·exact oo g (oo w (ob x (oe (E rfl))))
 exact oe (F rfl)
theorem adA {s:Int} {d:List ak} {h:ak} (z:dj h) {j t:List ac} {n u:Nat} {m b:Bool} {c:List ak} (o:aF i 0=false)
  (a:ae 29 [.dat (aN p s (.slice d) h),iv i] (.dat nl))
  (l:KD (.loop (roundOf Tryz.f71 2)) (fun e q=>e=.exit 4/\q=(vr (cC p s (.slice d) h) j n m i b nl k).al bO) ((rS (cC p s (.slice d) h) j n m i true nl 0).al bO))
  (A:ap ba 23 [.dat (.slice d),iv i]=some ⟨.ref (i64 x::c),.keep⟩) (f:ae 110 [iv x] (bv r))
  (g:ap ba 35 [.win (.out 0) 1 0 n,iv i]=some ⟨.ptr (.out 0) u,.keep⟩) (G:eB ba false 4 [.ptr (.out 0) u] (some (.cells j))=some ⟨bv y,.keep⟩)
  (v:cG ba 4 [.ptr (.out 0) u,bv true] (some (.cells j))=some ⟨.undef,.set (.cells t)⟩) (w:bh (.cells t)=true)
  (E:((b||r)&&!y)=true->T .normal ((lT (cC p s (.slice d) h) t n true (an .i64 (i - 1))).al bO))
  (F:((b||r)&&!y)=false->T .normal ((lT (cC p s (.slice d) h) j n m (an .i64 (i - 1))).al bO)) :
  KD (roundOf Tryz.f71 1) T ((lT (cC p s (.slice d) h) j n m i).al bO):=by
 have B:=@aO false 1 p s (.slice d) _ (.inr ⟨_,rfl⟩) z;refine aq [20,600062] [23,56,57,62,100062,47] (H:=Sx) (live:=jZ) (ox o (oo B (on a ?_)));refine lo l ?_;rintro C s ⟨rfl,rfl⟩;refine⟨_,rfl,?_⟩
 cases b
 ·refine oo A (on f ?_)
  cases r
  ·exact oe (F rfl)
  refine oo g (oo G ?_)
  cases y
  ·exact oo g (oo v (ob w (oe (E rfl))))
  exact oe (F rfl)
 refine oo g (oo G ?_)
 cases y
 ·exact oo g (oo v (ob w (oe (E rfl))))
 exact oe (F rfl)
theorem adz {s:Int} {c:List ak} {b:ak} {d:List ac} {n:Nat} {a:Bool} (o:aF i 0=true)
  (e:T (.exit 2) ((DL (cC p s (.slice c) b) d n a i).al bO)) :
  KD (roundOf Tryz.f71 1) T ((lT (cC p s (.slice c) b) d n a i).al bO):=by
 exact aq [20] [] (H:=Sx) (live:=jZ) (ox o (oe e))
theorem afd {s:Int} {a:List ak} {b:ak} {f:List ac} {n:Nat} {L:Exit->aa->Prop}
  (l:KD (.loop (roundOf Tryz.f71 1)) L ((lT (cC p s (.slice a) b) f n false (an .i64 (ofNat a.length - 1))).al bO))
  (m:∀e q,L e q->e=.exit 2/\∃d c i,q=(DL (cC p s (.slice a) b) d n c i).al bO/\T .normal ((vt (cC p s (.slice a) b) d n c i).al bO)) :
  KD (roundOf Tryz.f71 0) T ((Cs (cC p s (.slice a) b) f n true).al bO):=by
 have g:KD (.loop (roundOf Tryz.f71 1)) (fun e q=>e=.exit 2/\∃d c i,T .normal ((vt (cC p s (.slice a) b) d n c i).al bO)/\q=(DL (cC p s (.slice a) b) d n c i).al bO) ((lT (cC p s (.slice a) b) f n false (an .i64 (ofNat a.length - 1))).al bO):=
  l.mono (fun e q h=>by grind)
 refine aq [] [] (H:=Sx) (live:=jZ) ?_;refine lo g ?_;rintro k s ⟨rfl,⟨o,⟨r,⟨t,j,rfl⟩⟩⟩⟩;refine⟨_,rfl,?_⟩;exact oe j
theorem adB {s:Int} {b:List ak} {a:ak} {c:List ac} {n:Nat} (e:T (.exit 0) ((Oj (cC p s (.slice b) a) c n).al bO)) :
  KD (roundOf Tryz.f71 0) T ((Cs (cC p s (.slice b) a) c n false).al bO):=by
 refine aq [] [] (H:=Sx) (live:=jZ) ?_;exact oe e
theorem afa {a:List ac} {n b:Nat} (c:kb ba 35 [.win (.out 0) 1 0 n] none=some ⟨iv (ofNat n),.keep⟩) (d:aF k (ofNat n)=true)
  (e:ap ba 35 [.win (.out 0) 1 0 n,iv k]=some ⟨.ptr (.out 0) b,.keep⟩) (f:eB ba false 4 [.ptr (.out 0) b] (some (.cells a))=some ⟨bv y,.keep⟩)
  (E:y=true->T .normal ((Cr a n (an .i64 (k+1))).al bO)) (F:y=false->T .ret ((Io a).al bO)) :
  KD (roundOf Tryz.f71 3) T ((Cr a n k).al bO):=by
 refine aq [66] [65,71,72] (H:=Sx) (live:=jZ) (oo c (ob d (oo e (oo f ?_))))
 cases y
 ·exact oe (F rfl)
 exact oe (E rfl)
theorem adw {a:List ac} {n:Nat} (b:kb ba 35 [.win (.out 0) 1 0 n] none=some ⟨iv (ofNat n),.keep⟩) (c:aF k (ofNat n)=false)
  (E:T (.exit 6) ((Im a n k).al bO)) :
  KD (roundOf Tryz.f71 3) T ((Cr a n k).al bO):=by
 exact aq [66] [65] (H:=Sx) (live:=jZ) (oo b (ob c (oe E)))
theorem ZC {s:Int} {c:List ak} {d:ak} (i:dj d) {n:Nat} {fs0:List ac} {b:Bool} (N:n=c.length)
  (a:fR ba 35 [iv (ofNat c.length),iv (ofNat c.length)]=some ⟨.undef,.grow (.cells fs0) 1 n⟩) (j:bh (.cells fs0)=true)
  (A:KD (.loop (roundOf Tryz.f71 0)) (fun e q=>∃f,e=.exit 0/\q=(Oj (cC p s (.slice c) d) f n).al bO/\KD (.loop (roundOf Tryz.f71 3)) (fun e q=>(∃k,e=.exit 6/\b=false/\q=(Im f n k).al bO)∨(e=.ret/\b=true/\q=(Io f).al bO)) ((Cr f n 0).al bO)) ((Cs (cC p s (.slice c) d) fs0 n true).al bO)) :
  ae 71 [.dat (aN p s (.slice c) d)] (bv b):=by
 have l:=@aS p s (.slice c) _ (.inr ⟨_,rfl⟩) i;refine co [500013] [1,13] (x:=.of Tryz.f71 P8 jZ) ?_;refine oo l (oo a (ob j ?_));refine lo A ?_;rintro g s ⟨m,rfl,rfl,h⟩;refine⟨_,rfl,?_⟩;refine lo h ?_;rintro g s (⟨o,rfl,rfl,rfl⟩|⟨rfl,rfl,rfl⟩) <;>
 ·refine⟨_,rfl,?_⟩;exact fi
end Go.Proofs.YtmpmgmmcaghacaaGreatDoor
