/- Part 7 of what the last text proves. -/
import Derived.Test.YtmpmgmmcaghacaaGreatDoorQ06
set_option linter.unusedVariables false
set_option linter.unusedSimpArgs false
open Int (ofNat)
set_option maxRecDepth 100000
set_option maxHeartbeats 4000000
namespace Go.Proofs.YtmpmgmmcaghacaaGreatDoor
open Go.Tp
noncomputable abbrev bO:=Tryz.f71.ntmps
noncomputable abbrev tS:=Tryz.f36.ntmps
noncomputable abbrev pE:=Tryz.f9.ntmps
noncomputable abbrev cT:=Tryz.f37.ntmps
noncomputable abbrev tT:=Tryz.f33.ntmps
noncomputable abbrev cO:=Tryz.f38.ntmps
noncomputable abbrev cP:=Tryz.f11.ntmps
def zb (m:Nat) (c1 ss:List ac) (start n:Int) (N:Nat):ab:=⟨[(18,iv start),(17,iv n),(3,.win (.out 0) 1 0 N),(1,.ptr (.loc 1) 0)],[(.loc 1,.cells c1)],[(.out 0,.cells ss)],m⟩
def Fs (m:Nat) (c1 ss:List ac) (start n:Int) (N:Nat):ab:=⟨[(19,bv false),(18,iv start),(17,iv n),(3,.win (.out 0) 1 0 N),(1,.ptr (.loc 1) 0)],[(.loc 1,.cells c1)],[(.out 0,.cells ss)],m⟩
theorem Re {p sl:Int} {es:List ak} {d2:ak} {ss:List ac} {start n:Int} {N:Nat} {T:ej} (h0:aF start n=true)
  (hl:KD (.loop (roundOf Tryz.f68 1)) (fun e q=>(e=.exit 2/\∃m s2,T .normal ((zb (m+1) (cC p sl (.slice es) d2) s2 (an .i64 (start+1)) n N).al bc)/\q=(Vs m (cC p sl (.slice es) d2) s2 start n N).al bc)∨(e=.ret/\∃m,T .ret ((kY m).al bc)/\q=(kY m).al bc))
   ((pM 1 (cC p sl (.slice es) d2) [iv start,iv 0] ss 1 start n N).al bc)) :
  KD (roundOf Tryz.f68 0) T ((zb 1 (cC p sl (.slice es) d2) ss start n N).al bc):=by
 refine aq [19] [] (H:=hFC) (live:=sQ) (ob h0 ?_);refine lo hl ?_;rintro ex s (⟨rfl,⟨x0,⟨x1,g2,rfl⟩⟩⟩|⟨rfl,⟨x3,g4,rfl⟩⟩)
 ·refine⟨_,rfl,?_⟩;exact oe g2
 refine⟨_,rfl,?_⟩;exact oe g4
theorem UF {p sl:Int} {es:List ak} {d2:ak} {ss:List ac} {start n:Int} {N:Nat} {T:ej} (h0:aF start n=false) (e:T (.exit 0) ((Fs 1 (cC p sl (.slice es) d2) ss start n N).al bc)) :
  KD (roundOf Tryz.f68 0) T ((zb 1 (cC p sl (.slice es) d2) ss start n N).al bc):=by
 exact aq [19] [] (H:=hFC) (live:=sQ) (ob h0 (oe e))
theorem Zq {p s:Int} {es:List ak} {d2:ak} (g2:dj d2) {n:Nat} {ss0:List ac} {b:Bool} (hn:n=es.length)
  (h1:fR ba 22 [iv (ofNat es.length),iv (ofNat es.length)]=some ⟨.undef,.grow (.cells ss0) 1 n⟩) (h2:bh (.cells ss0)=true)
  (hl:KD (.loop (roundOf Tryz.f68 0)) (fun e q=>(e=.exit 0/\b=false/\∃m s2 i,q=(Fs m (cC p s (.slice es) d2) s2 i (ofNat es.length) n).al bc)∨(e=.ret/\b=true/\∃m,q=(kY m).al bc))
   ((zb 1 (cC p s (.slice es) d2) ss0 0 (ofNat es.length) n).al bc)) :
  ae 68 [.dat (aN p s (.slice es) d2)] (bv b):=by
 have q1:=@aS p s (.slice es) _ (.inr ⟨_,rfl⟩) g2;clear g2;subst hn;refine co [500014] [1,14] (x:=.of Tryz.f68 KQ sQ) ?_;refine oo q1 (oo h1 (ob h2 ?_));refine lo hl ?_;rintro ex s (⟨rfl,rfl,⟨x0,⟨x1,⟨x2,rfl⟩⟩⟩⟩|⟨rfl,rfl,⟨x3,rfl⟩⟩) <;>
 ·refine⟨_,rfl,?_⟩;exact fi
def Fq (y:Nat) (c1:List ac) (start n:Int) (N:Nat):ab:=⟨[(18,iv start),(17,iv n),(3,.win (.out y) 1 0 N),(1,.ptr (.loc 1) 0)],[(.loc 1,.cells c1)],[],0⟩
def Ik (y:Nat) (c1:List ac) (start n:Int) (N:Nat):ab:=⟨[(19,bv false),(18,iv start),(17,iv n),(3,.win (.out y) 1 0 N),(1,.ptr (.loc 1) 0)],[(.loc 1,.cells c1)],[],0⟩
theorem Vx {p sl:Int} {d1 d2:ak} {a m:Nat} {ρ:Nat->Nat} (h0:ρ 0=0) {ss:List Int} {N:Nat} {start n:Int} :
  Sq ρ m ((zb a (cC p sl d1 d2) (cH ss) start n N).al bc)=(zb m (cC p sl d1 d2) (cH ss) start n N).al bc:=by
 have e1:il ρ ((Fq 0 (cC p sl d1 d2) start n N).al bc).tmps=((Fq (ρ 0) (cC p sl d1 d2) start n N).al bc).tmps:=by kernel_rfl
 rw[h0] at e1;have e2:jJ ρ [(.loc 1,.cells (cC p sl d1 d2))]=[(.loc 1,.cells (cC p sl d1 d2))]:=by kernel_rfl
 have e3:jJ ρ [(.out 0,.cells (cH ss))]=[(.out 0,.cells (cH ss))]:=by simp only[jJ,wX,pW,fJ,h0]
 show (⟨il ρ ((Fq 0 (cC p sl d1 d2) start n N).al bc).tmps,jJ ρ [(.loc 1,.cells (cC p sl d1 d2))],jJ ρ [(.out 0,.cells (cH ss))],m⟩:aa)=_;rw[e1,e2,e3];rfl
theorem Xo {p sl:Int} {d1 d2:ak} {a m:Nat} {ρ:Nat->Nat} (h0:ρ 0=0) {ss:List Int} {N:Nat} {start n:Int} :
  Sq ρ m ((Fs a (cC p sl d1 d2) (cH ss) start n N).al bc)=(Fs m (cC p sl d1 d2) (cH ss) start n N).al bc:=by
 have e1:il ρ ((Ik 0 (cC p sl d1 d2) start n N).al bc).tmps=((Ik (ρ 0) (cC p sl d1 d2) start n N).al bc).tmps:=by kernel_rfl
 rw[h0] at e1;have e2:jJ ρ [(.loc 1,.cells (cC p sl d1 d2))]=[(.loc 1,.cells (cC p sl d1 d2))]:=by kernel_rfl
 have e3:jJ ρ [(.out 0,.cells (cH ss))]=[(.out 0,.cells (cH ss))]:=by simp only[jJ,wX,pW,fJ,h0]
 show (⟨il ρ ((Ik 0 (cC p sl d1 d2) start n N).al bc).tmps,jJ ρ [(.loc 1,.cells (cC p sl d1 d2))],jJ ρ [(.out 0,.cells (cH ss))],m⟩:aa)=_;rw[e1,e2,e3];rfl
theorem Xp {a m:Nat} {ρ:Nat->Nat}:Sq ρ m ((kY a).al bc)=(kY m).al bc:=by
 have e1:il ρ ((kY m).al bc).tmps=((kY m).al bc).tmps:=by kernel_rfl
 show (⟨il ρ ((kY m).al bc).tmps,[],[],m⟩:aa)=_;rw[e1];rfl
theorem Zt {p sl:Int} {d1 d2:ak} {ss:List Int} {N:Nat} {start n:Int}:UH ((zb 1 (cC p sl d1 d2) (cH ss) start n N).al bc)=true:=by
 have e1:BI 1 ((Fq 0 (cC p sl d1 d2) start n N).al bc).tmps=false:=by kernel_rfl
 have e2:GM 1 [(.loc 1,.cells (cC p sl d1 d2))]=false:=by kernel_rfl
 have e3:GM 1 [(.out 0,.cells (cH ss))]=false:=by
  simp only[GM,Z5,Ev];rfl
 show (!BI 1 ((Fq 0 (cC p sl d1 d2) start n N).al bc).tmps&&(!GM 1 [(.loc 1,.cells (cC p sl d1 d2))]&&(!GM 1 [(.out 0,.cells (cH ss))]&&lD [(.out 0,.cells (cH ss))] 1)))=true;rw[e1,e2,e3];rfl
theorem UE {p sl:Int} {d1 d2:ak} {ss:List Int} {N:Nat} {start n:Int} {m:Nat} {T:ej}
  (h:KD (roundOf Tryz.f68 0) (fun e s=>T e (Sq (ig (DW [0]) 1 m) (m+(s.next - 1)) s)) ((zb 1 (cC p sl d1 d2) (cH ss) start n N).al bc)) :
  KD (roundOf Tryz.f68 0) T ((zb m (cC p sl d1 d2) (cH ss) start n N).al bc):=by
 have h2:=cL.rn h (DW [0]) m Zt;rw[Vx (m:=m) (ρ:=DW [0]) rfl] at h2;refine h2.mono ?_;rintro e s ⟨s1,hq,rfl⟩;exact hq
theorem ZT {p sl:Int} {ins:List Ins} {d2:ak} (g2:dj d2) (hv:tR ins) (hn:ins.length < 1000000) :
  ae 68 [.dat (aN p sl (.slice (encI ins)) d2)] (bv (lO ins)):=by
 have hrep:cH (List.replicate ins.length 0)=cH ((List.replicate ins.length 0).map ofNat):=by rw[List.map_replicate];rfl
 have hmk:=TF (n:=ins.length) hn;rw[hrep] at hmk;have hlen:(encI ins).length=ins.length:=bH ins;refine Zq (n:=ins.length) (ss0:=cH ((List.replicate ins.length 0).map ofNat)) g2 hlen.symm (by rw[hlen];exact hmk) (eb _) ?_;rw[hlen];have key:KD (.loop (roundOf Tryz.f68 0)) (fun e q=>(e=.exit 0/\lO ins=false/\∃m s2 i,q=(Fs m (cC p sl (.slice (encI ins)) d2) s2 i (ofNat ins.length) ins.length).al bc)∨(e=.ret/\lO ins=true/\∃m,q=(kY m).al bc))
   ((zb 1 (cC p sl (.slice (encI ins)) d2) (cH ((List.replicate ins.length 0).map ofNat)) 0 (ofNat ins.length) ins.length).al bc):=by
  refine CS (I:=fun μ s=>∃i m st,i<=ins.length/\μ=ins.length - i/\(eh ins).Inv st []/\(∀j,j < i->gg st j=2)/\s=(zb m (cC p sl (.slice (encI ins)) d2) (cH (st.map ofNat)) (ofNat i) (ofNat ins.length) ins.length).al bc) ?_ (m:=ins.length) ⟨0,1,List.replicate ins.length 0,Nat.zero_le _,rfl,Gr.Inv.init,fun j hj=>absurd hj (Nat.not_lt_zero j),rfl⟩;rintro μ s ⟨i,m,st,hi,rfl,hI,hd,rfl⟩;refine UE ?_
  by_cases hlt:i < ins.length
  ·have hw:an .i64 (ofNat i+1)=ofNat (i+1):=bb (by omega);refine Re (br hlt) ?_;refine (UK g2 hv hn hlt hI hd).mono ?_;rintro e q (⟨rfl,m2,st2,h1,h2,rfl⟩|⟨rfl,h1,m2,rfl⟩)
   ·refine .inl ⟨rfl,m2,_,?_,rfl⟩;show ∃μ',μ' < ins.length - i/\_;refine⟨ins.length - (i+1),by omega,i+1,m+(m2+1 - 1),st2,hlt,rfl,h1,h2,?_⟩;rw[hw];exact Vx (ρ:=ig (DW [0]) 1 m) rfl
   refine .inr ⟨rfl,m2,?_,rfl⟩;exact .inr ⟨rfl,yM h1,_,Xp⟩
  have:i=ins.length:=by omega
  subst this;refine UF (cj (by omega)) ?_;refine .inl ⟨rfl,E8 (hI.cover hd),_,_,_,Xo (ρ:=ig (DW [0]) 1 m) rfl⟩
 exact key
noncomputable def Sx:Hints:=⟨bV,KP,bi,rowsOf bi 71⟩
def Jj (c1:List ac):Heap:=[(.loc 1,.cells c1)]
def BY (fs:List ac):Heap:=[(.out 0,.cells fs)]
def Cs (c1 fs:List ac) (n:Nat) (ch:Bool):ab:=⟨[(4,bv ch),(3,.win (.out 0) 1 0 n),(1,.ptr (.loc 1) 0)],Jj c1,BY fs,1⟩
def vt (c1 fs:List ac) (n:Nat) (ch:Bool) (i:Int):ab:=⟨[(20,bv false),(5,iv i),(4,bv ch),(3,.win (.out 0) 1 0 n),(1,.ptr (.loc 1) 0)],Jj c1,BY fs,1⟩
def Oj (c1 fs:List ac) (n:Nat):ab:=⟨[(14,bv false),(3,.win (.out 0) 1 0 n),(1,.ptr (.loc 1) 0)],Jj c1,BY fs,1⟩
def lT (c1 fs:List ac) (n:Nat) (ch:Bool) (i:Int):ab:=⟨[(5,iv i),(4,bv ch),(3,.win (.out 0) 1 0 n),(1,.ptr (.loc 1) 0)],Jj c1,BY fs,1⟩
def DL (c1 fs:List ac) (n:Nat) (ch:Bool) (i:Int):ab:=⟨[(20,bv false),(5,iv i),(4,bv ch),(3,.win (.out 0) 1 0 n),(1,.ptr (.loc 1) 0)],Jj c1,BY fs,1⟩
def rS (c1 fs:List ac) (n:Nat) (ch:Bool) (i:Int) (b:Bool) (dl:ak) (k:Int):ab:=⟨[(8,iv k),(7,.dat dl),(6,bv b),(5,iv i),(4,bv ch),(3,.win (.out 0) 1 0 n),(1,.ptr (.loc 1) 0)],Jj c1,BY fs,1⟩
def vr (c1 fs:List ac) (n:Nat) (ch:Bool) (i:Int) (b:Bool) (dl:ak) (k:Int):ab:=⟨[(29,bv false),(8,iv k),(7,.dat dl),(6,bv b),(5,iv i),(4,bv ch),(3,.win (.out 0) 1 0 n),(1,.ptr (.loc 1) 0)],Jj c1,BY fs,1⟩
def Cr (fs:List ac) (n:Nat) (k:Int):ab:=⟨[(9,iv k),(3,.win (.out 0) 1 0 n)],[],BY fs,1⟩
def Im (fs:List ac) (n:Nat) (k:Int):ab:=⟨[(66,bv false),(9,iv k),(3,.win (.out 0) 1 0 n)],[],BY fs,1⟩
def Io (fs:List ac):ab:=⟨[(2,bv true)],[],BY fs,1⟩
theorem afb {p s:Int} {es:List ak} {d2:ak} {fs:List ac} {n tof:Nat} {ch b y:Bool} {i k to:Int} {els:List ak} {T:ej}
  (f2:aF k (ofNat els.length)=true) (f3:ap ba 22 [.dat (.slice els),iv k]=some ⟨.ref [iN to],.keep⟩)
  (f4:ap ba 35 [.win (.out 0) 1 0 n,iv to]=some ⟨.ptr (.out 0) tof,.keep⟩) (f5:eB ba false 4 [.ptr (.out 0) tof] (some (.cells fs))=some ⟨bv y,.keep⟩)
  (e:T .normal ((rS (cC p s (.slice es) d2) fs n ch i (b&&y) (.slice els) (an .i64 (k+1))).al bO)) :
  KD (roundOf Tryz.f71 2) T ((rS (cC p s (.slice es) d2) fs n ch i b (.slice els) k).al bO):=by
 refine aq [29] [37,39,40] (H:=Sx) (live:=jZ) (ob f2 ?_)
 cases b
 ·exact oe e
 exact oo f3 (oo f4 (oo f5 (oe e)))
theorem adx {p s:Int} {es:List ak} {d2:ak} {fs:List ac} {n:Nat} {ch b:Bool} {i k:Int} {els:List ak} {T:ej}
  (f2:aF k (ofNat els.length)=false)
  (e:T (.exit 4) ((vr (cC p s (.slice es) d2) fs n ch i b (.slice els) k).al bO)) :
  KD (roundOf Tryz.f71 2) T ((rS (cC p s (.slice es) d2) fs n ch i b (.slice els) k).al bO):=by
 exact aq [29] [] (H:=Sx) (live:=jZ) (ob f2 (oe e))
theorem ady {p s:Int} {es:List ak} {d2:ak} {fs:List ac} {n:Nat} {ch b:Bool} {i:Int} {T:ej}
  (e:T (.exit 4) ((vr (cC p s (.slice es) d2) fs n ch i b nl 0).al bO)) :
  KD (roundOf Tryz.f71 2) T ((rS (cC p s (.slice es) d2) fs n ch i b nl 0).al bO):=by
 refine aq [] [] (H:=Sx) (live:=jZ) ?_;exact oe e
theorem afc {p s:Int} {es:List ak} {d2:ak} (g2:dj d2) {fs f2:List ac} {n io:Nat} {ch b tk y:Bool} {i k op:Int} {els:List ak} {cs:List ak} {T:ej} (h0:aF i 0=false)
  (h1:ae 29 [.dat (aN p s (.slice es) d2),iv i] (.dat (.slice els)))
  (hl:KD (.loop (roundOf Tryz.f71 2)) (fun e q=>e=.exit 4/\q=(vr (cC p s (.slice es) d2) fs n ch i b (.slice els) k).al bO) ((rS (cC p s (.slice es) d2) fs n ch i true (.slice els) 0).al bO))
  (h2:ap ba 23 [.dat (.slice es),iv i]=some ⟨.ref (i64 op::cs),.keep⟩) (h3:ae 110 [iv op] (bv tk))
  (h4:ap ba 35 [.win (.out 0) 1 0 n,iv i]=some ⟨.ptr (.out 0) io,.keep⟩) (h5:eB ba false 4 [.ptr (.out 0) io] (some (.cells fs))=some ⟨bv y,.keep⟩)
  (h6:cG ba 4 [.ptr (.out 0) io,bv true] (some (.cells fs))=some ⟨.undef,.set (.cells f2)⟩) (h7:bh (.cells f2)=true)
  (e1:((b||tk)&&!y)=true->T .normal ((lT (cC p s (.slice es) d2) f2 n true (an .i64 (i - 1))).al bO))
  (e2:((b||tk)&&!y)=false->T .normal ((lT (cC p s (.slice es) d2) fs n ch (an .i64 (i - 1))).al bO)) :
  KD (roundOf Tryz.f71 1) T ((lT (cC p s (.slice es) d2) fs n ch i).al bO):=by
 have q3:=@aO false 1 p s (.slice es) _ (.inr ⟨_,rfl⟩) g2;clear g2;refine aq [20,600062] [23,56,57,62,100062,47] (H:=Sx) (live:=jZ) (ox h0 (oo q3 (on h1 ?_)));refine lo hl ?_;rintro ex s ⟨rfl,rfl⟩;refine⟨_,rfl,?_⟩
 cases b
 ·refine oo h2 (on h3 ?_)
  cases tk
  ·exact oe (e2 rfl)
  refine oo h4 (oo h5 ?_)
  cases y
  ·exact oo h4 (oo h6 (ob h7 (oe (e1 rfl))))
  exact oe (e2 rfl)
 refine oo h4 (oo h5 ?_)
 cases y
 ·exact oo h4 (oo h6 (ob h7 (oe (e1 rfl))))
 exact oe (e2 rfl)
theorem adA {p s:Int} {es:List ak} {d2:ak} (g2:dj d2) {fs f2:List ac} {n io:Nat} {ch b tk y:Bool} {i k op:Int} {cs:List ak} {T:ej} (h0:aF i 0=false)
  (h1:ae 29 [.dat (aN p s (.slice es) d2),iv i] (.dat nl))
  (hl:KD (.loop (roundOf Tryz.f71 2)) (fun e q=>e=.exit 4/\q=(vr (cC p s (.slice es) d2) fs n ch i b nl k).al bO) ((rS (cC p s (.slice es) d2) fs n ch i true nl 0).al bO))
  (h2:ap ba 23 [.dat (.slice es),iv i]=some ⟨.ref (i64 op::cs),.keep⟩) (h3:ae 110 [iv op] (bv tk))
  (h4:ap ba 35 [.win (.out 0) 1 0 n,iv i]=some ⟨.ptr (.out 0) io,.keep⟩) (h5:eB ba false 4 [.ptr (.out 0) io] (some (.cells fs))=some ⟨bv y,.keep⟩)
  (h6:cG ba 4 [.ptr (.out 0) io,bv true] (some (.cells fs))=some ⟨.undef,.set (.cells f2)⟩) (h7:bh (.cells f2)=true)
  (e1:((b||tk)&&!y)=true->T .normal ((lT (cC p s (.slice es) d2) f2 n true (an .i64 (i - 1))).al bO))
  (e2:((b||tk)&&!y)=false->T .normal ((lT (cC p s (.slice es) d2) fs n ch (an .i64 (i - 1))).al bO)) :
  KD (roundOf Tryz.f71 1) T ((lT (cC p s (.slice es) d2) fs n ch i).al bO):=by
 have q3:=@aO false 1 p s (.slice es) _ (.inr ⟨_,rfl⟩) g2;clear g2;refine aq [20,600062] [23,56,57,62,100062,47] (H:=Sx) (live:=jZ) (ox h0 (oo q3 (on h1 ?_)));refine lo hl ?_;rintro ex s ⟨rfl,rfl⟩;refine⟨_,rfl,?_⟩
 cases b
 ·refine oo h2 (on h3 ?_)
  cases tk
  ·exact oe (e2 rfl)
  refine oo h4 (oo h5 ?_)
  cases y
  ·exact oo h4 (oo h6 (ob h7 (oe (e1 rfl))))
  exact oe (e2 rfl)
 refine oo h4 (oo h5 ?_)
 cases y
 ·exact oo h4 (oo h6 (ob h7 (oe (e1 rfl))))
 exact oe (e2 rfl)
theorem adz {p s:Int} {es:List ak} {d2:ak} {fs:List ac} {n:Nat} {ch:Bool} {i:Int} {T:ej} (h0:aF i 0=true)
  (e:T (.exit 2) ((DL (cC p s (.slice es) d2) fs n ch i).al bO)) :
  KD (roundOf Tryz.f71 1) T ((lT (cC p s (.slice es) d2) fs n ch i).al bO):=by
 exact aq [20] [] (H:=Sx) (live:=jZ) (ox h0 (oe e))
theorem afd {p s:Int} {es:List ak} {d2:ak} {fs:List ac} {n:Nat} {L:Exit->aa->Prop} {T:ej}
  (hl:KD (.loop (roundOf Tryz.f71 1)) L ((lT (cC p s (.slice es) d2) fs n false (an .i64 (ofNat es.length - 1))).al bO))
  (hL:∀e q,L e q->e=.exit 2/\∃f2 ch i,q=(DL (cC p s (.slice es) d2) f2 n ch i).al bO/\T .normal ((vt (cC p s (.slice es) d2) f2 n ch i).al bO)) :
  KD (roundOf Tryz.f71 0) T ((Cs (cC p s (.slice es) d2) fs n true).al bO):=by
 have hl2:KD (.loop (roundOf Tryz.f71 1)) (fun e q=>e=.exit 2/\∃f2 ch i,T .normal ((vt (cC p s (.slice es) d2) f2 n ch i).al bO)/\q=(DL (cC p s (.slice es) d2) f2 n ch i).al bO) ((lT (cC p s (.slice es) d2) fs n false (an .i64 (ofNat es.length - 1))).al bO):=
  hl.mono (fun e q h=>by obtain⟨h1,f2,ch,i,h2,h3⟩:=hL e q h;exact⟨h1,f2,ch,i,h3,h2⟩)
 clear hl hL;refine aq [] [] (H:=Sx) (live:=jZ) ?_;refine lo hl2 ?_;rintro ex s ⟨rfl,⟨x0,⟨x1,⟨x2,g3,rfl⟩⟩⟩⟩;refine⟨_,rfl,?_⟩;exact oe g3
theorem adB {p s:Int} {es:List ak} {d2:ak} {fs:List ac} {n:Nat} {T:ej} (e:T (.exit 0) ((Oj (cC p s (.slice es) d2) fs n).al bO)) :
  KD (roundOf Tryz.f71 0) T ((Cs (cC p s (.slice es) d2) fs n false).al bO):=by
 refine aq [] [] (H:=Sx) (live:=jZ) ?_;exact oe e
theorem afa {fs:List ac} {n kf:Nat} {y:Bool} {k:Int} {T:ej} (f1:kb ba 35 [.win (.out 0) 1 0 n] none=some ⟨iv (ofNat n),.keep⟩) (f2:aF k (ofNat n)=true)
  (f4:ap ba 35 [.win (.out 0) 1 0 n,iv k]=some ⟨.ptr (.out 0) kf,.keep⟩) (f5:eB ba false 4 [.ptr (.out 0) kf] (some (.cells fs))=some ⟨bv y,.keep⟩)
  (e1:y=true->T .normal ((Cr fs n (an .i64 (k+1))).al bO)) (e2:y=false->T .ret ((Io fs).al bO)) :
  KD (roundOf Tryz.f71 3) T ((Cr fs n k).al bO):=by
 refine aq [66] [65,71,72] (H:=Sx) (live:=jZ) (oo f1 (ob f2 (oo f4 (oo f5 ?_))))
 cases y
 ·exact oe (e2 rfl)
 exact oe (e1 rfl)
theorem adw {fs:List ac} {n:Nat} {k:Int} {T:ej} (f1:kb ba 35 [.win (.out 0) 1 0 n] none=some ⟨iv (ofNat n),.keep⟩) (f2:aF k (ofNat n)=false)
  (e1:T (.exit 6) ((Im fs n k).al bO)) :
  KD (roundOf Tryz.f71 3) T ((Cr fs n k).al bO):=by
 exact aq [66] [65] (H:=Sx) (live:=jZ) (oo f1 (ob f2 (oe e1)))
theorem ZC {p s:Int} {es:List ak} {d2:ak} (g2:dj d2) {n:Nat} {fs0:List ac} {b:Bool} (hn:n=es.length)
  (h1:fR ba 35 [iv (ofNat es.length),iv (ofNat es.length)]=some ⟨.undef,.grow (.cells fs0) 1 n⟩) (h2:bh (.cells fs0)=true)
  (ha:KD (.loop (roundOf Tryz.f71 0)) (fun e q=>∃fs,e=.exit 0/\q=(Oj (cC p s (.slice es) d2) fs n).al bO/\KD (.loop (roundOf Tryz.f71 3)) (fun e q=>(∃k,e=.exit 6/\b=false/\q=(Im fs n k).al bO)∨(e=.ret/\b=true/\q=(Io fs).al bO)) ((Cr fs n 0).al bO)) ((Cs (cC p s (.slice es) d2) fs0 n true).al bO)) :
  ae 71 [.dat (aN p s (.slice es) d2)] (bv b):=by
 have q1:=@aS p s (.slice es) _ (.inr ⟨_,rfl⟩) g2;clear g2;subst hn;refine co [500013] [1,13] (x:=.of Tryz.f71 KP jZ) ?_;refine oo q1 (oo h1 (ob h2 ?_));refine lo ha ?_;rintro ex s ⟨x0,rfl,rfl,g1⟩;refine⟨_,rfl,?_⟩;refine lo g1 ?_;rintro ex s (⟨x2,rfl,rfl,rfl⟩|⟨rfl,rfl,rfl⟩) <;>
 ·refine⟨_,rfl,?_⟩;exact fi
theorem Wx {op:Int} {c1 c2 c3 c4 c5:Bool} (h1:aB op 14=c1) (h2:aB op 10=c2) (h3:aB op 11=c3) (h4:aB op 22=c4) (h5:aB op 20=c5):ae 110 [iv op] (bv (c1||(c2||(c3||(c4||c5))))):=by
 refine co [4,7,11,15,19] [] (x:=.of Tryz.f110 I4 Lu) ?_;refine ob h1 ?_
 cases c1
 ·refine ob h2 ?_
  cases c2
  ·refine ob h3 ?_
   cases c3
   ·refine ob h4 ?_
    cases c4
    ·refine ob h5 ?_
     cases c5 <;>
     ·exact fi
    exact fi
   exact fi
  exact fi
 exact fi
theorem Ow (op:Int):(lU (eO op)).call=(aB op 14||(aB op 10||(aB op 11||(aB op 22||aB op 20)))):=by
 cases hq:eO op with
 | none=>
  have h:∀k:Nat,1<=k->k<=22->aB op (ofNat k)=false:=by
   intro k h1 h2;refine dL ?_;rintro rfl
   have:∀n:Nat,1<=n->n<=22->ki n≠none:=by
    intro n
    match n with
    | 0=>intro h;omega
    | 1|2|3|4|5|6|7|8|9|10|11|12|13|14|15|16|17|18|19|20|21|22=>intro _ _ h;simp[ki] at h
    | n+23=>intro _ h;omega
   exact this k h1 h2 hq
  have e14:aB op 14=false:=h 14 (by decide) (by decide);have e10:aB op 10=false:=h 10 (by decide) (by decide);have e11:aB op 11=false:=h 11 (by decide) (by decide);have e22:aB op 22=false:=h 22 (by decide) (by decide);have e20:aB op 20=false:=h 20 (by decide) (by decide);rw[e14,e10,e11,e22,e20];rfl
 | some s=>
  obtain⟨n,rfl,h4,h5,h6⟩:=pT hq;have hc:n=1∨n=2∨n=3∨n=4∨n=5∨n=6∨n=7∨n=8∨n=9∨n=10∨n=11∨n=12∨n=13∨n=14∨n=15∨n=16∨n=17∨n=18∨n=19∨n=20∨n=21∨n=22:=by omega
  rcases hc with rfl|rfl|rfl|rfl|rfl|rfl|rfl|rfl|rfl|rfl|rfl|rfl|rfl|rfl|rfl|rfl|rfl|rfl|rfl|rfl|rfl|rfl <;> (cases h6;rfl)
theorem Tm (op:Int):ae 110 [iv op] (bv (lU (eO op)).call):=by
 rw[Ow];exact Wx rfl rfl rfl rfl rfl
section
variable {p s:Int} {ins:List Ins} {d2:ak}
abbrev cI (p s:Int) (ins:List Ins) (d2:ak):List ac:=cC p s (.slice (encI ins)) d2
theorem Ry (hv:tR ins) (hn:ins.length < 1000000) {f:List Bool} (hf:f.length=ins.length) {ch:Bool} {i:Nat} {l:List Nat} (hl:∀j∈l,j < ins.length) (hl2:l.length<=2) (hne:l≠[]) :
  KD (.loop (roundOf Tryz.f71 2)) (fun e q=>e=.exit 4/\q=(vr (cI p s ins d2) (pG f) ins.length ch (ofNat i) (l.all (fun j=>f.getD j false)) (.slice ((l.map ofNat).map iN)) (ofNat l.length)).al bO)
   ((rS (cI p s ins d2) (pG f) ins.length ch (ofNat i) true (.slice ((l.map ofNat).map iN)) 0).al bO):=by
 have hlen:((l.map ofNat).map iN).length=l.length:=by rw[List.length_map,List.length_map]
 refine bm (St:=fun k=>(rS (cI p s ins d2) (pG f) ins.length ch (ofNat i) ((l.take k).all (fun j=>f.getD j false)) (.slice ((l.map ofNat).map iN)) (ofNat k)).al bO) l.length ?_ ?_ (i:=0) (Nat.zero_le _)
 ·intro k hk;have hg:l[k]?=some l[k]:=List.getElem?_eq_getElem hk;have hj:=hl _ (List.getElem_mem hk);have hall:(l.take (k+1)).all (fun j=>f.getD j false)=((l.take k).all (fun j=>f.getD j false)&&f.getD l[k] false):=by
   rw[List.take_succ_eq_append_getElem hk,List.all_append];simp
  generalize l[k]=j at hg hj hall;have hg2:(l.map ofNat)[k]?=some (ofNat j):=by rw[List.getElem?_map,hg];rfl
  have hw:an .i64 (ofNat k+1)=ofNat (k+1):=bb (by omega);have hgf:f[j]?=some (f.getD j false):=by
   rw[List.getD_eq_getElem?_getD,List.getElem?_eq_getElem (by omega)];rfl
  refine afb (br (by rw[hlen];exact hk)) (wb hg2) (vV (n:=ins.length) hj) (Jp (.out 0) hgf) ?_;rw[hw,←hall];exact rfl
 refine adx (cj (by rw[hlen];omega)) ?_;rw[List.take_length];exact⟨rfl,rfl⟩
theorem Rw {f:List Bool} {ch:Bool} {i:Int} :
  KD (.loop (roundOf Tryz.f71 2)) (fun e q=>e=.exit 4/\q=(vr (cI p s ins d2) (pG f) ins.length ch i true nl 0).al bO)
   ((rS (cI p s ins d2) (pG f) ins.length ch i true nl 0).al bO):=by
 refine bm (St:=fun _=>(rS (cI p s ins d2) (pG f) ins.length ch i true nl 0).al bO) 0 (fun i hi=>absurd hi (by omega)) ?_ (i:=0) (Nat.le_refl _);exact ady ⟨rfl,rfl⟩
def Bb (ins:List Ins) (f:List Bool) (i:Nat):Bool:=(na ins i).all (fun j=>f.getD j false)||Bi ins i
theorem RA (g2:dj d2) (hv:tR ins) (hn:ins.length < 1000000) {f:List Bool} (hf:f.length=ins.length) {ch:Bool} {i:Nat} (hi:i < ins.length) {T:ej}
  (e1:(Bb ins f i&&!f.getD i false)=true->T .normal ((lT (cI p s ins d2) (pG (f.set i true)) ins.length true (an .i64 (ofNat i - 1))).al bO))
  (e2:(Bb ins f i&&!f.getD i false)=false->T .normal ((lT (cI p s ins d2) (pG f) ins.length ch (an .i64 (ofNat i - 1))).al bO)) :
  KD (roundOf Tryz.f71 1) T ((lT (cI p s ins d2) (pG f) ins.length ch (ofNat i)).al bO):=by
 have hx:ins[i]?=some ins[i]:=List.getElem?_eq_getElem hi;generalize ins[i]=x at hx;have hsucc:=Fj hv hx;have hcall:Bi ins i=(lU (eO x.op)).call:=by unfold Bi;rw[hx]
 have h0:aF (ofNat i) 0=false:=by rw[dA];simp
 have h1:=Xx (p:=p) (s:=s) g2 hx (by omega);have h2:=xn hx;have h3:=Tm x.op;have h4:=vV (m:=.out 0) (n:=ins.length) hi;have hgf:f[i]?=some (f.getD i false):=by
  rw[List.getD_eq_getElem?_getD,List.getElem?_eq_getElem (by omega)];rfl
 have h5:=Jp (.out 0) hgf;have h6:=WD (l:=f) (i:=i) (.out 0) true (by omega);rw[←hsucc] at h1;have hd:Bb ins f i=((na ins i).all (fun j=>f.getD j false)||(lU (eO x.op)).call):=by unfold Bb;rw[hcall]
 rw[hd] at e1 e2;have hlt:∀j∈na ins i,j < ins.length:=(eh ins).lt i hi;have hl2:=vm ins i;generalize na ins i=l at *;obtain⟨op,dst,a,b,im,nm,az,ar,⟨xk,tn,ix,la⟩,ck,ci,cs⟩:=x
 cases l with
 | nil=>exact adA g2 h0 h1 Rw h2 h3 h4 h5 h6 (qZ _) e1 e2
 | cons j0 l0=>
  have h7:=Ry (p:=p) (s:=s) (d2:=d2) hv hn hf (ch:=ch) (i:=i) hlt hl2 (by simp);exact afc g2 h0 h1 h7 h2 h3 h4 h5 h6 (qZ _) e1 e2
def Ts (j:Nat):Int:=match j with|0=>-1|i+1=>ofNat i
theorem CK {j:Nat} (h:j < 1000000):an .i64 (ofNat j - 1)=Ts j:=by
 rw[cQ]
 cases j with
 | zero=>rfl
 | succ i=>
  rw[show ofNat (i+1) - 1=ofNat i by simp];exact wrap_i64 (by show _<=(i:Int);omega) (by show (i:Int)<=_;omega)
def pw (f:List Bool):Nat:=f.countP (fun b=>!b)
theorem MN {f:List Bool} {i:Nat} (hi:i < f.length) (h:f.getD i false=false):pw (f.set i true)+1=pw f:=by
 unfold pw;have hfi:f[i]=false:=by
  rw[List.getD_eq_getElem?_getD,List.getElem?_eq_getElem hi] at h;exact h
 rw[List.countP_set hi,hfi]
 have:0 < f.countP (fun b=>!b):=List.countP_pos_iff.2 ⟨f[i],List.getElem_mem hi,by rw[hfi];rfl⟩
 simp;omega
theorem Rz (g2:dj d2) (hv:tR ins) (hn:ins.length < 1000000) {f:List Bool} (hf:f.length=ins.length) (hS:(eh ins).Sound f) :
  KD (.loop (roundOf Tryz.f71 1)) (fun e q=>e=.exit 2/\∃f2 ch i,f2.length=ins.length/\(eh ins).Sound f2/\(ch=true->pw f2 < pw f)/\(ch=false->f2=f/\(eh ins).fp f)/\q=(DL (cI p s ins d2) (pG f2) ins.length ch i).al bO)
   ((lT (cI p s ins d2) (pG f) ins.length false (an .i64 (ofNat (encI ins).length - 1))).al bO):=by
 rw[bH,CK hn];refine CS (I:=fun μ q=>∃f2 ch,μ<=ins.length/\f2.length=ins.length/\(eh ins).Sound f2/\(ch=true->pw f2 < pw f)/\(ch=false->f2=f/\∀i,μ<=i->i < ins.length->Bb ins f i=true->f.getD i false=true)/\q=(lT (cI p s ins d2) (pG f2) ins.length ch (Ts μ)).al bO) ?_ (m:=ins.length) ⟨f,false,Nat.le_refl _,hf,hS,fun h=>by simp at h,fun _=>⟨rfl,fun i h1 h2=>by omega⟩,rfl⟩;rintro μ q ⟨f2,ch,hμ,hf2,VX,h1,h2,rfl⟩
 cases μ with
 | zero=>
  refine adz (by rfl) ?_;refine⟨rfl,f2,ch,Ts 0,hf2,VX,h1,?_,rfl⟩;intro hc;obtain⟨k1,k2⟩:=h2 hc;refine⟨k1,?_⟩;intro i hi hd;refine k2 i (Nat.zero_le _) hi ?_;unfold Bb
  rcases hd with hd|hd
  ·have:Bi ins i=true:=hd
   rw[this,Bool.or_true]
  have:(na ins i).all (fun j=>f.getD j false)=true:=List.all_eq_true.2 hd
  rw[this,Bool.true_or]
 | succ i=>
  have hi:i < ins.length:=hμ;have hw:an .i64 (ofNat i - 1)=Ts i:=CK (by omega);refine RA g2 hv hn hf2 hi ?_ ?_
  ·intro hc;simp only[Bool.and_eq_true,Bool.not_eq_true'] at hc;rw[hw];have hl:=MN (by omega:i < f2.length) hc.2;refine⟨i,Nat.lt_succ_self i,f2.set i true,true,by omega,by rw[List.length_set];exact hf2,?_,?_,fun h=>by simp at h,rfl⟩
   ·refine VX.set (by omega) ?_;have hd:=hc.1;unfold Bb at hd;rw[Bool.or_eq_true] at hd
    rcases hd with hd|hd
    ·exact .inr (fun j hj=>List.all_eq_true.1 hd j hj)
    exact .inl hd
   intro _
   cases ch
   ·obtain⟨rfl,_⟩:=h2 rfl;omega
   have:=h1 rfl;omega
  intro hc;rw[hw];refine⟨i,Nat.lt_succ_self i,f2,ch,by omega,hf2,VX,h1,?_,rfl⟩;intro hch;obtain⟨rfl,k2⟩:=h2 hch;refine⟨rfl,?_⟩;intro j hj1 hj2 hd
  by_cases hji:j=i
  ·subst hji;rw[hd,Bool.true_and] at hc;simpa using hc
  exact k2 j (by omega) hj2 hd
theorem MZ {f:List ac} {p s:Int} {d1 d2:ak} {n:Nat} {ch:Bool} {i:Int}:gF cM ((vt (cC p s d1 d2) f n ch i).al bO) ((Cs (cC p s d1 d2) f n ch).al bO):=by
 have h:=me (G:=cM) (n:=bO) (vt (cC p s d1 d2) f n ch i) (2 ^ 4+2 ^ 3+2 ^ 1);have e:((iL (vt (cC p s d1 d2) f n ch i) (fun l=>eE l (2 ^ 4+2 ^ 3+2 ^ 1))).al bO)=((Cs (cC p s d1 d2) f n ch).al bO):=by kernel_rfl
 rw[e] at h;exact h
theorem Rx (hn:ins.length < 1000000) {f:List Bool} (hf:f.length=ins.length) :
  KD (.loop (roundOf Tryz.f71 3)) (fun e q=>(∃k,e=.exit 6/\f.any (fun b=>!b)=false/\q=(Im (pG f) ins.length k).al bO)∨(e=.ret/\f.any (fun b=>!b)=true/\q=(Io (pG f)).al bO)) ((Cr (pG f) ins.length 0).al bO):=by
 refine cV (St:=fun k=>(Cr (pG f) ins.length (ofNat k)).al bO) (fun k=>f.any (fun b=>!b)=(f.drop k).any (fun b=>!b)) ins.length ?_ ?_ (i:=0) (Nat.zero_le _) rfl
 ·intro k hk hI;have hkf:k < f.length:=by omega
  have hg:f[k]?=some f[k]:=List.getElem?_eq_getElem hkf;have hd:(f.drop k).any (fun b=>!b)=(!f[k]||(f.drop (k+1)).any (fun b=>!b)):=by rw[List.drop_eq_getElem_cons hkf];rfl
  generalize f[k]=y at hg hd;rw[←hI] at hd;have hw:an .i64 (ofNat k+1)=ofNat (k+1):=bb (by omega);refine afa (AA (by omega)) (br hk) (vV hk) (Jp (.out 0) hg) ?_ ?_
  ·rintro rfl;rw[hw];exact⟨rfl,hd⟩
  rintro rfl;exact .inr ⟨rfl,hd,rfl⟩
 intro hI;have h1:f.any (fun b=>!b)=false:=by rw[hI,←hf,List.drop_length];rfl
 exact adw (AA (by omega)) (cj (by omega)) (.inl ⟨_,rfl,h1,rfl⟩)
theorem O7 (g2:dj d2) (hv:tR ins) (hn:ins.length < 1000000):ae 71 [.dat (aN p s (.slice (encI ins)) d2)] (bv (lO ins)):=by
 have hlen:(encI ins).length=ins.length:=bH ins;refine ZC (n:=ins.length) (fs0:=pG (List.replicate ins.length false)) g2 hlen.symm (by rw[hlen];exact Qm hn) (qZ _) ?_;refine CS (I:=fun μ q=>∃f ch,f.length=ins.length/\(eh ins).Sound f/\μ=pw f+(if ch=true then 1 else 0)/\(ch=false->(eh ins).fp f)/\q=(Cs (cI p s ins d2) (pG f) ins.length ch).al bO) ?_ (m:=pw (List.replicate ins.length false)+1) ⟨List.replicate ins.length false,true,by simp,Gr.Sound.init,rfl,fun h=>by simp at h,rfl⟩;rintro μ q ⟨f,ch,hf,hS,rfl,hc,rfl⟩
 cases ch with
 | false=>
  refine adB ?_;have hcl:=hc rfl;have hb:f.any (fun b=>!b)=lO ins:=by
   cases ha:f.any (fun b=>!b) with
   | true=>exact (yM (Gr.Sh hf hcl ha)).symm
   | false=>
    cases ht:lO ins with
    | false=>rfl
    | true=>
     have:(eh ins).yN:=by unfold lO at ht;simpa using ht
     rw[Gr.NQ hf hS this] at ha;exact absurd ha (by simp)
  have hD:=Rx (ins:=ins) hn hf;rw[hb] at hD;exact⟨pG f,rfl,rfl,hD⟩
 | true=>
  refine iU (Q:=fun e q=>e=.normal/\∃f2 ch i,(f2.length=ins.length/\(eh ins).Sound f2/\(ch=true->pw f2 < pw f)/\(ch=false->f2=f/\(eh ins).fp f))/\q=(vt (cI p s ins d2) (pG f2) ins.length ch i).al bO) ?_ ?_
  ·refine afd (Rz g2 hv hn hf hS) ?_;rintro e q ⟨rfl,f2,ch,i,k1,k2,k3,k4,rfl⟩;exact⟨rfl,pG f2,ch,i,rfl,rfl,f2,ch,i,⟨k1,k2,k3,k4⟩,rfl⟩
  rintro e q ⟨rfl,f2,ch,i,⟨k1,k2,k3,k4⟩,rfl⟩;refine⟨_,MZ,?_⟩;refine⟨pw f2+(if ch=true then 1 else 0),?_,f2,ch,k1,k2,rfl,?_,rfl⟩
  ·cases ch
   ·obtain⟨rfl,_⟩:=k4 rfl;simp
   have:=k3 rfl;simp;omega
  intro h;obtain⟨rfl,k5⟩:=k4 h;exact k5
end
def B0 (ek:Int) (dn:List UInt8) (ar sk:Int) (sn:List UInt8) (six:Int) (da:ak) (con:Bool) (df:ak) (fu:List UInt8) (tk:Int) (tn:List UInt8) (tix:Int) (ta:ak) (pa cp cs:Int) (d1 d2:ak) (pk:List UInt8):ak:=.agg [i64 ek,sb dn,i64 ar,i64 sk,sb sn,i64 six,da,bl con,df,sb fu,i64 tk,sb tn,i64 tix,ta,i64 pa,i64 cp,i64 cs,d1,d2,sb pk]
def cE (ek:Int) (dn:List UInt8) (ar sk:Int) (sn:List UInt8) (six:Int) (da:ak) (con:Bool) (df:ak) (fu:List UInt8) (tk:Int) (tn:List UInt8) (tix:Int) (ta:ak) (pa cp cs:Int) (d1 d2:ak) (pk:List UInt8):List ac:=[.dat (i64 ek),.dat (sb dn),.dat (i64 ar),.dat (i64 sk),.dat (sb sn),.dat (i64 six),.dat da,.dat (bl con),.dat df,.dat (sb fu),.dat (i64 tk),.dat (sb tn),.dat (i64 tix),.dat ta,.dat (i64 pa),.dat (i64 cp),.dat (i64 cs),.dat d1,.dat d2,.dat (sb pk)]
theorem QK (t:Bool) {ek:Int} {dn:List UInt8} {ar sk:Int} {sn:List UInt8} {six:Int} {da:ak} {con:Bool} {df:ak} {fu:List UInt8} {tk:Int} {tn:List UInt8} {tix:Int} {ta:ak} {pa cp cs:Int} {d1 d2:ak} {pk:List UInt8} (h1:dj da) (h2:dj df) (h3:dj ta) (h4:dj d1) (h5:dj d2):eB ba t 53 [.ref [i64 ek,sb dn,i64 ar,i64 sk,sb sn,i64 six,da,bl con,df,sb fu,i64 tk,sb tn,i64 tix,ta,i64 pa,i64 cp,i64 cs,d1,d2,sb pk]] none=some ⟨.dat (B0 ek dn ar sk sn six da con df fu tk tn tix ta pa cp cs d1 d2 pk),.keep⟩:=by
 cases t <;> rcases h1 with rfl|⟨_,rfl⟩ <;> rcases h2 with rfl|⟨_,rfl⟩ <;> rcases h3 with rfl|⟨_,rfl⟩ <;> rcases h4 with rfl|⟨_,rfl⟩ <;> rcases h5 with rfl|⟨_,rfl⟩ <;> kernel_rfl
theorem Vo (l:Nat) {ek:Int} {dn:List UInt8} {ar sk:Int} {sn:List UInt8} {six:Int} {da:ak} {con:Bool} {df:ak} {fu:List UInt8} {tk:Int} {tn:List UInt8} {tix:Int} {ta:ak} {pa cp cs:Int} {d1 d2:ak} {pk:List UInt8} (h1:dj da) (h2:dj df) (h3:dj ta) (h4:dj d1) (h5:dj d2):cG ba 53 [.ptr (.loc l) 0,.dat (B0 ek dn ar sk sn six da con df fu tk tn tix ta pa cp cs d1 d2 pk)] (some (.cells (cE 0 [] 0 0 [] 0 nl false nl [] 0 [] 0 nl 0 0 0 nl nl [])))=some ⟨.undef,.set (.cells (cE ek dn ar sk sn six da con df fu tk tn tix ta pa cp cs d1 d2 pk))⟩:=by
 rcases h1 with rfl|⟨_,rfl⟩ <;> rcases h2 with rfl|⟨_,rfl⟩ <;> rcases h3 with rfl|⟨_,rfl⟩ <;> rcases h4 with rfl|⟨_,rfl⟩ <;> rcases h5 with rfl|⟨_,rfl⟩ <;> kernel_rfl
theorem ab5 (t:Bool) (l:Nat) {ek:Int} {dn:List UInt8} {ar sk:Int} {sn:List UInt8} {six:Int} {da:ak} {con:Bool} {df:ak} {fu:List UInt8} {tk:Int} {tn:List UInt8} {tix:Int} {ta:ak} {pa cp cs:Int} {d1 d2:ak} {pk:List UInt8} (h1:dj da) (h2:dj df) (h3:dj ta) (h4:dj d1) (h5:dj d2):eB ba t 53 [.ptr (.loc l) 0] (some (.cells (cE ek dn ar sk sn six da con df fu tk tn tix ta pa cp cs d1 d2 pk)))=some ⟨.dat (B0 ek dn ar sk sn six da con df fu tk tn tix ta pa cp cs d1 d2 pk),.keep⟩:=by
 cases t <;> rcases h1 with rfl|⟨_,rfl⟩ <;> rcases h2 with rfl|⟨_,rfl⟩ <;> rcases h3 with rfl|⟨_,rfl⟩ <;> rcases h4 with rfl|⟨_,rfl⟩ <;> rcases h5 with rfl|⟨_,rfl⟩ <;> kernel_rfl
theorem adN {ek:Int} {dn:List UInt8} {ar sk:Int} {sn:List UInt8} {six:Int} {da:ak} {con:Bool} {df:ak} {fu:List UInt8} {tk:Int} {tn:List UInt8} {tix:Int} {ta:ak} {pa cp cs:Int} {d1 d2:ak} {pk:List UInt8} (h1:dj da) (h2:dj df) (h3:dj ta) (h4:dj d1) (h5:dj d2):Sj [.dat (B0 ek dn ar sk sn six da con df fu tk tn tix ta pa cp cs d1 d2 pk)]=some ⟨.undef,.new (.cells (cE ek dn ar sk sn six da con df fu tk tn tix ta pa cp cs d1 d2 pk))⟩:=by
 rcases h1 with rfl|⟨_,rfl⟩ <;> rcases h2 with rfl|⟨_,rfl⟩ <;> rcases h3 with rfl|⟨_,rfl⟩ <;> rcases h4 with rfl|⟨_,rfl⟩ <;> rcases h5 with rfl|⟨_,rfl⟩ <;> kernel_rfl
theorem QL (t:Bool) (l:Nat) {ek:Int} {dn:List UInt8} {ar sk:Int} {sn:List UInt8} {six:Int} {da:ak} {con:Bool} {df:ak} {fu:List UInt8} {tk:Int} {tn:List UInt8} {tix:Int} {ta:ak} {pa cp cs:Int} {d1 d2:ak} {pk:List UInt8} (h4:dj d1) (h5:dj d2):eB ba t 26 [.ptr (.loc l) 15] (some (.cells (cE ek dn ar sk sn six da con df fu tk tn tix ta pa cp cs d1 d2 pk)))=some ⟨.dat (aN cp cs d1 d2),.keep⟩:=by
 cases t <;> rcases h4 with rfl|⟨_,rfl⟩ <;> rcases h5 with rfl|⟨_,rfl⟩ <;> kernel_rfl
def oC (ins:List Ins):Bool:=match ins[ins.length - 1]? with|some x=>(lU (eO x.op)).fin|none=>false
def nt (c1 c2 c3 c4 c5 c6 c7 c8 ok fin tr:Bool) (rest:Int):Int:=
 if (c1||(c2||(c3||c4)))=true then 4 else if (c5||(c6||(c7||c8)))=true then 2 else if ok=false then 2 else if (!fin||tr)=true then 2 else rest
noncomputable def C0 (d:Nat) (pa sl:Int) (ins:List Ins) (ne:Nat) (rest:Int):Int:=
 nt (aF 40 (ofNat d)) (aF 200 sl) (aF 2000 (ofNat ins.length)) (aF 2000 (ofNat ne)) (aF pa 0) (aF 6 pa) (aF sl pa) (aB (ofNat ins.length) 0)
  (ins.all (fun x=>iJ (ofNat ins.length) (ofNat ne) sl x)) (oC ins) (lO ins) rest
def gM.zero (c:gM):Bool:=aB c.pa 0&&(aB c.sl 0&&(aB (ofNat c.ins.length) 0&&aB (ofNat c.cD.length) 0))
def sc (c1 c2 c3 z:Bool) (v:Int):Int:=if (c1||c2)=true then 2 else if (!c3&&!z)=true then 2 else if c3=false then 0 else v
mutual
noncomputable def gM.val:gM->Nat->Int
 | .mk pa sl _ ins _ cD=>fun d=>C0 d pa sl ins cD.length (kB cD d)
noncomputable def kB:List (List fG)->Nat->Int
 | []=>fun _=>0
 | l::r=>fun d=>if aB (uP l d) 0=true then kB r d else uP l d
noncomputable def uP:List fG->Nat->Int
 | []=>fun _=>0
 | e::r=>fun d=>if aB (e.val d) 0=true then uP r d else e.val d
noncomputable def fG.val:fG->Nat->Int
 | .mk k _ _ _ _ c _=>fun d=>sc (aF k 1) (aF 5 k) (aB k 2) c.zero (c.val (d+1))
end
abbrev bP (l:List ak) (n K r K2:Int):Prop:=KC 32 [cq,iv n] (cW l K) 1 (XQ ⟨iv r,cW l K2,1⟩)
theorem ZH {l:List ak} {K K1:Int} (h:bP l 5 K 0 K1):KC 66 [cq] (cW l K) 1 (XQ ⟨.dat (lI 0 0 []),cW l K1,1⟩):=by
 refine co [] [] (x:=.of Tryz.f66 CO Ay) ?_;exact oh h fi
theorem ZG {l:List ak} {K K1 K2 a:Int} (h:bP l 5 K 1 K1) (h2:bP l 2 K1 a K2):KC 66 [cq] (cW l K) 1 (XQ ⟨.dat (lI 2 a []),cW l K2,1⟩):=by
 refine co [] [] (x:=.of Tryz.f66 CO Ay) ?_;exact oh h (oh h2 fi)
theorem ZF {l:List ak} {K K1 K2 a:Int} {s:List UInt8} (h:bP l 5 K 2 K1) (h2:bP l 6 K1 a K2) (hi:ap ba 70 [.dat (.slice (encS H5)),.dat (.flat (.int .i64 a))]=some ⟨.ref [sb s],.keep⟩) :
  KC 66 [cq] (cW l K) 1 (XQ ⟨.dat (lI 3 0 s),cW l K2,1⟩):=by
 refine co [] [20] (x:=.of Tryz.f66 CO Ay) ?_;exact oh h (oh h2 (oo hi fi))
theorem ZE {l:List ak} {K K1 K2 r a:Int} (h:bP l 5 K r K1) (e0:aB r 0=false) (e1:aB r 1=false) (e2:aB r 2=false) (h2:bP l 7 K1 a K2) :
  KC 66 [cq] (cW l K) 1 (XQ ⟨.dat (lI 1 (an .i64 (a - 3)) []),cW l K2,1⟩):=by
 refine co [6,9,14] [] (x:=.of Tryz.f66 CO Ay) ?_;exact oh h (ob e0 (ob e1 (ob e2 (oh h2 fi))))
structure BG (l:List Int) (k k2:Nat):Prop where
 le:k<=k2
 top:k2<=l.length
theorem wy {α:Type} {l:List Int} {R:Nat->α->Nat->Prop} (step:∀k,k<=l.length->∃a k2,BG l k k2/\R k a k2) {k:Nat} (hk:k<=l.length) :
  ∀m:Nat,∃(xs:List α) (ks:Nat->Nat),xs.length=m/\ks 0=k/\(∀i,i<=m->BG l k (ks i))/\∀i a,xs[i]?=some a->R (ks i) a (ks (i+1))
 | 0=>⟨[],fun _=>k,rfl,rfl,fun _ _=>⟨Nat.le_refl _,hk⟩,fun i a h=>by simp at h⟩
 | m+1=>by
  obtain⟨xs,ks,h1,h2,h3,h4⟩:=wy step hk m;have hm:=h3 m (Nat.le_refl _);obtain⟨a,k2,ha,hr⟩:=step (ks m) hm.top;refine⟨xs++[a],fun i=>if i<=m then ks i else k2,by simp[h1],by simp[h2],?_,?_⟩
  ·intro i hi;dsimp only
   split
   ·rename_i h;exact h3 i h
   exact⟨Nat.le_trans hm.le ha.le,ha.top⟩
  intro i x hx;dsimp only;have hil:=(List.getElem?_eq_some_iff.1 hx).1;rw[List.length_append,h1] at hil;simp only[List.length_cons,List.length_nil] at hil
  by_cases h:i < m
  ·rw[if_pos (by omega),if_pos (by omega)];rw[List.getElem?_append_left (by omega)] at hx;exact h4 i x hx
  have:i=m:=by omega
  subst this;rw[if_pos (by omega),if_neg (by omega)];rw[List.getElem?_append_right (by omega),h1,Nat.sub_self] at hx;simp at hx;subst hx;exact hr
theorem Uy {l:List Int} {k:Nat} (hl:l.length < 1000000000) (hk:k<=l.length):∃(ck ci:Int) (cs:List UInt8) (k2:Nat),cs.length < 1000000/\BG l k k2/\KC 66 [cq] (cW (l.map iN) (ofNat k)) 1 (XQ ⟨.dat (lI ck ci cs),cW (l.map iN) (ofNat k2),1⟩):=by
 obtain⟨r,k1,⟨hr,a1,a2,_⟩,hc⟩:=aR (n:=5) hl hk (by omega) (by omega)
 match r,hr with
 | 0,_=>exact⟨_,_,_,k1,by simp,⟨a1,a2⟩,ZH hc⟩
 | 1,_=>
  obtain⟨a,k2,⟨_,b1,b2,_⟩,hc2⟩:=aR (n:=2) hl a2 (by omega) (by omega);exact⟨_,_,_,k2,by simp,⟨by omega,b2⟩,ZG hc hc2⟩
 | 2,_=>
  obtain⟨a,k2,⟨ha,b1,b2,_⟩,hc2⟩:=aR (n:=6) hl a2 (by omega) (by omega);have hlen:∀a:Nat,a < 6->∃s:List UInt8,H5[a]?=some s/\s.length < 1000000:=by
   intro a ha
   match a,ha with
   | 0,_=>exact⟨_,rfl,by simp⟩
   | 1,_=>exact⟨_,rfl,by simp⟩
   | 2,_=>exact⟨_,rfl,by simp⟩
   | 3,_=>exact⟨_,rfl,by simp⟩
   | 4,_=>exact⟨_,rfl,by simp⟩
   | 5,_=>exact⟨_,rfl,by simp⟩
  obtain⟨s,hs,hsl⟩:=hlen a ha;exact⟨_,_,_,k2,hsl,⟨by omega,b2⟩,ZF hc hc2 (uB hs)⟩
 | n+3,_=>
  obtain⟨a,k2,⟨ha,b1,b2,_⟩,hc2⟩:=aR (n:=7) hl a2 (by omega) (by omega);exact⟨_,_,_,k2,by simp,⟨by omega,b2⟩,ZE hc (dL (by simp;omega)) (dL (by simp;omega)) (dL (by simp;omega)) hc2⟩
def Xz:List Int->ac
 | []=>.dat nl
 | x::r=>.own ((x::r).map iN)
noncomputable def ace:Hints:=⟨bV,KT,bi,rowsOf bi 36⟩
def Cl (l:List ak) (K n c i:Int) (pre:List Int):ab:=⟨[(8,iv i),(7,Xz pre),(0,cq),(1,iv n),(2,iv c)],[],cW l K,1⟩
def Ih (l:List ak) (K n c i:Int) (pre:List Int):ab:=⟨[(11,bv false),(8,iv i),(7,Xz pre),(0,cq),(1,iv n),(2,iv c)],[],cW l K,1⟩
theorem Mm {l:List ak} {K K2 n c i x:Int} {pre:List Int} (h0:aF i c=true) (h:bP l n K x K2) (hp:pre.length < 1000000) {T:ej} (e:T .normal ((Cl l K2 n c (an .i64 (i+1)) (pre++[x])).al tS)) :
  KD (roundOf Tryz.f36 0) T ((Cl l K n c i pre).al tS):=by
 have h3:=fE (a:=pre) (b:=[x]) (by simp;omega);rw[←List.map_append] at h3;clear hp
 rcases pre with _|⟨d,r⟩ <;>
 ·exact aq [11] [19] (H:=ace) (live:=El) (ob h0 (oh h (oo h3 (oe e))))
theorem Ot {l:List ak} {K n c i:Int} {pre:List Int} (h0:aF i c=false) {T:ej} (e:T (.exit 0) ((Ih l K n c i pre).al tS)) :
  KD (roundOf Tryz.f36 0) T ((Cl l K n c i pre).al tS):=by
 rcases pre with _|⟨d,r⟩ <;>
 ·exact aq [11] [] (H:=ace) (live:=El) (ob h0 (oe e))
theorem S3 {l:List ak} {K K2 n c i:Int} {pre:List Int} (hl:KD (.loop (roundOf Tryz.f36 0)) (fun e q=>e=.exit 0/\q=(Ih l K2 n c i pre).al tS) ((Cl l K n c 0 []).al tS)) :
  KC 36 [cq,iv n,iv c] (cW l K) 1 (XQ ⟨Xz pre,cW l K2,1⟩):=by
 rcases pre with _|⟨d,r⟩ <;>
 ·refine co [] [] (x:=.of Tryz.f36 KT El) ?_;refine lo hl ?_;rintro ex s ⟨rfl,rfl⟩;refine⟨_,rfl,?_⟩;exact fi
theorem LI {l:List Int} {k n c:Nat} (hl:l.length < 1000000000) (hk:k<=l.length) (hn:0 < n) (hn2:n < 1000000000) (hc:c < 1000000):∃(ar:List Int) (k2:Nat),ar.length=c/\BG l k k2/\KC 36 [cq,iv (ofNat n),iv (ofNat c)] (cW (l.map iN) (ofNat k)) 1 (XQ ⟨.dat (sl (ar.map iN)),cW (l.map iN) (ofNat k2),1⟩):=by
 obtain⟨ar,ks,h1,h2,h3,h4⟩:=wy (R:=fun k x k2=>bP (l.map iN) (ofNat n) (ofNat k) x (ofNat k2)) (fun k hk=>by
  obtain⟨r,k3,⟨_,b1,b2,_⟩,hc2⟩:=aR (n:=n) hl hk hn hn2;exact⟨ofNat r,k3,⟨b1,b2⟩,hc2⟩) hk c
 refine⟨ar,ks c,h1,h3 c (Nat.le_refl _),?_⟩;have hq:KD (.loop (roundOf Tryz.f36 0)) (fun e q=>e=.exit 0/\q=(Ih (l.map iN) (ofNat (ks c)) (ofNat n) (ofNat c) (ofNat c) ar).al tS) ((Cl (l.map iN) (ofNat k) (ofNat n) (ofNat c) 0 []).al tS):=by
  rw[←h2];refine bm (St:=fun i=>(Cl (l.map iN) (ofNat (ks i)) (ofNat n) (ofNat c) (ofNat i) (ar.take i)).al tS) c ?_ ?_ (i:=0) (Nat.zero_le _)
  ·intro i hi;have hg:ar[i]?=some ar[i]:=List.getElem?_eq_getElem (by omega);have hw:an .i64 (ofNat i+1)=ofNat (i+1):=bb (by omega);have ht:ar.take (i+1)=ar.take i++[ar[i]]:=List.take_succ_eq_append_getElem (by omega);refine Mm (br hi) (h4 i _ hg) (by rw[List.length_take];omega) ?_;rw[hw,←ht];exact rfl
  refine Ot (cj (by omega)) ?_;rw[List.take_of_length_le (by omega)];exact⟨rfl,rfl⟩
 have:=S3 hq
 cases ar with
 | nil=>exact this
 | cons x r=>exact ko this
def Ty.small (t:Ty):Prop:=t.size < 41000000/\t.fY
theorem zk {t:Ty} (h:t.small):t.gN:=⟨by have:=h.1;omega,h.2⟩
theorem Ey {l:List Int} {k:Nat} (hl:l.length < 10000000) (hk:k<=l.length):∃(t:Ty) (k2:Nat),t.small/\BG l k k2/\KC 64 [cq,.dat (.slice (lJ mq))] (cW (l.map iN) (ofNat k)) 1 (XQ ⟨.dat t.enc,cW (l.map iN) (ofNat k2),1⟩):=by
 have hd:=HF;obtain⟨t,k2,h1,h2⟩:=(Us (P:=fun _ _=>True) (ds:=mq) hl (by have:=hd.len;omega) (fun d hm=>by obtain⟨n,h1,h2⟩:=(hd.each d hm).ar;exact⟨n,h1,by omega,trivial⟩) (fun _ _=>trivial) trivial (l.length - k) k hk (Nat.le_refl _)).2.2 3 0 (by omega) (by omega) (by omega);exact⟨t,k2,⟨by have:=h1.size;have:=h1.top;omega,h1.ix⟩,⟨h1.le,h1.top⟩,SR h2⟩
def dS:List ak->ac
 | []=>.dat nl
 | x::r=>.own (x::r)
theorem yo {l:List ak} (h:l≠[]):dS l=.own l:=by
 cases l with
 | nil=>exact absurd rfl h
 | cons a r=>rfl
noncomputable def hGC:Hints:=⟨bV,Tw,bi,rowsOf bi 9⟩
def TH (pa s:Int) (A B:ac):Heap:=[(.loc 5,.cells [iv pa,iv s,A,B]),(.loc 4,.cells (cC 0 0 nl nl))]
def Mg (l:List ak) (K pa s dp:Int) (B:ac) (i:Int):ab:=⟨[(6,iv i),(5,.ptr (.loc 5) 0),(4,.ptr (.loc 4) 0),(0,cq),(1,iv dp)],TH pa s (.dat nl) B,cW l K,1⟩
def Oh (l:List ak) (K pa s dp:Int) (B:ac) (i:Int):ab:=⟨[(26,bv false),(6,iv i),(5,.ptr (.loc 5) 0),(4,.ptr (.loc 4) 0),(0,cq),(1,iv dp)],TH pa s (.dat nl) B,cW l K,1⟩
abbrev SA (l:List ak) (dp K:Int) (d:ak) (K2:Int):Prop:=KC 33 [cq,iv dp] (cW l K) 1 (XQ ⟨.dat d,cW l K2,1⟩)
theorem Q5 {l:List ak} {K K2 pa s dp i:Int} {pre post:List ak} {ek:Int} {dn:List UInt8} {ar sk:Int} {sn:List UInt8} {six:Int} {da:ak} {con:Bool} {df:ak} {fu:List UInt8} {tk:Int} {tn:List UInt8} {tix:Int} {ta:ak} {pb cp cs:Int} {d1 d2:ak} {pk:List UInt8} (h0:aF 0 i=true)
  (h1:dj da) (h2:dj df) (h3:dj ta) (h4:dj d1) (h5:dj d2)
  (he:SA l (an .i64 (dp - 1)) K (B0 ek dn ar sk sn six da con df fu tk tn tix ta pb cp cs d1 d2 pk) K2)
  (ha:bB ba false 24 [.own pre,.dat (.slice [.slice [B0 ek dn ar sk sn six da con df fu tk tn tix ta pb cp cs d1 d2 pk]])] none=some ⟨.own post,.keep⟩) {T:ej}
  (e:T .normal ((Mg l K2 pa s dp (.own post) (an .i64 (i - 1))).al pE)) :
  KD (roundOf Tryz.f9 0) T ((Mg l K pa s dp (dS pre) i).al pE):=by
 clear h1 h2 h3 h4 h5
 rcases pre with _|⟨d,r⟩ <;>
 ·exact aq [26] [37] (H:=hGC) (live:=CV) (ob h0 (oh he (oo ha (oe e))))
theorem Ut {l:List ak} {K pa s dp i:Int} {pre:List ak} (h0:aF 0 i=false) {T:ej} (e:T (.exit 0) ((Oh l K pa s dp (dS pre) i).al pE)) :
  KD (roundOf Tryz.f9 0) T ((Mg l K pa s dp (dS pre) i).al pE):=by
 rcases pre with _|⟨d,r⟩ <;>
 ·exact aq [26] [] (H:=hGC) (live:=CV) (ob h0 (oe e))
def Mf (l:List ak) (K pa s:Int) (A B:ac) (cnt i:Int):ab:=⟨[(8,iv i),(7,iv cnt),(5,.ptr (.loc 5) 0),(4,.ptr (.loc 4) 0),(0,cq)],TH pa s A B,cW l K,1⟩
def Og (l:List ak) (K pa s:Int) (A B:ac) (cnt i:Int):ab:=⟨[(45,bv false),(8,iv i),(7,iv cnt),(5,.ptr (.loc 5) 0),(4,.ptr (.loc 4) 0),(0,cq)],TH pa s A B,cW l K,1⟩
theorem Q7 {l:List ak} {K K2 pa s cnt i:Int} {dd pre post:List ak} {op dst a b im:Int} {nm:List UInt8} {dx:ak} {k:Int} {tn:List UInt8} {ix:Int} {dt:ak} {ck ci:Int} {cs:List UInt8} (h0:aF i (an .i64 (cnt - 1))=true)
  (he:KC 34 [cq,iv s,iv cnt,iv (ofNat dd.length)] (cW l K) 1 (XQ ⟨.dat (eH op dst a b im nm dx k tn ix dt ck ci cs),cW l K2,1⟩))
  (ha:bB ba false 23 [.own pre,.dat (.slice [eH op dst a b im nm dx k tn ix dt ck ci cs])] none=some ⟨.own post,.keep⟩) {T:ej}
  (e:T .normal ((Mf l K2 pa s (.own post) (dS dd) cnt (an .i64 (i+1))).al pE)) :
  KD (roundOf Tryz.f9 1) T ((Mf l K pa s (dS pre) (dS dd) cnt i).al pE):=by
 rcases pre with _|⟨d,r⟩ <;>
 ·rcases dd with _|⟨x,y⟩ <;>
  ·exact aq [45] [59] (H:=hGC) (live:=CV) (ob h0 (oh he (oo ha (oe e))))
theorem UB {l:List ak} {K pa s cnt i:Int} {dd pre:List ak} (h0:aF i (an .i64 (cnt - 1))=false) {T:ej} (e:T (.exit 2) ((Og l K pa s (dS pre) (dS dd) cnt i).al pE)) :
  KD (roundOf Tryz.f9 1) T ((Mf l K pa s (dS pre) (dS dd) cnt i).al pE):=by
 rcases pre with _|⟨d,r⟩ <;>
 ·rcases dd with _|⟨x,y⟩ <;>
  ·exact aq [45] [] (H:=hGC) (live:=CV) (ob h0 (oe e))
def mJ (c:Bool):Int:=match c with|true=>16|false=>19
theorem X7 {l:List ak} {K K1 K2 K3 K4 K5 K6 K7 K8 pa x y z w u m dp ie ii:Int} {dd es post:List ak} {c:Bool}
  (h1:bP l 3 K pa K1) (h2:bP l 4 K1 x K2) (h3:bP l 3 K2 y K3) (hm:Nx ba [iv dp,iv 1]=some ⟨iv m,.keep⟩)
  (hE:KD (.loop (roundOf Tryz.f9 0)) (fun e q=>e=.exit 0/\q=(Oh l K4 pa (an .i64 (an .i64 (pa+1)+x)) dp (dS dd) ie).al pE) ((Mg l K3 pa (an .i64 (an .i64 (pa+1)+x)) dp (dS []) (an .i64 (y*m))).al pE))
  (h4:bP l 9 K4 z K5)
  (hI:KD (.loop (roundOf Tryz.f9 1)) (fun e q=>e=.exit 2/\q=(Og l K6 pa (an .i64 (an .i64 (pa+1)+x)) (dS es) (dS dd) (an .i64 (2+z)) ii).al pE) ((Mf l K5 pa (an .i64 (an .i64 (pa+1)+x)) (dS []) (dS dd) (an .i64 (2+z)) 0).al pE))
  (h5:bP l (an .i64 (an .i64 (pa+1)+x)) K6 w K7) (h6:bP l 4 K7 u K8) (hu:aB u 3=c)
  (ha:bB ba false 23 [.own es,.dat (.slice [eH (mJ c) 0 w 0 0 [] nl 0 [] 0 nl 0 0 []])] none=some ⟨.own post,.keep⟩) :
  KC 9 [cq,iv dp] (cW l K) 1 (XQ ⟨.dat (aN pa (an .i64 (an .i64 (pa+1)+x)) (.slice post) (sl dd)),cW l K8,1⟩):=by
 cases c <;>
 ·rcases es with _|⟨d,r⟩ <;>
  ·rcases dd with _|⟨x,y⟩ <;>
   ·refine co [68] [23,76] (x:=.of Tryz.f9 Tw CV) ?_;refine oh h1 (oh h2 (oh h3 (oo hm ?_)));refine lo hE ?_;rintro ex s ⟨rfl,rfl⟩;refine⟨_,rfl,?_⟩;refine oh h4 ?_;refine lo hI ?_;rintro ex s ⟨rfl,rfl⟩;refine⟨_,rfl,?_⟩;exact oh h5 (oh h6 (ob hu (oo ha fi)))
theorem Ht {g:FuncId} {x:qS} (hx:JE.find g=some x) {fn0:Func} (hb:x.code=kc fn0 0) {args:List ac} {heap:Heap} {next:Nat} {r:eX} (hl:Nat.ble args.length x.ntmps=true)
  (h:KD (kc fn0 0) (fun e s=>e=.ret/\∃f:ab,s=f.al x.ntmps/\sU ba x.ntmps x.results f=some r) ((⟨rG 0 args,[],heap,next⟩:ab).al x.ntmps)):KC g args heap next (XQ r):=Nr JS uD hx hb hl h
abbrev Z0 (l:List ak) (K r K2:Int):Prop:=KC 35 [cq] (cW l K) 1 (XQ ⟨iv r,cW l K2,1⟩)
theorem OX {l:List ak} {k x:Int} {c:Bool} (h1:aF k (ofNat l.length)=c) (h2:c=true->ap ba 22 [.dat (.slice l),.dat (.flat (.int .i64 (an .i64 (an .i64 (k+1) - 1))))]=some ⟨.ref [iN x],.keep⟩) :
  Z0 l k (match c with|true=>x|false=>0) (match c with|true=>an .i64 (k+1)|false=>k):=by
 refine co [12] [29] (x:=.of Tryz.f35 PA QB) ?_;refine ox h1 ?_
 cases c
 ·exact fi
 exact oo (h2 rfl) fi
def inR (l:List Int):Prop:=∀x∈l,-9223372036854775808<=x/\x < 9223372036854775808
theorem GS {l:List Int} {k:Nat} (hl:l.length < 1000000000) (hk0:k<=l.length) (hr:inR l):∃(r:Int) (k2:Nat),(-9223372036854775808<=r/\r < 9223372036854775808)/\BG l k k2/\Z0 (l.map iN) (ofNat k) r (ofNat k2):=by
 by_cases hk:k < l.length
 ·have hg:l[k]?=some l[k]:=List.getElem?_eq_getElem hk;have hw:an .i64 (ofNat k+1)=ofNat (k+1):=bb (by omega);have hw2:an .i64 (ofNat (k+1) - 1)=ofNat k:=by
   rw[cQ,show ofNat (k+1) - 1=ofNat k by simp];exact wrap_i64 (by show _<=(k:Int);omega) (by show (k:Int)<=_;omega)
  refine⟨l[k],k+1,hr _ (List.getElem_mem hk),⟨by omega,by omega⟩,?_⟩;have h:=@OX (l.map iN) (ofNat k) (l[k]) true (by rw[gv,List.length_map,decide_eq_true hk]) (fun _=>by rw[hw,hw2];exact wb hg);dsimp only at h;rw[hw] at h;exact h
 refine⟨0,k,by omega,⟨Nat.le_refl _,hk0⟩,?_⟩;exact @OX (l.map iN) (ofNat k) 0 false (by rw[gv,List.length_map,decide_eq_false hk]) (fun h=>by simp at h)
noncomputable def C1:Hints:=⟨bV,KS,bi,rowsOf bi 37⟩
def tC (k:Int) (nm:List UInt8) (ix:Int) (A:ac):List ac:=[iv k,.dat (sb nm),iv ix,A]
def TK (k:Int) (nm:List UInt8) (ix:Int) (A:ac):Heap:=[(.loc 5,.cells (tC k nm ix A)),(.loc 4,.cells (tC 0 [] 0 (.dat nl)))]
def aa6 (l:List ak) (K dp:Int):ab:=⟨[(4,.ptr (.loc 4) 0),(0,cq),(1,iv dp)],[(.loc 4,.cells (tC 0 [] 0 (.dat nl)))],cW l K,1⟩
def kh (l:List ak) (K dp k:Int) (nm:List UInt8) (ix:Int):ab:=⟨[(5,.ptr (.loc 5) 0),(4,.ptr (.loc 4) 0),(0,cq),(1,iv dp)],TK k nm ix (.dat nl),cW l K,1⟩
def pR (l:List ak) (K dp k:Int) (nm:List UInt8) (ix n:Int):ab:=⟨[(6,iv n),(5,.ptr (.loc 5) 0),(4,.ptr (.loc 4) 0),(0,cq),(1,iv dp)],TK k nm ix (.dat nl),cW l K,1⟩
def Mh (l:List ak) (K dp k:Int) (nm:List UInt8) (ix n i:Int) (A:ac):ab:=⟨[(7,iv i),(6,iv n),(5,.ptr (.loc 5) 0),(4,.ptr (.loc 4) 0),(0,cq),(1,iv dp)],TK k nm ix A,cW l K,1⟩
def Cu (l:List ak) (K dp k:Int) (nm:List UInt8) (ix n i:Int) (A:ac):ab:=⟨[(71,bv false),(7,iv i),(6,iv n),(5,.ptr (.loc 5) 0),(4,.ptr (.loc 4) 0),(0,cq),(1,iv dp)],TK k nm ix A,cW l K,1⟩
def dead (t:Nat) (f:ab):ab:=match f with|⟨sl,a,b,c⟩=>⟨(t,bv false)::sl,a,b,c⟩
theorem jT {c:Code} {s:aa} {n:Nat} {f:ab} (m:Nat) {f2:ab} (h:KD c (fun e q=>e=.normal/\q=f.al n) s) (he:(iL f (fun l=>eE l m)).al n=f2.al n):KD c (fun e q=>e=.normal/\q=f2.al n) s:=
 iU h (by rintro e s1 ⟨rfl,rfl⟩;exact⟨_,me f m,rfl,he⟩)
abbrev AT (k:Nat) (s s1:ab):Prop:=KD (du Tryz.f37 k) (fun e q=>e=.normal/\q=s1.al cT) (s.al cT)
theorem afl {l:List ak} {K dp:Int} {T:ej} (e:T .normal ((aa6 l K dp).al cT)) :
  KD (du Tryz.f37 0) T ((⟨rG 0 [cq,iv dp],[],cW l K,1⟩:ab).al cT):=by
 refine aq [] [] (H:=C1) (live:=eW) ?_;exact oe e
section
variable {l:List ak} {K K2 K3 dp k ix x r n:Int} {nm:List UInt8} {T:ej}
theorem afk (h:bP l 7 K r K2) (e:T .normal ((kh l K2 dp r [] 0).al cT)) :
  KD (du Tryz.f37 1) T ((aa6 l K dp).al cT):=by
 exact aq [] [] (H:=C1) (live:=eW) (oh h (oe e))
theorem ad0 (h:bP l 12 K r K2) (h0:aB r 9=true) (h2:Z0 l K2 x K3) (e:T .normal ((kh l K3 dp x [] 0).al cT)) :
  KD (du Tryz.f37 2) T ((kh l K dp k [] 0).al cT):=by
 exact aq [14] [] (H:=C1) (live:=eW) (oh h (ob h0 (oh h2 (oe e))))
theorem adZ (h:bP l 12 K r K2) (h0:aB r 9=false) (h1:aB r 10=true) (h2:Z0 l K2 x K3) (e:T .normal ((kh l K3 dp k [] x).al cT)) :
  KD (du Tryz.f37 2) T ((kh l K dp k [] 0).al cT):=by
 exact aq [14,19] [] (H:=C1) (live:=eW) (oh h (ob h0 (ob h1 (oh h2 (oe e)))))
theorem adY {s:List UInt8} (h:bP l 12 K r K2) (h0:aB r 9=false) (h1:aB r 10=false) (h3:aB r 11=true) (h2:bP l 11 K2 x K3) (hi:ap ba 70 [.dat (.slice (encS HH)),.dat (.flat (.int .i64 x))]=some ⟨.ref [sb s],.keep⟩) (e:T .normal ((kh l K3 dp k s 0).al cT)) :
  KD (du Tryz.f37 2) T ((kh l K dp k [] 0).al cT):=by
 exact aq [14,19,24] [30] (H:=C1) (live:=eW) (oh h (ob h0 (ob h1 (ob h3 (oh h2 (oo hi (oe e)))))))
theorem adX (h:bP l 12 K r K2) (h0:aB r 9=false) (h1:aB r 10=false) (h3:aB r 11=false) (e:T .normal ((dead 23 (kh l K2 dp k [] 0)).al cT)) :
  KD (du Tryz.f37 2) T ((kh l K dp k [] 0).al cT):=by
 exact aq [14,19,24] [] (H:=C1) (live:=eW) (oh h (ob h0 (ob h1 (ob h3 (oe e)))))
theorem adW (h0:aB k 5=true) (h:bP l 4 K x K2) (e:T .normal ((kh l K2 dp k nm x).al cT)) :
  KD (du Tryz.f37 3) T ((kh l K dp k nm ix).al cT):=by
 exact aq [35] [] (H:=C1) (live:=eW) (ob h0 (oh h (oe e)))
theorem adV (h0:aB k 5=false) (e:T .normal ((dead 35 (kh l K dp k nm ix)).al cT)) :
  KD (du Tryz.f37 3) T ((kh l K dp k nm ix).al cT):=by
 exact aq [35] [] (H:=C1) (live:=eW) (ob h0 (oe e))
theorem adU {s:List UInt8} (h0:aB k 2=true) (h:bP l 11 K x K2) (hi:ap ba 70 [.dat (.slice (encS HH)),.dat (.flat (.int .i64 x))]=some ⟨.ref [sb s],.keep⟩) (e:T .normal ((kh l K2 dp k s ix).al cT)) :
  KD (du Tryz.f37 4) T ((kh l K dp k nm ix).al cT):=by
 exact aq [41] [47] (H:=C1) (live:=eW) (ob h0 (oh h (oo hi (oe e))))
theorem adT (h0:aB k 2=false) (e:T .normal ((dead 41 (kh l K dp k nm ix)).al cT)) :
  KD (du Tryz.f37 4) T ((kh l K dp k nm ix).al cT):=by
 exact aq [41] [] (H:=C1) (live:=eW) (ob h0 (oe e))
theorem afj (e:T .normal ((pR l K dp k nm ix 0).al cT)) :
  KD (du Tryz.f37 5) T ((kh l K dp k nm ix).al cT):=by
 refine aq [] [] (H:=C1) (live:=eW) ?_;exact oe e
theorem adS (h0:aB k 2=true) (h:bP l 3 K x K2) (e:T .normal ((pR l K2 dp k nm ix x).al cT)) :
  KD (du Tryz.f37 6) T ((pR l K dp k nm ix 0).al cT):=by
 exact aq [53] [] (H:=C1) (live:=eW) (ob h0 (oh h (oe e)))
theorem adR (h0:aB k 2=false) (h1:aB k 3=true) (h:bP l 3 K x K2) (e:T .normal ((pR l K2 dp k nm ix x).al cT)) :
  KD (du Tryz.f37 6) T ((pR l K dp k nm ix 0).al cT):=by
 exact aq [53,54] [] (H:=C1) (live:=eW) (ob h0 (ob h1 (oh h (oe e))))
theorem V6 {c4 c6:Bool} (h0:aB k 2=false) (h1:aB k 3=false) (h4:aB k 4=c4) (h6:aB k 6=c6) (e:(c4||c6)=true->T .normal ((pR l K dp k nm ix 2).al cT)) (e2:(c4||c6)=false->T .normal ((dead 57 (pR l K dp k nm ix 0)).al cT)) :
  KD (du Tryz.f37 6) T ((pR l K dp k nm ix 0).al cT):=by
 refine aq [53,54,58,59] [] (H:=C1) (live:=eW) (ob h0 (ob h1 (ob h4 ?_)))
 cases c4
 ·refine ob h6 ?_
  cases c6
  ·exact oe (e2 rfl)
  exact oe (e rfl)
 exact oe (e rfl)
theorem adQ {c:Bool} (h:bP l 10 K r K2) (hc:aB r 9=c) (h2:c=true->bP l 9 K2 x K3) (e:c=true->T .normal ((pR l K3 dp k nm ix x).al cT)) (e2:c=false->T .normal ((dead 62 (pR l K2 dp k nm ix n)).al cT)) :
  KD (du Tryz.f37 7) T ((pR l K dp k nm ix n).al cT):=by
 refine aq [62] [] (H:=C1) (live:=eW) (oh h (ob hc ?_))
 cases c
 ·exact oe (e2 rfl)
 exact oh (h2 rfl) (oe (e rfl))
theorem afi {i:Int} {pre:List ak} (hl:KD (.loop (roundOf Tryz.f37 0)) (fun e q=>e=.exit 2/\q=(Cu l K2 dp k nm ix n i (dS pre)).al cT) ((Mh l K dp k nm ix n 0 (dS [])).al cT)) (e:T .normal ((Cu l K2 dp k nm ix n i (dS pre)).al cT)) :
  KD (du Tryz.f37 8) T ((pR l K dp k nm ix n).al cT):=by
 rcases pre with _|⟨d,r⟩ <;>
 ·refine aq [] [] (H:=C1) (live:=eW) ?_;refine lo hl ?_;rintro ex s ⟨rfl,rfl⟩;refine⟨_,rfl,?_⟩;exact oe e
end
def aa5 (l:List ak) (K k:Int) (nm:List UInt8) (ix:Int) (A:ac):ab:=⟨[(4,.ptr (.loc 4) 0)],[(.loc 4,.cells (tC k nm ix A))],cW l K,1⟩
theorem afh {l:List ak} {K dp k ix n i:Int} {nm:List UInt8} {pre:List ak} {T:ej} (e:T .ret ((aa5 l K k nm ix (.dat (sl pre))).al cT)) :
  KD (kc Tryz.f37 9) T ((Cu l K dp k nm ix n i (dS pre)).al cT):=by
 rcases pre with _|⟨d,r⟩ <;>
 ·refine aq [] [] (H:=C1) (live:=eW) ?_;exact oe e
abbrev AnT (l:List ak) (dp K:Int) (d:ak) (K2:Int):Prop:=KC 37 [cq,iv dp] (cW l K) 1 (XQ ⟨.dat d,cW l K2,1⟩)
theorem R7 {l:List ak} {K K2 dp k ix n i k2 ix2:Int} {nm nm2:List UInt8} {la pre post:List ak} (h0:aF i n=true) (h1:aF 0 dp=true) (h:AnT l (an .i64 (dp - 1)) K (.agg [i64 k2,sb nm2,i64 ix2,sl la]) K2)
  (ha:bB ba false 38 [.own pre,.dat (.slice [.agg [i64 k2,sb nm2,i64 ix2,sl la]])] none=some ⟨.own post,.keep⟩) {T:ej} (e:T .normal ((Mh l K2 dp k nm ix n (an .i64 (i+1)) (.own post)).al cT)) :
  KD (roundOf Tryz.f37 0) T ((Mh l K dp k nm ix n i (dS pre)).al cT):=by
 rcases pre with _|⟨d,r⟩ <;>
 ·exact aq [67,70] [81] (H:=C1) (live:=eW) (ob h0 (ob h1 (oh h (oo ha (oe e)))))
theorem U1 {l:List ak} {K dp k ix n i:Int} {nm:List UInt8} {pre:List ak} {d:Bool} (h0:aF i n=false) (h1:aF 0 dp=d) {T:ej} (e:T (.exit 2) ((Cu l K dp k nm ix n i (dS pre)).al cT)) :
  KD (roundOf Tryz.f37 0) T ((Mh l K dp k nm ix n i (dS pre)).al cT):=by
 rcases pre with _|⟨x,r⟩ <;>
 ·exact aq [67] [] (H:=C1) (live:=eW) (ob h0 (oe e))
theorem R8 {l:List ak} {K dp k ix n i:Int} {nm:List UInt8} {pre:List ak} {c:Bool} (h0:aF i n=c) (h1:aF 0 dp=false) {T:ej} (e:T (.exit 2) ((Cu l K dp k nm ix n i (dS pre)).al cT)) :
  KD (roundOf Tryz.f37 0) T ((Mh l K dp k nm ix n i (dS pre)).al cT):=by
 rcases pre with _|⟨x,r⟩ <;>
 ·refine aq [67,70] [] (H:=C1) (live:=eW) (ob h0 ?_)
  cases c
  ·exact oe e
  exact ob h1 (oe e)
abbrev Vc (l:List ak) (n x K:Int) (es:List ak) (K2:Int):Prop:=KC 36 [cq,iv n,iv x] (cW l K) 1 (XQ ⟨.dat (sl es),cW l K2,1⟩)
abbrev Sz (l:List ak) (K k:Int) (nm:List UInt8) (ix:Int) (la:List ak) (K2:Int):Prop:=KC 64 [cq,.dat (.slice (lJ mq))] (cW l K) 1 (XQ ⟨.dat (.agg [i64 k,sb nm,i64 ix,sl la]),cW l K2,1⟩)
abbrev tf (l:List ak) (n c e K:Int) (d:ak) (K2:Int):Prop:=KC 34 [cq,iv n,iv c,iv e] (cW l K) 1 (XQ ⟨.dat d,cW l K2,1⟩)
theorem ae0 {l:List ak} {n c e K K1 K2 K3 K4 d a b:Int} (h1:bP l 22 K 0 K1) (h2:bP l n K1 d K2) (h3:bP l n K2 a K3) (h4:bP l n K3 b K4) {ck ci K5:Int} {cs:List UInt8} (hc:KC 66 [cq] (cW l K4) 1 (XQ ⟨.dat (lI ck ci cs),cW l K5,1⟩)):tf l n c e K (eH 1 d 0 0 0 [] nl 0 [] 0 nl ck ci cs) K5:=by
 refine co [] [] (x:=.of Tryz.f34 fU eG) ?_;exact oh h1 (oh h2 (oh h3 (oh h4 (oh hc fi))))
theorem aeZ {l:List ak} {n c e K K1 K2 K3 K4 d a b:Int} (h1:bP l 22 K 1 K1) (h2:bP l n K1 d K2) (h3:bP l n K2 a K3) (h4:bP l n K3 b K4) :tf l n c e K (eH 2 d a 0 0 [] nl 0 [] 0 nl 0 0 []) K4:=by
 refine co [] [] (x:=.of Tryz.f34 fU eG) ?_;exact oh h1 (oh h2 (oh h3 (oh h4 fi)))
theorem acj {l:List ak} {n c e K K1 K2 K3 K4 d a b:Int} (h1:bP l 22 K 2 K1) (h2:bP l n K1 d K2) (h3:bP l n K2 a K3) (h4:bP l n K3 b K4) {x K5:Int} {cu:Bool} (h5:bP l 7 K4 x K5) (hu:aB (an .i64 (1+x)) 5=cu):tf l n c e K (eH 3 d a (match cu with|true=>0|false=>b) (an .i64 (1+x)) [] nl 0 [] 0 nl 0 0 []) K5:=by
 refine co [53] [] (x:=.of Tryz.f34 fU eG) ?_;refine oh h1 (oh h2 (oh h3 (oh h4 (oh h5 (ox hu ?_)))))
 cases cu <;>
 ·exact fi
theorem aeY {l:List ak} {n c e K K1 K2 K3 K4 d a b:Int} (h1:bP l 22 K 3 K1) (h2:bP l n K1 d K2) (h3:bP l n K2 a K3) (h4:bP l n K3 b K4) {tk tix x K5 K6 K7:Int} {tn:List UInt8} {la es:List ak} (ht:Sz l K4 tk tn tix la K5) (h5:bP l 3 K5 x K6) (h6:Vc l n x K6 es K7):tf l n c e K (eH 4 d 0 0 0 [] (sl es) tk tn tix (sl la) 0 0 []) K7:=by
 have hb:=oK;refine co [] [] (x:=.of Tryz.f34 fU eG) ?_;refine oh h1 (oh h2 (oh h3 (oh h4 (on hb (oh ht (oh h5 (oh h6 ?_)))))))
 rcases la with _|⟨v2,v3⟩
 ·rcases es with _|⟨v0,v1⟩ <;>
  ·exact fi
 rcases es with _|⟨v4,v5⟩ <;>
 ·exact fi
theorem aeX {l:List ak} {n c e K K1 K2 K3 K4 d a b:Int} (h1:bP l 22 K 4 K1) (h2:bP l n K1 d K2) (h3:bP l n K2 a K3) (h4:bP l n K3 b K4) {x K5:Int} {s:List UInt8} (h5:bP l 6 K4 x K5) (hi:ap ba 70 [.dat (.slice (encS JK)),.dat (.flat (.int .i64 x))]=some ⟨.ref [sb s],.keep⟩):tf l n c e K (eH 5 d a 0 0 s nl 0 [] 0 nl 0 0 []) K5:=by
 refine co [] [79] (x:=.of Tryz.f34 fU eG) ?_;refine oh h1 (oh h2 (oh h3 (oh h4 (oh h5 ?_))));refine bL (by kernel_rfl) ?_ ?_
 ·refine oo hi ?_;refine bL (by kernel_rfl) ?_ ?_
  ·exact fi
  refine bL (by kernel_rfl) ?_ ?_
  ·exact fi
  refine bL (by kernel_rfl) ?_ ?_ <;>
  ·exact fi
 refine bL (by kernel_rfl) ?_ ?_
 ·refine oo hi ?_;refine bL (by kernel_rfl) ?_ ?_
  ·exact fi
  refine bL (by kernel_rfl) ?_ ?_ <;>
  ·exact fi
 refine bL (by kernel_rfl) ?_ ?_
 ·refine oo hi ?_;refine bL (by kernel_rfl) ?_ ?_ <;>
  ·exact fi
 exact oo hi fi
theorem aeW {l:List ak} {n c e K K1 K2 K3 K4 d a b:Int} (h1:bP l 22 K 5 K1) (h2:bP l n K1 d K2) (h3:bP l n K2 a K3) (h4:bP l n K3 b K4) {x K5:Int} {s:List UInt8} (h5:bP l 6 K4 x K5) (hi:ap ba 70 [.dat (.slice (encS JK)),.dat (.flat (.int .i64 x))]=some ⟨.ref [sb s],.keep⟩):tf l n c e K (eH 6 0 a b 0 s nl 0 [] 0 nl 0 0 []) K5:=by
 refine co [] [93] (x:=.of Tryz.f34 fU eG) ?_;refine oh h1 (oh h2 (oh h3 (oh h4 (oh h5 ?_))));refine bL (by kernel_rfl) ?_ ?_
 ·refine oo hi ?_;refine bL (by kernel_rfl) ?_ ?_
  ·exact fi
  refine bL (by kernel_rfl) ?_ ?_
  ·exact fi
  refine bL (by kernel_rfl) ?_ ?_ <;>
  ·exact fi
 refine bL (by kernel_rfl) ?_ ?_
 ·refine oo hi ?_;refine bL (by kernel_rfl) ?_ ?_
  ·exact fi
  refine bL (by kernel_rfl) ?_ ?_ <;>
  ·exact fi
 refine bL (by kernel_rfl) ?_ ?_
 ·refine oo hi ?_;refine bL (by kernel_rfl) ?_ ?_ <;>
  ·exact fi
 exact oo hi fi
theorem aeV {l:List ak} {n c e K K1 K2 K3 K4 d a b:Int} (h1:bP l 22 K 6 K1) (h2:bP l n K1 d K2) (h3:bP l n K2 a K3) (h4:bP l n K3 b K4) {x K5 K6:Int} {es:List ak} (h5:bP l 4 K4 x K5) (h6:Vc l n x K5 es K6):tf l n c e K (eH 7 d 0 0 0 [] (sl es) 0 [] 0 nl 0 0 []) K6:=by
 refine co [] [] (x:=.of Tryz.f34 fU eG) ?_;refine oh h1 (oh h2 (oh h3 (oh h4 (oh h5 (oh h6 ?_)))))
 rcases es with _|⟨v0,v1⟩ <;>
 ·exact fi
theorem aeU {l:List ak} {n c e K K1 K2 K3 K4 d a b:Int} (h1:bP l 22 K 7 K1) (h2:bP l n K1 d K2) (h3:bP l n K2 a K3) (h4:bP l n K3 b K4) {x K5:Int} (h5:bP l 3 K4 x K5):tf l n c e K (eH 8 d a 0 x [] nl 0 [] 0 nl 0 0 []) K5:=by
 refine co [] [] (x:=.of Tryz.f34 fU eG) ?_;exact oh h1 (oh h2 (oh h3 (oh h4 (oh h5 fi))))
theorem aeT {l:List ak} {n c e K K1 K2 K3 K4 d a b:Int} (h1:bP l 22 K 8 K1) (h2:bP l n K1 d K2) (h3:bP l n K2 a K3) (h4:bP l n K3 b K4) {tk tix K5:Int} {tn:List UInt8} {la:List ak} (ht:Sz l K4 tk tn tix la K5):tf l n c e K (eH 9 d a 0 0 [] nl tk tn tix (sl la) 0 0 []) K5:=by
 have hb:=oK;refine co [] [] (x:=.of Tryz.f34 fU eG) ?_;refine oh h1 (oh h2 (oh h3 (oh h4 (on hb (oh ht ?_)))))
 rcases la with _|⟨v0,v1⟩ <;>
 ·exact fi
theorem acy {l:List ak} {n c e K K1 K2 K3 K4 d a b:Int} (h1:bP l 22 K 9 K1) (h2:bP l n K1 d K2) (h3:bP l n K2 a K3) (h4:bP l n K3 b K4) {x y K5 K6 K7:Int} {s:List UInt8} {es:List ak} (h5:bP l 3 K4 x K5) (hi:ap ba 70 [.dat (.slice (encS AP)),.dat (.flat (.int .i64 x))]=some ⟨.ref [sb s],.keep⟩) (h6:bP l 3 K5 y K6) (h7:Vc l n y K6 es K7):tf l n c e K (eH 10 d 0 0 0 s (sl es) 0 [] 0 nl 0 0 []) K7:=by
 refine co [] [136] (x:=.of Tryz.f34 fU eG) ?_;refine oh h1 (oh h2 (oh h3 (oh h4 (oh h5 ?_))));refine bL (by kernel_rfl) ?_ ?_
 ·refine oo hi ?_;refine bL (by kernel_rfl) ?_ ?_
  ·refine oh h6 (oh h7 ?_)
   rcases es with _|⟨v0,v1⟩ <;>
   ·exact fi
  refine oh h6 ?_;refine bL (by kernel_rfl) ?_ ?_
  ·refine oh h7 ?_
   rcases es with _|⟨v2,v3⟩ <;>
   ·exact fi
  refine oh h7 ?_;refine bL (by kernel_rfl) ?_ ?_
  ·rcases es with _|⟨v4,v5⟩ <;>
   ·exact fi
  rcases es with _|⟨v6,v7⟩ <;>
  ·exact fi
 refine oh h6 ?_;refine bL (by kernel_rfl) ?_ ?_
 ·refine oo hi ?_;refine bL (by kernel_rfl) ?_ ?_
  ·refine oh h7 ?_
   rcases es with _|⟨v8,v9⟩ <;>
   ·exact fi
  refine oh h7 ?_;refine bL (by kernel_rfl) ?_ ?_
  ·rcases es with _|⟨v10,v11⟩ <;>
   ·exact fi
  rcases es with _|⟨v12,v13⟩ <;>
  ·exact fi
 refine oh h7 ?_;refine bL (by kernel_rfl) ?_ ?_
 ·refine oo hi ?_;refine bL (by kernel_rfl) ?_ ?_
  ·rcases es with _|⟨v14,v15⟩ <;>
   ·exact fi
  rcases es with _|⟨v16,v17⟩ <;>
  ·exact fi
 refine oo hi ?_
 rcases es with _|⟨v18,v19⟩ <;>
 ·exact fi
theorem acx {l:List ak} {n c e K K1 K2 K3 K4 d a b:Int} (h1:bP l 22 K 10 K1) (h2:bP l n K1 d K2) (h3:bP l n K2 a K3) (h4:bP l n K3 b K4) {x y K5 K6 K7:Int} {s:List UInt8} {es:List ak} (h5:bP l 3 K4 x K5) (hi:ap ba 70 [.dat (.slice (encS AP)),.dat (.flat (.int .i64 x))]=some ⟨.ref [sb s],.keep⟩) (h6:bP l 3 K5 y K6) (h7:Vc l n y K6 es K7):tf l n c e K (eH 11 d 0 0 0 s (sl es) 0 [] 0 nl 0 0 []) K7:=by
 refine co [] [136] (x:=.of Tryz.f34 fU eG) ?_;refine oh h1 (oh h2 (oh h3 (oh h4 (oh h5 ?_))));refine bL (by kernel_rfl) ?_ ?_
 ·refine oo hi ?_;refine bL (by kernel_rfl) ?_ ?_
  ·refine oh h6 (oh h7 ?_)
   rcases es with _|⟨v0,v1⟩ <;>
   ·exact fi
  refine oh h6 ?_;refine bL (by kernel_rfl) ?_ ?_
  ·refine oh h7 ?_
   rcases es with _|⟨v2,v3⟩ <;>
   ·exact fi
  refine oh h7 ?_;refine bL (by kernel_rfl) ?_ ?_
  ·rcases es with _|⟨v4,v5⟩ <;>
   ·exact fi
  rcases es with _|⟨v6,v7⟩ <;>
  ·exact fi
 refine oh h6 ?_;refine bL (by kernel_rfl) ?_ ?_
 ·refine oo hi ?_;refine bL (by kernel_rfl) ?_ ?_
  ·refine oh h7 ?_
   rcases es with _|⟨v8,v9⟩ <;>
   ·exact fi
  refine oh h7 ?_;refine bL (by kernel_rfl) ?_ ?_
  ·rcases es with _|⟨v10,v11⟩ <;>
   ·exact fi
  rcases es with _|⟨v12,v13⟩ <;>
  ·exact fi
 refine oh h7 ?_;refine bL (by kernel_rfl) ?_ ?_
 ·refine oo hi ?_;refine bL (by kernel_rfl) ?_ ?_
  ·rcases es with _|⟨v14,v15⟩ <;>
   ·exact fi
  rcases es with _|⟨v16,v17⟩ <;>
  ·exact fi
 refine oo hi ?_
 rcases es with _|⟨v18,v19⟩ <;>
 ·exact fi
theorem acw {l:List ak} {n c e K K1 K2 K3 K4 d a b:Int} (h1:bP l 22 K 11 K1) (h2:bP l n K1 d K2) (h3:bP l n K2 a K3) (h4:bP l n K3 b K4) {x K5:Int} (h5:bP l c K4 x K5):tf l n c e K (eH 12 0 0 0 x [] nl 0 [] 0 nl 0 0 []) K5:=by
 refine co [] [] (x:=.of Tryz.f34 fU eG) ?_;exact oh h1 (oh h2 (oh h3 (oh h4 (oh h5 fi))))
theorem acv {l:List ak} {n c e K K1 K2 K3 K4 d a b:Int} (h1:bP l 22 K 12 K1) (h2:bP l n K1 d K2) (h3:bP l n K2 a K3) (h4:bP l n K3 b K4) {x K5:Int} (h5:bP l c K4 x K5):tf l n c e K (eH 13 0 a 0 x [] nl 0 [] 0 nl 0 0 []) K5:=by
 refine co [] [] (x:=.of Tryz.f34 fU eG) ?_;exact oh h1 (oh h2 (oh h3 (oh h4 (oh h5 fi))))
theorem acu {l:List ak} {n c e K K1 K2 K3 K4 d a b:Int} (h1:bP l 22 K 13 K1) (h2:bP l n K1 d K2) (h3:bP l n K2 a K3) (h4:bP l n K3 b K4) :tf l n c e K (eH 14 0 0 0 0 [] nl 0 [] 0 nl 0 0 []) K4:=by
 refine co [] [] (x:=.of Tryz.f34 fU eG) ?_;exact oh h1 (oh h2 (oh h3 (oh h4 fi)))
theorem acs {l:List ak} {n c e K K1 K2 K3 K4 d a b:Int} (h1:bP l 22 K 14 K1) (h2:bP l n K1 d K2) (h3:bP l n K2 a K3) (h4:bP l n K3 b K4) :tf l n c e K (eH 15 0 a 0 0 [] nl 0 [] 0 nl 0 0 []) K4:=by
 refine co [] [] (x:=.of Tryz.f34 fU eG) ?_;exact oh h1 (oh h2 (oh h3 (oh h4 fi)))
theorem acr {l:List ak} {n c e K K1 K2 K3 K4 d a b:Int} (h1:bP l 22 K 15 K1) (h2:bP l n K1 d K2) (h3:bP l n K2 a K3) (h4:bP l n K3 b K4) :tf l n c e K (eH 16 0 a 0 0 [] nl 0 [] 0 nl 0 0 []) K4:=by
 refine co [] [] (x:=.of Tryz.f34 fU eG) ?_;exact oh h1 (oh h2 (oh h3 (oh h4 fi)))
theorem acq {l:List ak} {n c e K K1 K2 K3 K4 d a b:Int} (h1:bP l 22 K 16 K1) (h2:bP l n K1 d K2) (h3:bP l n K2 a K3) (h4:bP l n K3 b K4) {x K5:Int} (h0:aB e 0=false) (h5:bP l e K4 x K5):tf l n c e K (eH 17 0 0 0 x [] nl 0 [] 0 nl 0 0 []) K5:=by
 refine co [169] [] (x:=.of Tryz.f34 fU eG) ?_;exact oh h1 (oh h2 (oh h3 (oh h4 (ob h0 (oh h5 fi)))))
theorem acp {l:List ak} {n c e K K1 K2 K3 K4 d a b:Int} (h1:bP l 22 K 17 K1) (h2:bP l n K1 d K2) (h3:bP l n K2 a K3) (h4:bP l n K3 b K4) :tf l n c e K (eH 18 0 0 0 0 [] nl 0 [] 0 nl 0 0 []) K4:=by
 refine co [] [] (x:=.of Tryz.f34 fU eG) ?_;exact oh h1 (oh h2 (oh h3 (oh h4 fi)))
theorem aco {l:List ak} {n c e K K1 K2 K3 K4 d a b:Int} (h1:bP l 22 K 18 K1) (h2:bP l n K1 d K2) (h3:bP l n K2 a K3) (h4:bP l n K3 b K4) :tf l n c e K (eH 19 0 a 0 0 [] nl 0 [] 0 nl 0 0 []) K4:=by
 refine co [] [] (x:=.of Tryz.f34 fU eG) ?_;exact oh h1 (oh h2 (oh h3 (oh h4 fi)))
theorem acn {l:List ak} {n c e K K1 K2 K3 K4 d a b:Int} (h1:bP l 22 K 19 K1) (h2:bP l n K1 d K2) (h3:bP l n K2 a K3) (h4:bP l n K3 b K4) {x K5:Int} (h5:bP l 4 K4 x K5):tf l n c e K (eH 20 0 0 0 (an .i64 (1+x)) [] nl 0 [] 0 nl 0 0 []) K5:=by
 refine co [] [] (x:=.of Tryz.f34 fU eG) ?_;exact oh h1 (oh h2 (oh h3 (oh h4 (oh h5 fi))))
theorem acm {l:List ak} {n c e K K1 K2 K3 K4 d a b:Int} (h1:bP l 22 K 20 K1) (h2:bP l n K1 d K2) (h3:bP l n K2 a K3) (h4:bP l n K3 b K4) :tf l n c e K (eH 21 0 0 0 0 [] nl 0 [] 0 nl 0 0 []) K4:=by
 refine co [] [] (x:=.of Tryz.f34 fU eG) ?_;exact oh h1 (oh h2 (oh h3 (oh h4 fi)))
theorem ack {l:List ak} {n c e K K1 K2 K3 K4 d a b:Int} (h1:bP l 22 K 21 K1) (h2:bP l n K1 d K2) (h3:bP l n K2 a K3) (h4:bP l n K3 b K4) {x y K5 K6 K7:Int} {es:List ak} (h5:bP l 4 K4 x K5) (h6:bP l 3 K5 y K6) (h7:Vc l n y K6 es K7):tf l n c e K (eH 22 d 0 0 (an .i64 (1+x)) [] (sl es) 0 [] 0 nl 0 0 []) K7:=by
 refine co [] [] (x:=.of Tryz.f34 fU eG) ?_;refine oh h1 (oh h2 (oh h3 (oh h4 (oh h5 (oh h6 (oh h7 ?_))))))
 rcases es with _|⟨v0,v1⟩ <;>
 ·exact fi
theorem X4 {l:List ak} {n c e K K1 K2 K3 K4 d a b:Int} (h1:bP l 22 K 16 K1) (h2:bP l n K1 d K2) (h3:bP l n K2 a K3) (h4:bP l n K3 b K4) (h0:aB e 0=true):tf l n c e K (eH 14 0 0 0 0 [] nl 0 [] 0 nl 0 0 []) K4:=by
 refine co [169] [] (x:=.of Tryz.f34 fU eG) ?_;exact oh h1 (oh h2 (oh h3 (oh h4 (ob h0 fi))))
theorem yS (l:List ak):sx false l=sl l:=by cases l <;> rfl
theorem Rg (a:Nat) (h:a < 6):∃s,JK[a]?=some s:=⟨JK[a]'h,List.getElem?_eq_getElem h⟩
theorem we (a:Nat) (h:a < 3):∃s,AP[a]?=some s:=⟨AP[a]'h,List.getElem?_eq_getElem h⟩
theorem cY:(Ty.mk 0 [] 0 []).gN:=⟨by simp[Ty.size,aQ],by simp[Ty.fY,fg,aB]⟩
def Ins.gen (x:Ins):Prop:=x.ty.gN/\x.ar.length < 1000000/\x.cs.length < 1000000000
theorem CY {x:Ins} (h:x.gen):x.gN:=⟨h.1,by have:=h.2.1;omega,h.2.2⟩
def GIn (l:List Int) (n c e k:Nat):Prop:=∃(x:Ins) (k2:Nat),x.gen/\BG l k k2/\tf (l.map iN) (ofNat n) (ofNat c) (ofNat e) (ofNat k) x.enc (ofNat k2)
theorem eI {l:List Int} {n c e k k2:Nat} (x:Ins) (hx:x.gen) (h:BG l k k2) (hc:tf (l.map iN) (ofNat n) (ofNat c) (ofNat e) (ofNat k) x.enc (ofNat k2)):GIn l n c e k:=⟨x,k2,hx,h,hc⟩
theorem wa (op dst a b im:Int) (nm:List UInt8) (ar:List Int) (k:Int) (tn:List UInt8) (ix:Int) (la:List Ty) (ck ci:Int) (cs:List UInt8) :
  eH op dst a b im nm (sl (ar.map iN)) k tn ix (sl (ax la)) ck ci cs=(Ins.mk op dst a b im nm false ar (.mk k tn ix la) ck ci cs).enc:=by
 show _=ak.agg ([i64 op,i64 dst,i64 a,i64 b,i64 im,sb nm,sx false (ar.map iN)]++((Ty.mk k tn ix la).cells++[i64 ck,i64 ci,sb cs,nl]));rw[yS];rfl
theorem Uu {l:List Int} {n c e k:Nat} (hl:l.length < 10000000) (hk:k<=l.length) (hn:0 < n) (hn2:n < 1000000) (hc:0 < c) (hc2:c < 1000000) (he:e < 1000000):GIn l n c e k:=by
 have hb:l.length < 1000000000:=by omega
 obtain⟨r,k1,⟨hr,a1,a2,_⟩,h1⟩:=aR (n:=22) hb hk (by omega) (by omega);obtain⟨d,k2,⟨_,b1,b2,_⟩,h2⟩:=aR (n:=n) hb a2 hn (by omega);obtain⟨a,k3,⟨_,c1,c2,_⟩,h3⟩:=aR (n:=n) hb b2 hn (by omega);obtain⟨b,k4,⟨_,d1,d2,_⟩,h4⟩:=aR (n:=n) hb c2 hn (by omega);have hsl:∀{k:Nat} (m:Nat),k<=l.length->m < 1000000->∃(ar:List Int) (k2:Nat),ar.length=m/\BG l k k2/\Vc (l.map iN) (ofNat n) (ofNat m) (ofNat k) (ar.map iN) (ofNat k2):=fun m hk hm=>LI hb hk hn (by omega) hm
 match r,hr with
 | 0,_=>
  obtain⟨ck,ci,cs,k5,e1,e2,h5⟩:=Uy hb d2;exact eI ⟨1,(ofNat d),0,0,0,[],false,[],(.mk 0 [] 0 []),ck,ci,cs⟩ ⟨cY,by simp,by show cs.length < _;omega⟩ ⟨by have:=e2.le;omega,e2.top⟩ (ae0 h1 h2 h3 h4 h5)
 | 1,_=>
  exact eI ⟨2,(ofNat d),(ofNat a),0,0,[],false,[],(.mk 0 [] 0 []),0,0,[]⟩ ⟨cY,by simp,by simp⟩ ⟨by omega,d2⟩ (aeZ h1 h2 h3 h4)
 | 2,_=>
  obtain⟨x,k5,⟨hxl,hxa,hxb,_⟩,hx⟩:=aR (n:=7) hb d2 (by omega) (by omega)
  cases hu:aB (an .i64 (1+ofNat x)) 5 with
  | true=>exact eI ⟨3,(ofNat d),(ofNat a),0,(an .i64 (1+ofNat x)),[],false,[],(.mk 0 [] 0 []),0,0,[]⟩ ⟨cY,by simp,by simp⟩ ⟨by omega,hxb⟩ (acj h1 h2 h3 h4 hx hu)
  | false=>exact eI ⟨3,(ofNat d),(ofNat a),(ofNat b),(an .i64 (1+ofNat x)),[],false,[],(.mk 0 [] 0 []),0,0,[]⟩ ⟨cY,by simp,by simp⟩ ⟨by omega,hxb⟩ (acj h1 h2 h3 h4 hx hu)
 | 3,_=>
  obtain⟨t,k5,t1,t2,ht⟩:=Ey hl d2;obtain⟨tk,tn,tix,la⟩:=t;obtain⟨x,k6,⟨hxl,hxa,hxb,_⟩,hx⟩:=aR (n:=3) hb t2.top (by omega) (by omega);obtain⟨ar,k7,e1,e2,hs⟩:=hsl x hxb (by omega);have hh:=aeY (c:=ofNat c) (e:=ofNat e) h1 h2 h3 h4 ht hx hs;rw[wa] at hh;exact eI ⟨4,(ofNat d),0,0,0,[],false,ar,(.mk tk tn tix la),0,0,[]⟩ ⟨zk t1,by show ar.length < _;omega,by simp⟩ ⟨by have:=t2.le;have:=e2.le;omega,e2.top⟩ (hh)
 | 4,_=>
  obtain⟨x,k5,⟨hxl,hxa,hxb,_⟩,hx⟩:=aR (n:=6) hb d2 (by omega) (by omega);obtain⟨nm,hnm⟩:=Rg x hxl;exact eI ⟨5,(ofNat d),(ofNat a),0,0,nm,false,[],(.mk 0 [] 0 []),0,0,[]⟩ ⟨cY,by simp,by simp⟩ ⟨by omega,hxb⟩ (aeX h1 h2 h3 h4 hx (uB hnm))
 | 5,_=>
  obtain⟨x,k5,⟨hxl,hxa,hxb,_⟩,hx⟩:=aR (n:=6) hb d2 (by omega) (by omega);obtain⟨nm,hnm⟩:=Rg x hxl;exact eI ⟨6,0,(ofNat a),(ofNat b),0,nm,false,[],(.mk 0 [] 0 []),0,0,[]⟩ ⟨cY,by simp,by simp⟩ ⟨by omega,hxb⟩ (aeW h1 h2 h3 h4 hx (uB hnm))
 | 6,_=>
  obtain⟨x,k5,⟨hxl,hxa,hxb,_⟩,hx⟩:=aR (n:=4) hb d2 (by omega) (by omega);obtain⟨ar,k7,e1,e2,hs⟩:=hsl x hxb (by omega);have hh:=aeV (c:=ofNat c) (e:=ofNat e) h1 h2 h3 h4 hx hs;have e0:=wa 7 (ofNat d) 0 0 0 [] ar 0 [] 0 [] 0 0 [];have hh2:tf (l.map iN) (ofNat n) (ofNat c) (ofNat e) (ofNat k) (eH 7 (ofNat d) 0 0 0 [] (sl (ar.map iN)) 0 [] 0 (sl (ax [])) 0 0 []) (ofNat k7):=hh;rw[e0] at hh2;exact eI ⟨7,(ofNat d),0,0,0,[],false,ar,(.mk 0 [] 0 []),0,0,[]⟩ ⟨cY,by show ar.length < _;omega,by simp⟩ ⟨by have:=e2.le;omega,e2.top⟩ (hh2)
 | 7,_=>
  obtain⟨x,k5,⟨hxl,hxa,hxb,_⟩,hx⟩:=aR (n:=3) hb d2 (by omega) (by omega);exact eI ⟨8,(ofNat d),(ofNat a),0,(ofNat x),[],false,[],(.mk 0 [] 0 []),0,0,[]⟩ ⟨cY,by simp,by simp⟩ ⟨by omega,hxb⟩ (aeU h1 h2 h3 h4 hx)
 | 8,_=>
  obtain⟨t,k5,t1,t2,ht⟩:=Ey hl d2;obtain⟨tk,tn,tix,la⟩:=t;have hh:=aeT (c:=ofNat c) (e:=ofNat e) h1 h2 h3 h4 ht;have hh2:tf (l.map iN) (ofNat n) (ofNat c) (ofNat e) (ofNat k) (eH 9 (ofNat d) (ofNat a) 0 0 [] (sl (([]:List Int).map iN)) tk tn tix (sl (ax la)) 0 0 []) (ofNat k5):=hh;rw[wa] at hh2;exact eI ⟨9,(ofNat d),(ofNat a),0,0,[],false,[],(.mk tk tn tix la),0,0,[]⟩ ⟨zk t1,by simp,by simp⟩ ⟨by have:=t2.le;omega,t2.top⟩ (hh2)
 | 9,_=>
  obtain⟨x,k5,⟨hxl,hxa,hxb,_⟩,hx⟩:=aR (n:=3) hb d2 (by omega) (by omega);obtain⟨nm,hnm⟩:=we x hxl;obtain⟨y,k6,⟨hyl,hya,hyb,_⟩,hy⟩:=aR (n:=3) hb hxb (by omega) (by omega);obtain⟨ar,k7,e1,e2,hs⟩:=hsl y hyb (by omega);have hh:=acy (c:=ofNat c) (e:=ofNat e) h1 h2 h3 h4 hx (uB hnm) hy hs;have hh2:tf (l.map iN) (ofNat n) (ofNat c) (ofNat e) (ofNat k) (eH 10 (ofNat d) 0 0 0 nm (sl (ar.map iN)) 0 [] 0 (sl (ax [])) 0 0 []) (ofNat k7):=hh;rw[wa] at hh2;exact eI ⟨10,(ofNat d),0,0,0,nm,false,ar,(.mk 0 [] 0 []),0,0,[]⟩ ⟨cY,by show ar.length < _;omega,by simp⟩ ⟨by have:=e2.le;omega,e2.top⟩ (hh2)
 | 10,_=>
  obtain⟨x,k5,⟨hxl,hxa,hxb,_⟩,hx⟩:=aR (n:=3) hb d2 (by omega) (by omega);obtain⟨nm,hnm⟩:=we x hxl;obtain⟨y,k6,⟨hyl,hya,hyb,_⟩,hy⟩:=aR (n:=3) hb hxb (by omega) (by omega);obtain⟨ar,k7,e1,e2,hs⟩:=hsl y hyb (by omega);have hh:=acx (c:=ofNat c) (e:=ofNat e) h1 h2 h3 h4 hx (uB hnm) hy hs;have hh2:tf (l.map iN) (ofNat n) (ofNat c) (ofNat e) (ofNat k) (eH 11 (ofNat d) 0 0 0 nm (sl (ar.map iN)) 0 [] 0 (sl (ax [])) 0 0 []) (ofNat k7):=hh;rw[wa] at hh2;exact eI ⟨11,(ofNat d),0,0,0,nm,false,ar,(.mk 0 [] 0 []),0,0,[]⟩ ⟨cY,by show ar.length < _;omega,by simp⟩ ⟨by have:=e2.le;omega,e2.top⟩ (hh2)
 | 11,_=>
  obtain⟨x,k5,⟨hxl,hxa,hxb,_⟩,hx⟩:=aR (n:=c) hb d2 (by omega) (by omega);exact eI ⟨12,0,0,0,(ofNat x),[],false,[],(.mk 0 [] 0 []),0,0,[]⟩ ⟨cY,by simp,by simp⟩ ⟨by omega,hxb⟩ (acw h1 h2 h3 h4 hx)
 | 12,_=>
  obtain⟨x,k5,⟨hxl,hxa,hxb,_⟩,hx⟩:=aR (n:=c) hb d2 (by omega) (by omega);exact eI ⟨13,0,(ofNat a),0,(ofNat x),[],false,[],(.mk 0 [] 0 []),0,0,[]⟩ ⟨cY,by simp,by simp⟩ ⟨by omega,hxb⟩ (acv h1 h2 h3 h4 hx)
 | 13,_=>
  exact eI ⟨14,0,0,0,0,[],false,[],(.mk 0 [] 0 []),0,0,[]⟩ ⟨cY,by simp,by simp⟩ ⟨by omega,d2⟩ (acu h1 h2 h3 h4)
 | 14,_=>
  exact eI ⟨15,0,(ofNat a),0,0,[],false,[],(.mk 0 [] 0 []),0,0,[]⟩ ⟨cY,by simp,by simp⟩ ⟨by omega,d2⟩ (acs h1 h2 h3 h4)
 | 15,_=>
  exact eI ⟨16,0,(ofNat a),0,0,[],false,[],(.mk 0 [] 0 []),0,0,[]⟩ ⟨cY,by simp,by simp⟩ ⟨by omega,d2⟩ (acr h1 h2 h3 h4)
 | 16,_=>
  by_cases he0:e=0
  ·subst he0;exact eI ⟨14,0,0,0,0,[],false,[],(.mk 0 [] 0 []),0,0,[]⟩ ⟨cY,by simp,by simp⟩ ⟨by omega,d2⟩ (X4 h1 h2 h3 h4 rfl)
  obtain⟨x,k5,⟨hxl,hxa,hxb,_⟩,hx⟩:=aR (n:=e) hb d2 (by omega) (by omega);have h0:aB (ofNat e) 0=false:=dL (by simp;omega);exact eI ⟨17,0,0,0,(ofNat x),[],false,[],(.mk 0 [] 0 []),0,0,[]⟩ ⟨cY,by simp,by simp⟩ ⟨by omega,hxb⟩ (acq h1 h2 h3 h4 h0 hx)
 | 17,_=>
  exact eI ⟨18,0,0,0,0,[],false,[],(.mk 0 [] 0 []),0,0,[]⟩ ⟨cY,by simp,by simp⟩ ⟨by omega,d2⟩ (acp h1 h2 h3 h4)
 | 18,_=>
  exact eI ⟨19,0,(ofNat a),0,0,[],false,[],(.mk 0 [] 0 []),0,0,[]⟩ ⟨cY,by simp,by simp⟩ ⟨by omega,d2⟩ (aco h1 h2 h3 h4)
 | 19,_=>
  obtain⟨x,k5,⟨hxl,hxa,hxb,_⟩,hx⟩:=aR (n:=4) hb d2 (by omega) (by omega);exact eI ⟨20,0,0,0,(an .i64 (1+ofNat x)),[],false,[],(.mk 0 [] 0 []),0,0,[]⟩ ⟨cY,by simp,by simp⟩ ⟨by omega,hxb⟩ (acn h1 h2 h3 h4 hx)
 | 20,_=>
  exact eI ⟨21,0,0,0,0,[],false,[],(.mk 0 [] 0 []),0,0,[]⟩ ⟨cY,by simp,by simp⟩ ⟨by omega,d2⟩ (acm h1 h2 h3 h4)
 | 21,_=>
  obtain⟨x,k5,⟨hxl,hxa,hxb,_⟩,hx⟩:=aR (n:=4) hb d2 (by omega) (by omega);obtain⟨y,k6,⟨hyl,hya,hyb,_⟩,hy⟩:=aR (n:=3) hb hxb (by omega) (by omega);obtain⟨ar,k7,e1,e2,hs⟩:=hsl y hyb (by omega);have hh:=ack (c:=ofNat c) (e:=ofNat e) h1 h2 h3 h4 hx hy hs;have hh2:tf (l.map iN) (ofNat n) (ofNat c) (ofNat e) (ofNat k) (eH 22 (ofNat d) 0 0 (an .i64 (1+ofNat x)) [] (sl (ar.map iN)) 0 [] 0 (sl (ax [])) 0 0 []) (ofNat k7):=hh;rw[wa] at hh2;exact eI ⟨22,(ofNat d),0,0,(an .i64 (1+ofNat x)),[],false,ar,(.mk 0 [] 0 []),0,0,[]⟩ ⟨cY,by show ar.length < _;omega,by simp⟩ ⟨by have:=e2.le;omega,e2.top⟩ (hh2)
 | r+22,hr=>exact absurd hr (by omega)
abbrev NP (k:Int) (nm:List UInt8) (ix:Int) (la:List ak):ak:=.agg [i64 k,sb nm,i64 ix,sl la]
theorem rk (x:ak) (l:List ak):ae 63 [.dat (.slice (x::l))] (.dat (.agg [i64 3,sb [],i64 0,.slice (x::l)])):=by
 refine co [] [] (x:=.of Tryz.f63 Pw Qv) ?_;exact fi
abbrev CoT (l:List ak) (dp K:Int) (pa s:Int) (es dd:List ak) (K2:Int):Prop:=KC 9 [cq,iv dp] (cW l K) 1 (XQ ⟨.dat (aN pa s (.slice es) (sl dd)),cW l K2,1⟩)
theorem ae8 {l:List ak} {K K1 K2 K3 tk tix dp a ar sk six:Int} {tn dn sn:List UInt8} {la sa fl:List ak} {con:Bool} (ht:Sz l K tk tn tix la K1) (h1:bP l 6 K1 0 K2) (h2:bP l 8 K2 a K3)
  (hi:ap ba 112 [.dat (.slice (lJ mq)),iv a]=some ⟨.ref [sb dn,i64 ar,i64 sk,sb sn,i64 six,sl sa,bl con,sl fl],.keep⟩) :
  SA l dp K (B0 1 dn ar sk sn six (sl sa) con (sl fl) [] 0 [] 0 nl 0 0 0 nl nl []) K3:=by
 have hb:=oK;have hT:=rk (NP tk tn tix la) [];refine co [] [21] (x:=.of Tryz.f33 tP ou) ?_;refine on hb (oh ht (on hT (oh h1 (on hb (oh h2 (oo hi ?_))))))
 rcases sa with _|⟨v2,v3⟩
 ·rcases fl with _|⟨v0,v1⟩ <;>
  ·exact fi
 rcases fl with _|⟨v4,v5⟩ <;>
 ·exact fi
theorem ae7 {l:List ak} {K K1 K2 K3 tk tix dp a:Int} {tn s:List UInt8} {la:List ak} (ht:Sz l K tk tn tix la K1) (h1:bP l 6 K1 1 K2) (h2:bP l 3 K2 a K3)
  (hi:ap ba 70 [.dat (.slice (encS AP)),.dat (.flat (.int .i64 a))]=some ⟨.ref [sb s],.keep⟩) :
  SA l dp K (B0 3 [] 0 0 [] 0 nl false nl s 3 [] 0 (.slice [NP tk tn tix la]) 0 0 0 nl nl []) K3:=by
 have hb:=oK;have hT:=rk (NP tk tn tix la) [];refine co [] [31] (x:=.of Tryz.f33 tP ou) ?_;exact on hb (oh ht (on hT (oh h1 (oh h2 (oo hi fi)))))
theorem ae6 {l:List ak} {K K1 K2 K3 tk tix dp a:Int} {tn:List UInt8} {la:List ak} (ht:Sz l K tk tn tix la K1) (h1:bP l 6 K1 2 K2) (h2:bP l 2 K2 a K3) :
  SA l dp K (B0 (an .i64 (4+a)) [] 0 0 [] 0 nl false nl [] 0 [] 0 nl 0 0 0 nl nl [112]) K3:=by
 have hb:=oK;have hT:=rk (NP tk tn tix la) [];refine co [] [] (x:=.of Tryz.f33 tP ou) ?_;exact on hb (oh ht (on hT (oh h1 (oh h2 fi))))
theorem adu {l:List ak} {K K1 K2 K3 K4 tk tix dp a r s:Int} {tn nm:List UInt8} {la es dd:List ak} (ht:Sz l K tk tn tix la K1) (h1:bP l 6 K1 r K2) (r0:aB r 0=false) (r1:aB r 1=false) (r2:aB r 2=false)
  (hc:CoT l dp K2 1 s es dd K3) (h2:bP l 3 K3 a K4) (hi:ap ba 70 [.dat (.slice (encS AP)),.dat (.flat (.int .i64 a))]=some ⟨.ref [sb nm],.keep⟩) :
  SA l dp K (B0 2 [] 0 0 [] 0 nl false nl nm 3 [] 0 (.slice [NP tk tn tix la]) 1 1 s (.slice es) (sl dd) []) K4:=by
 have hb:=oK;have hT:=rk (NP tk tn tix la) [];refine co [17,25,36] [57] (x:=.of Tryz.f33 tP ou) ?_;refine on hb (oh ht (on hT (oh h1 (ob r0 (ob r1 (ob r2 (oh hc ?_)))))))
 rcases dd with _|⟨v0,v1⟩ <;>
 ·exact oh h2 (oo hi fi)
theorem adt {l:List ak} {K K1 K2 K3 K4 K5 tk tix dp a r s pa:Int} {tn nm:List UInt8} {la es dd:List ak} (ht:Sz l K tk tn tix la K1) (h1:bP l 6 K1 r K2) (r0:aB r 0=false) (r1:aB r 1=false) (r2:aB r 2=false)
  (hc:CoT l dp K2 pa s es dd K3) (hp:aB pa 1=false) (hv:bP l 5 K3 4 K4) (h2:bP l 3 K4 a K5) (hi:ap ba 70 [.dat (.slice (encS AP)),.dat (.flat (.int .i64 a))]=some ⟨.ref [sb nm],.keep⟩) :
  SA l dp K (B0 2 [] 0 0 [] 0 nl false nl nm 3 [] 0 (.slice [NP tk tn tix la]) pa pa s (.slice es) (sl dd) []) K5:=by
 have hb:=oK;have hT:=rk (NP tk tn tix la) [];refine co [17,25,36,46] [57] (x:=.of Tryz.f33 tP ou) ?_;refine on hb (oh ht (on hT (oh h1 (ob r0 (ob r1 (ob r2 (oh hc ?_)))))))
 rcases dd with _|⟨v0,v1⟩ <;>
 ·exact ob hp (oh hv (oh h2 (oo hi fi)))
noncomputable def hGE:Hints:=⟨bV,tP,bi,rowsOf bi 33⟩
def ab2 (pa s:Int) (es:List ak) (d2:ak) (A:ac):Heap:=[(.loc 7,.cells [iv 3,.dat (sb []),iv 0,A]),(.loc 6,.cells (cC pa s (.slice es) d2)),(.loc 4,.cells (cE 0 [] 0 0 [] 0 nl false nl [] 0 [] 0 nl 0 0 0 nl nl []))]
def Me (l:List ak) (K pa s:Int) (es:List ak) (d2:ak) (A:ac) (i:Int):ab:=⟨[(8,iv i),(7,.ptr (.loc 7) 0),(6,.ptr (.loc 6) 0),(4,.ptr (.loc 4) 0),(0,cq)],ab2 pa s es d2 A,cW l K,1⟩
def Of (l:List ak) (K pa s:Int) (es:List ak) (d2:ak) (A:ac) (i:Int):ab:=⟨[(68,bv false),(8,iv i),(7,.ptr (.loc 7) 0),(6,.ptr (.loc 6) 0),(4,.ptr (.loc 4) 0),(0,cq)],ab2 pa s es d2 A,cW l K,1⟩
theorem Q3 {l:List ak} {K K2 pa s i:Int} {es:List ak} {d2:ak} {pre post:List ak} {tk tix:Int} {tn:List UInt8} {la:List ak} (h0:aF i pa=true) (ht:Sz l K tk tn tix la K2)
  (ha:bB ba false 38 [.own pre,.dat (.slice [NP tk tn tix la])] none=some ⟨.own post,.keep⟩) {T:ej}
  (e:T .normal ((Me l K2 pa s es d2 (.own post) (an .i64 (i+1))).al tT)) :
  KD (roundOf Tryz.f33 0) T ((Me l K pa s es d2 (dS pre) i).al tT):=by
 have hb:=oK
 rcases pre with _|⟨d,r⟩ <;>
 ·exact aq [68] [77] (H:=hGE) (live:=ou) (ob h0 (on hb (oh ht (oo ha (oe e)))))
theorem Uq {l:List ak} {K pa s i:Int} {es:List ak} {d2:ak} {pre:List ak} (h0:aF i pa=false) {T:ej}
  (e:T (.exit 1) ((Of l K pa s es d2 (dS pre) i).al tT)) :
  KD (roundOf Tryz.f33 0) T ((Me l K pa s es d2 (dS pre) i).al tT):=by
 rcases pre with _|⟨d,r⟩ <;>
 ·exact aq [68] [] (H:=hGE) (live:=ou) (ob h0 (oe e))
theorem ads {l:List ak} {K K1 K2 K3 K4 K5 K6 tk tix dp a r s pa v ie:Int} {tn nm:List UInt8} {la es dd ts:List ak} (ht:Sz l K tk tn tix la K1) (h1:bP l 6 K1 r K2) (r0:aB r 0=false) (r1:aB r 1=false) (r2:aB r 2=false)
  (hc:CoT l dp K2 pa s es dd K3) (hp:aB pa 1=false) (hv:bP l 5 K3 v K4) (hv4:aB v 4=false)
  (hl:KD (.loop (roundOf Tryz.f33 0)) (fun e q=>e=.exit 1/\q=(Of l K5 pa s es (sl dd) (dS ts) ie).al tT) ((Me l K4 pa s es (sl dd) (dS []) 0).al tT))
  (h2:bP l 3 K5 a K6) (hi:ap ba 70 [.dat (.slice (encS AP)),.dat (.flat (.int .i64 a))]=some ⟨.ref [sb nm],.keep⟩) :
  SA l dp K (B0 2 [] 0 0 [] 0 nl false nl nm 3 [] 0 (sl ts) pa pa s (.slice es) (sl dd) []) K6:=by
 have hb:=oK;have hT:=rk (NP tk tn tix la) []
 rcases ts with _|⟨d,r⟩ <;>
 ·rcases dd with _|⟨x,y⟩ <;>
  ·refine co [17,25,36,46,50] [84] (x:=.of Tryz.f33 tP ou) ?_;refine on hb (oh ht (on hT (oh h1 (ob r0 (ob r1 (ob r2 (oh hc (ob hp (oh hv (ob hv4 ?_))))))))));refine lo hl ?_;rintro ex s ⟨rfl,rfl⟩;refine⟨_,rfl,?_⟩;exact oh h2 (oo hi fi)
noncomputable def Z6:Hints:=⟨bV,zZ,bi,rowsOf bi 38⟩
def yZ (c:List ac) (d:Int) (es:List ak) (i:Int):ab:=⟨[(59,iv i),(58,iv (ofNat es.length)),(57,.dat (.slice es)),(2,.ptr (.loc 2) 0),(1,iv d)],[(.loc 2,.cells c)],[],0⟩
def DJ (c:List ac) (d:Int) (es:List ak) (i:Int):ab:=⟨[(60,bv false),(59,iv i),(58,iv (ofNat es.length)),(57,.dat (.slice es)),(2,.ptr (.loc 2) 0),(1,iv d)],[(.loc 2,.cells c)],[],0⟩
def pf (e:Int):ab:=⟨[(4,iv e)],[],[],0⟩
def rQ (d n:Int) (ds:ak) (i:Int):ab:=⟨[(91,iv i),(90,iv n),(89,.dat ds),(1,iv d)],[],[],0⟩
def vp (d n:Int) (ds:ak) (i:Int):ab:=⟨[(92,bv false),(91,iv i),(90,iv n),(89,.dat ds),(1,iv d)],[],[],0⟩
def Ck (d n:Int) (ds:ak) (i:Int) (l:List ak) (k:Int):ab:=⟨[(97,iv k),(96,iv (ofNat l.length)),(95,.dat (.slice l)),(91,iv i),(90,iv n),(89,.dat ds),(1,iv d)],[],[],0⟩
def Ie (d n:Int) (ds:ak) (i:Int) (l:List ak) (k:Int):ab:=⟨[(98,bv false),(97,iv k),(96,iv (ofNat l.length)),(95,.dat (.slice l)),(91,iv i),(90,iv n),(89,.dat ds),(1,iv d)],[],[],0⟩
theorem aeo {p sl d:Int} {es:List ak} {d2:ak} (g2:dj d2) {op dst a b im:Int} {nm:List UInt8} {dx:ak} {xk:Int} {tn:List UInt8} {ix:Int} {dt:ak} {ck ci:Int} {cs:List UInt8} (g3:dj dx) (g4:dj dt) {i:Int} {ok:Bool} {T:ej} (h0:aF i (ofNat es.length)=true)
  (hi:ap ba 23 [.dat (.slice es),.dat (.flat (.int .i64 i))]=some ⟨.ref [i64 op,i64 dst,i64 a,i64 b,i64 im,sb nm,dx,i64 xk,sb tn,i64 ix,dt,i64 ck,i64 ci,sb cs,nl],.keep⟩) (hv:ae 67 [.dat (aN p sl (.slice es) d2),.dat (eH op dst a b im nm dx xk tn ix dt ck ci cs)] (bv ok))
  (e1:ok=true->T .normal ((yZ (cC p sl (.slice es) d2) d es (an .i64 (i+1))).al cO)) (e2:ok=false->T .ret ((pf 2).al cO)) :
  KD (roundOf Tryz.f38 0) T ((yZ (cC p sl (.slice es) d2) d es i).al cO):=by
 have q2:=@yv false op dst a b im nm _ xk tn ix _ ck ci cs g3 g4;have q3:=@Ic 6 op dst a b im nm _ xk tn ix _ ck ci cs g3 g4;have q4:=@QJ false 6 op dst a b im nm dx xk tn ix dt ck ci cs g3 g4;have q5:=@aO false 2 p sl (.slice es) _ (.inr ⟨_,rfl⟩) g2;clear g2 g3 g4;refine aq [60] [61,62,100006,63,64] (H:=Z6) (live:=lp) (ob h0 (oo hi (oo q2 (oo q3 (oo q5 (oo q4 (on hv ?_)))))))
 cases ok
 ·exact oe (e2 rfl)
 exact oe (e1 rfl)
theorem aaj {p sl d:Int} {es:List ak} {d2:ak} {i:Int} {T:ej} (h0:aF i (ofNat es.length)=false) (e:T (.exit 1) ((DJ (cC p sl (.slice es) d2) d es i).al cO)) :
  KD (roundOf Tryz.f38 0) T ((yZ (cC p sl (.slice es) d2) d es i).al cO):=by
 exact aq [60] [] (H:=Z6) (live:=lp) (ob h0 (oe e))
theorem aep {d n:Int} {ds:ak} {i k v:Int} {l:List ak} {ek:Int} {dn:List UInt8} {ar sk:Int} {sn:List UInt8} {six:Int} {da:ak} {con:Bool} {df:ak} {fu:List UInt8} {tk:Int} {tn:List UInt8} {tix:Int} {ta:ak} {pa cp cs:Int} {d1 d2:ak} {pk:List UInt8} (h1:dj da) (h2:dj df) (h3:dj ta) (h4:dj d1) (h5:dj d2) {z:Bool} {T:ej} (f0:aF k (ofNat l.length)=true)
  (hi:ap ba 54 [.dat (.slice l),.dat (.flat (.int .i64 k))]=some ⟨.ref [i64 ek,sb dn,i64 ar,i64 sk,sb sn,i64 six,da,bl con,df,sb fu,i64 tk,sb tn,i64 tix,ta,i64 pa,i64 cp,i64 cs,d1,d2,sb pk],.keep⟩) (hv:ae 69 [.dat (B0 ek dn ar sk sn six da con df fu tk tn tix ta pa cp cs d1 d2 pk),iv d] (iv v)) (hz:aB v 0=z)
  (e1:z=true->T .normal ((Ck d n ds i l (an .i64 (k+1))).al cO)) (e2:z=false->T .ret ((pf v).al cO)) :
  KD (roundOf Tryz.f38 2) T ((Ck d n ds i l k).al cO):=by
 have q2:=@QK false ek dn ar sk sn six _ con _ fu tk tn tix _ pa cp cs _ _ pk h1 h2 h3 h4 h5;have q3:=@Vo 12 ek dn ar sk sn six _ con _ fu tk tn tix _ pa cp cs _ _ pk h1 h2 h3 h4 h5;have q4:=@ab5 false 12 ek dn ar sk sn six _ con _ fu tk tn tix _ pa cp cs _ _ pk h1 h2 h3 h4 h5;clear h1 h2 h3 h4 h5;refine aq [98,105] [99,100,100012,101] (H:=Z6) (live:=lp) (ob f0 (oo hi (oo q2 (oo q3 (oo q4 (on hv (ox hz ?_)))))))
 cases z
 ·exact oe (e2 rfl)
 exact oe (e1 rfl)
theorem aak {d n:Int} {ds:ak} {i k:Int} {l:List ak} {T:ej} (f0:aF k (ofNat l.length)=false) (e:T (.exit 5) ((Ie d n ds i l k).al cO)) :
  KD (roundOf Tryz.f38 2) T ((Ck d n ds i l k).al cO):=by
 exact aq [98] [] (H:=Z6) (live:=lp) (ob f0 (oe e))
theorem aeq {d i v:Int} {dd l:List ak} {z:Bool} {T:ej} (f0:aF i (ofNat dd.length)=true)
  (hi:ap ba 24 [.dat (.slice dd),.dat (.flat (.int .i64 i))]=some ⟨.ref [.slice l],.keep⟩)
  (hl:KD (.loop (roundOf Tryz.f38 2)) (fun e q=>(e=.exit 5/\z=true/\∃k,q=(Ie d (ofNat dd.length) (.slice dd) i l k).al cO)∨(e=.ret/\z=false/\q=(pf v).al cO)) ((Ck d (ofNat dd.length) (.slice dd) i l 0).al cO))
  (e1:z=true->T .normal ((rQ d (ofNat dd.length) (.slice dd) (an .i64 (i+1))).al cO)) (e2:z=false->T .ret ((pf v).al cO)) :
  KD (roundOf Tryz.f38 1) T ((rQ d (ofNat dd.length) (.slice dd) i).al cO):=by
 refine aq [92] [93] (H:=Z6) (live:=lp) (ob f0 (oo hi ?_));refine lo hl ?_;rintro ex s (⟨rfl,rfl,⟨x0,rfl⟩⟩|⟨rfl,rfl,rfl⟩)
 ·refine⟨_,rfl,?_⟩;exact oe (e1 rfl)
 refine⟨_,rfl,?_⟩;exact oe (e2 rfl)
theorem Ve {d n:Int} {ds:ak} {i:Int} {T:ej} (f0:aF i n=false) (e:T (.exit 3) ((vp d n ds i).al cO)) :
  KD (roundOf Tryz.f38 1) T ((rQ d n ds i).al cO):=by
 exact aq [92] [] (H:=Z6) (live:=lp) (ob f0 (oe e))
theorem aaf {p sl d:Int} {es dd:List ak} {c1 c2 c3 c4 c5 c6 c7 c8 ok tr z okS:Bool} {v:Int} {s:kG}
  (k1:aF 40 d=c1) (k2:aF 200 sl=c2) (k5:aF p 0=c5) (k6:aF 6 p=c6) (k7:aF sl p=c7) (k3:aF 2000 (ofNat es.length)=c3) (k4:aF 2000 (ofNat dd.length)=c4) (k8:aB (ofNat es.length) 0=c8)
  (hl:c8=false->KD (.loop (roundOf Tryz.f38 0)) (fun e q=>(e=.exit 1/\ok=true/\∃i,q=(DJ (cC p sl (.slice es) (.slice dd)) d es i).al cO)∨(e=.ret/\ok=false/\q=(pf 2).al cO)) ((yZ (cC p sl (.slice es) (.slice dd)) d es 0).al cO))
  {op:Int} {lc:List ak} (hi:c8=false->ap ba 23 [.dat (.slice es),.dat (.flat (.int .i64 (an .i64 (ofNat es.length - 1))))]=some ⟨.ref (i64 op::lc),.keep⟩)
  (hs:ae 58 [iv op] (.tup [.dat s.enc,bv okS])) (hf:ok=true->ae 68 [.dat (aN p sl (.slice es) (.slice dd))] (bv tr))
  (he:c1=false->KD (.loop (roundOf Tryz.f38 1)) (fun e q=>(e=.exit 3/\z=true/\∃i,q=(vp d (ofNat dd.length) (.slice dd) i).al cO)∨(e=.ret/\z=false/\q=(pf v).al cO)) ((rQ d (ofNat dd.length) (.slice dd) 0).al cO)) :
  ae 38 [.dat (aN p sl (.slice es) (.slice dd)),iv d] (iv (nt c1 c2 c3 c4 c5 c6 c7 c8 ok s.fin tr (if z=true then 0 else v))):=by
 have q5:=@aO false 2 p sl (.slice es) (.slice dd) (.inr ⟨_,rfl⟩) (.inr ⟨_,rfl⟩);obtain⟨w,s1,s2,s3,s4,s5,s6,s7,s8,s9,s10,s11⟩:=s;refine co [16,20,26,32,37,41,48,54] [75,85] (x:=.of Tryz.f38 zZ lp) ?_;refine ob k1 ?_
 cases c1
 ·refine ob k2 ?_
  cases c2
  ·refine ob k3 ?_
   cases c3
   ·refine ob k4 ?_
    cases c4
    ·refine ob k5 ?_
     cases c5
     ·refine ob k6 ?_
      cases c6
      ·refine ob k7 ?_
       cases c7
       ·refine ob k8 ?_
        cases c8
        ·refine lo (hl rfl) ?_;rintro ex s (⟨rfl,rfl,⟨x0,rfl⟩⟩|⟨rfl,rfl,rfl⟩)
         ·refine⟨_,rfl,?_⟩;refine oo (hi rfl) (on hs ?_)
          cases s11
          ·exact fi
          refine oo q5 (on (hf rfl) ?_)
          cases tr
          ·refine lo (he rfl) ?_;rintro ex s (⟨rfl,rfl,⟨x1,rfl⟩⟩|⟨rfl,rfl,rfl⟩) <;>
           ·refine⟨_,rfl,?_⟩;exact fi
          exact fi
         refine⟨_,rfl,?_⟩;exact fi
        exact fi
       exact fi
      exact fi
     exact fi
    exact fi
   exact fi
  exact fi
 exact fi
theorem aag {p sl d:Int} {es dd:List ak} {c1 c2 c3 c4 c5 c6 c7 c8 ok tr z okS:Bool} {v:Int} {s:kG}
  (k1:aF 40 d=c1) (k2:aF 200 sl=c2) (k5:aF p 0=c5) (k6:aF 6 p=c6) (k7:aF sl p=c7) (k3:aF 2000 (ofNat es.length)=c3) (k8:aB (ofNat es.length) 0=c8)
  (hl:c8=false->KD (.loop (roundOf Tryz.f38 0)) (fun e q=>(e=.exit 1/\ok=true/\∃i,q=(DJ (cC p sl (.slice es) nl) d es i).al cO)∨(e=.ret/\ok=false/\q=(pf 2).al cO)) ((yZ (cC p sl (.slice es) nl) d es 0).al cO))
  {op:Int} {lc:List ak} (hi:c8=false->ap ba 23 [.dat (.slice es),.dat (.flat (.int .i64 (an .i64 (ofNat es.length - 1))))]=some ⟨.ref (i64 op::lc),.keep⟩)
  (hs:ae 58 [iv op] (.tup [.dat s.enc,bv okS])) (hf:ok=true->ae 68 [.dat (aN p sl (.slice es) nl)] (bv tr))
  (he:c1=false->KD (.loop (roundOf Tryz.f38 1)) (fun e q=>(e=.exit 3/\z=true/\∃i,q=(vp d 0 nl i).al cO)∨(e=.ret/\z=false/\q=(pf v).al cO)) ((rQ d 0 nl 0).al cO)) :
  ae 38 [.dat (aN p sl (.slice es) nl),iv d] (iv (nt c1 c2 c3 false c5 c6 c7 c8 ok s.fin tr (if z=true then 0 else v))):=by
 have q5:=@aO false 2 p sl (.slice es) nl (.inr ⟨_,rfl⟩) (.inl rfl);obtain⟨w,s1,s2,s3,s4,s5,s6,s7,s8,s9,s10,s11⟩:=s;refine co [16,20,26,37,41,48,54] [75,85] (x:=.of Tryz.f38 zZ lp) ?_;refine ob k1 ?_
 cases c1
 ·refine ob k2 ?_
  cases c2
  ·refine ob k3 ?_
   cases c3
   ·refine ob k5 ?_
    cases c5
    ·refine ob k6 ?_
     cases c6
     ·refine ob k7 ?_
      cases c7
      ·refine ob k8 ?_
       cases c8
       ·refine lo (hl rfl) ?_;rintro ex s (⟨rfl,rfl,⟨x0,rfl⟩⟩|⟨rfl,rfl,rfl⟩)
        ·refine⟨_,rfl,?_⟩;refine oo (hi rfl) (on hs ?_)
         cases s11
         ·exact fi
         refine oo q5 (on (hf rfl) ?_)
         cases tr
         ·refine lo (he rfl) ?_;rintro ex s (⟨rfl,rfl,⟨x1,rfl⟩⟩|⟨rfl,rfl,rfl⟩) <;>
          ·refine⟨_,rfl,?_⟩;exact fi
         exact fi
        refine⟨_,rfl,?_⟩;exact fi
       exact fi
      exact fi
     exact fi
    exact fi
   exact fi
  exact fi
 exact fi
theorem aah {p sl d:Int} {es dd:List ak} {c1 c2 c3 c4 c5 c6 c7 c8 ok tr z okS:Bool} {v:Int} {s:kG}
  (k1:aF 40 d=c1) (k2:aF 200 sl=c2) (k5:aF p 0=c5) (k6:aF 6 p=c6) (k7:aF sl p=c7) (k4:aF 2000 (ofNat dd.length)=c4) :
  ae 38 [.dat (aN p sl nl (.slice dd)),iv d] (iv (nt c1 c2 false c4 c5 c6 c7 true false false false 0)):=by
 refine co [16,20,32,37,41,48] [] (x:=.of Tryz.f38 zZ lp) ?_;refine ob k1 ?_
 cases c1
 ·refine ob k2 ?_
  cases c2
  ·refine ob k4 ?_
   cases c4
   ·refine ob k5 ?_
    cases c5
    ·refine ob k6 ?_
     cases c6
     ·refine ob k7 ?_
      cases c7 <;>
      ·exact fi
     exact fi
    exact fi
   exact fi
  exact fi
 exact fi
theorem aai {p sl d:Int} {es dd:List ak} {c1 c2 c3 c4 c5 c6 c7 c8 ok tr z okS:Bool} {v:Int} {s:kG}
  (k1:aF 40 d=c1) (k2:aF 200 sl=c2) (k5:aF p 0=c5) (k6:aF 6 p=c6) (k7:aF sl p=c7) :
  ae 38 [.dat (aN p sl nl nl),iv d] (iv (nt c1 c2 false false c5 c6 c7 true false false false 0)):=by
 refine co [16,20,37,41,48] [] (x:=.of Tryz.f38 zZ lp) ?_;refine ob k1 ?_
 cases c1
 ·refine ob k2 ?_
  cases c2
  ·refine ob k5 ?_
   cases c5
   ·refine ob k6 ?_
    cases c6
    ·refine ob k7 ?_
     cases c7 <;>
     ·exact fi
    exact fi
   exact fi
  exact fi
 exact fi
theorem aab {p sl:Int} {es dd:List ak} {c1 c2 c3 c4:Bool} (h1:aB p 0=c1) (h2:aB sl 0=c2) (h3:aB (ofNat es.length) 0=c3) (h4:aB (ofNat dd.length) 0=c4):ae 103 [.dat (aN p sl (.slice es) (.slice dd))] (bv (c1&&(c2&&(c3&&c4)))):=by
 refine co [5,9,15,21] [] (x:=.of Tryz.f103 vM uq) ?_;refine ob h1 ?_
 cases c1
 ·exact fi
 refine ob h2 ?_
 cases c2
 ·exact fi
 refine ob h3 ?_
 cases c3
 ·exact fi
 refine ob h4 ?_
 cases c4 <;>
 ·exact fi
theorem aac {p sl:Int} {es dd:List ak} {c1 c2 c3 c4:Bool} (h1:aB p 0=c1) (h2:aB sl 0=c2) (h3:aB (ofNat es.length) 0=c3):ae 103 [.dat (aN p sl (.slice es) nl)] (bv (c1&&(c2&&(c3&&true)))):=by
 refine co [5,9,15] [] (x:=.of Tryz.f103 vM uq) ?_;refine ob h1 ?_
 cases c1
 ·exact fi
 refine ob h2 ?_
 cases c2
 ·exact fi
 refine ob h3 ?_
 cases c3 <;>
 ·exact fi
theorem aad {p sl:Int} {es dd:List ak} {c1 c2 c3 c4:Bool} (h1:aB p 0=c1) (h2:aB sl 0=c2) (h4:aB (ofNat dd.length) 0=c4):ae 103 [.dat (aN p sl nl (.slice dd))] (bv (c1&&(c2&&(true&&c4)))):=by
 refine co [5,9,21] [] (x:=.of Tryz.f103 vM uq) ?_;refine ob h1 ?_
 cases c1
 ·exact fi
 refine ob h2 ?_
 cases c2
 ·exact fi
 refine ob h4 ?_
 cases c4 <;>
 ·exact fi
theorem aae {p sl:Int} {es dd:List ak} {c1 c2 c3 c4:Bool} (h1:aB p 0=c1) (h2:aB sl 0=c2):ae 103 [.dat (aN p sl nl nl)] (bv (c1&&(c2&&(true&&true)))):=by
 refine co [5,9] [] (x:=.of Tryz.f103 vM uq) ?_;refine ob h1 ?_
 cases c1
 ·exact fi
 refine ob h2 ?_
 cases c2 <;>
 ·exact fi
theorem SI {d v:Int} {ek:Int} {dn:List UInt8} {ar sk:Int} {sn:List UInt8} {six:Int} {da:ak} {con:Bool} {df:ak} {fu:List UInt8} {tk:Int} {tn:List UInt8} {tix:Int} {ta:ak} {pa cp cs:Int} {d1 d2:ak} {pk:List UInt8} (h1:dj da) (h2:dj df) (h3:dj ta) (h4:dj d1) (h5:dj d2) {c1 c2 c3 z:Bool} (k1:aF ek 1=c1) (k2:aF 5 ek=c2) (k3:aB ek 2=c3) (hz:ae 103 [.dat (aN cp cs d1 d2)] (bv z)) (hv:ae 38 [.dat (aN cp cs d1 d2),iv (an .i64 (d+1))] (iv v)) :
  ae 69 [.dat (B0 ek dn ar sk sn six da con df fu tk tn tix ta pa cp cs d1 d2 pk),iv d] (iv (sc c1 c2 c3 z v)):=by
 have q1:=@adN ek dn ar sk sn six _ con _ fu tk tn tix _ pa cp cs _ _ pk h1 h2 h3 h4 h5;have q2:=@QL false 2 ek dn ar sk sn six da con df fu tk tn tix ta pa cp cs _ _ pk h4 h5;clear h1 h2 h3 h4 h5;refine co [8,12,17,27] [2,29,20] (x:=.of Tryz.f69 Pu Qt) ?_;refine oo q1 (ob k1 ?_)
 cases c1
 ·refine ob k2 ?_
  cases c2
  ·refine ox k3 ?_
   cases c3
   ·refine oo q2 (on hz ?_)
    cases z
    ·exact fi
    exact ox k3 fi
   exact ox k3 (oo q2 (on hv fi))
  exact fi
 exact fi
theorem gM.yH (pa sl:Int) (iz:Bool) (ins:List Ins) (ez:Bool) (cD:List (List fG)) (d:Nat):gM.val (.mk pa sl iz ins ez cD) d=C0 d pa sl ins cD.length (kB cD d):=by rw[gM.val]
theorem fG.yH (k:Int) (dc:vh) (f:List UInt8) (sg:Ty) (pa:Int) (c:gM) (pk:List UInt8) (d:Nat):fG.val (.mk k dc f sg pa c pk) d=sc (aF k 1) (aF 5 k) (aB k 2) c.zero (c.val (d+1)):=by rw[fG.val]
mutual
def gM.ok:gM->Prop
 | .mk _ _ _ ins _ cD=>(∀x∈ins,x.gN)/\ins.length < 1000000/\cD.length < 1000000/\nj cD
def nj:List (List fG)->Prop
 | []=>True
 | l::r=>l.length < 1000000/\Ss l/\nj r
def Ss:List fG->Prop
 | []=>True
 | e::r=>e.ok/\Ss r
def fG.ok:fG->Prop
 | .mk _ d _ s _ c _=>d.gN/\s.gN/\c.ok
end
theorem Al:∀{l:List (List fG)},nj l->∀x∈l,x.length < 1000000/\Ss x
 | [],_,x,hx=>by simp at hx
 | a::r,h,x,hx=>by
  simp only[nj] at h
  rcases List.mem_cons.1 hx with rfl|hx
  ·exact⟨h.1,h.2.1⟩
  exact Al h.2.2 x hx
theorem NI {p sl d:Int} {ins:List Ins} {ez:Bool} {ed:List ak} (hx:∀x∈ins,x.gN) (hn:ins.length < 1000000) :
  KD (.loop (roundOf Tryz.f38 0)) (fun e q=>(e=.exit 1/\ins.all (fun x=>iJ (ofNat ins.length) (ofNat ed.length) sl x)=true/\∃i,q=(DJ (cC p sl (.slice (encI ins)) (sx ez ed)) d (encI ins) i).al cO)∨(e=.ret/\ins.all (fun x=>iJ (ofNat ins.length) (ofNat ed.length) sl x)=false/\q=(pf 2).al cO))
   ((yZ (cC p sl (.slice (encI ins)) (sx ez ed)) d (encI ins) 0).al cO):=by
 have hlen:(encI ins).length=ins.length:=bH ins;refine cV (St:=fun i=>(yZ (cC p sl (.slice (encI ins)) (sx ez ed)) d (encI ins) (ofNat i)).al cO) (fun i=>ins.all (fun x=>iJ (ofNat ins.length) (ofNat ed.length) sl x)=(ins.drop i).all (fun x=>iJ (ofNat ins.length) (ofNat ed.length) sl x)) ins.length ?_ ?_ (i:=0) (Nat.zero_le _) rfl
 ·intro i hi hI;have hg:ins[i]?=some ins[i]:=List.getElem?_eq_getElem hi;have hm:ins[i]∈ins:=List.getElem_mem hi;have hd:(ins.drop i).all (fun x=>iJ (ofNat ins.length) (ofNat ed.length) sl x)=(iJ (ofNat ins.length) (ofNat ed.length) sl ins[i]&&(ins.drop (i+1)).all (fun x=>iJ (ofNat ins.length) (ofNat ed.length) sl x)):=by rw[List.drop_eq_getElem_cons hi];rfl
  generalize ins[i]=x at hg hd hm;rw[←hI] at hd;have hw:an .i64 (ofNat i+1)=ofNat (i+1):=bb (by omega);have hv:=@ER p sl (encI ins) ed ez _ (hx x hm);rw[hlen] at hv;have hi2:=xn hg;generalize iJ (ofNat ins.length) (ofNat ed.length) sl x=b at hv hd;obtain⟨op,dst,a,b',im,nm,az,ar,⟨xk,tn,ix,la⟩,ck,ci,cs⟩:=x;refine aeo (dq ez ed) (dq az (ar.map iN)) (dr (ax la)) (br (by rw[hlen];exact hi)) hi2 hv ?_ ?_
  ·rintro rfl;rw[hw];exact⟨rfl,hd⟩
  rintro rfl;exact .inr ⟨rfl,hd,rfl⟩
 intro hI;have h1:ins.all (fun x=>iJ (ofNat ins.length) (ofNat ed.length) sl x)=true:=by rw[hI,List.drop_length];rfl
 exact aaj (cj (by rw[hlen];omega)) (.inl ⟨rfl,h1,_,rfl⟩)
theorem Hi {l:List fG} {k:Nat} {e:fG} {d:Nat} (h:l[k]?=some e):uP (l.drop k) d=if aB (e.val d) 0=true then uP (l.drop (k+1)) d else e.val d:=by
 have hk:=(List.getElem?_eq_some_iff.1 h).1;rw[List.drop_eq_getElem_cons hk]
 have:l[k]=e:=by rw[List.getElem?_eq_getElem hk] at h;exact Option.some.inj h
 rw[this,uP]
theorem Db {l:List (List fG)} {k:Nat} {e:List fG} {d:Nat} (h:l[k]?=some e):kB (l.drop k) d=if aB (uP e d) 0=true then kB (l.drop (k+1)) d else uP e d:=by
 have hk:=(List.getElem?_eq_some_iff.1 h).1;rw[List.drop_eq_getElem_cons hk]
 have:l[k]=e:=by rw[List.getElem?_eq_getElem hk] at h;exact Option.some.inj h
 rw[this,kB]
theorem NJ {d:Nat} {n:Int} {ds:ak} {i:Int} {l:List fG} (hn:l.length < 1000000) (hv:∀e∈l,ae 69 [.dat e.enc,iv (ofNat d)] (iv (e.val d))) :
  KD (.loop (roundOf Tryz.f38 2)) (fun e q=>(e=.exit 5/\aB (uP l d) 0=true/\∃k,q=(Ie (ofNat d) n ds i (ir l) k).al cO)∨(e=.ret/\aB (uP l d) 0=false/\q=(pf (uP l d)).al cO))
   ((Ck (ofNat d) n ds i (ir l) 0).al cO):=by
 have hlen:(ir l).length=l.length:=xB l;refine cV (St:=fun k=>(Ck (ofNat d) n ds i (ir l) (ofNat k)).al cO) (fun k=>uP l d=uP (l.drop k) d) l.length ?_ ?_ (i:=0) (Nat.zero_le _) rfl
 ·intro k hk hI;have hg:l[k]?=some l[k]:=List.getElem?_eq_getElem hk;have hm:l[k]∈l:=List.getElem_mem hk;generalize l[k]=e at hg hm;rw[Hi hg] at hI;have hv1:=hv e hm;have hi2:=VS hg;have hw:an .i64 (ofNat k+1)=ofNat (k+1):=bb (by omega);generalize e.val d=v at hv1 hI;obtain⟨ek,⟨dn,ar,⟨sk,sn,six,sa⟩,con,fl⟩,fu,⟨tk,tn,tix,ta⟩,pa,⟨cp,cs,iz,ins,ez,cD⟩,pk⟩:=e;have hi3:ap ba _ [.dat (.slice (ir l)),.dat (.flat (.int .i64 (ofNat k)))]=some ⟨.ref [i64 ek,sb dn,i64 ar,i64 sk,sb sn,i64 six,sl (ax sa),bl con,sl (BZ fl),sb fu,i64 tk,sb tn,i64 tix,sl (ax ta),i64 pa,i64 cp,i64 cs,sx iz (encI ins),sx ez (aG cD),sb pk],.keep⟩:=hi2;have hv2:ae 69 [.dat (B0 ek dn ar sk sn six (sl (ax sa)) con (sl (BZ fl)) fu tk tn tix (sl (ax ta)) pa cp cs (sx iz (encI ins)) (sx ez (aG cD)) pk),iv (ofNat d)] (iv v):=hv1;refine aep (dr _) (dr _) (dr _) (dq _ _) (dq _ _) (br (by rw[hlen];exact hk)) hi3 hv2 rfl ?_ ?_
  ·intro h;rw[hw];refine⟨rfl,?_⟩;rw[hI,h];rfl
  intro h;rw[h] at hI
  have:uP l d=v:=hI
  rw[this];exact .inr ⟨rfl,h,rfl⟩
 intro hI;rw[List.drop_length] at hI;have h1:aB (uP l d) 0=true:=by rw[hI,uP];rfl
 exact aak (cj (by rw[hlen];omega)) (.inl ⟨rfl,h1,_,rfl⟩)
theorem NK {d:Nat} {dd:List (List fG)} (hn:dd.length < 1000000) (hl:∀l∈dd,l.length < 1000000) (hv:∀l∈dd,∀e∈l,ae 69 [.dat e.enc,iv (ofNat d)] (iv (e.val d))) :
  KD (.loop (roundOf Tryz.f38 1)) (fun e q=>(e=.exit 3/\aB (kB dd d) 0=true/\∃i,q=(vp (ofNat d) (ofNat (aG dd).length) (.slice (aG dd)) i).al cO)∨(e=.ret/\aB (kB dd d) 0=false/\q=(pf (kB dd d)).al cO))
   ((rQ (ofNat d) (ofNat (aG dd).length) (.slice (aG dd)) 0).al cO):=by
 have hlen:(aG dd).length=dd.length:=dJ dd;refine cV (St:=fun k=>(rQ (ofNat d) (ofNat (aG dd).length) (.slice (aG dd)) (ofNat k)).al cO) (fun k=>kB dd d=kB (dd.drop k) d) dd.length ?_ ?_ (i:=0) (Nat.zero_le _) rfl
 ·intro k hk hI;have hg:dd[k]?=some dd[k]:=List.getElem?_eq_getElem hk;have hm:dd[k]∈dd:=List.getElem_mem hk;generalize dd[k]=l at hg hm;rw[Db hg] at hI;have hw:an .i64 (ofNat k+1)=ofNat (k+1):=bb (by omega);have hF:=@NJ d (ofNat (aG dd).length) (.slice (aG dd)) (ofNat k) _ (hl l hm) (hv l hm);refine aeq (br (by rw[hlen];exact hk)) (VT hg) hF ?_ ?_
  ·intro h;rw[hw];refine⟨rfl,?_⟩;rw[hI,h];rfl
  intro h;rw[h] at hI
  have:kB dd d=uP l d:=hI
  rw[this];exact .inr ⟨rfl,h,rfl⟩
 intro hI;rw[List.drop_length] at hI;have h1:aB (kB dd d) 0=true:=by rw[hI,kB];rfl
 exact Ve (cj (by rw[hlen];omega)) (.inl ⟨rfl,h1,_,rfl⟩)
theorem L1 {d n:Int} {ds:ak} (h:aF 0 n=false) :
  KD (.loop (roundOf Tryz.f38 1)) (fun e q=>e=.exit 3/\∃i,q=(vp d n ds i).al cO) ((rQ d n ds 0).al cO):=by
 refine bm (St:=fun _=>(rQ d n ds 0).al cO) 0 (fun i hi=>absurd hi (by omega)) ?_ (i:=0) (Nat.le_refl _);exact Ve h ⟨rfl,_,rfl⟩
theorem J0 (c:gM):ae 103 [.dat c.enc] (bv c.zero):=by
 obtain⟨pa,sl,iz,ins,ez,cD⟩:=c;have h1:ofNat (encI ins).length=ofNat ins.length:=by rw[bH]
 have h2:ofNat (aG cD).length=ofNat cD.length:=by rw[dJ]
 have ss:=fun (es dd:List ak)=>@aab pa sl es dd _ _ _ _ rfl rfl rfl rfl
 have key:∀(a b:ak),(a=.slice (encI ins)∨(a=nl/\ins=[]))->(b=.slice (aG cD)∨(b=nl/\cD=[]))->ae 103 [.dat (aN pa sl a b)] (bv (gM.zero (.mk pa sl iz ins ez cD))):=by
  rintro a b (rfl|⟨rfl,rfl⟩) (rfl|⟨rfl,rfl⟩)
  ·have:=ss (encI ins) (aG cD)
   rw[h1,h2] at this;exact this
  ·have:=@aac pa sl (encI ins) [] _ _ _ true rfl rfl rfl
   rw[h1] at this;exact this
  ·have:=@aad pa sl [] (aG cD) _ _ true _ rfl rfl rfl
   rw[h2] at this;exact this
  exact @aae pa sl [] [] _ _ true true rfl rfl
 refine key (sx iz (encI ins)) (sx ez (aG cD)) ?_ ?_
 ·cases ins with
  | nil=>cases iz with
   | true=>exact .inl (by simp[encI,sx])
   | false=>exact .inr ⟨rfl,rfl⟩
  | cons x r=>exact .inl (by simp[encI,sx])
 cases cD with
 | nil=>cases ez with
  | true=>exact .inl (by simp[aG,sx])
  | false=>exact .inr ⟨by simp[aG,sx],rfl⟩
 | cons x r=>exact .inl (by simp[aG,sx])
theorem jG (z:Bool) (l:List ak):sx z l=.slice l∨(sx z l=nl/\l=[]):=by
 cases l with
 | nil=>cases z with
  | true=>exact .inl rfl
  | false=>exact .inr ⟨rfl,rfl⟩
 | cons x r=>exact .inl rfl
theorem Gy {d:Nat} (h:aF 40 (ofNat d)=false):d<=40:=by
 rw[dA] at h;simp only[decide_eq_false_iff_not,Int.ofNat_eq_natCast] at h;omega
theorem EQ {pa sl:Int} {iz ez:Bool} {ins:List Ins} {cD:List (List fG)} {d:Nat} (hx:∀x∈ins,x.gN) (hn:ins.length < 1000000) (hne:cD.length < 1000000) (hl:∀l∈cD,l.length < 1000000)
  (hv:d<=40->∀l∈cD,∀e∈l,ae 69 [.dat e.enc,iv (ofNat d)] (iv (e.val d))) :
  ae 38 [.dat (gM.enc (.mk pa sl iz ins ez cD)),iv (ofNat d)] (iv (gM.val (.mk pa sl iz ins ez cD) d)):=by
 have h1:ofNat (encI ins).length=ofNat ins.length:=by rw[bH]
 have h2:ofNat (aG cD).length=ofNat cD.length:=by rw[dJ]
 have e0:gM.enc (.mk pa sl iz ins ez cD)=aN pa sl (sx iz (encI ins)) (sx ez (aG cD)):=rfl;rw[e0,gM.yH]
 rcases jG iz (encI ins) with hi|⟨hi,hi0⟩
 ·rw[hi];have hlI:=@NI pa sl (ofNat d) _ ez (aG cD) hx hn;rw[h2] at hlI;have hidx:∀c8:Bool,aB (ofNat ins.length) 0=c8->∃(op:Int) (lc:List ak),(c8=false->ap ba 23 [.dat (.slice (encI ins)),.dat (.flat (.int .i64 (an .i64 (ofNat (encI ins).length - 1))))]=some ⟨.ref (i64 op::lc),.keep⟩)/\oC ins=(lU (eO op)).fin:=by
   intro c8 hc
   cases c8
   ·have hp:0 < ins.length:=by
     rcases Nat.eq_zero_or_pos ins.length with h|h
     ·rw[h] at hc;simp[cN] at hc
     exact h
    have hg:ins[ins.length - 1]?=some ins[ins.length - 1]:=List.getElem?_eq_getElem (by omega);have hw:an .i64 (ofNat (encI ins).length - 1)=ofNat (ins.length - 1):=by
     rw[h1,cQ,show ofNat ins.length - 1=ofNat (ins.length - 1) by simp;omega];exact wrap_i64 (by show _<=((ins.length - 1:Nat):Int);omega) (by show ((ins.length - 1:Nat):Int)<=_;omega)
    have hf:oC ins=(lU (eO ins[ins.length - 1].op)).fin:=by unfold oC;rw[hg]
    generalize ins[ins.length - 1]=x at hg hf;have hi2:=xn hg;rw[←hw] at hi2;obtain⟨op,dst,a,b',im,nm,az,ar,⟨xk,tn,ix,la⟩,ck,ci,cs⟩:=x;exact⟨op,_,fun _=>hi2,hf⟩
   have:ins=[]:=by
    cases ins with
    | nil=>rfl
    | cons a r=>exact absurd hc (by simp[cN];omega)
   subst this;exact⟨0,[],fun h=>by simp at h,rfl⟩
  obtain⟨op,lc,hop,hfin⟩:=hidx _ rfl;have hfr:∀ok:Bool,ins.all (fun x=>iJ (ofNat ins.length) (ofNat cD.length) sl x)=ok->(ok=true->ae 68 [.dat (aN pa sl (.slice (encI ins)) (sx ez (aG cD)))] (bv (lO ins))):=by
   intro ok h1 h2;rw[h2] at h1;exact ZT (dq ez (aG cD)) (Gk h1) hn
  have hz:∀v:Int,(if aB v 0=true then (0:Int) else v)=v:=by
   intro v
   split
   ·rename_i h;rw[cN] at h;simpa using (beq_iff_eq.1 h).symm
   rfl
  rcases jG ez (aG cD) with he|⟨he,he0⟩
  ·rw[he] at hlI hfr ⊢;have hE:=fun hc:aF 40 (ofNat d)=false=>NK (d:=d) hne hl (hv (Gy hc))
   have:=aaf (p:=pa) (sl:=sl) (d:=ofNat d) (es:=encI ins) (dd:=aG cD) rfl rfl rfl rfl rfl (by rw[h1]) (by rw[h2]) (by rw[h1]) (fun _=>hlI) hop (uT op) (hfr _ rfl) hE
   rw[hz,←hfin] at this;exact this
  rw[he] at hlI hfr ⊢;have hed:cD=[]:=by
   cases cD with
   | nil=>rfl
   | cons a r=>simp[aG] at he0
  subst hed;have hE:=@L1 (ofNat d) 0 nl rfl;have hE2:KD (.loop (roundOf Tryz.f38 1)) (fun e q=>(e=.exit 3/\true=true/\∃i,q=(vp (ofNat d) 0 nl i).al cO)∨(e=.ret/\true=false/\q=(pf 0).al cO)) ((rQ (ofNat d) 0 nl 0).al cO):=hE.mono (by rintro e q ⟨h1,h2⟩;exact .inl ⟨h1,rfl,h2⟩)
  have:=@aag pa sl (ofNat d) (encI ins) [] _ _ _ true _ _ _ _ _ _ _ _ _ _ rfl rfl rfl rfl rfl (by rw[h1]) (by rw[h1]) (fun _=>hlI) _ _ hop (uT op) (hfr _ rfl) (fun _=>hE2)
  rw[←hfin] at this;exact this
 rw[hi];have hins:ins=[]:=by
  cases ins with
  | nil=>rfl
  | cons a r=>simp[encI] at hi0
 subst hins;have hh:∀c4:Bool,aF 2000 (ofNat cD.length)=c4->C0 d pa sl [] cD.length (kB cD d)=nt (aF 40 (ofNat d)) (aF 200 sl) false c4 (aF pa 0) (aF 6 pa) (aF sl pa) true false false false 0:=by
  intro c4 h;subst h;unfold C0 nt;have e1:aB (ofNat ([]:List Ins).length) 0=true:=rfl;have e2:aF 2000 (ofNat ([]:List Ins).length)=false:=rfl;rw[e1,e2];simp only[Bool.or_true,if_true]
 rw[hh _ rfl]
 rcases jG ez (aG cD) with he|⟨he,he0⟩
 ·rw[he]
  have:=@aah pa sl (ofNat d) [] (aG cD) _ _ true _ _ _ _ true true true true true 0 kG.zero rfl rfl rfl rfl rfl rfl
  rw[h2] at this;exact this
 rw[he];have hed:cD=[]:=by
  cases cD with
  | nil=>rfl
  | cons a r=>simp[aG] at he0
 subst hed;exact @aai pa sl (ofNat d) [] [] _ _ true true _ _ _ true true true true true 0 kG.zero rfl rfl rfl rfl rfl
mutual
theorem oW:∀(c:gM) (d:Nat),c.ok->d<=41->ae 38 [.dat c.enc,iv (ofNat d)] (iv (c.val d))
 | .mk pa sl iz ins ez cD,d,h,hd=>by
  simp only[gM.ok] at h;obtain⟨h1,h2,h3,h4⟩:=h;exact EQ h1 h2 h3 (fun l hl=>(Al h4 l hl).1) (fun hd2=>Hy cD d h4 hd2)
theorem Hy:∀(l:List (List fG)) (d:Nat),nj l->d<=40->∀x∈l,∀e∈x,ae 69 [.dat e.enc,iv (ofNat d)] (iv (e.val d))
 | [],_,_,_,x,hx,_,_=>by simp at hx
 | a::r,d,h,hd,x,hx,e,he=>by
  simp only[nj] at h
  rcases List.mem_cons.1 hx with hx|hx
  ·rw[hx] at he;exact LU a d h.2.1 hd e he
  exact Hy r d h.2.2 hd x hx e he
theorem LU:∀(l:List fG) (d:Nat),Ss l->d<=40->∀e∈l,ae 69 [.dat e.enc,iv (ofNat d)] (iv (e.val d))
 | [],_,_,_,e,he=>by simp at he
 | a::r,d,h,hd,e,he=>by
  simp only[Ss] at h
  rcases List.mem_cons.1 he with he|he
  ·rw[he];exact Hw a d h.1 hd
  exact LU r d h.2 hd e he
theorem Hw:∀(e:fG) (d:Nat),e.ok->d<=40->ae 69 [.dat e.enc,iv (ofNat d)] (iv (e.val d))
 | .mk ek ⟨dn,ar,⟨sk,sn,six,sa⟩,con,fl⟩ fu ⟨tk,tn,tix,ta⟩ pa c pk,d,h,hd=>by
  simp only[fG.ok] at h;have hw:an .i64 (ofNat d+1)=ofNat (d+1):=bb (by omega);have hc:=oW c (d+1) h.2.2 (by omega);have hz:=J0 c;rw[←hw] at hc;rw[fG.yH];generalize c.val (d+1)=v at hc;generalize c.zero=z at hz;obtain⟨cp,cs,iz,ins,ez,cD⟩:=c
  have:=@SI (ofNat d) _ ek dn ar sk sn six _ con _ fu tk tn tix _ pa _ _ _ _ pk (dr (ax sa)) (dr (BZ fl)) (dr (ax ta)) (dq iz (encI ins)) (dq ez (aG cD)) _ _ _ _ rfl rfl rfl hz hc
  exact this
end
theorem qo (x:Ins):x.enc.cells.length=15:=sT x
theorem uO (a b:List Ins):encI (a++b)=encI a++encI b:=by simp[gR]
theorem sW (l:List Ins):sizedB 15 (encI l)=true:=kM (fun d hd=>by
 rw[gR] at hd;obtain⟨t,_,rfl⟩:=List.mem_map.1 hd;exact qo t)
theorem JU (l:List Ins):fy (encI l)=false:=by
 cases l with
 | nil=>rfl
 | cons t r=>rfl
theorem V7 {pre:List Ins} {x:Ins} (hl:pre.length < 1000000):bB ba false 23 [.own (encI pre),.dat (.slice [x.enc])] none=some ⟨.own (encI (pre++[x])),.keep⟩:=by
 rw[uO];refine uX (i:=rE) (ds:=[x.enc]) (k:=14) DD rfl kJ ?_ ?_ (by kernel_rfl) ?_ ?_ ?_ (by simp)
 ·exact sW [x]
 ·exact sW pre
 ·have h1:rE.bytes<=1000:=fD (by kernel_rfl);rw[bH]
  calc (pre.length+1)*rE.bytes<=1000000000*1000:=Nat.mul_le_mul (by omega) h1
   _<=140737488355328:=by decide
 ·rw[bH];simp[lim];omega
 unfold jr;rw[show encI pre++[x.enc]=encI (pre++[x]) by rw[uO];rfl,JU]
theorem wv (a b:List (List fG)):aG (a++b)=aG a++aG b:=by simp[nC]
theorem qA (l:List (List fG)):sizedB 1 (aG l)=true:=kM (fun d hd=>by
 rw[nC] at hd;obtain⟨t,_,rfl⟩:=List.mem_map.1 hd;rfl)
theorem xC (l:List (List fG)):fy (aG l)=false:=by
 cases l with
 | nil=>simp[aG,fy]
 | cons t r=>rw[aG];rfl
theorem Sf {pre:List (List fG)} {x:List fG} (hl:pre.length < 1000000):bB ba false 24 [.own (aG pre),.dat (.slice [.slice (ir x)])] none=some ⟨.own (aG (pre++[x])),.keep⟩:=by
 have e1:aG [x]=[.slice (ir x)]:=by rw[aG,aG]
 rw[wv,e1];refine uX (i:=Fc) (ds:=[.slice (ir x)]) (k:=0) DF rfl qU ?_ ?_ (by kernel_rfl) ?_ ?_ ?_ (by simp)
 ·rw[←e1];exact qA [x]
 ·exact qA pre
 ·have h1:Fc.bytes<=1000:=fD (by kernel_rfl);rw[dJ]
  calc (pre.length+1)*Fc.bytes<=1000000000*1000:=Nat.mul_le_mul (by omega) h1
   _<=140737488355328:=by decide
 ·rw[dJ];simp[lim];omega
 unfold jr;rw[show aG pre++[.slice (ir x)]=aG (pre++[x]) by rw[wv,e1],xC]
structure aeb (c:gM):Prop where
 ok:c.ok
 ez:c.ez=false
 iz:c.iz=false
 pa:∃n:Nat,c.pa=ofNat n/\n<=2
 len:2<=c.ins.length/\c.ins.length<=10
 elen:c.cD.length<=2
 gen:∀x∈c.ins,x.gen
def GCd (l:List Int) (dp:Int):Prop:=∀k,k<=l.length->∃(c:gM) (k2:Nat),aeb c/\BG l k k2/\KC 9 [cq,iv dp] (cW (l.map iN) (ofNat k)) 1 (XQ ⟨.dat c.enc,cW (l.map iN) (ofNat k2),1⟩)
def GEd (l:List Int) (dp:Int):Prop:=∀k,k<=l.length->∃(e:fG) (k2:Nat),e.ok/\BG l k k2/\SA (l.map iN) dp (ofNat k) e.enc (ofNat k2)
def fZ (es:List fG):List (List fG):=es.map (fun e=>[e])
theorem E5:∀{es:List fG},(∀e∈es,e.ok)->nj (fZ es)
 | [],_=>by simp[fZ,nj]
 | e::r,h=>by
  show nj ([e]::fZ r);simp only[nj,Ss];exact⟨by simp,⟨h e (by simp),trivial⟩,E5 (fun x hx=>h x (by simp[hx]))⟩
theorem AN {l:List Int} {dp:Int} {m:Nat} (hl:l.length < 10000000) (hm1:m<=1) (hm:Nx ba [iv dp,iv 1]=some ⟨iv (ofNat m),.keep⟩) (hE:0 < m->GEd l (an .i64 (dp - 1))):GCd l dp:=by
 intro k hk;have hb:l.length < 1000000000:=by omega
 obtain⟨pa,k1,⟨hpa,a1,a2,_⟩,h1⟩:=aR (n:=3) hb hk (by omega) (by omega);obtain⟨x,k2,⟨hx,b1,b2,_⟩,h2⟩:=aR (n:=4) hb a2 (by omega) (by omega);obtain⟨y,k3,⟨hy,c1,c2,_⟩,h3⟩:=aR (n:=3) hb b2 (by omega) (by omega);have hs:an .i64 (an .i64 (ofNat pa+1)+ofNat x)=ofNat (pa+1+x):=by
  rw[show an .i64 (ofNat pa+1)=ofNat (pa+1) from bb (by omega),cQ];exact wrap_i64 (by simp;omega) (by simp;omega)
 have hym:an .i64 (ofNat y*ofNat m)=ofNat (y*m):=by
  rw[cQ,show ofNat y*ofNat m=ofNat (y*m) from rfl]
  have:y*m<=2*1:=Nat.mul_le_mul (by omega) hm1
  exact wrap_i64 (by show _<=((y*m:Nat):Int);omega) (by show ((y*m:Nat):Int)<=_;omega)
 obtain⟨n0,hn0⟩:∃n0,y*m=n0:=⟨_,rfl⟩;have hn2:n0<=2:=by
  have:y*m<=2*1:=Nat.mul_le_mul (by omega) hm1
  omega
 -- the edits
 obtain⟨es,ks,e1,e2,e3,e4⟩:∃(es:List fG) (ks:Nat->Nat),es.length=n0/\ks 0=k3/\(∀i,i<=n0->BG l k3 (ks i))/\∀i e,es[i]?=some e->e.ok/\SA (l.map iN) (an .i64 (dp - 1)) (ofNat (ks i)) e.enc (ofNat (ks (i+1))):=by
  rcases Nat.eq_zero_or_pos n0 with h0|h0
  ·exact⟨[],fun _=>k3,by simp[h0],rfl,fun i _=>⟨Nat.le_refl _,c2⟩,fun i e h=>by simp at h⟩
  have hmp:0 < m:=by
   rcases Nat.eq_zero_or_pos m with h|h
   ·rw[h,Nat.mul_zero] at hn0;omega
   exact h
  exact wy (R:=fun k (e:fG) k2=>e.ok/\SA (l.map iN) (an .i64 (dp - 1)) (ofNat k) e.enc (ofNat k2)) (fun k hk=>by
   obtain⟨e,k2,q1,q2,q3⟩:=hE hmp k hk;exact⟨e,k2,q2,q1,q3⟩) c2 n0
 have hEl:KD (.loop (roundOf Tryz.f9 0)) (fun e q=>e=.exit 0/\q=(Oh (l.map iN) (ofNat (ks n0)) (ofNat pa) (an .i64 (an .i64 (ofNat pa+1)+ofNat x)) dp (dS (aG (fZ es))) 0).al pE)
   ((Mg (l.map iN) (ofNat k3) (ofNat pa) (an .i64 (an .i64 (ofNat pa+1)+ofNat x)) dp (dS []) (an .i64 (ofNat y*ofNat m))).al pE):=by
  rw[hym,hn0,←e2];have e0:(dS []:ac)=dS (aG (fZ (es.take 0))):=by rw[List.take_zero];simp[fZ,aG]
  rw[e0];refine bm (St:=fun j=>(Mg (l.map iN) (ofNat (ks j)) (ofNat pa) (an .i64 (an .i64 (ofNat pa+1)+ofNat x)) dp (dS (aG (fZ (es.take j)))) (ofNat (n0 - j))).al pE) n0 ?_ ?_ (i:=0) (Nat.zero_le _)
  ·intro j hj;have hg:es[j]?=some es[j]:=List.getElem?_eq_getElem (by omega);have ht:es.take (j+1)=es.take j++[es[j]]:=List.take_succ_eq_append_getElem (by omega);generalize es[j]=e at hg ht;obtain⟨hok,hcall⟩:=e4 j e hg;have hw:an .i64 (ofNat (n0 - j) - 1)=ofNat (n0 - (j+1)):=by
    rw[cQ,show ofNat (n0 - j) - 1=ofNat (n0 - (j+1)) by simp;omega];exact wrap_i64 (by show _<=((n0 - (j+1):Nat):Int);omega) (by show ((n0 - (j+1):Nat):Int)<=_;omega)
   have happ:=Sf (pre:=fZ (es.take j)) (x:=[e]) (by rw[fZ,List.length_map,List.length_take];omega);have hwr:fZ (es.take (j+1))=fZ (es.take j)++[[e]]:=by rw[ht];simp[fZ]
   have hpost:(ac.own (aG (fZ (es.take j)++[[e]])))=dS (aG (fZ (es.take (j+1)))):=by
    rw[hwr,yo];rw[wv];rw[aG];simp
   have h0:aF 0 (ofNat (n0 - j))=true:=br (i:=0) (L:=n0 - j) (by omega);have e1:ir [e]=[e.enc]:=by simp[ir,fG.enc]
   rw[e1] at happ;clear ht hwr;obtain⟨ek,⟨dn,ar,⟨sk,sn,six,sa⟩,con,fl⟩,fu,⟨tk,tn,tix,ta⟩,pb,⟨cp,cs,iz,ins,ez,cD⟩,pk⟩:=e;refine Q5 h0 (dr (ax sa)) (dr (BZ fl)) (dr (ax ta)) (dq iz (encI ins)) (dq ez (aG cD)) hcall happ ?_;rw[hw,hpost];exact rfl
  rw[Nat.sub_self];refine Ut rfl ?_;rw[List.take_of_length_le (by omega)];exact⟨rfl,rfl⟩
 have hk4:=(e3 n0 (Nat.le_refl _)).top;obtain⟨z,k5,⟨hz,f1,f2,_⟩,h4⟩:=aR (n:=9) hb hk4 (by omega) (by omega);have hcnt:an .i64 (2+ofNat z)=ofNat (2+z):=by
  rw[cQ];exact wrap_i64 (by simp;omega) (by simp;omega)
 have hcnt2:an .i64 (ofNat (2+z) - 1)=ofNat (1+z):=by
  rw[cQ,show ofNat (2+z) - 1=ofNat (1+z) by simp;omega];exact wrap_i64 (by simp;omega) (by simp;omega)
 -- the instructions
 obtain⟨s0,hs0⟩:∃s0,pa+1+x=s0:=⟨_,rfl⟩;rw[hs0] at hs;have hs1:0 < s0/\s0 < 1000000:=by omega
 obtain⟨xs,js,i1,i2,i3,i4⟩:=wy (R:=fun k xi k2=>Ins.gen xi/\tf (l.map iN) (ofNat s0) (ofNat (2+z)) (ofNat es.length) (ofNat k) (Ins.enc xi) (ofNat k2)) (fun k hk=>by
  obtain⟨xi,k2,q1,q2,q3⟩:=@Uu _ s0 (2+z) es.length _ hl hk hs1.1 hs1.2 (by omega) (by omega) (by omega);exact⟨xi,k2,q2,q1,q3⟩) f2 (1+z)
 have hdl:(aG (fZ es)).length=es.length:=by rw[dJ];exact List.length_map _
 have hIl:KD (.loop (roundOf Tryz.f9 1)) (fun e q=>e=.exit 2/\q=(Og (l.map iN) (ofNat (js (1+z))) (ofNat pa) (an .i64 (an .i64 (ofNat pa+1)+ofNat x)) (dS (encI xs)) (dS (aG (fZ es))) (an .i64 (2+ofNat z)) (ofNat (1+z))).al pE)
   ((Mf (l.map iN) (ofNat k5) (ofNat pa) (an .i64 (an .i64 (ofNat pa+1)+ofNat x)) (dS []) (dS (aG (fZ es))) (an .i64 (2+ofNat z)) 0).al pE):=by
  rw[hs,hcnt,←i2];have e0:(dS []:ac)=dS (encI (xs.take 0)):=by rw[List.take_zero];rfl
  rw[e0];refine bm (St:=fun j=>(Mf (l.map iN) (ofNat (js j)) (ofNat pa) (ofNat s0) (dS (encI (xs.take j))) (dS (aG (fZ es))) (ofNat (2+z)) (ofNat j)).al pE) (1+z) ?_ ?_ (i:=0) (Nat.zero_le _)
  ·intro j hj;have hg:xs[j]?=some xs[j]:=List.getElem?_eq_getElem (by omega);have ht:xs.take (j+1)=xs.take j++[xs[j]]:=List.take_succ_eq_append_getElem (by omega);generalize xs[j]=xi at hg ht;obtain⟨_,hcall⟩:=i4 j xi hg;have hw:an .i64 (ofNat j+1)=ofNat (j+1):=bb (by omega);have happ:=V7 (pre:=xs.take j) (x:=xi) (by rw[List.length_take];omega);have hpost:(ac.own (encI (xs.take j++[xi])))=dS (encI (xs.take (j+1))):=by
    rw[ht,yo];rw[uO];simp[encI]
   rw[←hdl] at hcall;clear ht;obtain⟨op,dst,a,b',im,nm,az,ar,⟨xk,tn,ix,la⟩,ck,ci,cs⟩:=xi;refine Q7 (by rw[hcnt2];exact br hj) hcall happ ?_;rw[hw,hpost];exact rfl
  refine UB (by rw[hcnt2];exact cj (by omega)) ?_;rw[List.take_of_length_le (by omega)];exact⟨rfl,rfl⟩
 have hk6:=(i3 (1+z) (Nat.le_refl _)).top;obtain⟨w,k7,⟨_,g1,g2,_⟩,h5⟩:=aR (n:=s0) hb hk6 hs1.1 (by omega);obtain⟨u,k8,⟨_,g3,g4,_⟩,h6⟩:=aR (n:=4) hb g2 (by omega) (by omega);rw[←hs] at h5;obtain⟨c,hc⟩:∃c,aB (ofNat u) 3=c:=⟨_,rfl⟩;have hlast:eH (mJ c) 0 (ofNat w) 0 0 [] nl 0 [] 0 nl 0 0 []=(Ins.mk (mJ c) 0 (ofNat w) 0 0 [] false [] (.mk 0 [] 0 []) 0 0 []).enc:=rfl;have happ:=V7 (pre:=xs) (x:=Ins.mk (mJ c) 0 (ofNat w) 0 0 [] false [] (.mk 0 [] 0 []) 0 0 []) (by omega);rw[←hlast] at happ;have h:=X7 h1 h2 h3 hm hEl h4 hIl h5 h6 hc happ;rw[hs] at h;have hgen:∀xi∈xs++[Ins.mk (mJ c) 0 (ofNat w) 0 0 [] false [] (.mk 0 [] 0 []) 0 0 []],xi.gen:=by
  intro xi hxi
  rcases List.mem_append.1 hxi with hxi|hxi
  ·obtain⟨j,hj⟩:=List.mem_iff_getElem?.1 hxi;exact (i4 j xi hj).1
  simp at hxi;subst hxi;exact⟨cY,by simp,by simp⟩
 refine⟨.mk (ofNat pa) (ofNat s0) false (xs++[Ins.mk (mJ c) 0 (ofNat w) 0 0 [] false [] (.mk 0 [] 0 []) 0 0 []]) false (fZ es),k8,⟨?_,rfl,rfl,⟨pa,rfl,by omega⟩,?_,?_,hgen⟩,⟨?_,g4⟩,?_⟩
 ·simp only[gM.ok];refine⟨fun xi hxi=>CY (hgen xi hxi),by rw[List.length_append,i1];simp;omega,by rw[fZ,List.length_map];omega,?_⟩
  ·exact E5 (fun e he=>by
    obtain⟨j,hj⟩:=List.mem_iff_getElem?.1 he;exact (e4 j e hj).1)
 ·show 2<=(xs++_).length/\(xs++_).length<=10;rw[List.length_append,i1];simp;omega
 ·show (fZ es).length<=2;rw[fZ,List.length_map];omega
 ·have q1:=(e3 n0 (Nat.le_refl _)).le;have q2:=(i3 (1+z) (Nat.le_refl _)).le;omega
 have e1:gM.enc (.mk (ofNat pa) (ofNat s0) false (xs++[Ins.mk (mJ c) 0 (ofNat w) 0 0 [] false [] (.mk 0 [] 0 []) 0 0 []]) false (fZ es))=aN (ofNat pa) (ofNat s0) (.slice (encI (xs++[Ins.mk (mJ c) 0 (ofNat w) 0 0 [] false [] (.mk 0 [] 0 []) 0 0 []]))) (sl (aG (fZ es))):=by
  rw[←yS];show aN _ _ (sx false (encI _)) _=_
  have:encI (xs++[Ins.mk (mJ c) 0 (ofNat w) 0 0 [] false [] (.mk 0 [] 0 []) 0 0 []])≠[]:=by rw[uO];simp[encI]
  generalize encI (xs++[Ins.mk (mJ c) 0 (ofNat w) 0 0 [] false [] (.mk 0 [] 0 []) 0 0 []])=q at this ⊢
  cases q with
  | nil=>exact absurd rfl this
  | cons a r=>rfl
 rw[e1];exact h
theorem rz:(⟨[],0,.mk 0 [] 0 [],false,[]⟩:vh).gN:=⟨cY,fun f hf=>by simp at hf,by simp⟩
def c0:gM:=.mk 0 0 false [] false []
theorem RY:c0.ok:=by simp[c0,gM.ok,nj]
theorem E7 {l:List Ty} (h:∀t∈l,t.small) (hl:l.length<=2):(Ty.mk 3 [] 0 l).gN:=by
 have h1:aQ l<=41000000*l.length:=by
  clear hl
  induction l with
  | nil=>simp[aQ]
  | cons a r ih=>
   have:=(h a (by simp)).1
   have:=ih (fun t ht=>h t (by simp[ht]))
   simp only[aQ,List.length_cons];omega
 refine⟨?_,?_⟩
 ·have:41000000*l.length<=41000000*2:=Nat.mul_le_mul_left _ hl
  simp only[Ty.size];omega
 simp only[Ty.fY];exact⟨by simp[aB],uv (fun t ht=>(h t ht).2)⟩
theorem GQ {l:List Int} {dp:Int} (hl:l.length < 10000000) (hC:GCd l dp):GEd l dp:=by
 intro k hk;have hb:l.length < 1000000000:=by omega
 obtain⟨t,k1,ht,a1,hct⟩:=Ey hl hk;obtain⟨r,k2,⟨hr,b1,b2,_⟩,h1⟩:=aR (n:=6) hb a1.top (by omega) (by omega);have hsig:(Ty.mk 3 [] 0 [t]).gN:=E7 (by simpa using ht) (by simp);obtain⟨tk,tn,tix,la⟩:=t;have hct:Sz (l.map iN) (ofNat k) tk tn tix (ax la) (ofNat k1):=hct
 match r,hr with
 | 0,_=>
  obtain⟨a,k3,⟨ha,c1,c2,_⟩,h2⟩:=aR (n:=8) hb b2 (by omega) (by omega);have hg:mq[a]?=some (mq[a]'ha):=List.getElem?_eq_getElem ha;have hdf:(mq[a]'ha).gN:=(HF.each _ (List.getElem_mem ha)).gN;generalize (mq[a]'ha)=d at hg hdf;have hi:=VU hg;obtain⟨dn,ar,⟨sk,sn,six,sa⟩,con,fl⟩:=d;refine⟨.mk 1 ⟨dn,ar,.mk sk sn six sa,con,fl⟩ [] (.mk 0 [] 0 []) 0 c0 [],k3,?_,⟨by have:=a1.le;omega,c2⟩,ae8 hct h1 h2 hi⟩;simp only[fG.ok];exact⟨hdf,cY,RY⟩
 | 1,_=>
  obtain⟨a,k3,⟨ha,c1,c2,_⟩,h2⟩:=aR (n:=3) hb b2 (by omega) (by omega);obtain⟨nm,hnm⟩:=we a ha;refine⟨.mk 3 ⟨[],0,.mk 0 [] 0 [],false,[]⟩ nm (.mk 3 [] 0 [.mk tk tn tix la]) 0 c0 [],k3,?_,⟨by have:=a1.le;omega,c2⟩,ae7 hct h1 h2 (uB hnm)⟩;simp only[fG.ok];exact⟨rz,hsig,RY⟩
 | 2,_=>
  obtain⟨a,k3,⟨ha,c1,c2,_⟩,h2⟩:=aR (n:=2) hb b2 (by omega) (by omega);refine⟨.mk (an .i64 (4+ofNat a)) ⟨[],0,.mk 0 [] 0 [],false,[]⟩ [] (.mk 0 [] 0 []) 0 c0 [112],k3,?_,⟨by have:=a1.le;omega,c2⟩,ae6 hct h1 h2⟩;simp only[fG.ok];exact⟨rz,cY,RY⟩
 | r+3,_=>
  have r0:aB (ofNat (r+3)) 0=false:=dL (by simp;omega);have r1:aB (ofNat (r+3)) 1=false:=dL (by simp;omega);have r2:aB (ofNat (r+3)) 2=false:=dL (by simp;omega);obtain⟨c,k3,hgc,c1,hc⟩:=hC k2 b2;obtain⟨pa,s,iz,ins,ez,cD⟩:=c;obtain⟨hok,hez,hiz,⟨pn,hpa,hpn⟩,⟨hl2,hl10⟩,_⟩:=hgc;have hez:ez=false:=hez;have hiz:iz=false:=hiz;have hpa:pa=ofNat pn:=hpa;subst hez hiz hpa;have hne:encI ins≠[]:=by
   intro h
   have:=congrArg List.length h
   rw[bH] at this
   have:ins.length=0:=this
   have:2<=ins.length:=hl2
   omega
  have hce:gM.enc (.mk (ofNat pn) s false ins false cD)=aN (ofNat pn) s (.slice (encI ins)) (sl (aG cD)):=by
   show aN _ _ (sx false (encI ins)) (sx false (aG cD))=_;rw[yS (aG cD)];generalize encI ins=q at hne
   cases q with
   | nil=>exact absurd rfl hne
   | cons a r=>rfl
  rw[hce] at hc;have hc:CoT (l.map iN) dp (ofNat k2) (ofNat pn) s (encI ins) (aG cD) (ofNat k3):=hc;have hee:∀(nm:List UInt8) (ts:List Ty),B0 2 [] 0 0 [] 0 nl false nl nm 3 [] 0 (sl (ax ts)) (ofNat pn) (ofNat pn) s (.slice (encI ins)) (sl (aG cD)) []=(fG.mk 2 ⟨[],0,.mk 0 [] 0 [],false,[]⟩ nm (.mk 3 [] 0 ts) (ofNat pn) (.mk (ofNat pn) s false ins false cD) []).enc:=by
   intro nm ts;show ak.agg ([i64 2,sb [],i64 0,i64 0,sb [],i64 0,nl,bl false,nl,sb nm,i64 3,sb [],i64 0,sl (ax ts),i64 (ofNat pn)]++[i64 (ofNat pn),i64 s,.slice (encI ins),sl (aG cD),sb []])=ak.agg ([i64 2,sb [],i64 0,i64 0,sb [],i64 0,nl,bl false,nl,sb nm,i64 3,sb [],i64 0,sl (ax ts),i64 (ofNat pn)]++[i64 (ofNat pn),i64 s,sx false (encI ins),sx false (aG cD),sb []]);rw[yS (aG cD)];generalize encI ins=q at hne
   cases q with
   | nil=>exact absurd rfl hne
   | cons a r=>rfl
  have hsl1:sl (ax [Ty.mk tk tn tix la])=.slice [NP tk tn tix (ax la)]:=rfl
  by_cases hp1:pn=1
  ·subst hp1;obtain⟨a,k4,⟨ha,d1,d2,_⟩,h2⟩:=aR (n:=3) hb c1.top (by omega) (by omega);obtain⟨nm,hnm⟩:=we a ha;refine⟨.mk 2 ⟨[],0,.mk 0 [] 0 [],false,[]⟩ nm (.mk 3 [] 0 [.mk tk tn tix la]) (ofNat 1) (.mk (ofNat 1) s false ins false cD) [],k4,?_,⟨by have:=a1.le;have:=c1.le;omega,d2⟩,?_⟩
   ·simp only[fG.ok];exact⟨rz,hsig,hok⟩
   rw[←hee,hsl1];exact adu hct h1 r0 r1 r2 hc h2 (uB hnm)
  have hpf:aB (ofNat pn) 1=false:=dL (by simp;omega);obtain⟨v,k4,⟨hv,d1,d2,_⟩,h2⟩:=aR (n:=5) hb c1.top (by omega) (by omega)
  by_cases hv4:v=4
  ·subst hv4;obtain⟨a,k5,⟨ha,f1,f2,_⟩,h3⟩:=aR (n:=3) hb d2 (by omega) (by omega);obtain⟨nm,hnm⟩:=we a ha;refine⟨.mk 2 ⟨[],0,.mk 0 [] 0 [],false,[]⟩ nm (.mk 3 [] 0 [.mk tk tn tix la]) (ofNat pn) (.mk (ofNat pn) s false ins false cD) [],k5,?_,⟨by have:=a1.le;have:=c1.le;omega,f2⟩,?_⟩
   ·simp only[fG.ok];exact⟨rz,hsig,hok⟩
   rw[←hee,hsl1];exact adt hct h1 r0 r1 r2 hc hpf h2 h3 (uB hnm)
  have hvf:aB (ofNat v) 4=false:=dL (by simp;omega);obtain⟨ts,ks,e1,e2,e3,e4⟩:=wy (R:=fun k t k2=>Ty.small t/\KC _ [cq,.dat (.slice (lJ mq))] (cW (l.map iN) (ofNat k)) 1 (XQ ⟨.dat (Ty.enc t),cW (l.map iN) (ofNat k2),1⟩)) (fun k hk=>by
   obtain⟨t,k2,q1,q2,q3⟩:=Ey hl hk;exact⟨t,k2,q2,q1,q3⟩) d2 pn
  have hpl:KD (.loop (roundOf Tryz.f33 0)) (fun e q=>e=.exit 1/\q=(Of (l.map iN) (ofNat (ks pn)) (ofNat pn) s (encI ins) (sl (aG cD)) (dS (ax ts)) (ofNat pn)).al tT)
    ((Me (l.map iN) (ofNat k4) (ofNat pn) s (encI ins) (sl (aG cD)) (dS []) 0).al tT):=by
   rw[←e2];have e0:(dS []:ac)=dS (ax (ts.take 0)):=by rw[List.take_zero];rfl
   rw[e0];refine bm (St:=fun j=>(Me (l.map iN) (ofNat (ks j)) (ofNat pn) s (encI ins) (sl (aG cD)) (dS (ax (ts.take j))) (ofNat j)).al tT) pn ?_ ?_ (i:=0) (Nat.zero_le _)
   ·intro j hj;have hg:ts[j]?=some ts[j]:=List.getElem?_eq_getElem (by omega);have ht:ts.take (j+1)=ts.take j++[ts[j]]:=List.take_succ_eq_append_getElem (by omega);generalize ts[j]=tj at hg ht;obtain⟨_,hcall⟩:=e4 j tj hg;have hw:an .i64 (ofNat j+1)=ofNat (j+1):=bb (by omega);have happ:=U5 (pre:=ts.take j) (t:=tj) (by rw[List.length_take];omega);have hpost:(ac.own (ax (ts.take j++[tj])))=dS (ax (ts.take (j+1))):=by
     rw[ht,yo];rw[A7];simp[ax]
    clear ht;obtain⟨k',n',x',l'⟩:=tj;refine Q3 (br hj) hcall happ ?_;rw[hw,hpost];exact rfl
   refine Uq (cj (by omega)) ?_;rw[List.take_of_length_le (by omega)];exact⟨rfl,rfl⟩
  have hk5:=e3 pn (Nat.le_refl _);obtain⟨a,k6,⟨ha,f1,f2,_⟩,h3⟩:=aR (n:=3) hb hk5.top (by omega) (by omega);obtain⟨nm,hnm⟩:=we a ha;have hts:(Ty.mk 3 [] 0 ts).gN:=E7 (fun t ht=>by
   obtain⟨j,hj⟩:=List.mem_iff_getElem?.1 ht;exact (e4 j t hj).1) (by omega)
  refine⟨.mk 2 ⟨[],0,.mk 0 [] 0 [],false,[]⟩ nm (.mk 3 [] 0 ts) (ofNat pn) (.mk (ofNat pn) s false ins false cD) [],k6,?_,⟨by have:=a1.le;have:=c1.le;have:=hk5.le;omega,f2⟩,?_⟩
  ·simp only[fG.ok];exact⟨rz,hts,hok⟩
  rw[←hee];exact ads hct h1 r0 r1 r2 hc hpf h2 hvf hpl h3 (uB hnm)
theorem UA {l:List Int} (hl:l.length < 10000000):GCd l 0:=AN (m:=0) hl (by omega) rfl (fun h=>absurd h (by omega))
theorem Uv {l:List Int} (hl:l.length < 10000000):GEd l 0:=GQ hl (UA hl)
theorem LL {l:List Int} (hl:l.length < 10000000):GCd l 1:=AN (m:=1) hl (by omega) rfl (fun _=>Uv hl)
theorem LJ {l:List Int} (hl:l.length < 10000000):GEd l 1:=GQ hl (LL hl)
theorem Uz {l:List Int} (hl:l.length < 10000000):GCd l 2:=AN (m:=1) hl (by omega) rfl (fun _=>LJ hl)
def gp:List Ins->List ac
 | []=>[]
 | x::r=>x.cells.map .dat++gp r
theorem jI:∀l:List Ins,(gp l).length=l.length*15
 | []=>rfl
 | x::r=>by
  have:=jI r
  simp only[gp,List.length_append,List.length_map,sT,List.length_cons];omega
theorem tF:∀{l:List Ins} {i:Nat} {x:Ins} (j:Nat),l[i]?=some x->j < 15->(gp l)[i*15+j]?=(x.cells.map ac.dat)[j]?
 | [],i,x,j,h,_=>by simp at h
 | y::r,0,x,j,h,hj=>by
  simp at h;subst h;rw[gp,List.getElem?_append_left (by rw[List.length_map,sT];omega)];congr 1;omega
 | y::r,i+1,x,j,h,hj=>by
  rw[gp,List.getElem?_append_right (by rw[List.length_map,sT];omega),List.length_map,sT];rw[show (i+1)*15+j - 15=i*15+j by omega];exact tF j (by simpa using h) hj
theorem Cz:∀l:List Ins,((encI l).flatMap ak.cells).map ac.dat=gp l
 | []=>rfl
 | x::r=>by
  rw[encI,List.flatMap_cons,List.map_append,Cz r];rfl
theorem sK:∀ds:List ak,aW (ds.map ac.dat)=true
 | []=>rfl
 | d::r=>by
  have:=sK r
  show (er (ac.dat d)&&aW (r.map ac.dat))=true;rw[this];rfl
theorem Ar:∀(a b:List ac),aW a=true->aW b=true->aW (a++b)=true
 | [],b,_,h=>h
 | x::r,b,h,h2=>by
  have h:(er x&&aW r)=true:=h;rw[Bool.and_eq_true] at h;show (er x&&aW (r++b))=true;rw[h.1,Ar r b h.2 h2];rfl
theorem qY:∀l:List Ins,aW (gp l)=true
 | []=>rfl
 | x::r=>Ar _ _ (sK _) (qY r)
theorem sL:∀(off:Nat) (vs l:List ac),aW vs=true->aW l=true->aW (bI off vs l)=true
 | off,[],l,_,h=>by cases off <;> cases l <;> exact h
 | 0,v::vs,[],_,_=>rfl
 | off+1,v::vs,[],_,_=>rfl
 | 0,v::vs,a::l,h,h2=>by
  have h:(er v&&aW vs)=true:=h;have h2:(er a&&aW l)=true:=h2;rw[Bool.and_eq_true] at h h2;show (er v&&aW (bI 0 vs l))=true;rw[h.1,sL 0 vs l h.2 h2.2];rfl
 | off+1,v::vs,a::l,h,h2=>by
  have h2:(er a&&aW l)=true:=h2;rw[Bool.and_eq_true] at h2;show (er a&&aW (bI off (v::vs) l))=true;rw[h2.1,sL off (v::vs) l h h2.2];rfl
theorem QI {m:Name} {n:Nat} (h:n < 1000000000):kb ba 23 [.win m 15 0 n] none=some ⟨iv (ofNat n),.keep⟩:=by
 have e:kb ba 23 [.win m 15 0 n] none=if Nat.ble n lim=true then some ⟨iv (ofNat n),.keep⟩ else none:=by kernel_rfl
 rw[e,if_pos];rw[Nat.ble_eq];simp only[lim];omega
theorem Uh {m:Name} {n k:Nat} (h:k < n):ap ba 23 [.win m 15 0 n,iv (ofNat k)]=some ⟨.ptr m (0+k*15),.keep⟩:=
 Go.Tp.uA (m:=m) (off:=0) (s:=15) DD kJ.symm h
theorem S2 {m:Name} {n k:Nat} (h:k<=n) (x:Operand):fF ba 23 none (some x) none [.win m 15 0 n,iv (ofNat k)]=some ⟨.win m 15 0 k,.keep⟩:=by
 have e:fF ba 23 none (some x) none [.win m 15 0 n,iv (ofNat k)]=if (Nat.ble 0 k&&Nat.ble k n&&Nat.beq 15 rE.size)=true then some ⟨.win m 15 0 k,.keep⟩ else none:=by kernel_rfl
 rw[e,if_pos]
 ·rw[kJ];simp[Nat.ble_eq,h]
theorem VP {t:TypeId} {i:TI} {m:Name} {off:Nat} {cs:List ac} {es:List ak} (ht:ba.ty t=some i) (ha:i.isAgg=false) (h:cs[off]?=some (.dat (.slice es))) :
  eB ba false t [.ptr m off] (some (.cells cs))=some ⟨.dat (.slice es),.keep⟩:=by
 simp[eB,ht,Tp.loadCells,ha,h,xj]
theorem Am:∀{a b:List (List fG)},nj a->nj b->nj (a++b)
 | [],b,_,h=>h
 | x::r,b,h,h2=>by
  simp only[nj] at h;simp only[List.cons_append,nj];exact⟨h.1,h.2.1,Am h.2.2 h2⟩
theorem Tb {l:List Ins} (hn:l.length < 1000000) (hne:l≠[]):bB ba true 23 [.own [],.dat (.slice (encI l))] none=some ⟨.undef,.grow (.cells (gp l)) 15 l.length⟩:=by
 obtain⟨x,r,rfl⟩:∃x r,l=x::r:=by cases l with|nil=>exact absurd rfl hne|cons x r=>exact⟨x,r,rfl⟩
 have h1:∀(d:ak) (ds:List ak),bB ba true 23 [.own [],.dat (.slice (d::ds))] none=jB ba rE 0 [] (.dat (.slice (d::ds))):=fun d ds=>by kernel_rfl
 have h3:∀(x:ac),jB ba rE 0 [] x=(match gS bW.nA rE [] x with
  | some ds=>if (Nat.ble ((0+ds.length)*rE.bytes) 140737488355328&&Nat.ble (0+ds.length) lim&&Nat.ble (0*15) ([]:List ac).length&&!cd (fb (0*15) []++(ds.flatMap ak.cells).map .dat))=true
   then some ⟨.undef,.grow (.cells (fb (0*15) []++(ds.flatMap ak.cells).map .dat)) 15 (0+ds.length)⟩ else none
  | none=>none):=fun x=>by kernel_rfl
 have hb:rE.bytes<=1000:=fD (by kernel_rfl);have h2:gS bW.nA rE [] (.dat (.slice (encI (x::r))))=some (encI (x::r)):=by
  have e0:sizedB (14+1) ([]:List ak)=true:=rfl;have h0:Nat.blt 0 rE.bytes=true:=by kernel_rfl
  have hl:(([]:List ak).length+(encI (x::r)).length)*rE.bytes<=140737488355328:=by
   rw[bH]
   calc (0+(x::r).length)*rE.bytes<=1000000*1000:=Nat.mul_le_mul (by omega) hb
    _<=140737488355328:=by decide
  have hl2:([]:List ak).length+(encI (x::r)).length<=lim:=by rw[bH];simp only[List.length_nil,lim];omega
  have hz:sizedB (14+1) (encI (x::r))=true:=sW (x::r);simp only[gS,kJ,bW.nA,hz,e0,h0,gC hl,gC hl2];rfl
 rw[show encI (x::r)=x.enc::encI r from rfl] at h2 ⊢;rw[h1,h3,h2];dsimp only;rw[show x.enc::encI r=encI (x::r) from rfl,Cz,bH,Nat.zero_add];rw[show fb (0*15) ([]:List ac)++gp (x::r)=gp (x::r) from rfl];rw[if_pos];have e1:cd (gp (x::r))=false:=LX (by rw[jI];simp;omega);rw[e1];simp only[Bool.and_eq_true,Nat.ble_eq,Bool.not_false,and_true];refine⟨⟨?_,?_⟩,?_⟩
 ·calc (x::r).length*rE.bytes<=1000000*1000:=Nat.mul_le_mul (by omega) hb
   _<=140737488355328:=by decide
 ·simp only[lim];omega
 simp
theorem WC {t:TypeId} {i:TI} (ht:ba.ty t=some i) {m:Name} {off:Nat} {v:ac} {K:List ac} (h1:(aY v).length=i.size) (h2:off+i.size<=K.length) (h3:dU (aY v)=true) (h4:0 < i.size) (h5:3<=K.length) :
  cG ba t [.ptr m off,v] (some (.cells K))=some ⟨.undef,.set (.cells (bI off (aY v) K))⟩:=by
 have h6:cd (bI off (aY v) K)=false:=LX (by rw[ib];exact h5);simp only[cG,ht];rw[if_pos ⟨h1,h2,h3,h4,by rw[h6];rfl⟩]
def QX (l:List ak) (K:Int) (R:List ac):Heap:=[(.out 1,.cells R),(.out 0,.cells [.dat (.slice l),iv K])]
theorem pt {g:FuncId} {args:List ac} {v:ac} {l:List ak} {k k2:Int} (R:List ac) (h:KC g args (cW l k) 1 (XQ ⟨v,cW l k2,1⟩)) (ha:gZ 1 args=false) (he:il (fun _=>0) args=args) (hv:fx (ig (fun _=>0) 1 2) v=v) :
  KC g args (QX l k R) 2 (XQ ⟨v,QX l k2 R,2⟩):=by
 have e1:∀(k:Int) (ρ:Nat->Nat),ρ 0=0->jJ ρ (cW l k)=cW l k:=by
  intro k ρ h0;simp[cW,jJ,pW,wX,il,fx,h0]
 have hf:=ay.frame h (fun _=>0) (heap:=QX l k R) (rest:=[(.out 1,.cells R)]) (next:=2) (by
  rw[e1 _ _ rfl];exact List.Perm.swap _ _ _) (by rfl) (by simp[gH,cW,BS,gZ,iq]) (by rfl) ha
 rw[he] at hf;refine ay.zQ hf ?_;rintro v' h' m' ⟨v0,h1,n1,⟨rfl,rfl,rfl⟩,rfl,rfl,rfl⟩;rw[hv,e1 _ _ rfl];exact⟨QX l k2 R,List.Perm.swap _ _ _,rfl,rfl,rfl⟩
theorem adH (z:Bool):∀l:List ak,dK (.dat (sx z l))=some (sx z l)
 | []=>by cases z <;> rfl
 | _::_=>rfl
theorem adI:∀l:List ak,dK (.dat (sl l))=some (sl l)
 | []=>rfl
 | _::_=>rfl
theorem V5 (t:Ty):(t.cells.map ac.dat).map dK=t.cells.map some:=by
 obtain⟨k,nm,ix,la⟩:=t;simp only[Ty.cells,List.map_cons,List.map_nil,adI];rfl
theorem Hs (x:Ins):(x.cells.map ac.dat).map dK=x.cells.map some:=by
 unfold Ins.cells;simp only[List.map_append,List.map_cons,List.map_nil,adH,V5];rfl
theorem yp {α β:Type} (f:α->β):∀(off:Nat) (ns l:List α),(bI off ns l).map f=bI off (ns.map f) (l.map f)
 | off,[],l=>by cases off <;> cases l <;> rfl
 | 0,n::ns,[]=>rfl
 | off+1,n::ns,[]=>rfl
 | 0,n::ns,a::l=>by
  show f n::(bI 0 ns l).map f=f n::bI 0 (ns.map f) (l.map f);rw[yp f 0 ns l]
 | off+1,n::ns,a::l=>by
  show f a::(bI off (n::ns) l).map f=f a::bI off ((n::ns).map f) (l.map f);rw[yp f off (n::ns) l]
theorem tE {l:List Ins}:∀(i':Nat) (d:ak),(encI l)[i']?=some d->d.cells.length=15/\∀j c,d.cells[j]?=some c->∃a,(gp l)[i'*15+j]?=some a/\dK a=some c:=by
 intro i' d hd;rw[gR,List.getElem?_map] at hd
 cases hx:l[i']? with
 | none=>rw[hx] at hd;simp at hd
 | some x=>
  rw[hx] at hd;simp at hd;subst hd;refine⟨qo x,fun j c hc=>?_⟩;have hj:j < 15:=by have:=(List.getElem?_eq_some_iff.1 hc).1;rw[qo] at this;exact this
  rw[tF j hx hj];have hc:x.cells[j]?=some c:=hc;refine⟨.dat c,by rw[List.getElem?_map,hc];rfl,?_⟩;have h2:((x.cells.map ac.dat).map dK)[j]?=(x.cells.map some)[j]?:=by rw[Hs]
  rw[List.getElem?_map,List.getElem?_map,List.getElem?_map,hc] at h2;simpa using h2
theorem Ta {l:List Ins} {i f:Nat} {x x':Ins} {vs:List ac} {ds:List ak} (hx:l[i]?=some x) (hf:f+vs.length<=15) (hv:vs.map dK=ds.map some) (hx':x'.cells=bI f ds x.cells) :
  ∀(i':Nat) (d:ak),(encI (l.set i x'))[i']?=some d->d.cells.length=15/\∀j c,d.cells[j]?=some c->∃a,(bI (0+i*15+f) vs (gp l))[i'*15+j]?=some a/\dK a=some c:=by
 have hi:i < l.length:=(List.getElem?_eq_some_iff.1 hx).1;intro i' d hd;rw[gR,List.getElem?_map] at hd
 cases hy:(l.set i x')[i']? with
 | none=>rw[hy] at hd;simp at hd
 | some y=>
  rw[hy] at hd;simp at hd;subst hd;refine⟨qo y,fun j c hc=>?_⟩;have hj:j < 15:=by have:=(List.getElem?_eq_some_iff.1 hc).1;rw[qo] at this;exact this
  have hc:y.cells[j]?=some c:=hc;rw[List.getElem?_set] at hy
  by_cases he:i=i'
  ·subst he;rw[if_pos rfl,if_pos hi] at hy;simp at hy;subst hy;have e:(bI (0+i*15+f) vs (gp l))[i*15+j]?=(bI f vs (x.cells.map ac.dat))[j]?:=by
    rw[gq,gq,tF j hx hj,jI,List.length_map,sT]
    by_cases h1:f<=j/\j < f+vs.length
    ·rw[if_pos ⟨by omega,by omega,by omega⟩,if_pos ⟨h1.1,h1.2,hj⟩];congr 1;omega
    rw[if_neg (by omega),if_neg (by omega)]
   rw[e];have h2:((bI f vs (x.cells.map ac.dat)).map dK)[j]?=(x'.cells.map some)[j]?:=by rw[yp,hv,Hs,hx',yp]
   rw[List.getElem?_map,List.getElem?_map,hc] at h2
   cases ha:(bI f vs (x.cells.map ac.dat))[j]? with
   | none=>rw[ha] at h2;simp at h2
   | some a=>rw[ha] at h2;exact⟨a,rfl,by simpa using h2⟩
  rw[if_neg he] at hy;have e:(bI (0+i*15+f) vs (gp l))[i'*15+j]?=(gp l)[i'*15+j]?:=by
   rw[gq,if_neg (by omega)]
  rw[e];exact (tE i' y.enc (by rw[gR,List.getElem?_map,hy];rfl)).2 j c hc
noncomputable def ya:Hints:=⟨bV,KU,bi,rowsOf bi 11⟩
def loS (A:List ac):Heap:=[(.loc 5,.cells A),(.loc 4,.cells (cC 0 0 nl nl))]
def aaY (l:List ak) (K:Int) (c:List ac):ab:=⟨[(4,.ptr (.loc 4) 0),(3,.ptr (.loc 3) 0),(0,cq)],[(.loc 4,.cells (cC 0 0 nl nl)),(.loc 3,.cells c)],cW l K,1⟩
def aaX (l:List ak) (K:Int) (c:List ac):ab:=⟨[(5,.ptr (.loc 5) 0),(4,.ptr (.loc 4) 0),(3,.ptr (.loc 3) 0),(0,cq)],[(.loc 5,.cells c),(.loc 4,.cells (cC 0 0 nl nl)),(.loc 3,.cells c)],cW l K,1⟩
def aaW (l:List ak) (K:Int) (c A:List ac) (R:List ac):ab:=⟨[(5,.ptr (.loc 5) 0),(4,.ptr (.loc 4) 0),(3,.ptr (.loc 3) 0),(0,cq)],[(.loc 5,.cells A),(.loc 4,.cells (cC 0 0 nl nl)),(.loc 3,.cells c)],QX l K R,2⟩
def aaV (l:List ak) (K:Int) (A:List ac) (R:List ac):ab:=⟨[(5,.ptr (.loc 5) 0),(4,.ptr (.loc 4) 0),(0,cq)],loS A,QX l K R,2⟩
def aaU (l:List ak) (K:Int) (A:List ac) (R:List ac) (i:Int):ab:=⟨[(6,iv i),(5,.ptr (.loc 5) 0),(4,.ptr (.loc 4) 0),(0,cq)],loS A,QX l K R,2⟩
def pD (l:List ak) (K:Int) (A:List ac) (R:List ac) (i:Int) (o:Nat):ab:=⟨[(7,.ptr (.out 1) o),(6,iv i),(5,.ptr (.loc 5) 0),(4,.ptr (.loc 4) 0),(0,cq)],loS A,QX l K R,2⟩
def pC (l:List ak) (K:Int) (A:List ac) (R:List ac):ab:=⟨[(5,.ptr (.loc 5) 0),(4,.ptr (.loc 4) 0)],loS A,QX l K R,2⟩
def aex (l:List ak) (K:Int) (A:List ac) (R:List ac):ab:=⟨[(4,.ptr (.loc 4) 0)],[(.loc 4,.cells A)],QX l K R,2⟩
theorem aeF {l:List ak} {K p s:Int} {d1 d2:ak} (g1:dj d1) (g2:dj d2) {T:ej} (e:T .normal ((aaY l K (cC p s d1 d2)).al cP)) :
  KD (du Tryz.f11 0) T ((⟨rG 0 [cq,.dat (aN p s d1 d2)],[],cW l K,1⟩:ab).al cP):=by
 have q1:=aS (p:=p) (s:=s) g1 g2;clear g1 g2;exact aq [] [3] (H:=ya) (live:=dP) (oo q1 (oe e))
theorem yY (l:Nat) {p s:Int} {d1 d2:ak} (h1:dj d1) (h2:dj d2):cG ba 26 [.ptr (.loc l) 0,.dat (aN p s d1 d2)] (some (.cells (cC 0 0 nl nl)))=some ⟨.undef,.set (.cells (cC p s d1 d2))⟩:=by
 rcases h1 with rfl|⟨e1,rfl⟩ <;> rcases h2 with rfl|⟨e2,rfl⟩ <;> kernel_rfl
theorem aeE {l:List ak} {K p s:Int} {d1 d2:ak} (g1:dj d1) (g2:dj d2) {T:ej} (e:T .normal ((aaX l K (cC p s d1 d2)).al cP)) :
  KD (du Tryz.f11 1) T ((aaY l K (cC p s d1 d2)).al cP):=by
 have q3:=aO false 3 (p:=p) (s:=s) g1 g2;have q4:=yY 5 (p:=p) (s:=s) g1 g2;clear g1 g2;exact aq [] [8,100005] (H:=ya) (live:=dP) (oo q3 (oo q4 (oe e)))
theorem aeD {l:List ak} {K p s:Int} {x:ak} {es:List ak} {d2:ak} {R:List ac} {n:Nat} (ha:bB ba true 23 [.own [],.dat (.slice (x::es))] none=some ⟨.undef,.grow (.cells R) 15 n⟩) (hn:bh (.cells R)=true) {T:ej} (e:T .normal ((aaW l K (cC p s (.slice (x::es)) d2) [iv p,iv s,.win (.out 1) 15 0 n,.dat d2] R).al cP)) :
  KD (du Tryz.f11 2) T ((aaX l K (cC p s (.slice (x::es)) d2)).al cP):=by
 exact aq [500012] [12] (H:=ya) (live:=dP) (oo ha (ob hn (oe e)))
theorem aeC {l:List ak} {K p s:Int} {d1:ak} {es:List ak} {R:List ac} {n:Nat} (ha:bB ba false 24 [.own [],.dat (.slice es)] none=some ⟨.own es,.keep⟩) {T:ej} (e:T .normal ((aaV l K [iv p,iv s,.win (.out 1) 15 0 n,.own es] R).al cP)) :
  KD (du Tryz.f11 3) T ((aaW l K (cC p s d1 (sl es)) [iv p,iv s,.win (.out 1) 15 0 n,.dat (sl es)] R).al cP):=by
 rcases es with _|⟨x,es⟩ <;>
 ·exact aq [] [17] (H:=ya) (live:=dP) (oo ha (oe e))
theorem aeB {l:List ak} {K K2 i p s:Int} {es:List ak} {R:List ac} {n:Nat} (hl:kb ba 23 [.win (.out 1) 15 0 n] none=some ⟨iv (ofNat n),.keep⟩) (h:bP l (ofNat n) K i K2) {T:ej} (e:T .normal ((aaU l K2 [iv p,iv s,.win (.out 1) 15 0 n,.own es] R i).al cP)) :
  KD (du Tryz.f11 4) T ((aaV l K [iv p,iv s,.win (.out 1) 15 0 n,.own es] R).al cP):=by
 have m0:=pt R h rfl rfl rfl;clear h;exact aq [] [22] (H:=ya) (live:=dP) (oo hl (oh m0 (oe e)))
theorem aeA {l:List ak} {K i p s:Int} {es:List ak} {R:List ac} {n o:Nat} (hi:ap ba 23 [.win (.out 1) 15 0 n,iv i]=some ⟨.ptr (.out 1) o,.keep⟩) {T:ej} (e:T .normal ((pD l K [iv p,iv s,.win (.out 1) 15 0 n,.own es] R i o).al cP)) :
  KD (du Tryz.f11 5) T ((aaU l K [iv p,iv s,.win (.out 1) 15 0 n,.own es] R i).al cP):=by
 exact aq [] [27] (H:=ya) (live:=dP) (oo hi (oe e))
section
variable {l:List ak} {K K1 p s i:Int} {es:List ak} {R R2:List ac} {n o:Nat} {T:ej}
theorem abg {x K2:Int} (h:bP l 14 K 0 K1) (h2:bP l 25 K1 x K2) (hs:cG ba 3 [.ptr (.out 1) o,iv (an .i64 (x - 1))] (some (.cells R))=some ⟨.undef,.set (.cells R2)⟩) (hn:bh (.cells R2)=true) (e:T .normal ((pC l K2 [iv p,iv s,.win (.out 1) 15 0 n,.own es] R2).al cP)) :
  KD (du Tryz.f11 6) T ((pD l K [iv p,iv s,.win (.out 1) 15 0 n,.own es] R i o).al cP):=by
 have m0:=pt R h rfl rfl rfl;clear h;have m1:=pt R h2 rfl rfl rfl;clear h2;exact aq [600045] [100045] (H:=ya) (live:=dP) (oh m0 (oh m1 (oo hs (ob hn (oe e)))))
theorem abf {x K2:Int} (h:bP l 14 K 1 K1) (h2:bP l 9 K1 x K2) (hs:cG ba 3 [.ptr (.out 1) (o+1),iv (an .i64 (x - 1))] (some (.cells R))=some ⟨.undef,.set (.cells R2)⟩) (hn:bh (.cells R2)=true) (e:T .normal ((pC l K2 [iv p,iv s,.win (.out 1) 15 0 n,.own es] R2).al cP)) :
  KD (du Tryz.f11 6) T ((pD l K [iv p,iv s,.win (.out 1) 15 0 n,.own es] R i o).al cP):=by
 have m0:=pt R h rfl rfl rfl;clear h;have m1:=pt R h2 rfl rfl rfl;clear h2;exact aq [600053] [100053] (H:=ya) (live:=dP) (oh m0 (oh m1 (oo hs (ob hn (oe e)))))
theorem abe {x K2:Int} (h:bP l 14 K 2 K1) (h2:Z0 l K1 x K2) (hs:cG ba 3 [.ptr (.out 1) (o+2),iv x] (some (.cells R))=some ⟨.undef,.set (.cells R2)⟩) (hn:bh (.cells R2)=true) (e:T .normal ((pC l K2 [iv p,iv s,.win (.out 1) 15 0 n,.own es] R2).al cP)) :
  KD (du Tryz.f11 6) T ((pD l K [iv p,iv s,.win (.out 1) 15 0 n,.own es] R i o).al cP):=by
 have m0:=pt R h rfl rfl rfl;clear h;have m1:=pt R h2 rfl rfl rfl;clear h2;exact aq [600060] [100060] (H:=ya) (live:=dP) (oh m0 (oh m1 (oo hs (ob hn (oe e)))))
theorem abd {x K2:Int} (h:bP l 14 K 3 K1) (h2:bP l 9 K1 x K2) (hs:cG ba 3 [.ptr (.out 1) (o+3),iv (an .i64 (x - 1))] (some (.cells R))=some ⟨.undef,.set (.cells R2)⟩) (hn:bh (.cells R2)=true) (e:T .normal ((pC l K2 [iv p,iv s,.win (.out 1) 15 0 n,.own es] R2).al cP)) :
  KD (du Tryz.f11 6) T ((pD l K [iv p,iv s,.win (.out 1) 15 0 n,.own es] R i o).al cP):=by
 have m0:=pt R h rfl rfl rfl;clear h;have m1:=pt R h2 rfl rfl rfl;clear h2;exact aq [600068] [100068] (H:=ya) (live:=dP) (oh m0 (oh m1 (oo hs (ob hn (oe e)))))
theorem abc {x K2:Int} (h:bP l 14 K 4 K1) (h2:bP l 14 K1 x K2) (hs:cG ba 3 [.ptr (.out 1) (o+4),iv (an .i64 (x - 2))] (some (.cells R))=some ⟨.undef,.set (.cells R2)⟩) (hn:bh (.cells R2)=true) (e:T .normal ((pC l K2 [iv p,iv s,.win (.out 1) 15 0 n,.own es] R2).al cP)) :
  KD (du Tryz.f11 6) T ((pD l K [iv p,iv s,.win (.out 1) 15 0 n,.own es] R i o).al cP):=by
 have m0:=pt R h rfl rfl rfl;clear h;have m1:=pt R h2 rfl rfl rfl;clear h2;exact aq [600076] [100076] (H:=ya) (live:=dP) (oh m0 (oh m1 (oo hs (ob hn (oe e)))))
theorem abb {x K2:Int} {nm:List UInt8} (h:bP l 14 K 5 K1) (h2:bP l 11 K1 x K2) (hi:ap ba 70 [.dat (.slice (encS HH)),.dat (.flat (.int .i64 x))]=some ⟨.ref [sb nm],.keep⟩) (hs:cG ba 9 [.ptr (.out 1) (o+5),.dat (sb nm)] (some (.cells R))=some ⟨.undef,.set (.cells R2)⟩) (hn:bh (.cells R2)=true) (e:T .normal ((pC l K2 [iv p,iv s,.win (.out 1) 15 0 n,.own es] R2).al cP)) :
  KD (du Tryz.f11 6) T ((pD l K [iv p,iv s,.win (.out 1) 15 0 n,.own es] R i o).al cP):=by
 have m0:=pt R h rfl rfl rfl;clear h;have m1:=pt R h2 rfl rfl rfl;clear h2;exact aq [600088] [85,100088] (H:=ya) (live:=dP) (oh m0 (oh m1 (oo hi (oo hs (ob hn (oe e))))))
theorem aba {x K2 K3:Int} {zs:List ak} (h:bP l 14 K 6 K1) (hd:eB ba false 22 [.ptr (.out 1) (o+6)] (some (.cells R))=some ⟨.dat nl,.keep⟩) (h2:bP l 7 K1 x K2) (h3:Vc l 9 x K2 zs K3) (ha:bB ba false 22 [.own [],.dat (.slice zs)] none=some ⟨.own zs,.keep⟩) (hs:cG ba 22 [.ptr (.out 1) (o+6),.own zs] (some (.cells R))=some ⟨.undef,.set (.cells R2)⟩) (hn:bh (.cells R2)=true) (e:T .normal ((pC l K3 [iv p,iv s,.win (.out 1) 15 0 n,.own es] R2).al cP)) :
  KD (du Tryz.f11 6) T ((pD l K [iv p,iv s,.win (.out 1) 15 0 n,.own es] R i o).al cP):=by
 have m0:=pt R h rfl rfl rfl;clear h;have m1:=pt R h2 rfl rfl rfl;clear h2;have m2:=pt R h3 rfl rfl rfl;clear h3
 rcases zs with _|⟨z,zs⟩
 ·exact aq [600104] [96,97,102,100104] (H:=ya) (live:=dP) (oh m0 (oo hd (oo ha (oh m1 (oh m2 (oo ha (oo hs (ob hn (oe e)))))))))
 exact aq [600104] [96,102,100104] (H:=ya) (live:=dP) (oh m0 (oo hd (oh m1 (oh m2 (oo ha (oo hs (ob hn (oe e))))))))
theorem WJ {x K2 K3:Int} {zs:List ak} (h:bP l 14 K 6 K1) (hd:eB ba false 22 [.ptr (.out 1) (o+6)] (some (.cells R))=some ⟨.dat (.slice []),.keep⟩) (h2:bP l 7 K1 x K2) (h3:Vc l 9 x K2 zs K3) (ha:bB ba false 22 [.own [],.dat (.slice zs)] none=some ⟨.own zs,.keep⟩) (hs:cG ba 22 [.ptr (.out 1) (o+6),.own zs] (some (.cells R))=some ⟨.undef,.set (.cells R2)⟩) (hn:bh (.cells R2)=true) (e:T .normal ((pC l K3 [iv p,iv s,.win (.out 1) 15 0 n,.own es] R2).al cP)) :
  KD (du Tryz.f11 6) T ((pD l K [iv p,iv s,.win (.out 1) 15 0 n,.own es] R i o).al cP):=by
 have m0:=pt R h rfl rfl rfl;clear h;have m1:=pt R h2 rfl rfl rfl;clear h2;have m2:=pt R h3 rfl rfl rfl;clear h3
 rcases zs with _|⟨z,zs⟩
 ·exact aq [600104] [96,97,102,100104] (H:=ya) (live:=dP) (oh m0 (oo hd (oo ha (oh m1 (oh m2 (oo ha (oo hs (ob hn (oe e)))))))))
 exact aq [600104] [96,102,100104] (H:=ya) (live:=dP) (oh m0 (oo hd (oh m1 (oh m2 (oo ha (oo hs (ob hn (oe e))))))))
theorem WK {x K2 K3:Int} {y:ak} {ys zs ws:List ak} (h:bP l 14 K 6 K1) (hd:eB ba false 22 [.ptr (.out 1) (o+6)] (some (.cells R))=some ⟨.dat (.slice (y::ys)),.keep⟩) (ha0:bB ba false 22 [.own [],.dat (.slice (y::ys))] none=some ⟨.own (y::ys),.keep⟩) (h2:bP l 7 K1 x K2) (h3:Vc l 9 x K2 zs K3) (ha:bB ba false 22 [.own (y::ys),.dat (.slice zs)] none=some ⟨.own ws,.keep⟩) (hs:cG ba 22 [.ptr (.out 1) (o+6),.own ws] (some (.cells R))=some ⟨.undef,.set (.cells R2)⟩) (hn:bh (.cells R2)=true) (e:T .normal ((pC l K3 [iv p,iv s,.win (.out 1) 15 0 n,.own es] R2).al cP)) :
  KD (du Tryz.f11 6) T ((pD l K [iv p,iv s,.win (.out 1) 15 0 n,.own es] R i o).al cP):=by
 have m0:=pt R h rfl rfl rfl;clear h;have m1:=pt R h2 rfl rfl rfl;clear h2;have m2:=pt R h3 rfl rfl rfl;clear h3
 rcases zs with _|⟨z,zs⟩ <;>
 ·exact aq [600104] [96,97,102,100104] (H:=ya) (live:=dP) (oh m0 (oo hd (oo ha0 (oh m1 (oh m2 (oo ha (oo hs (ob hn (oe e)))))))))
theorem aa9 {k ix K2:Int} {nm:List UInt8} {la:List ak} (h:bP l 14 K 7 K1) (h2:AnT l 2 K1 (.agg [i64 k,sb nm,i64 ix,sl la]) K2) (hs:cG ba 40 [.ptr (.out 1) (o+7),.dat (.agg [i64 k,sb nm,i64 ix,sl la])] (some (.cells R))=some ⟨.undef,.set (.cells R2)⟩) (hn:bh (.cells R2)=true) (e:T .normal ((pC l K2 [iv p,iv s,.win (.out 1) 15 0 n,.own es] R2).al cP)) :
  KD (du Tryz.f11 6) T ((pD l K [iv p,iv s,.win (.out 1) 15 0 n,.own es] R i o).al cP):=by
 have m0:=pt R h rfl rfl rfl;clear h;have m1:=pt R h2 rfl rfl rfl;clear h2;exact aq [600111] [100111] (H:=ya) (live:=dP) (oh m0 (oh m1 (oo hs (ob hn (oe e)))))
theorem aa8 {x y z K2 K3 K4:Int} {nm:List UInt8} (h:bP l 14 K 8 K1) (h2:bP l 7 K1 x K2) (h3:bP l 4 K2 y K3) (h4:bP l 6 K3 z K4) (hi:ap ba 70 [.dat (.slice (encS H5)),.dat (.flat (.int .i64 z))]=some ⟨.ref [sb nm],.keep⟩) (hs:cG ba 43 [.ptr (.out 1) (o+11),.dat (.agg [i64 x,i64 (an .i64 (y - 1)),sb nm,nl])] (some (.cells R))=some ⟨.undef,.set (.cells R2)⟩) (hn:bh (.cells R2)=true) (e:T .normal ((pC l K4 [iv p,iv s,.win (.out 1) 15 0 n,.own es] R2).al cP)) :
  KD (du Tryz.f11 6) T ((pD l K [iv p,iv s,.win (.out 1) 15 0 n,.own es] R i o).al cP):=by
 have m0:=pt R h rfl rfl rfl;clear h;have m1:=pt R h2 rfl rfl rfl;clear h2;have m2:=pt R h3 rfl rfl rfl;clear h3;have m3:=pt R h4 rfl rfl rfl;clear h4;exact aq [600129] [125,100129] (H:=ya) (live:=dP) (oh m0 (oh m1 (oh m2 (oh m3 (oo hi (oo hs (ob hn (oe e))))))))
theorem aa7 {x K2:Int} (h:bP l 14 K 9 K1) (h2:Z0 l K1 x K2) (e:T .normal ((pC l K2 [iv x,iv s,.win (.out 1) 15 0 n,.own es] R).al cP)) :
  KD (du Tryz.f11 6) T ((pD l K [iv p,iv s,.win (.out 1) 15 0 n,.own es] R i o).al cP):=by
 have m0:=pt R h rfl rfl rfl;clear h;have m1:=pt R h2 rfl rfl rfl;clear h2;exact aq [] [] (H:=ya) (live:=dP) (oh m0 (oh m1 (oe e)))
theorem WO {x K2:Int} (h:bP l 14 K 10 K1) (h2:Z0 l K1 x K2) (e:T .normal ((pC l K2 [iv p,iv x,.win (.out 1) 15 0 n,.own es] R).al cP)) :
  KD (du Tryz.f11 6) T ((pD l K [iv p,iv s,.win (.out 1) 15 0 n,.own es] R i o).al cP):=by
 have m0:=pt R h rfl rfl rfl;clear h;have m1:=pt R h2 rfl rfl rfl;clear h2;exact aq [] [] (H:=ya) (live:=dP) (oh m0 (oh m1 (oe e)))
theorem WN {m:Nat} (h:bP l 14 K 11 K1) (hw:fF ba 23 none (some (.tmp 144)) none [.win (.out 1) 15 0 n,iv i]=some ⟨.win (.out 1) 15 0 m,.keep⟩) (e:T .normal ((pC l K1 [iv p,iv s,.win (.out 1) 15 0 m,.own es] R).al cP)) :
  KD (du Tryz.f11 6) T ((pD l K [iv p,iv s,.win (.out 1) 15 0 n,.own es] R i o).al cP):=by
 have m0:=pt R h rfl rfl rfl;clear h;exact aq [] [145] (H:=ya) (live:=dP) (oh m0 (oo hw (oe e)))
theorem WM {x K2 K3 cp cs:Int} {f1 f2 ws:List ak} (h:bP l 14 K 12 K1) (h2:bP l 8 K1 x K2) (h3:KC 9 [cq,iv 1] (cW l K2) 1 (XQ ⟨.dat (aN cp cs (sl f1) (sl f2)),cW l K3,1⟩)) (ha:bB ba false 24 [.own es,.dat (.slice [.slice [B0 (an .i64 (x - 1)) [] 0 0 [] 0 nl false nl [] 0 [] 0 nl 0 cp cs (sl f1) (sl f2) []]])] none=some ⟨.own ws,.keep⟩) (e:T .normal ((pC l K3 [iv p,iv s,.win (.out 1) 15 0 n,.own ws] R).al cP)) :
  KD (du Tryz.f11 6) T ((pD l K [iv p,iv s,.win (.out 1) 15 0 n,.own es] R i o).al cP):=by
 have m0:=pt R h rfl rfl rfl;clear h;have m1:=pt R h2 rfl rfl rfl;clear h2;have m2:=pt R h3 rfl rfl rfl;clear h3;refine aq [] [159] (H:=ya) (live:=dP) (oh m0 (oh m1 (oh m2 ?_)))
 rcases f1 with _|⟨v2,v3⟩
 ·rcases f2 with _|⟨v0,v1⟩ <;>
  ·exact oo ha (oe e)
 rcases f2 with _|⟨v4,v5⟩ <;>
 ·exact oo ha (oe e)
theorem WL {K2:Int} {ek:Int} {dn:List UInt8} {ar sk:Int} {sn:List UInt8} {six:Int} {da:ak} {con:Bool} {df:ak} {fu:List UInt8} {tk:Int} {tn:List UInt8} {tix:Int} {ta:ak} {pb cp cs:Int} {d1 d2:ak} {pk:List UInt8} {ws:List ak} (h:bP l 14 K 13 K1) (h2:KC 33 [cq,iv 1] (cW l K1) 1 (XQ ⟨.dat (B0 ek dn ar sk sn six da con df fu tk tn tix ta pb cp cs d1 d2 pk),cW l K2,1⟩)) (ha:bB ba false 24 [.own es,.dat (.slice [.slice [B0 ek dn ar sk sn six da con df fu tk tn tix ta pb cp cs d1 d2 pk]])] none=some ⟨.own ws,.keep⟩) (e:T .normal ((pC l K2 [iv p,iv s,.win (.out 1) 15 0 n,.own ws] R).al cP)) :
  KD (du Tryz.f11 6) T ((pD l K [iv p,iv s,.win (.out 1) 15 0 n,.own es] R i o).al cP):=by
 have m0:=pt R h rfl rfl rfl;clear h;have m1:=pt R h2 rfl rfl rfl;clear h2;exact aq [] [36] (H:=ya) (live:=dP) (oh m0 (oh m1 (oo ha (oe e))))
end
theorem aez {l:List ak} {K p s:Int} {n:Nat} {es:List ak} {R:List ac} {T:ej} (e:T .ret ((aex l K [iv p,iv s,.win (.out 1) 15 0 n,.dat (.slice es)] R).al cP)) :
  KD (kc Tryz.f11 7) T ((pC l K [iv p,iv s,.win (.out 1) 15 0 n,.own es] R).al cP):=by
 refine aq [] [] (H:=ya) (live:=dP) ?_;exact oe e
def GAn (l:List Int) (dp:Nat):Prop:=∀k,k<=l.length->∃(t:Ty) (k2:Nat),(t.size<=9 ^ dp/\t.fY)/\BG l k k2/\AnT (l.map iN) (ofNat dp) (ofNat k) t.enc (ofNat k2)
theorem Bv {r:Nat} (h:r < 11):∃s:List UInt8,HH[r]?=some s:=⟨HH[r]'h,List.getElem?_eq_getElem h⟩
section
variable {l:List Int} (hl:l.length < 10000000) (hr:inR l)
include hl
include hr in
theorem ad7 {k:Nat} (hk:k<=l.length) (dp kd:Int):∃(kd':Int) (nm:List UInt8) (ix:Int) (k2:Nat),ix < 9223372036854775808/\BG l k k2/\AT 2 (kh (l.map iN) (ofNat k) dp kd [] 0) (kh (l.map iN) (ofNat k2) dp kd' nm ix):=by
 obtain⟨r,k1,⟨h0,a1,a2,_⟩,hc⟩:=aR (n:=12) (by omega:l.length < 1000000000) hk (by omega) (by omega)
 by_cases h9:r=9
 ·subst h9;obtain⟨x,k2,_,b,hx⟩:=GS (by omega:l.length < 1000000000) a2 hr;exact⟨x,[],0,k2,by omega,⟨by have:=b.le;omega,b.top⟩,ad0 hc rfl hx ⟨rfl,rfl⟩⟩
 have e9:aB (ofNat r) 9=false:=dL (by simp;omega)
 by_cases h10:r=10
 ·subst h10;obtain⟨x,k2,hx2,b,hx⟩:=GS (by omega:l.length < 1000000000) a2 hr;exact⟨kd,[],x,k2,hx2.2,⟨by have:=b.le;omega,b.top⟩,adZ hc e9 rfl hx ⟨rfl,rfl⟩⟩
 have e10:aB (ofNat r) 10=false:=dL (by simp;omega)
 by_cases h11:r=11
 ·subst h11;obtain⟨x,k2,⟨hx2,b1,b2,_⟩,hx⟩:=aR (n:=11) (by omega:l.length < 1000000000) a2 (by omega) (by omega);obtain⟨s,hs⟩:=Bv hx2;exact⟨kd,s,0,k2,by omega,⟨by omega,b2⟩,adY hc e9 e10 rfl hx (uB hs) ⟨rfl,rfl⟩⟩
 have e11:aB (ofNat r) 11=false:=dL (by simp;omega);exact⟨kd,[],0,k1,by omega,⟨a1,a2⟩,jT 51 (adX hc e9 e10 e11 ⟨rfl,rfl⟩) (by kernel_rfl)⟩
theorem ad6 {k:Nat} (hk:k<=l.length) (dp kd:Int) (nm:List UInt8) {ix:Int} (hi:ix < 9223372036854775808):∃(ix':Int) (k2:Nat),ix' < 9223372036854775808/\BG l k k2/\AT 3 (kh (l.map iN) (ofNat k) dp kd nm ix) (kh (l.map iN) (ofNat k2) dp kd nm ix'):=by
 cases h5:aB kd 5 with
 | true=>
  obtain⟨r,k1,⟨h0,a1,a2,_⟩,hc⟩:=aR (n:=4) (by omega:l.length < 1000000000) hk (by omega) (by omega);exact⟨ofNat r,k1,by show (r:Int) < _;omega,⟨a1,a2⟩,adW h5 hc ⟨rfl,rfl⟩⟩
 | false=>exact⟨ix,k,hi,⟨Nat.le_refl _,hk⟩,jT 51 (adV h5 ⟨rfl,rfl⟩) (by kernel_rfl)⟩
theorem ad5 {k:Nat} (hk:k<=l.length) (dp kd:Int) (nm:List UInt8) (ix:Int):∃(nm':List UInt8) (k2:Nat),BG l k k2/\AT 4 (kh (l.map iN) (ofNat k) dp kd nm ix) (kh (l.map iN) (ofNat k2) dp kd nm' ix):=by
 cases h2:aB kd 2 with
 | true=>
  obtain⟨r,k1,⟨h0,a1,a2,_⟩,hc⟩:=aR (n:=11) (by omega:l.length < 1000000000) hk (by omega) (by omega);obtain⟨s,hs⟩:=Bv h0;exact⟨s,k1,⟨a1,a2⟩,adU h2 hc (uB hs) ⟨rfl,rfl⟩⟩
 | false=>exact⟨nm,k,⟨Nat.le_refl _,hk⟩,jT 51 (adT h2 ⟨rfl,rfl⟩) (by kernel_rfl)⟩
theorem ad4 {k:Nat} (hk:k<=l.length) (dp kd:Int) (nm:List UInt8) (ix:Int):∃(n k2:Nat),n<=8/\BG l k k2/\AT 6 (pR (l.map iN) (ofNat k) dp kd nm ix 0) (pR (l.map iN) (ofNat k2) dp kd nm ix (ofNat n)):=by
 cases h2:aB kd 2 with
 | true=>
  obtain⟨r,k1,⟨h0,a1,a2,_⟩,hc⟩:=aR (n:=3) (by omega:l.length < 1000000000) hk (by omega) (by omega);exact⟨r,k1,by omega,⟨a1,a2⟩,adS h2 hc ⟨rfl,rfl⟩⟩
 | false=>
  cases h3:aB kd 3 with
  | true=>
   obtain⟨r,k1,⟨h0,a1,a2,_⟩,hc⟩:=aR (n:=3) (by omega:l.length < 1000000000) hk (by omega) (by omega);exact⟨r,k1,by omega,⟨a1,a2⟩,adR h2 h3 hc ⟨rfl,rfl⟩⟩
  | false=>
   cases hb:(aB kd 4||aB kd 6) with
   | true=>exact⟨2,k,by omega,⟨Nat.le_refl _,hk⟩,V6 h2 h3 rfl rfl (fun _=>⟨rfl,rfl⟩) (fun h=>by rw[hb] at h;simp at h)⟩
   | false=>exact⟨0,k,by omega,⟨Nat.le_refl _,hk⟩,jT 115 (V6 h2 h3 rfl rfl (fun h=>by rw[hb] at h;simp at h) (fun _=>⟨rfl,rfl⟩)) (by kernel_rfl)⟩
theorem ad3 {k n:Nat} (hk:k<=l.length) (hn:n<=8) (dp kd:Int) (nm:List UInt8) (ix:Int):∃(n2 k2:Nat),n2<=8/\BG l k k2/\AT 7 (pR (l.map iN) (ofNat k) dp kd nm ix (ofNat n)) (pR (l.map iN) (ofNat k2) dp kd nm ix (ofNat n2)):=by
 obtain⟨r,k1,⟨h0,a1,a2,_⟩,hc⟩:=aR (n:=10) (by omega:l.length < 1000000000) hk (by omega) (by omega)
 cases h9:aB (ofNat r) 9 with
 | true=>
  obtain⟨x,k2,⟨hx,b1,b2,_⟩,hc2⟩:=aR (n:=9) (by omega:l.length < 1000000000) a2 (by omega) (by omega);exact⟨x,k2,by omega,⟨by omega,b2⟩,adQ hc h9 (fun _=>hc2) (fun _=>⟨rfl,rfl⟩) (fun h=>by simp at h)⟩
 | false=>exact⟨n,k1,hn,⟨a1,a2⟩,jT 115 (adQ (K3:=0) (x:=0) hc h9 (fun h=>by simp at h) (fun h=>by simp at h) (fun _=>⟨rfl,rfl⟩)) (by kernel_rfl)⟩
omit hl in
theorem ad2 {dp:Nat} (hdp:dp<=2) (ih:dp≠0->GAn l (dp - 1)) {k n:Nat} (hk:k<=l.length) (hn:n<=8) (kd:Int) (nm:List UInt8) (ix:Int) :
  ∃(ts:List Ty) (k2:Nat),ts.length<=8/\(dp=0->ts=[])/\(∀t∈ts,t.size<=9 ^ (dp - 1)/\t.fY)/\BG l k k2/\AT 8 (pR (l.map iN) (ofNat k) (ofNat dp) kd nm ix (ofNat n)) (Cu (l.map iN) (ofNat k2) (ofNat dp) kd nm ix (ofNat n) (ofNat ts.length) (dS (ax ts))):=by
 obtain⟨m,hm,hm2,hm3⟩:∃m:Nat,m<=n/\(dp=0->m=0)/\(m < n->dp=0):=by
  by_cases h:dp=0
  ·exact⟨0,by omega,fun _=>rfl,fun _=>h⟩
  exact⟨n,by omega,fun h2=>absurd h2 h,fun h2=>absurd h2 (by omega)⟩
 have hch:∃(xs:List Ty) (ks:Nat->Nat),xs.length=m/\ks 0=k/\(∀i,i<=m->BG l k (ks i))/\∀i a,xs[i]?=some a->(a.size<=9 ^ (dp - 1)/\a.fY)/\AnT (l.map iN) (ofNat (dp - 1)) (ofNat (ks i)) a.enc (ofNat (ks (i+1))):=by
  by_cases h:dp=0
  ·rw[hm2 h];exact⟨[],fun _=>k,rfl,rfl,fun _ _=>⟨Nat.le_refl _,hk⟩,fun i a h=>by simp at h⟩
  exact wy (R:=fun (k:Nat) (a:Ty) (k2:Nat)=>(a.size<=9 ^ (dp - 1)/\a.fY)/\AnT (l.map iN) (ofNat (dp - 1)) (ofNat k) a.enc (ofNat k2)) (fun k hk=>by
   obtain⟨t,k2,h1,h2,h3⟩:=ih h k hk;exact⟨t,k2,h2,h1,h3⟩) hk m
 obtain⟨ts,ks,h1,h2,h3,h4⟩:=hch;refine⟨ts,ks m,by omega,fun h=>by have:=hm2 h;exact List.length_eq_zero_iff.1 (by omega),fun t ht=>?_,h3 m (Nat.le_refl _),?_⟩
 ·obtain⟨i,hi,rfl⟩:=List.getElem_of_mem ht;exact (h4 i _ (List.getElem?_eq_getElem hi)).1
 rw[h1];refine afi (i:=ofNat m) (pre:=ax ts) ?_ ⟨rfl,rfl⟩;rw[←h2];refine bm (St:=fun i=>(Mh (l.map iN) (ofNat (ks i)) (ofNat dp) kd nm ix (ofNat n) (ofNat i) (dS (ax (ts.take i)))).al cT) m ?_ ?_ (i:=0) (Nat.zero_le _)
 ·intro i hi;have hg:ts[i]?=some ts[i]:=List.getElem?_eq_getElem (by omega);have hw:an .i64 (ofNat i+1)=ofNat (i+1):=bb (by omega);have ht:ts.take (i+1)=ts.take i++[ts[i]]:=List.take_succ_eq_append_getElem (by omega);have hA:=(h4 i _ hg).2;have ha:=U5 (pre:=ts.take i) (t:=ts[i]) (by rw[List.length_take];omega);rw[←ht] at ha;have hd0:dp≠0:=fun h=>by have:=hm2 h;omega
  have hdw:an .i64 (ofNat dp - 1)=ofNat (dp - 1):=by
   match dp,hdp,hd0 with
   | 1,_,_=>rfl
   | 2,_,_=>rfl
  rw[←hdw] at hA;generalize ts[i]=t at hA ha;obtain⟨kt,tn,ti,la⟩:=t;have hne:ax (ts.take (i+1))≠[]:=fun h=>by
   have:=congrArg List.length h
   rw[aH,List.length_take,List.length_nil] at this;omega
  refine R7 (br (by omega)) (jj (a:=0) (by omega)) hA ha ?_;rw[hw,←yo hne];exact rfl
 rw[List.take_of_length_le (by omega)]
 by_cases h:m < n
 ·exact R8 rfl (by rw[hm3 h];rfl) ⟨rfl,rfl⟩
 exact U1 (cj (by omega)) rfl ⟨rfl,rfl⟩
include hr in
theorem Si {dp:Nat} (hdp:dp<=2) (ih:dp≠0->GAn l (dp - 1)):GAn l dp:=by
 intro k hk;obtain⟨r,k1,⟨h0,a1,a2,_⟩,hc⟩:=aR (n:=7) (by omega:l.length < 1000000000) hk (by omega) (by omega);obtain⟨kd,nm,ix,k2,hi2,b2,p2⟩:=ad7 hl hr a2 (ofNat dp) (ofNat r);obtain⟨ix3,k3,hi3,b3,p3⟩:=ad6 hl b2.top (ofNat dp) kd nm hi2;obtain⟨nm4,k4,b4,p4⟩:=ad5 hl b3.top (ofNat dp) kd nm ix3;obtain⟨n6,k6,hn6,b6,p6⟩:=ad4 hl b4.top (ofNat dp) kd nm4 ix3;obtain⟨n7,k7,hn7,b7,p7⟩:=ad3 hl b6.top hn6 (ofNat dp) kd nm4 ix3;obtain⟨ts,k8,h81,h82,h83,b8,p8⟩:=ad2 hdp ih b7.top hn7 kd nm4 ix3;refine⟨.mk kd nm4 ix3 ts,k8,⟨?_,?_⟩,⟨by have:=b2.le;have:=b3.le;have:=b4.le;have:=b6.le;have:=b7.le;have:=b8.le;omega,b8.top⟩,?_⟩
 ·simp only[Ty.size];have hs:∀(ts:List Ty),(∀t∈ts,t.size<=9 ^ (dp - 1)/\t.fY)->aQ ts<=ts.length*9 ^ (dp - 1):=by
   intro ts
   induction ts with
   | nil=>intro _;simp[aQ]
   | cons t r ih=>
    intro h;have h1:=(h t (by simp)).1;have h2:=ih (fun x hx=>h x (by simp[hx]));simp only[aQ,List.length_cons,Nat.add_mul,Nat.one_mul];omega
  have hs:=hs ts h83
  match dp,hdp with
  | 0,_=>rw[h82 rfl];simp[aQ]
  | 1,_=>simp only[Nat.sub_self,Nat.pow_zero,Nat.mul_one] at hs;omega
  | 2,_=>simp only[show 2 - 1=1 from rfl,Nat.pow_one] at hs;omega
 ·simp only[Ty.fY];refine⟨fun _=>by rw[dA];exact decide_eq_true hi3,uv (fun t ht=>(h83 t ht).2)⟩
 refine Ht (x:=qS.of Tryz.f37 KS eW) (by kernel_rfl) (fn0:=Tryz.f37) rfl (by kernel_rfl) ?_;refine di (by kernel_rfl) (afl ⟨rfl,rfl⟩) ?_;refine di (by kernel_rfl) (afk hc ⟨rfl,rfl⟩) ?_;refine di (by kernel_rfl) p2 ?_;refine di (by kernel_rfl) p3 ?_;refine di (by kernel_rfl) p4 ?_;refine di (by kernel_rfl) (afj ⟨rfl,rfl⟩) ?_;refine di (by kernel_rfl) p6 ?_;refine di (by kernel_rfl) p7 ?_;refine di (by kernel_rfl) p8 ?_;refine afh (pre:=ax ts) ⟨rfl,_,rfl,?_⟩;show sU ba _ _ (aa5 _ _ kd nm4 ix3 (.dat (sl (ax ts))))=some ⟨.dat (.agg [i64 kd,sb nm4,i64 ix3,sl (ax ts)]),_,_⟩
 cases ax ts with
 | nil=>kernel_rfl
 | cons d r=>kernel_rfl
include hr in
theorem Q6:∀dp:Nat,dp<=2->GAn l dp
 | 0,h=>Si hl hr h (fun h=>absurd rfl h)
 | d+1,h=>Si hl hr h (fun _=>Q6 d (by omega))
end
theorem DH (l:List ak):sx true l=.slice l:=by cases l <;> rfl
abbrev S6 (l:List ak) (K K2:Int) (A A2 R R2:List ac) (i:Int) (o:Nat):Prop:=KD (du Tryz.f11 6) (fun e q=>e=.normal/\q=(pC l K2 A2 R2).al cP) ((pD l K A R i o).al cP)
def cA (p s:Int) (n:Nat) (es:List ak):List ac:=[iv p,iv s,.win (.out 1) 15 0 n,.own es]
theorem Oo {l:List ak} {K K1 K2 p s p' s':Int} {ins:List Ins} {cD:List (List fG)} {es es2:List ak} {R2:List ac} {i m:Nat} (hn:ins.length < 1000000) (hne:ins≠[]) (hed:cD.length < 1000000)
  (h4:bP l (ofNat ins.length) K (ofNat i) K1) (hi:i < ins.length) (h6:S6 l K1 K2 (cA p s ins.length (aG cD)) (cA p' s' m es2) (gp ins) R2 (ofNat i) (0+i*15))
  (hes:es.length=m) (hle:m<=lim) (hcell:∀i d,es[i]?=some d->d.cells.length=15/\∀j c,d.cells[j]?=some c->∃a,R2[i*15+j]?=some a/\dK a=some c) :
  KC 11 [cq,.dat (aN p s (.slice (encI ins)) (sl (aG cD)))] (cW l K) 1 (XQ ⟨.dat (aN p' s' (.slice es) (.slice es2)),cW l K2,1⟩):=by
 have hrow:=Tb hn hne;have hap:bB ba false 24 [.own [],.dat (.slice (aG cD))] none=some ⟨.own (aG cD),.keep⟩:=by
  refine uX (i:=Fc) (es:=[]) (ds:=aG cD) (k:=0) DF rfl qU ?_ rfl (by kernel_rfl) ?_ ?_ ?_ (by simp)
  ·exact qA cD
  ·have h1:Fc.bytes<=1000:=fD (by kernel_rfl);rw[dJ]
   calc (0+cD.length)*Fc.bytes<=1000000000*1000:=Nat.mul_le_mul (by omega) h1
    _<=140737488355328:=by decide
  ·rw[dJ];simp[lim];omega
  unfold jr;rw[List.nil_append,xC]
 have A:KC 11 [cq,.dat (aN p s (.slice (encI ins)) (sl (aG cD)))] (cW l K) 1 (XQ ⟨.agg ([iv p',iv s']++.win (.out 1) 15 0 m::[.dat (.slice es2)]),QX l K2 R2,2⟩):=by
  refine Ht (x:=qS.of Tryz.f11 KU dP) (by kernel_rfl) (fn0:=Tryz.f11) rfl (by kernel_rfl) ?_;refine di (by kernel_rfl) (aeF (.inr ⟨_,rfl⟩) (dr (aG cD)) ⟨rfl,rfl⟩) ?_;refine di (by kernel_rfl) (aeE (.inr ⟨_,rfl⟩) (dr (aG cD)) ⟨rfl,rfl⟩) ?_;obtain⟨x,r,hins⟩:∃x r,ins=x::r:=by cases ins with|nil=>exact absurd rfl hne|cons x r=>exact⟨x,r,rfl⟩
  have e1:encI ins=x.enc::encI r:=by rw[hins];rfl
  rw[e1] at hrow ⊢;refine di (by kernel_rfl) (aeD hrow (qY ins) ⟨rfl,rfl⟩) ?_;refine di (by kernel_rfl) (aeC hap ⟨rfl,rfl⟩) ?_;refine di (by kernel_rfl) (aeB (QI (by omega)) h4 ⟨rfl,rfl⟩) ?_;refine di (by kernel_rfl) (aeA (Uh hi) ⟨rfl,rfl⟩) ?_;refine di (by kernel_rfl) h6 ?_;exact aez ⟨rfl,_,rfl,by kernel_rfl⟩
 have B:=ay.ae1 A rfl hes hle hcell;have C:=ay.afm B (ds:=[i64 p',i64 s',.slice es,.slice es2]) rfl;refine ay.rn C ?_;rintro v hp m ⟨rfl,rfl,rfl⟩;exact⟨[],rfl,rfl,rfl,rfl,rfl⟩
def SpR (l:List Int) (c:gM) (k:Nat):Prop:=∃(d:gM) (k2:Nat),d.ok/\BG l k k2/\KC 11 [cq,.dat c.enc] (cW (l.map iN) (ofNat k)) 1 (XQ ⟨.dat d.enc,cW (l.map iN) (ofNat k2),1⟩)
section
variable {l:List Int} {pa s:Int} {ins:List Ins} {cD:List (List fG)} {k k1 k2 i:Nat} (hok:(gM.mk pa s false ins false cD).ok) (hne:ins≠[])
  (h4:bP (l.map iN) (ofNat ins.length) (ofNat k) (ofNat i) (ofNat k1)) (hi:i < ins.length) (hA:BG l k k2)
include hok hne h4 hi hA
theorem zc {p' s':Int} {ins2:List Ins} {eds2:List (List fG)} {R2:List ac} (hok2:(gM.mk p' s' true ins2 true eds2).ok)
  (h6:S6 (l.map iN) (ofNat k1) (ofNat k2) (cA pa s ins.length (aG cD)) (cA p' s' ins2.length (aG eds2)) (gp ins) R2 (ofNat i) (0+i*15))
  (hcell:∀i d,(encI ins2)[i]?=some d->d.cells.length=15/\∀j c,d.cells[j]?=some c->∃a,R2[i*15+j]?=some a/\dK a=some c):SpR l (.mk pa s false ins false cD) k:=by
 simp only[gM.ok] at hok hok2;refine⟨.mk p' s' true ins2 true eds2,k2,by simp only[gM.ok];exact hok2,hA,?_⟩;have h:=Oo hok.2.1 hne hok.2.2.1 h4 hi h6 (bH ins2) (by simp only[lim];omega) hcell;have e1:gM.enc (.mk p' s' true ins2 true eds2)=aN p' s' (.slice (encI ins2)) (.slice (aG eds2)):=by rw[←DH,←DH];rfl
 have e2:gM.enc (.mk pa s false ins false cD)=aN pa s (.slice (encI ins)) (sl (aG cD)):=by
  rw[←yS];show aN _ _ (sx false (encI ins)) _=_
  cases ins with
  | nil=>exact absurd rfl hne
  | cons x r=>rfl
 rw[e1,e2];exact h
theorem nQ {f:Nat} {x x':Ins} {vs:List ac} {ds:List ak} (hx:ins[i]?=some x) (hf:f+vs.length<=15) (hv:vs.map dK=ds.map some) (hx':x'.cells=bI f ds x.cells) (hfine:x'.gN) (hnl:aW vs=true)
  (h6:bh (.cells (bI (0+i*15+f) vs (gp ins)))=true->S6 (l.map iN) (ofNat k1) (ofNat k2) (cA pa s ins.length (aG cD)) (cA pa s ins.length (aG cD)) (gp ins) (bI (0+i*15+f) vs (gp ins)) (ofNat i) (0+i*15)):SpR l (.mk pa s false ins false cD) k:=by
 have hok0:=hok;simp only[gM.ok] at hok;refine zc hok0 hne h4 hi hA (ins2:=ins.set i x') (eds2:=cD) ?_ (by rw[List.length_set];exact h6 (sL _ _ _ hnl (qY ins))) (Ta hx hf hv hx');simp only[gM.ok];refine⟨fun y hy=>?_,by rw[List.length_set];exact hok.2.1,hok.2.2.1,hok.2.2.2⟩
 rcases List.mem_or_eq_of_mem_set hy with h|rfl
 ·exact hok.1 y h
 exact hfine
end
noncomputable def vl (t:TypeId):TI:=match ba.ty t with|some x=>x|none=>default
theorem E6:ba.ty 3=some (vl 3):=by kernel_rfl
theorem tq:(vl 3).size=1:=by kernel_rfl
theorem aam:ba.ty 9=some (vl 9):=by kernel_rfl
theorem SM:(vl 9).size=1:=by kernel_rfl
theorem DC:ba.ty 22=some (vl 22):=by kernel_rfl
theorem NO:(vl 22).size=1:=by kernel_rfl
theorem yK:(vl 22).isAgg=false:=by kernel_rfl
theorem Wd:ba.ty 40=some (vl 40):=by kernel_rfl
theorem NM:(vl 40).size=4:=by kernel_rfl
theorem SL:ba.ty 43=some (vl 43):=by kernel_rfl
theorem L2:(vl 43).size=4:=by kernel_rfl
theorem kg {t:TypeId} {sz:Nat} (ht:ba.ty t=some (vl t)) (hs:(vl t).size=sz) {ins:List Ins} {i f:Nat} {v:ac} (hi:i < ins.length) (h1:(aY v).length=sz) (h0:0 < sz) (hf:f+sz<=15) (h3:dU (aY v)=true) :
  cG ba t [.ptr (.out 1) (0+i*15+f),v] (some (.cells (gp ins)))=some ⟨.undef,.set (.cells (bI (0+i*15+f) (aY v) (gp ins)))⟩:=
 WC ht (by rw[hs,h1]) (by rw[hs,jI];omega) h3 (by rw[hs];exact h0) (by rw[jI];omega)
theorem abR (t:Ty):dU (t.cells.map ac.dat)=true:=by
 obtain⟨k,nm,ix,la⟩:=t;simp only[Ty.cells,List.map_cons,List.map_nil]
 cases ax la <;> rfl
theorem Uw {l:List Int} {c:gM} {k:Nat} (hl:l.length < 10000000) (hr:inR l) (hg:aeb c) (hk:k<=l.length):SpR l c k:=by
 obtain⟨pa,s,iz,ins,ez,cD⟩:=c;obtain⟨hok,hez,hiz,_,⟨hl2,hl10⟩,hel,hgen⟩:=hg;have hez:ez=false:=hez;have hiz:iz=false:=hiz;subst hez hiz;have hl2:2<=ins.length:=hl2;have hl10:ins.length<=10:=hl10;have hel:cD.length<=2:=hel;have hgen:∀x∈ins,x.gen:=hgen;have hl9:l.length < 1000000000:=by omega
 have hne:ins≠[]:=fun h=>by rw[h] at hl2;simp at hl2
 obtain⟨i,k1,⟨hi,a1,a2,_⟩,h4⟩:=aR (n:=ins.length) hl9 hk (by omega) (by omega);obtain⟨q,k2,⟨hq,b1,b2,_⟩,h5⟩:=aR (n:=14) hl9 a2 (by omega) (by omega);have hx:ins[i]?=some ins[i]:=List.getElem?_eq_getElem hi;have hxm:ins[i].gen:=hgen _ (List.getElem_mem hi);have hxf:=CY hxm;generalize ins[i]=x at hx hxm hxf;have hok':=hok;simp only[gM.ok] at hok';have keep:∀{p' s':Int} {k3:Nat},BG l k2 k3->(bh (.cells (gp ins))=true->S6 (l.map iN) (ofNat k1) (ofNat k3) (cA pa s ins.length (aG cD)) (cA p' s' ins.length (aG cD)) (gp ins) (gp ins) (ofNat i) (0+i*15))->SpR l (.mk pa s false ins false cD) k:=by
  intro p' s' k3 hA h6;exact zc hok hne h4 hi ⟨by have:=hA.le;omega,hA.top⟩ (by simp only[gM.ok];exact hok') (h6 (qY ins)) tE
 match q,hq with
 | 0,_=>
  obtain⟨r,k3,⟨_,c1,c2,_⟩,h6⟩:=aR (n:=25) hl9 b2 (by omega) (by omega);exact nQ (f:=0) (x':={x with op:=an .i64 (ofNat r - 1)}) (vs:=[iv (an .i64 (ofNat r - 1))]) (ds:=[i64 (an .i64 (ofNat r - 1))]) hok hne h4 hi ⟨by omega,c2⟩ hx (show 0+1<=15 by decide) rfl rfl hxf rfl (fun hn=>abg h5 h6 (kg (f:=0) (v:=iv _) E6 tq hi rfl (by decide) (by decide) rfl) hn ⟨rfl,rfl⟩)
 | 1,_=>
  obtain⟨r,k3,⟨_,c1,c2,_⟩,h6⟩:=aR (n:=9) hl9 b2 (by omega) (by omega);exact nQ (f:=1) (x':={x with dst:=an .i64 (ofNat r - 1)}) (vs:=[iv (an .i64 (ofNat r - 1))]) (ds:=[i64 (an .i64 (ofNat r - 1))]) hok hne h4 hi ⟨by omega,c2⟩ hx (show 1+1<=15 by decide) rfl rfl hxf rfl (fun hn=>abf h5 h6 (kg (f:=1) (v:=iv _) E6 tq hi rfl (by decide) (by decide) rfl) hn ⟨rfl,rfl⟩)
 | 2,_=>
  obtain⟨r,k3,_,hA,h6⟩:=GS hl9 b2 hr;exact nQ (f:=2) (x':={x with a:=r }) (vs:=[iv r]) (ds:=[i64 r]) hok hne h4 hi ⟨by have:=hA.le;omega,hA.top⟩ hx (show 2+1<=15 by decide) rfl rfl hxf rfl (fun hn=>abe h5 h6 (kg (f:=2) (v:=iv _) E6 tq hi rfl (by decide) (by decide) rfl) hn ⟨rfl,rfl⟩)
 | 3,_=>
  obtain⟨r,k3,⟨_,c1,c2,_⟩,h6⟩:=aR (n:=9) hl9 b2 (by omega) (by omega);exact nQ (f:=3) (x':={x with b:=an .i64 (ofNat r - 1)}) (vs:=[iv (an .i64 (ofNat r - 1))]) (ds:=[i64 (an .i64 (ofNat r - 1))]) hok hne h4 hi ⟨by omega,c2⟩ hx (show 3+1<=15 by decide) rfl rfl hxf rfl (fun hn=>abd h5 h6 (kg (f:=3) (v:=iv _) E6 tq hi rfl (by decide) (by decide) rfl) hn ⟨rfl,rfl⟩)
 | 4,_=>
  obtain⟨r,k3,⟨_,c1,c2,_⟩,h6⟩:=aR (n:=14) hl9 b2 (by omega) (by omega);exact nQ (f:=4) (x':={x with im:=an .i64 (ofNat r - 2)}) (vs:=[iv (an .i64 (ofNat r - 2))]) (ds:=[i64 (an .i64 (ofNat r - 2))]) hok hne h4 hi ⟨by omega,c2⟩ hx (show 4+1<=15 by decide) rfl rfl hxf rfl (fun hn=>abc h5 h6 (kg (f:=4) (v:=iv _) E6 tq hi rfl (by decide) (by decide) rfl) hn ⟨rfl,rfl⟩)
 | 5,_=>
  obtain⟨r,k3,⟨hr2,c1,c2,_⟩,h6⟩:=aR (n:=11) hl9 b2 (by omega) (by omega);obtain⟨nm,hnm⟩:=Bv hr2;exact nQ (f:=5) (x':={x with nm:=nm }) (vs:=[.dat (sb nm)]) (ds:=[sb nm]) hok hne h4 hi ⟨by omega,c2⟩ hx (show 5+1<=15 by decide) rfl rfl hxf rfl (fun hn=>abb h5 h6 (uB hnm) (kg (f:=5) (v:=.dat (sb nm)) aam SM hi rfl (by decide) (by decide) rfl) hn ⟨rfl,rfl⟩)
 | 6,_=>
  obtain⟨r,k3,⟨hr2,c1,c2,_⟩,h6⟩:=aR (n:=7) hl9 b2 (by omega) (by omega);obtain⟨zs,k4,hz,hA,h7⟩:=LI (n:=9) (c:=r) hl9 c2 (by omega) (by omega) (by omega);have hxa:=hxm.2.1;have h0:=fE (a:=[]) (b:=zs) (by simp;omega);have h1:=fE (a:=x.ar) (b:=zs) (by omega);have h2:=fE (a:=[]) (b:=x.ar) (by simp;omega);rw[←List.map_append] at h1;have hld:(gp ins)[0+i*15+6]?=some (.dat (sx x.az (x.ar.map iN))):=by
   rw[Nat.zero_add,tF 6 hx (by decide)];rfl
  have hin:∀(ws:List Int),ws.length < 2000000->bh (.cells (bI (0+i*15+6) [.own (ws.map iN)] (gp ins)))=true->True:=fun _ _ _=>trivial
  have go:∀(ws:List Int),ws.length < 2000000->(bh (.cells (bI (0+i*15+6) [.own (ws.map iN)] (gp ins)))=true->
    cG ba 22 [.ptr (.out 1) (0+i*15+6),.own (ws.map iN)] (some (.cells (gp ins)))=some ⟨.undef,.set (.cells (bI (0+i*15+6) [.own (ws.map iN)] (gp ins)))⟩->
    S6 (l.map iN) (ofNat k1) (ofNat k4) (cA pa s ins.length (aG cD)) (cA pa s ins.length (aG cD)) (gp ins) (bI (0+i*15+6) [.own (ws.map iN)] (gp ins)) (ofNat i) (0+i*15))->SpR l (.mk pa s false ins false cD) k:=by
   intro ws hw h6';refine nQ (f:=6) (x':={x with az:=true,ar:=ws }) (vs:=[.own (ws.map iN)]) (ds:=[.slice (ws.map iN)]) hok hne h4 hi ⟨by have:=hA.le;omega,hA.top⟩ hx (show 6+1<=15 by decide) rfl ?_ ⟨hxf.1,by show ws.length < _;omega,hxf.2.2⟩ rfl
    (fun hn=>h6' hn (kg (f:=6) (v:=.own (ws.map iN)) DC NO hi rfl (by decide) (by decide) rfl))
   rw[←DH];obtain⟨op,dst,a,b,im,nm,az,ar,⟨k,tn,ix,la⟩,ck,ci,cs⟩:=x;rfl
  have hl6:∀d,(gp ins)[0+i*15+6]?=some (.dat d)->(∀es,d=.slice es∨d=nl->True)->True:=fun _ _ _=>trivial
  cases har:x.ar with
  | nil=>
   rw[har] at hld
   cases haz:x.az with
   | false=>
    rw[haz] at hld;exact go zs (by omega) (fun hn hs=>aba h5 (vS (take:=false) DC yK hld) h6 h7 h0 hs hn ⟨rfl,rfl⟩)
   | true=>
    rw[haz] at hld;exact go zs (by omega) (fun hn hs=>WJ h5 (VP DC yK hld) h6 h7 h0 hs hn ⟨rfl,rfl⟩)
  | cons y ys=>
   rw[har] at hld h1 h2;exact go (y::ys++zs) (by rw[har] at hxa;simp at hxa ⊢;omega) (fun hn hs=>WK h5 (VP DC yK hld) h2 h6 h7 h1 hs hn ⟨rfl,rfl⟩)
 | 7,_=>
  obtain⟨t,k3,⟨ht,hti⟩,hA,h6⟩:=Q6 hl hr 2 (by omega) k2 b2;have htf:t.gN:=⟨by have:t.size<=81:=ht;omega,hti⟩;have e:aY (.dat t.enc)=t.cells.map ac.dat:=rfl;have hs:=@kg _ _ Wd NM ins i 7 (.dat t.enc) hi (by rw[e,List.length_map];obtain⟨a,b,c,d⟩:=t;rfl) (by decide) (by decide) (by rw[e];exact abR t);rw[e] at hs;refine nQ (f:=7) (x':={x with ty:=t }) (vs:=t.cells.map ac.dat) (ds:=t.cells) hok hne h4 hi ⟨by have:=hA.le;omega,hA.top⟩ hx (by rw[List.length_map];obtain⟨a,b,c,d⟩:=t;exact (show 7+4<=15 by decide)) (V5 t) ?_ ⟨htf,hxf.2.1,hxf.2.2⟩ (sK _) (fun hn=>?_)
  ·obtain⟨op,dst,a,b,im,nm,az,ar,⟨k,tn,ix,la⟩,ck,ci,cs⟩:=x;obtain⟨k',tn',ix',la'⟩:=t;rfl
  obtain⟨k',tn',ix',la'⟩:=t;exact aa9 h5 h6 hs hn ⟨rfl,rfl⟩
 | 8,_=>
  obtain⟨r,k3,⟨_,c1,c2,_⟩,h6⟩:=aR (n:=7) hl9 b2 (by omega) (by omega);obtain⟨r2,k4,⟨_,d1,d2,_⟩,h7⟩:=aR (n:=4) hl9 c2 (by omega) (by omega);obtain⟨r3,k5,⟨hr3,e1,e2,_⟩,h8⟩:=aR (n:=6) hl9 d2 (by omega) (by omega);have hlen:∀a:Nat,a < 6->∃s:List UInt8,H5[a]?=some s/\s.length < 1000000:=by
   intro a ha
   match a,ha with
   | 0,_=>exact⟨_,rfl,by simp⟩
   | 1,_=>exact⟨_,rfl,by simp⟩
   | 2,_=>exact⟨_,rfl,by simp⟩
   | 3,_=>exact⟨_,rfl,by simp⟩
   | 4,_=>exact⟨_,rfl,by simp⟩
   | 5,_=>exact⟨_,rfl,by simp⟩
  obtain⟨nm,hnm,hnl⟩:=hlen r3 hr3;refine nQ (f:=11) (x':={x with ck:=ofNat r,ci:=an .i64 (ofNat r2 - 1),cs:=nm }) (vs:=[iv (ofNat r),iv (an .i64 (ofNat r2 - 1)),.dat (sb nm),.dat nl]) (ds:=[i64 (ofNat r),i64 (an .i64 (ofNat r2 - 1)),sb nm,nl]) hok hne h4 hi ⟨by omega,e2⟩ hx (show 11+4<=15 by decide) rfl ?_ ⟨hxf.1,hxf.2.1,by show nm.length < _;omega⟩ rfl
   (fun hn=>aa8 h5 h6 h7 h8 (uB hnm) (kg (f:=11) (v:=.dat (.agg [i64 (ofNat r),i64 (an .i64 (ofNat r2 - 1)),sb nm,nl])) SL L2 hi rfl (by decide) (by decide) rfl) hn ⟨rfl,rfl⟩)
  obtain⟨op,dst,a,b,im,nm,az,ar,⟨k,tn,ix,la⟩,ck,ci,cs⟩:=x;rfl
 | 9,_=>
  obtain⟨r,k3,_,hA,h6⟩:=GS hl9 b2 hr;exact keep hA (fun hn=>aa7 h5 h6 ⟨rfl,rfl⟩)
 | 10,_=>
  obtain⟨r,k3,_,hA,h6⟩:=GS hl9 b2 hr;exact keep hA (fun hn=>WO h5 h6 ⟨rfl,rfl⟩)
 | 11,_=>
  have hlt:(ins.take i).length=i:=by rw[List.length_take];omega
  have hw:=@S2 (.out 1) ins.length i (by omega) (.tmp 144);rw[←hlt] at hw;refine zc hok hne h4 hi ⟨by omega,b2⟩ (ins2:=ins.take i) (eds2:=cD) ?_ (WN h5 (by rw[hlt] at hw ⊢;exact hw) ⟨rfl,rfl⟩) ?_
  ·simp only[gM.ok];exact⟨fun y hy=>hok'.1 y (List.mem_of_mem_take hy),by omega,hok'.2.2.1,hok'.2.2.2⟩
  intro i' d hd;have hi':i' < i:=by have:=(List.getElem?_eq_some_iff.1 hd).1;rw[bH,hlt] at this;exact this
  refine tE (l:=ins) i' d ?_;rw[gR,List.getElem?_map,List.getElem?_take_of_lt hi'] at hd;rw[gR,List.getElem?_map];exact hd
 | 12,_=>
  obtain⟨r,k3,⟨_,c1,c2,_⟩,h6⟩:=aR (n:=8) hl9 b2 (by omega) (by omega);obtain⟨c,k4,hg2,hA,h7⟩:=LL hl k3 c2;obtain⟨p2,s2,iz,ins2,ez,eds2⟩:=c;obtain⟨hok2,hez,hiz,_,⟨hm2,_⟩,_,_⟩:=hg2;have hez:ez=false:=hez;have hiz:iz=false:=hiz;subst hez hiz;have hm2:2<=ins2.length:=hm2;have hce:gM.enc (.mk p2 s2 false ins2 false eds2)=aN p2 s2 (sl (encI ins2)) (sl (aG eds2)):=by rw[←yS,←yS];rfl
  rw[hce] at h7;have ha:=Sf (pre:=cD) (x:=[.mk (an .i64 (ofNat r - 1)) ⟨[],0,.mk 0 [] 0 [],false,[]⟩ [] (.mk 0 [] 0 []) 0 (.mk p2 s2 false ins2 false eds2) []]) (by omega);have he1:ir [.mk (an .i64 (ofNat r - 1)) ⟨[],0,.mk 0 [] 0 [],false,[]⟩ [] (.mk 0 [] 0 []) 0 (.mk p2 s2 false ins2 false eds2) []]=[B0 (an .i64 (ofNat r - 1)) [] 0 0 [] 0 nl false nl [] 0 [] 0 nl 0 p2 s2 (sl (encI ins2)) (sl (aG eds2)) []]:=by
   have hce2:gM.cells (.mk p2 s2 false ins2 false eds2)=[i64 p2,i64 s2,sl (encI ins2),sl (aG eds2)]:=ak.agg.inj hce;rw[ir,ir,fG.cells,hce2];rfl
  rw[he1] at ha;refine zc (p':=pa) (s':=s) hok hne h4 hi ⟨by have:=hA.le;omega,hA.top⟩ (ins2:=ins) (eds2:=cD++[[.mk (an .i64 (ofNat r - 1)) ⟨[],0,.mk 0 [] 0 [],false,[]⟩ [] (.mk 0 [] 0 []) 0 (.mk p2 s2 false ins2 false eds2) []]]) ?_ ?_ tE
  ·simp only[gM.ok];refine⟨hok'.1,hok'.2.1,by rw[List.length_append];simp;omega,Am hok'.2.2.2 ?_⟩;simp only[nj,Ss,fG.ok];exact⟨by simp,⟨⟨rz,cY,hok2⟩,trivial⟩,trivial⟩
  exact WM h5 h6 h7 ha ⟨rfl,rfl⟩
 | 13,_=>
  obtain⟨e,k3,he,hA,h6⟩:=LJ hl k2 b2;have ha:=Sf (pre:=cD) (x:=[e]) (by omega);have hkk:∃(ek:Int) (dn:List UInt8) (ar sk:Int) (sn:List UInt8) (six:Int) (da:ak) (con:Bool) (df:ak) (fu:List UInt8) (tk:Int) (tn:List UInt8) (tix:Int) (ta:ak) (pb cp cs:Int) (d1 d2:ak) (pk:List UInt8),e.enc=B0 ek dn ar sk sn six da con df fu tk tn tix ta pb cp cs d1 d2 pk/\dj da/\dj df/\dj ta/\dj d1/\dj d2:=by
   obtain⟨ek,⟨dn,ar,⟨sk,sn,six,sa⟩,con,fl⟩,fu,⟨tk,tn,tix,ta⟩,pb,⟨cp,cs,iz,ins3,ez,eds3⟩,pk⟩:=e;exact⟨ek,dn,ar,sk,sn,six,sl (ax sa),con,sl (BZ fl),fu,tk,tn,tix,sl (ax ta),pb,cp,cs,sx iz (encI ins3),sx ez (aG eds3),pk,rfl,dr _,dr _,dr _,dq _ _,dq _ _⟩
  have he1:ir [e]=[e.enc]:=by rw[ir,ir];rfl
  rw[he1] at ha;obtain⟨ek,dn,ar,sk,sn,six,da,con,df,fu,tk,tn,tix,ta,pb,cp,cs,d1,d2,pk,hee,q1,q2,q3,q4,q5⟩:=hkk;rw[hee] at ha h6;refine zc (p':=pa) (s':=s) hok hne h4 hi ⟨by have:=hA.le;omega,hA.top⟩ (ins2:=ins) (eds2:=cD++[[e]]) ?_ ?_ tE
  ·simp only[gM.ok];refine⟨hok'.1,hok'.2.1,by rw[List.length_append];simp;omega,Am hok'.2.2.2 ?_⟩;simp only[nj,Ss];exact⟨by simp,⟨he,trivial⟩,trivial⟩
  exact WL h5 h6 ha ⟨rfl,rfl⟩
 | n+14,h=>omega
end Go.Proofs.YtmpmgmmcaghacaaGreatDoor
