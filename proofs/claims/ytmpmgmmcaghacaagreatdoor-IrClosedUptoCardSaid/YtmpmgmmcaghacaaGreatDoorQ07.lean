/- IrClosed returns true and changes nothing, for arguments of bulk at most 1048576 (the card of the second form; conditions: those of the given row). Names are shortened by a program, for the claim's bound. Part 7. -/
import Derived.Test.YtmpmgmmcaghacaaGreatDoorQ06
set_option linter.unusedVariables false
set_option linter.unusedSimpArgs false
set_option maxRecDepth 100000
set_option maxHeartbeats 4000000
namespace Go.Proofs.YtmpmgmmcaghacaaGreatDoor
open Go.Tp
def xX (m:Nat) (c1 ss:List ac) (start n:Int) (N:Nat):ab:=⟨[(18,iv start),(17,iv n),(3,.win (.out 0) 1 0 N),(1,.ptr (.loc 1) 0)],[(.loc 1,.cells c1)],[(.out 0,.cells ss)],m⟩
def Em (m:Nat) (c1 ss:List ac) (start n:Int) (N:Nat):ab:=⟨[(19,bv false),(18,iv start),(17,iv n),(3,.win (.out 0) 1 0 N),(1,.ptr (.loc 1) 0)],[(.loc 1,.cells c1)],[(.out 0,.cells ss)],m⟩
theorem Qk {p sl:Int} {es:List al} {d2:al} {ss:List ac} {start n:Int} {N:Nat} {T:Exit->aa->Prop} (h0:aH start n=true)
  (hl:KD (.loop (roundOf Tryz.f68 1)) (fun e q=>(e=.exit 2/\∃m s2,T .normal ((xX (m+1) (cC p sl (.slice es) d2) s2 (ap .i64 (start+1)) n N).an Tryz.f68.ntmps)/\q=(Up m (cC p sl (.slice es) d2) s2 start n N).an Tryz.f68.ntmps)∨(e=.ret/\∃m,T .ret ((kA m).an Tryz.f68.ntmps)/\q=(kA m).an Tryz.f68.ntmps))
   ((oL 1 (cC p sl (.slice es) d2) [iv start,iv 0] ss 1 start n N).an Tryz.f68.ntmps)) :
  KD (roundOf Tryz.f68 0) T ((xX 1 (cC p sl (.slice es) d2) ss start n N).an Tryz.f68.ntmps):=by
 refine ay [19] [] (H:=hFC) (live:=rH) (by kernel_rfl) ?_;refine ob h0 ?_;refine lo hl ?_;rintro ex s (⟨rfl,⟨x0,⟨x1,g2,rfl⟩⟩⟩|⟨rfl,⟨x3,g4,rfl⟩⟩)
 ·refine⟨_,rfl,?_⟩;exact oe g2
 refine⟨_,rfl,?_⟩;exact oe g4
theorem TE {p sl:Int} {es:List al} {d2:al} {ss:List ac} {start n:Int} {N:Nat} {T:Exit->aa->Prop} (h0:aH start n=false) (e:T (.exit 0) ((Em 1 (cC p sl (.slice es) d2) ss start n N).an Tryz.f68.ntmps)) :
  KD (roundOf Tryz.f68 0) T ((xX 1 (cC p sl (.slice es) d2) ss start n N).an Tryz.f68.ntmps):=by
 refine ay [19] [] (H:=hFC) (live:=rH) (by kernel_rfl) ?_;refine ob h0 ?_;exact oe e
theorem Ya {p s:Int} {es:List al} {d2:al} (g2:cV d2) {n:Nat} {ss0:List ac} {b:Bool} (hn:n=es.length)
  (h1:eV (env ak.aC) 22 [iv (Int.ofNat es.length),iv (Int.ofNat es.length)]=some ⟨.undef,.grow (.cells ss0) 1 n⟩) (h2:bC (.cells ss0)=true)
  (hl:KD (.loop (roundOf Tryz.f68 0)) (fun e q=>(e=.exit 0/\b=false/\∃m s2 i,q=(Em m (cC p s (.slice es) d2) s2 i (Int.ofNat es.length) n).an Tryz.f68.ntmps)∨(e=.ret/\b=true/\∃m,q=(kA m).an Tryz.f68.ntmps))
   ((xX 1 (cC p s (.slice es) d2) ss0 0 (Int.ofNat es.length) n).an Tryz.f68.ntmps)) :
  ae 68 [.dat (aP p s (.slice es) d2)] (bv b):=by
 have q1:=@aS p s (.slice es) _ (.inr ⟨_,rfl⟩) g2;clear g2;subst hn;refine co [500014] [1,14] (x:=.of Tryz.f68 JP rH) ?_;refine oo q1 ?_;refine oo h1 ?_;refine ob h2 ?_;refine lo hl ?_;rintro ex s (⟨rfl,rfl,⟨x0,⟨x1,⟨x2,rfl⟩⟩⟩⟩|⟨rfl,rfl,⟨x3,rfl⟩⟩) <;>
 ·refine⟨_,rfl,?_⟩;exact fi
def El (y:Nat) (c1:List ac) (start n:Int) (N:Nat):ab:=⟨[(18,iv start),(17,iv n),(3,.win (.out y) 1 0 N),(1,.ptr (.loc 1) 0)],[(.loc 1,.cells c1)],[],0⟩
def Hb (y:Nat) (c1:List ac) (start n:Int) (N:Nat):ab:=⟨[(19,bv false),(18,iv start),(17,iv n),(3,.win (.out y) 1 0 N),(1,.ptr (.loc 1) 0)],[(.loc 1,.cells c1)],[],0⟩
theorem Uu {p sl:Int} {d1 d2:al} {a m:Nat} {ρ:Nat->Nat} (h0:ρ 0=0) {ss:List Int} {N:Nat} {start n:Int} :
  Hk ρ m ((xX a (cC p sl d1 d2) (bB ss) start n N).an Tryz.f68.ntmps)=(xX m (cC p sl d1 d2) (bB ss) start n N).an Tryz.f68.ntmps:=by
 have e1:gx ρ ((El 0 (cC p sl d1 d2) start n N).an Tryz.f68.ntmps).tmps=((El (ρ 0) (cC p sl d1 d2) start n N).an Tryz.f68.ntmps).tmps:=by kernel_rfl
 rw[h0] at e1;have e2:gS ρ [(.loc 1,.cells (cC p sl d1 d2))]=[(.loc 1,.cells (cC p sl d1 d2))]:=by kernel_rfl
 have e3:gS ρ [(.out 0,.cells (bB ss))]=[(.out 0,.cells (bB ss))]:=by simp only[gS,tY,oE,eL,h0]
 show (⟨gx ρ ((El 0 (cC p sl d1 d2) start n N).an Tryz.f68.ntmps).tmps,gS ρ [(.loc 1,.cells (cC p sl d1 d2))],gS ρ [(.out 0,.cells (bB ss))],m⟩:aa)=_;rw[e1,e2,e3];rfl
theorem V6 {p sl:Int} {d1 d2:al} {a m:Nat} {ρ:Nat->Nat} (h0:ρ 0=0) {ss:List Int} {N:Nat} {start n:Int} :
  Hk ρ m ((Em a (cC p sl d1 d2) (bB ss) start n N).an Tryz.f68.ntmps)=(Em m (cC p sl d1 d2) (bB ss) start n N).an Tryz.f68.ntmps:=by
 have e1:gx ρ ((Hb 0 (cC p sl d1 d2) start n N).an Tryz.f68.ntmps).tmps=((Hb (ρ 0) (cC p sl d1 d2) start n N).an Tryz.f68.ntmps).tmps:=by kernel_rfl
 rw[h0] at e1;have e2:gS ρ [(.loc 1,.cells (cC p sl d1 d2))]=[(.loc 1,.cells (cC p sl d1 d2))]:=by kernel_rfl
 have e3:gS ρ [(.out 0,.cells (bB ss))]=[(.out 0,.cells (bB ss))]:=by simp only[gS,tY,oE,eL,h0]
 show (⟨gx ρ ((Hb 0 (cC p sl d1 d2) start n N).an Tryz.f68.ntmps).tmps,gS ρ [(.loc 1,.cells (cC p sl d1 d2))],gS ρ [(.out 0,.cells (bB ss))],m⟩:aa)=_;rw[e1,e2,e3];rfl
theorem V7 {a m:Nat} {ρ:Nat->Nat}:Hk ρ m ((kA a).an Tryz.f68.ntmps)=(kA m).an Tryz.f68.ntmps:=by
 have e1:gx ρ ((kA m).an Tryz.f68.ntmps).tmps=((kA m).an Tryz.f68.ntmps).tmps:=by kernel_rfl
 show (⟨gx ρ ((kA m).an Tryz.f68.ntmps).tmps,[],[],m⟩:aa)=_;rw[e1];rfl
theorem Ye {p sl:Int} {d1 d2:al} {ss:List Int} {N:Nat} {start n:Int}:Qn ((xX 1 (cC p sl d1 d2) (bB ss) start n N).an Tryz.f68.ntmps)=true:=by
 have e1:tZ 1 ((El 0 (cC p sl d1 d2) start n N).an Tryz.f68.ntmps).tmps=false:=by kernel_rfl
 have e2:uZ 1 [(.loc 1,.cells (cC p sl d1 d2))]=false:=by kernel_rfl
 have e3:uZ 1 [(.out 0,.cells (bB ss))]=false:=by
  simp only[uZ,UR,xv];rfl
 show (!tZ 1 ((El 0 (cC p sl d1 d2) start n N).an Tryz.f68.ntmps).tmps&&(!uZ 1 [(.loc 1,.cells (cC p sl d1 d2))]&&(!uZ 1 [(.out 0,.cells (bB ss))]&&jz [(.out 0,.cells (bB ss))] 1)))=true;rw[e1,e2,e3];rfl
theorem TC {p sl:Int} {d1 d2:al} {ss:List Int} {N:Nat} {start n:Int} {m:Nat} {T:Exit->aa->Prop}
  (h:KD (roundOf Tryz.f68 0) (fun e s=>T e (Hk (gd (so [0]) 1 m) (m+(s.next - 1)) s)) ((xX 1 (cC p sl d1 d2) (bB ss) start n N).an Tryz.f68.ntmps)) :
  KD (roundOf Tryz.f68 0) T ((xX m (cC p sl d1 d2) (bB ss) start n N).an Tryz.f68.ntmps):=by
 have h2:=cD.rn h (so [0]) m Ye;rw[Uu (m:=m) (ρ:=so [0]) rfl] at h2;refine h2.mono ?_;rintro e s ⟨s1,hq,rfl⟩;exact hq
theorem YD {p sl:Int} {ins:List Ins} {d2:al} (g2:cV d2) (hv:oZ ins) (hn:ins.length < 1000000) :
  ae 68 [.dat (aP p sl (.slice (encI ins)) d2)] (bv (lm ins)):=by
 have hrep:bB (List.replicate ins.length 0)=bB ((List.replicate ins.length 0).map Int.ofNat):=by rw[List.map_replicate];rfl
 have hmk:=SA (n:=ins.length) hn;rw[hrep] at hmk;have hlen:(encI ins).length=ins.length:=bP ins;refine Ya (n:=ins.length) (ss0:=bB ((List.replicate ins.length 0).map Int.ofNat)) g2 hlen.symm (by rw[hlen];exact hmk) (dw _) ?_;rw[hlen];have key:KD (.loop (roundOf Tryz.f68 0)) (fun e q=>(e=.exit 0/\lm ins=false/\∃m s2 i,q=(Em m (cC p sl (.slice (encI ins)) d2) s2 i (Int.ofNat ins.length) ins.length).an Tryz.f68.ntmps)∨(e=.ret/\lm ins=true/\∃m,q=(kA m).an Tryz.f68.ntmps))
   ((xX 1 (cC p sl (.slice (encI ins)) d2) (bB ((List.replicate ins.length 0).map Int.ofNat)) 0 (Int.ofNat ins.length) ins.length).an Tryz.f68.ntmps):=by
  refine zi (I:=fun μ s=>∃i m st,i<=ins.length/\μ=ins.length - i/\(bJ ins).Inv st []/\(∀j,j < i->fS st j=2)/\s=(xX m (cC p sl (.slice (encI ins)) d2) (bB (st.map Int.ofNat)) (Int.ofNat i) (Int.ofNat ins.length) ins.length).an Tryz.f68.ntmps) ?_ (m:=ins.length) ⟨0,1,List.replicate ins.length 0,Nat.zero_le _,rfl,Gr.Inv.init,fun j hj=>absurd hj (Nat.not_lt_zero j),rfl⟩;rintro μ s ⟨i,m,st,hi,rfl,hI,hd,rfl⟩;refine TC ?_
  by_cases hlt:i < ins.length
  ·have hw:ap .i64 (Int.ofNat i+1)=Int.ofNat (i+1):=ba (by omega);refine Qk (bc hlt) ?_;refine (TJ g2 hv hn hlt hI hd).mono ?_;rintro e q (⟨rfl,m2,st2,h1,h2,rfl⟩|⟨rfl,h1,m2,rfl⟩)
   ·refine .inl ⟨rfl,m2,_,?_,rfl⟩;show ∃μ',μ' < ins.length - i/\_;refine⟨ins.length - (i+1),by omega,i+1,m+(m2+1 - 1),st2,hlt,rfl,h1,h2,?_⟩;rw[hw];exact Uu (ρ:=gd (so [0]) 1 m) rfl
   refine .inr ⟨rfl,m2,?_,rfl⟩;exact .inr ⟨rfl,xJ h1,_,V7⟩
  have:i=ins.length:=by omega
  subst this;refine TE (bW (by omega)) ?_;refine .inl ⟨rfl,D3 (hI.cover hd),_,_,_,V6 (ρ:=gd (so [0]) 1 m) rfl⟩
 exact key
noncomputable def Rw:Hints:=⟨bS,JO,bg,rowsOf bg 71⟩
def Ie (c1:List ac):Heap:=[(.loc 1,.cells c1)]
def A3 (fs:List ac):Heap:=[(.out 0,.cells fs)]
def Bu (c1 fs:List ac) (n:Nat) (ch:Bool):ab:=⟨[(4,bv ch),(3,.win (.out 0) 1 0 n),(1,.ptr (.loc 1) 0)],Ie c1,A3 fs,1⟩
def uu (c1 fs:List ac) (n:Nat) (ch:Bool) (i:Int):ab:=⟨[(20,bv false),(5,iv i),(4,bv ch),(3,.win (.out 0) 1 0 n),(1,.ptr (.loc 1) 0)],Ie c1,A3 fs,1⟩
def Nj (c1 fs:List ac) (n:Nat):ab:=⟨[(14,bv false),(3,.win (.out 0) 1 0 n),(1,.ptr (.loc 1) 0)],Ie c1,A3 fs,1⟩
def lr (c1 fs:List ac) (n:Nat) (ch:Bool) (i:Int):ab:=⟨[(5,iv i),(4,bv ch),(3,.win (.out 0) 1 0 n),(1,.ptr (.loc 1) 0)],Ie c1,A3 fs,1⟩
def CD (c1 fs:List ac) (n:Nat) (ch:Bool) (i:Int):ab:=⟨[(20,bv false),(5,iv i),(4,bv ch),(3,.win (.out 0) 1 0 n),(1,.ptr (.loc 1) 0)],Ie c1,A3 fs,1⟩
def qK (c1 fs:List ac) (n:Nat) (ch:Bool) (i:Int) (b:Bool) (dl:al) (k:Int):ab:=⟨[(8,iv k),(7,.dat dl),(6,bv b),(5,iv i),(4,bv ch),(3,.win (.out 0) 1 0 n),(1,.ptr (.loc 1) 0)],Ie c1,A3 fs,1⟩
def ur (c1 fs:List ac) (n:Nat) (ch:Bool) (i:Int) (b:Bool) (dl:al) (k:Int):ab:=⟨[(29,bv false),(8,iv k),(7,.dat dl),(6,bv b),(5,iv i),(4,bv ch),(3,.win (.out 0) 1 0 n),(1,.ptr (.loc 1) 0)],Ie c1,A3 fs,1⟩
def Bt (fs:List ac) (n:Nat) (k:Int):ab:=⟨[(9,iv k),(3,.win (.out 0) 1 0 n)],[],A3 fs,1⟩
def Hd (fs:List ac) (n:Nat) (k:Int):ab:=⟨[(66,bv false),(9,iv k),(3,.win (.out 0) 1 0 n)],[],A3 fs,1⟩
def He (fs:List ac):ab:=⟨[(2,bv true)],[],A3 fs,1⟩
theorem adb {p s:Int} {es:List al} {d2:al} {fs:List ac} {n tof:Nat} {ch b y:Bool} {i k to:Int} {els:List al} {T:Exit->aa->Prop}
  (f2:aH k (Int.ofNat els.length)=true) (f3:aq (env ak.aC) 22 [.dat (.slice els),iv k]=some ⟨.ref [iN to],.keep⟩)
  (f4:aq (env ak.aC) 35 [.win (.out 0) 1 0 n,iv to]=some ⟨.ptr (.out 0) tof,.keep⟩) (f5:er (env ak.aC) false 4 [.ptr (.out 0) tof] (some (.cells fs))=some ⟨bv y,.keep⟩)
  (e:T .normal ((qK (cC p s (.slice es) d2) fs n ch i (b&&y) (.slice els) (ap .i64 (k+1))).an Tryz.f71.ntmps)) :
  KD (roundOf Tryz.f71 2) T ((qK (cC p s (.slice es) d2) fs n ch i b (.slice els) k).an Tryz.f71.ntmps):=by
 refine ay [29] [37,39,40] (H:=Rw) (live:=jG) (by kernel_rfl) ?_;refine ob f2 ?_
 cases b
 ·exact oe e
 refine oo f3 ?_;refine oo f4 ?_;refine oo f5 ?_;exact oe e
theorem abX {p s:Int} {es:List al} {d2:al} {fs:List ac} {n:Nat} {ch b:Bool} {i k:Int} {els:List al} {T:Exit->aa->Prop}
  (f2:aH k (Int.ofNat els.length)=false)
  (e:T (.exit 4) ((ur (cC p s (.slice es) d2) fs n ch i b (.slice els) k).an Tryz.f71.ntmps)) :
  KD (roundOf Tryz.f71 2) T ((qK (cC p s (.slice es) d2) fs n ch i b (.slice els) k).an Tryz.f71.ntmps):=by
 refine ay [29] [] (H:=Rw) (live:=jG) (by kernel_rfl) ?_;refine ob f2 ?_;exact oe e
theorem abY {p s:Int} {es:List al} {d2:al} {fs:List ac} {n:Nat} {ch b:Bool} {i:Int} {T:Exit->aa->Prop}
  (e:T (.exit 4) ((ur (cC p s (.slice es) d2) fs n ch i b nl 0).an Tryz.f71.ntmps)) :
  KD (roundOf Tryz.f71 2) T ((qK (cC p s (.slice es) d2) fs n ch i b nl 0).an Tryz.f71.ntmps):=by
 refine ay [] [] (H:=Rw) (live:=jG) (by kernel_rfl) ?_;exact oe e
theorem ade {p s:Int} {es:List al} {d2:al} (g2:cV d2) {fs f2:List ac} {n io:Nat} {ch b tk y:Bool} {i k op:Int} {els:List al} {cs:List al} {T:Exit->aa->Prop} (h0:aH i 0=false)
  (h1:ae 29 [.dat (aP p s (.slice es) d2),iv i] (.dat (.slice els)))
  (hl:KD (.loop (roundOf Tryz.f71 2)) (fun e q=>e=.exit 4/\q=(ur (cC p s (.slice es) d2) fs n ch i b (.slice els) k).an Tryz.f71.ntmps) ((qK (cC p s (.slice es) d2) fs n ch i true (.slice els) 0).an Tryz.f71.ntmps))
  (h2:aq (env ak.aC) 23 [.dat (.slice es),iv i]=some ⟨.ref (i64 op::cs),.keep⟩) (h3:ae 110 [iv op] (bv tk))
  (h4:aq (env ak.aC) 35 [.win (.out 0) 1 0 n,iv i]=some ⟨.ptr (.out 0) io,.keep⟩) (h5:er (env ak.aC) false 4 [.ptr (.out 0) io] (some (.cells fs))=some ⟨bv y,.keep⟩)
  (h6:dR (env ak.aC) 4 [.ptr (.out 0) io,bv true] (some (.cells fs))=some ⟨.undef,.set (.cells f2)⟩) (h7:bC (.cells f2)=true)
  (e1:((b||tk)&&!y)=true->T .normal ((lr (cC p s (.slice es) d2) f2 n true (ap .i64 (i - 1))).an Tryz.f71.ntmps))
  (e2:((b||tk)&&!y)=false->T .normal ((lr (cC p s (.slice es) d2) fs n ch (ap .i64 (i - 1))).an Tryz.f71.ntmps)) :
  KD (roundOf Tryz.f71 1) T ((lr (cC p s (.slice es) d2) fs n ch i).an Tryz.f71.ntmps):=by
 have q3:=@aN false 1 p s (.slice es) _ (.inr ⟨_,rfl⟩) g2;clear g2;refine ay [20,600062] [23,56,57,62,100062,47] (H:=Rw) (live:=jG) (by kernel_rfl) ?_;refine ox h0 ?_;refine oo q3 ?_;refine on h1 ?_;refine lo hl ?_;rintro ex s ⟨rfl,rfl⟩;refine⟨_,rfl,?_⟩
 cases b
 ·refine oo h2 ?_;refine on h3 ?_
  cases tk
  ·exact oe (e2 rfl)
  refine oo h4 ?_;refine oo h5 ?_
  cases y
  ·refine oo h4 ?_;refine oo h6 ?_;refine ob h7 ?_;exact oe (e1 rfl)
  exact oe (e2 rfl)
 refine oo h4 ?_;refine oo h5 ?_
 cases y
 ·refine oo h4 ?_;refine oo h6 ?_;refine ob h7 ?_;exact oe (e1 rfl)
 exact oe (e2 rfl)
theorem ab0 {p s:Int} {es:List al} {d2:al} (g2:cV d2) {fs f2:List ac} {n io:Nat} {ch b tk y:Bool} {i k op:Int} {cs:List al} {T:Exit->aa->Prop} (h0:aH i 0=false)
  (h1:ae 29 [.dat (aP p s (.slice es) d2),iv i] (.dat nl))
  (hl:KD (.loop (roundOf Tryz.f71 2)) (fun e q=>e=.exit 4/\q=(ur (cC p s (.slice es) d2) fs n ch i b nl k).an Tryz.f71.ntmps) ((qK (cC p s (.slice es) d2) fs n ch i true nl 0).an Tryz.f71.ntmps))
  (h2:aq (env ak.aC) 23 [.dat (.slice es),iv i]=some ⟨.ref (i64 op::cs),.keep⟩) (h3:ae 110 [iv op] (bv tk))
  (h4:aq (env ak.aC) 35 [.win (.out 0) 1 0 n,iv i]=some ⟨.ptr (.out 0) io,.keep⟩) (h5:er (env ak.aC) false 4 [.ptr (.out 0) io] (some (.cells fs))=some ⟨bv y,.keep⟩)
  (h6:dR (env ak.aC) 4 [.ptr (.out 0) io,bv true] (some (.cells fs))=some ⟨.undef,.set (.cells f2)⟩) (h7:bC (.cells f2)=true)
  (e1:((b||tk)&&!y)=true->T .normal ((lr (cC p s (.slice es) d2) f2 n true (ap .i64 (i - 1))).an Tryz.f71.ntmps))
  (e2:((b||tk)&&!y)=false->T .normal ((lr (cC p s (.slice es) d2) fs n ch (ap .i64 (i - 1))).an Tryz.f71.ntmps)) :
  KD (roundOf Tryz.f71 1) T ((lr (cC p s (.slice es) d2) fs n ch i).an Tryz.f71.ntmps):=by
 have q3:=@aN false 1 p s (.slice es) _ (.inr ⟨_,rfl⟩) g2;clear g2;refine ay [20,600062] [23,56,57,62,100062,47] (H:=Rw) (live:=jG) (by kernel_rfl) ?_;refine ox h0 ?_;refine oo q3 ?_;refine on h1 ?_;refine lo hl ?_;rintro ex s ⟨rfl,rfl⟩;refine⟨_,rfl,?_⟩
 cases b
 ·refine oo h2 ?_;refine on h3 ?_
  cases tk
  ·exact oe (e2 rfl)
  refine oo h4 ?_;refine oo h5 ?_
  cases y
  ·refine oo h4 ?_;refine oo h6 ?_;refine ob h7 ?_;exact oe (e1 rfl)
  exact oe (e2 rfl)
 refine oo h4 ?_;refine oo h5 ?_
 cases y
 ·refine oo h4 ?_;refine oo h6 ?_;refine ob h7 ?_;exact oe (e1 rfl)
 exact oe (e2 rfl)
theorem abZ {p s:Int} {es:List al} {d2:al} {fs:List ac} {n:Nat} {ch:Bool} {i:Int} {T:Exit->aa->Prop} (h0:aH i 0=true)
  (e:T (.exit 2) ((CD (cC p s (.slice es) d2) fs n ch i).an Tryz.f71.ntmps)) :
  KD (roundOf Tryz.f71 1) T ((lr (cC p s (.slice es) d2) fs n ch i).an Tryz.f71.ntmps):=by
 refine ay [20] [] (H:=Rw) (live:=jG) (by kernel_rfl) ?_;refine ox h0 ?_;exact oe e
theorem adf {p s:Int} {es:List al} {d2:al} {fs:List ac} {n:Nat} {L:Exit->aa->Prop} {T:Exit->aa->Prop}
  (hl:KD (.loop (roundOf Tryz.f71 1)) L ((lr (cC p s (.slice es) d2) fs n false (ap .i64 (Int.ofNat es.length - 1))).an Tryz.f71.ntmps))
  (hL:∀e q,L e q->e=.exit 2/\∃f2 ch i,q=(CD (cC p s (.slice es) d2) f2 n ch i).an Tryz.f71.ntmps/\T .normal ((uu (cC p s (.slice es) d2) f2 n ch i).an Tryz.f71.ntmps)) :
  KD (roundOf Tryz.f71 0) T ((Bu (cC p s (.slice es) d2) fs n true).an Tryz.f71.ntmps):=by
 have hl2:KD (.loop (roundOf Tryz.f71 1)) (fun e q=>e=.exit 2/\∃f2 ch i,T .normal ((uu (cC p s (.slice es) d2) f2 n ch i).an Tryz.f71.ntmps)/\q=(CD (cC p s (.slice es) d2) f2 n ch i).an Tryz.f71.ntmps) ((lr (cC p s (.slice es) d2) fs n false (ap .i64 (Int.ofNat es.length - 1))).an Tryz.f71.ntmps):=
  hl.mono (fun e q h=>by obtain⟨h1,f2,ch,i,h2,h3⟩:=hL e q h;exact⟨h1,f2,ch,i,h3,h2⟩)
 clear hl hL;refine ay [] [] (H:=Rw) (live:=jG) (by kernel_rfl) ?_;refine lo hl2 ?_;rintro ex s ⟨rfl,⟨x0,⟨x1,⟨x2,g3,rfl⟩⟩⟩⟩;refine⟨_,rfl,?_⟩;exact oe g3
theorem ab1 {p s:Int} {es:List al} {d2:al} {fs:List ac} {n:Nat} {T:Exit->aa->Prop} (e:T (.exit 0) ((Nj (cC p s (.slice es) d2) fs n).an Tryz.f71.ntmps)) :
  KD (roundOf Tryz.f71 0) T ((Bu (cC p s (.slice es) d2) fs n false).an Tryz.f71.ntmps):=by
 refine ay [] [] (H:=Rw) (live:=jG) (by kernel_rfl) ?_;exact oe e
theorem ada {fs:List ac} {n kf:Nat} {y:Bool} {k:Int} {T:Exit->aa->Prop} (f1:jB (env ak.aC) 35 [.win (.out 0) 1 0 n] none=some ⟨iv (Int.ofNat n),.keep⟩) (f2:aH k (Int.ofNat n)=true)
  (f4:aq (env ak.aC) 35 [.win (.out 0) 1 0 n,iv k]=some ⟨.ptr (.out 0) kf,.keep⟩) (f5:er (env ak.aC) false 4 [.ptr (.out 0) kf] (some (.cells fs))=some ⟨bv y,.keep⟩)
  (e1:y=true->T .normal ((Bt fs n (ap .i64 (k+1))).an Tryz.f71.ntmps)) (e2:y=false->T .ret ((He fs).an Tryz.f71.ntmps)) :
  KD (roundOf Tryz.f71 3) T ((Bt fs n k).an Tryz.f71.ntmps):=by
 refine ay [66] [65,71,72] (H:=Rw) (live:=jG) (by kernel_rfl) ?_;refine oo f1 ?_;refine ob f2 ?_;refine oo f4 ?_;refine oo f5 ?_
 cases y
 ·exact oe (e2 rfl)
 exact oe (e1 rfl)
theorem abW {fs:List ac} {n:Nat} {k:Int} {T:Exit->aa->Prop} (f1:jB (env ak.aC) 35 [.win (.out 0) 1 0 n] none=some ⟨iv (Int.ofNat n),.keep⟩) (f2:aH k (Int.ofNat n)=false)
  (e1:T (.exit 6) ((Hd fs n k).an Tryz.f71.ntmps)) :
  KD (roundOf Tryz.f71 3) T ((Bt fs n k).an Tryz.f71.ntmps):=by
 refine ay [66] [65] (H:=Rw) (live:=jG) (by kernel_rfl) ?_;refine oo f1 ?_;refine ob f2 ?_;exact oe e1
theorem Yn {p s:Int} {es:List al} {d2:al} (g2:cV d2) {n:Nat} {fs0:List ac} {b:Bool} (hn:n=es.length)
  (h1:eV (env ak.aC) 35 [iv (Int.ofNat es.length),iv (Int.ofNat es.length)]=some ⟨.undef,.grow (.cells fs0) 1 n⟩) (h2:bC (.cells fs0)=true)
  (ha:KD (.loop (roundOf Tryz.f71 0)) (fun e q=>∃fs,e=.exit 0/\q=(Nj (cC p s (.slice es) d2) fs n).an Tryz.f71.ntmps/\KD (.loop (roundOf Tryz.f71 3)) (fun e q=>(∃k,e=.exit 6/\b=false/\q=(Hd fs n k).an Tryz.f71.ntmps)∨(e=.ret/\b=true/\q=(He fs).an Tryz.f71.ntmps)) ((Bt fs n 0).an Tryz.f71.ntmps)) ((Bu (cC p s (.slice es) d2) fs0 n true).an Tryz.f71.ntmps)) :
  ae 71 [.dat (aP p s (.slice es) d2)] (bv b):=by
 have q1:=@aS p s (.slice es) _ (.inr ⟨_,rfl⟩) g2;clear g2;subst hn;refine co [500013] [1,13] (x:=.of Tryz.f71 JO jG) ?_;refine oo q1 ?_;refine oo h1 ?_;refine ob h2 ?_;refine lo ha ?_;rintro ex s ⟨x0,rfl,rfl,g1⟩;refine⟨_,rfl,?_⟩;refine lo g1 ?_;rintro ex s (⟨x2,rfl,rfl,rfl⟩|⟨rfl,rfl,rfl⟩) <;>
 ·refine⟨_,rfl,?_⟩;exact fi
theorem Vq {op:Int} {c1 c2 c3 c4 c5:Bool} (h1:aB op 14=c1) (h2:aB op 10=c2) (h3:aB op 11=c3) (h4:aB op 22=c4) (h5:aB op 20=c5):ae 110 [iv op] (bv (c1||(c2||(c3||(c4||c5))))):=by
 refine co [4,7,11,15,19] [] (x:=.of Tryz.f110 HV Kk) ?_;refine ob h1 ?_
 cases c1
 ·refine ob h2 ?_
  cases c2
  ·refine ob h3 ?_
   cases c3
   ·refine ob h4 ?_
    cases c4
    ·refine ob h5 ?_
     cases c5 <;>
     ·exact fi
    exact fi
   exact fi
  exact fi
 exact fi
theorem Ns (op:Int):(jM (dI op)).call=(aB op 14||(aB op 10||(aB op 11||(aB op 22||aB op 20)))):=by
 cases hq:dI op with
 | none=>
  have h:∀k:Nat,1<=k->k<=22->aB op (Int.ofNat k)=false:=by
   intro k h1 h2;refine dj ?_;rintro rfl
   have:∀n:Nat,1<=n->n<=22->jL n≠none:=by
    intro n
    match n with
    | 0=>intro h;omega
    | 1|2|3|4|5|6|7|8|9|10|11|12|13|14|15|16|17|18|19|20|21|22=>intro _ _ h;simp[jL] at h
    | n+23=>intro _ h;omega
   exact this k h1 h2 hq
  have e14:aB op 14=false:=h 14 (by decide) (by decide);have e10:aB op 10=false:=h 10 (by decide) (by decide);have e11:aB op 11=false:=h 11 (by decide) (by decide);have e22:aB op 22=false:=h 22 (by decide) (by decide);have e20:aB op 20=false:=h 20 (by decide) (by decide);rw[e14,e10,e11,e22,e20];rfl
 | some s=>
  obtain⟨n,rfl,h4,h5,h6⟩:=oP hq;have hc:n=1∨n=2∨n=3∨n=4∨n=5∨n=6∨n=7∨n=8∨n=9∨n=10∨n=11∨n=12∨n=13∨n=14∨n=15∨n=16∨n=17∨n=18∨n=19∨n=20∨n=21∨n=22:=by omega
  rcases hc with rfl|rfl|rfl|rfl|rfl|rfl|rfl|rfl|rfl|rfl|rfl|rfl|rfl|rfl|rfl|rfl|rfl|rfl|rfl|rfl|rfl|rfl <;> (cases h6;rfl)
theorem Si (op:Int):ae 110 [iv op] (bv (jM (dI op)).call):=by
 rw[Ns];exact Vq rfl rfl rfl rfl rfl
section
variable {p s:Int} {ins:List Ins} {d2:al}
abbrev cI (p s:Int) (ins:List Ins) (d2:al):List ac:=cC p s (.slice (encI ins)) d2
theorem QH (hv:oZ ins) (hn:ins.length < 1000000) {f:List Bool} (hf:f.length=ins.length) {ch:Bool} {i:Nat} {l:List Nat} (hl:∀j∈l,j < ins.length) (hl2:l.length<=2) (hne:l≠[]) :
  KD (.loop (roundOf Tryz.f71 2)) (fun e q=>e=.exit 4/\q=(ur (cI p s ins d2) (fk f) ins.length ch (Int.ofNat i) (l.all (fun j=>f.getD j false)) (.slice ((l.map Int.ofNat).map iN)) (Int.ofNat l.length)).an Tryz.f71.ntmps)
   ((qK (cI p s ins d2) (fk f) ins.length ch (Int.ofNat i) true (.slice ((l.map Int.ofNat).map iN)) 0).an Tryz.f71.ntmps):=by
 have hlen:((l.map Int.ofNat).map iN).length=l.length:=by rw[List.length_map,List.length_map]
 refine aZ (St:=fun k=>(qK (cI p s ins d2) (fk f) ins.length ch (Int.ofNat i) ((l.take k).all (fun j=>f.getD j false)) (.slice ((l.map Int.ofNat).map iN)) (Int.ofNat k)).an Tryz.f71.ntmps) l.length ?_ ?_ (i:=0) (Nat.zero_le _)
 ·intro k hk;have hg:l[k]?=some l[k]:=List.getElem?_eq_getElem hk;have hj:=hl _ (List.getElem_mem hk);have hall:(l.take (k+1)).all (fun j=>f.getD j false)=((l.take k).all (fun j=>f.getD j false)&&f.getD l[k] false):=by
   rw[List.take_succ_eq_append_getElem hk,List.all_append];simp
  generalize l[k]=j at hg hj hall;have hg2:(l.map Int.ofNat)[k]?=some (Int.ofNat j):=by rw[List.getElem?_map,hg];rfl
  have hw:ap .i64 (Int.ofNat k+1)=Int.ofNat (k+1):=ba (by omega);have hgf:f[j]?=some (f.getD j false):=by
   rw[List.getD_eq_getElem?_getD,List.getElem?_eq_getElem (by omega)];rfl
  refine adb (bc (by rw[hlen];exact hk)) (uY hg2) (qh (n:=ins.length) hj) (Dj (.out 0) hgf) ?_;rw[hw,←hall];exact rfl
 refine abX (bW (by rw[hlen];omega)) ?_;rw[List.take_length];exact⟨rfl,rfl⟩
theorem QF {f:List Bool} {ch:Bool} {i:Int} :
  KD (.loop (roundOf Tryz.f71 2)) (fun e q=>e=.exit 4/\q=(ur (cI p s ins d2) (fk f) ins.length ch i true nl 0).an Tryz.f71.ntmps)
   ((qK (cI p s ins d2) (fk f) ins.length ch i true nl 0).an Tryz.f71.ntmps):=by
 refine aZ (St:=fun _=>(qK (cI p s ins d2) (fk f) ins.length ch i true nl 0).an Tryz.f71.ntmps) 0 (fun i hi=>absurd hi (by omega)) ?_ (i:=0) (Nat.le_refl _);exact abY ⟨rfl,rfl⟩
def Ad (ins:List Ins) (f:List Bool) (i:Nat):Bool:=(fO ins i).all (fun j=>f.getD j false)||Am ins i
theorem QJ (g2:cV d2) (hv:oZ ins) (hn:ins.length < 1000000) {f:List Bool} (hf:f.length=ins.length) {ch:Bool} {i:Nat} (hi:i < ins.length) {T:Exit->aa->Prop}
  (e1:(Ad ins f i&&!f.getD i false)=true->T .normal ((lr (cI p s ins d2) (fk (f.set i true)) ins.length true (ap .i64 (Int.ofNat i - 1))).an Tryz.f71.ntmps))
  (e2:(Ad ins f i&&!f.getD i false)=false->T .normal ((lr (cI p s ins d2) (fk f) ins.length ch (ap .i64 (Int.ofNat i - 1))).an Tryz.f71.ntmps)) :
  KD (roundOf Tryz.f71 1) T ((lr (cI p s ins d2) (fk f) ins.length ch (Int.ofNat i)).an Tryz.f71.ntmps):=by
 have hx:ins[i]?=some ins[i]:=List.getElem?_eq_getElem hi;generalize ins[i]=x at hx;have hsucc:=rY hv hx;have hcall:Am ins i=(jM (dI x.op)).call:=by unfold Am;rw[hx]
 have h0:aH (Int.ofNat i) 0=false:=by rw[cW];simp
 have h1:=Wh (p:=p) (s:=s) g2 hx (by omega);have h2:=tm hx;have h3:=Si x.op;have h4:=qh (m:=.out 0) (n:=ins.length) hi;have hgf:f[i]?=some (f.getD i false):=by
  rw[List.getD_eq_getElem?_getD,List.getElem?_eq_getElem (by omega)];rfl
 have h5:=Dj (.out 0) hgf;have h6:=M4 (l:=f) (i:=i) (.out 0) true (by omega);rw[←hsucc] at h1;have hd:Ad ins f i=((fO ins i).all (fun j=>f.getD j false)||(jM (dI x.op)).call):=by unfold Ad;rw[hcall]
 rw[hd] at e1 e2;have hlt:∀j∈fO ins i,j < ins.length:=(bJ ins).lt i hi;have hl2:=kh ins i;generalize fO ins i=l at *;obtain⟨op,dst,a,b,im,nm,az,ar,⟨xk,tn,ix,la⟩,ck,ci,cs⟩:=x
 cases l with
 | nil=>exact ab0 g2 h0 h1 QF h2 h3 h4 h5 h6 (iL _) e1 e2
 | cons j0 l0=>
  have h7:=QH (p:=p) (s:=s) (d2:=d2) hv hn hf (ch:=ch) (i:=i) hlt hl2 (by simp);exact ade g2 h0 h1 h7 h2 h3 h4 h5 h6 (iL _) e1 e2
def Sn (j:Nat):Int:=match j with|0=>-1|i+1=>Int.ofNat i
theorem BK {j:Nat} (h:j < 1000000):ap .i64 (Int.ofNat j - 1)=Sn j:=by
 rw[cF]
 cases j with
 | zero=>rfl
 | succ i=>
  rw[show Int.ofNat (i+1) - 1=Int.ofNat i by simp];exact wrap_i64 (by show _<=(i:Int);omega) (by show (i:Int)<=_;omega)
def oy (f:List Bool):Nat:=f.countP (fun b=>!b)
theorem LJ {f:List Bool} {i:Nat} (hi:i < f.length) (h:f.getD i false=false):oy (f.set i true)+1=oy f:=by
 unfold oy;have hfi:f[i]=false:=by
  rw[List.getD_eq_getElem?_getD,List.getElem?_eq_getElem hi] at h;exact h
 rw[List.countP_set hi,hfi]
 have:0 < f.countP (fun b=>!b):=List.countP_pos_iff.2 ⟨f[i],List.getElem_mem hi,by rw[hfi];rfl⟩
 simp;omega
theorem QI (g2:cV d2) (hv:oZ ins) (hn:ins.length < 1000000) {f:List Bool} (hf:f.length=ins.length) (hS:(bJ ins).Sound f) :
  KD (.loop (roundOf Tryz.f71 1)) (fun e q=>e=.exit 2/\∃f2 ch i,f2.length=ins.length/\(bJ ins).Sound f2/\(ch=true->oy f2 < oy f)/\(ch=false->f2=f/\(bJ ins).eX f)/\q=(CD (cI p s ins d2) (fk f2) ins.length ch i).an Tryz.f71.ntmps)
   ((lr (cI p s ins d2) (fk f) ins.length false (ap .i64 (Int.ofNat (encI ins).length - 1))).an Tryz.f71.ntmps):=by
 rw[bP,BK hn];refine zi (I:=fun μ q=>∃f2 ch,μ<=ins.length/\f2.length=ins.length/\(bJ ins).Sound f2/\(ch=true->oy f2 < oy f)/\(ch=false->f2=f/\∀i,μ<=i->i < ins.length->Ad ins f i=true->f.getD i false=true)/\q=(lr (cI p s ins d2) (fk f2) ins.length ch (Sn μ)).an Tryz.f71.ntmps) ?_ (m:=ins.length) ⟨f,false,Nat.le_refl _,hf,hS,fun h=>by simp at h,fun _=>⟨rfl,fun i h1 h2=>by omega⟩,rfl⟩;rintro μ q ⟨f2,ch,hμ,hf2,hS2,h1,h2,rfl⟩
 cases μ with
 | zero=>
  refine abZ (by rfl) ?_;refine⟨rfl,f2,ch,Sn 0,hf2,hS2,h1,?_,rfl⟩;intro hc;obtain⟨k1,k2⟩:=h2 hc;refine⟨k1,?_⟩;intro i hi hd;refine k2 i (Nat.zero_le _) hi ?_;unfold Ad
  rcases hd with hd|hd
  ·have:Am ins i=true:=hd
   rw[this,Bool.or_true]
  have:(fO ins i).all (fun j=>f.getD j false)=true:=List.all_eq_true.2 hd
  rw[this,Bool.true_or]
 | succ i=>
  have hi:i < ins.length:=hμ;have hw:ap .i64 (Int.ofNat i - 1)=Sn i:=BK (by omega);refine QJ g2 hv hn hf2 hi ?_ ?_
  ·intro hc;simp only[Bool.and_eq_true,Bool.not_eq_true'] at hc;rw[hw];have hl:=LJ (by omega:i < f2.length) hc.2;refine⟨i,Nat.lt_succ_self i,f2.set i true,true,by omega,by rw[List.length_set];exact hf2,?_,?_,fun h=>by simp at h,rfl⟩
   ·refine hS2.set (by omega) ?_;have hd:=hc.1;unfold Ad at hd;rw[Bool.or_eq_true] at hd
    rcases hd with hd|hd
    ·exact .inr (fun j hj=>List.all_eq_true.1 hd j hj)
    exact .inl hd
   intro _
   cases ch
   ·obtain⟨rfl,_⟩:=h2 rfl;omega
   have:=h1 rfl;omega
  intro hc;rw[hw];refine⟨i,Nat.lt_succ_self i,f2,ch,by omega,hf2,hS2,h1,?_,rfl⟩;intro hch;obtain⟨rfl,k2⟩:=h2 hch;refine⟨rfl,?_⟩;intro j hj1 hj2 hd
  by_cases hji:j=i
  ·subst hji;rw[hd,Bool.true_and] at hc;simpa using hc
  exact k2 j (by omega) hj2 hd
theorem LZ {f:List ac} {p s:Int} {d1 d2:al} {n:Nat} {ch:Bool} {i:Int}:fw bZ ((uu (cC p s d1 d2) f n ch i).an Tryz.f71.ntmps) ((Bu (cC p s d1 d2) f n ch).an Tryz.f71.ntmps):=by
 have h:=jq (G:=bZ) (n:=Tryz.f71.ntmps) (uu (cC p s d1 d2) f n ch i) (2 ^ 4+2 ^ 3+2 ^ 1);have e:((gN (uu (cC p s d1 d2) f n ch i) (fun l=>dP l (2 ^ 4+2 ^ 3+2 ^ 1))).an Tryz.f71.ntmps)=((Bu (cC p s d1 d2) f n ch).an Tryz.f71.ntmps):=by kernel_rfl
 rw[e] at h;exact h
theorem QG (hn:ins.length < 1000000) {f:List Bool} (hf:f.length=ins.length) :
  KD (.loop (roundOf Tryz.f71 3)) (fun e q=>(∃k,e=.exit 6/\f.any (fun b=>!b)=false/\q=(Hd (fk f) ins.length k).an Tryz.f71.ntmps)∨(e=.ret/\f.any (fun b=>!b)=true/\q=(He (fk f)).an Tryz.f71.ntmps)) ((Bt (fk f) ins.length 0).an Tryz.f71.ntmps):=by
 refine cH (St:=fun k=>(Bt (fk f) ins.length (Int.ofNat k)).an Tryz.f71.ntmps) (fun k=>f.any (fun b=>!b)=(f.drop k).any (fun b=>!b)) ins.length ?_ ?_ (i:=0) (Nat.zero_le _) rfl
 ·intro k hk hI;have hkf:k < f.length:=by omega
  have hg:f[k]?=some f[k]:=List.getElem?_eq_getElem hkf;have hd:(f.drop k).any (fun b=>!b)=(!f[k]||(f.drop (k+1)).any (fun b=>!b)):=by rw[List.drop_eq_getElem_cons hkf];rfl
  generalize f[k]=y at hg hd;rw[←hI] at hd;have hw:ap .i64 (Int.ofNat k+1)=Int.ofNat (k+1):=ba (by omega);refine ada (zo (by omega)) (bc hk) (qh hk) (Dj (.out 0) hg) ?_ ?_
  ·rintro rfl;rw[hw];exact⟨rfl,hd⟩
  rintro rfl;exact .inr ⟨rfl,hd,rfl⟩
 intro hI;have h1:f.any (fun b=>!b)=false:=by rw[hI,←hf,List.drop_length];rfl
 exact abW (zo (by omega)) (bW (by omega)) (.inl ⟨_,rfl,h1,rfl⟩)
theorem Oa (g2:cV d2) (hv:oZ ins) (hn:ins.length < 1000000):ae 71 [.dat (aP p s (.slice (encI ins)) d2)] (bv (lm ins)):=by
 have hlen:(encI ins).length=ins.length:=bP ins;refine Yn (n:=ins.length) (fs0:=fk (List.replicate ins.length false)) g2 hlen.symm (by rw[hlen];exact Fh hn) (iL _) ?_;refine zi (I:=fun μ q=>∃f ch,f.length=ins.length/\(bJ ins).Sound f/\μ=oy f+(if ch=true then 1 else 0)/\(ch=false->(bJ ins).eX f)/\q=(Bu (cI p s ins d2) (fk f) ins.length ch).an Tryz.f71.ntmps) ?_ (m:=oy (List.replicate ins.length false)+1) ⟨List.replicate ins.length false,true,by simp,Gr.Sound.init,rfl,fun h=>by simp at h,rfl⟩;rintro μ q ⟨f,ch,hf,hS,rfl,hc,rfl⟩
 cases ch with
 | false=>
  refine ab1 ?_;have hcl:=hc rfl;have hb:f.any (fun b=>!b)=lm ins:=by
   cases ha:f.any (fun b=>!b) with
   | true=>exact (xJ (Gr.Rm hf hcl ha)).symm
   | false=>
    cases ht:lm ins with
    | false=>rfl
    | true=>
     have:(bJ ins).xK:=by unfold lm at ht;simpa using ht
     rw[Gr.MO hf hS this] at ha;exact absurd ha (by simp)
  have hD:=QG (ins:=ins) hn hf;rw[hb] at hD;exact⟨fk f,rfl,rfl,hD⟩
 | true=>
  refine gw (Q:=fun e q=>e=.normal/\∃f2 ch i,(f2.length=ins.length/\(bJ ins).Sound f2/\(ch=true->oy f2 < oy f)/\(ch=false->f2=f/\(bJ ins).eX f))/\q=(uu (cI p s ins d2) (fk f2) ins.length ch i).an Tryz.f71.ntmps) ?_ ?_
  ·refine adf (QI g2 hv hn hf hS) ?_;rintro e q ⟨rfl,f2,ch,i,k1,k2,k3,k4,rfl⟩;exact⟨rfl,fk f2,ch,i,rfl,rfl,f2,ch,i,⟨k1,k2,k3,k4⟩,rfl⟩
  rintro e q ⟨rfl,f2,ch,i,⟨k1,k2,k3,k4⟩,rfl⟩;refine⟨_,LZ,?_⟩;refine⟨oy f2+(if ch=true then 1 else 0),?_,f2,ch,k1,k2,rfl,?_,rfl⟩
  ·cases ch
   ·obtain⟨rfl,_⟩:=k4 rfl;simp
   have:=k3 rfl;simp;omega
  intro h;obtain⟨rfl,k5⟩:=k4 h;exact k5
end
def GG (ek:Int) (dn:List UInt8) (ar sk:Int) (sn:List UInt8) (six:Int) (da:al) (con:Bool) (df:al) (fu:List UInt8) (tk:Int) (tn:List UInt8) (tix:Int) (ta:al) (pa cp cs:Int) (d1 d2:al) (pk:List UInt8):al:=.agg [i64 ek,sb dn,i64 ar,i64 sk,sb sn,i64 six,da,bl con,df,sb fu,i64 tk,sb tn,i64 tix,ta,i64 pa,i64 cp,i64 cs,d1,d2,sb pk]
def cE (ek:Int) (dn:List UInt8) (ar sk:Int) (sn:List UInt8) (six:Int) (da:al) (con:Bool) (df:al) (fu:List UInt8) (tk:Int) (tn:List UInt8) (tix:Int) (ta:al) (pa cp cs:Int) (d1 d2:al) (pk:List UInt8):List ac:=[.dat (i64 ek),.dat (sb dn),.dat (i64 ar),.dat (i64 sk),.dat (sb sn),.dat (i64 six),.dat da,.dat (bl con),.dat df,.dat (sb fu),.dat (i64 tk),.dat (sb tn),.dat (i64 tix),.dat ta,.dat (i64 pa),.dat (i64 cp),.dat (i64 cs),.dat d1,.dat d2,.dat (sb pk)]
theorem PO (t:Bool) {ek:Int} {dn:List UInt8} {ar sk:Int} {sn:List UInt8} {six:Int} {da:al} {con:Bool} {df:al} {fu:List UInt8} {tk:Int} {tn:List UInt8} {tix:Int} {ta:al} {pa cp cs:Int} {d1 d2:al} {pk:List UInt8} (h1:cV da) (h2:cV df) (h3:cV ta) (h4:cV d1) (h5:cV d2):er (env ak.aC) t 53 [.ref [i64 ek,sb dn,i64 ar,i64 sk,sb sn,i64 six,da,bl con,df,sb fu,i64 tk,sb tn,i64 tix,ta,i64 pa,i64 cp,i64 cs,d1,d2,sb pk]] none=some ⟨.dat (GG ek dn ar sk sn six da con df fu tk tn tix ta pa cp cs d1 d2 pk),.keep⟩:=by
 cases t <;> rcases h1 with rfl|⟨_,rfl⟩ <;> rcases h2 with rfl|⟨_,rfl⟩ <;> rcases h3 with rfl|⟨_,rfl⟩ <;> rcases h4 with rfl|⟨_,rfl⟩ <;> rcases h5 with rfl|⟨_,rfl⟩ <;> kernel_rfl
theorem Uj (l:Nat) {ek:Int} {dn:List UInt8} {ar sk:Int} {sn:List UInt8} {six:Int} {da:al} {con:Bool} {df:al} {fu:List UInt8} {tk:Int} {tn:List UInt8} {tix:Int} {ta:al} {pa cp cs:Int} {d1 d2:al} {pk:List UInt8} (h1:cV da) (h2:cV df) (h3:cV ta) (h4:cV d1) (h5:cV d2):dR (env ak.aC) 53 [.ptr (.loc l) 0,.dat (GG ek dn ar sk sn six da con df fu tk tn tix ta pa cp cs d1 d2 pk)] (some (.cells (cE 0 [] 0 0 [] 0 nl false nl [] 0 [] 0 nl 0 0 0 nl nl [])))=some ⟨.undef,.set (.cells (cE ek dn ar sk sn six da con df fu tk tn tix ta pa cp cs d1 d2 pk))⟩:=by
 rcases h1 with rfl|⟨_,rfl⟩ <;> rcases h2 with rfl|⟨_,rfl⟩ <;> rcases h3 with rfl|⟨_,rfl⟩ <;> rcases h4 with rfl|⟨_,rfl⟩ <;> rcases h5 with rfl|⟨_,rfl⟩ <;> kernel_rfl
theorem aaw (t:Bool) (l:Nat) {ek:Int} {dn:List UInt8} {ar sk:Int} {sn:List UInt8} {six:Int} {da:al} {con:Bool} {df:al} {fu:List UInt8} {tk:Int} {tn:List UInt8} {tix:Int} {ta:al} {pa cp cs:Int} {d1 d2:al} {pk:List UInt8} (h1:cV da) (h2:cV df) (h3:cV ta) (h4:cV d1) (h5:cV d2):er (env ak.aC) t 53 [.ptr (.loc l) 0] (some (.cells (cE ek dn ar sk sn six da con df fu tk tn tix ta pa cp cs d1 d2 pk)))=some ⟨.dat (GG ek dn ar sk sn six da con df fu tk tn tix ta pa cp cs d1 d2 pk),.keep⟩:=by
 cases t <;> rcases h1 with rfl|⟨_,rfl⟩ <;> rcases h2 with rfl|⟨_,rfl⟩ <;> rcases h3 with rfl|⟨_,rfl⟩ <;> rcases h4 with rfl|⟨_,rfl⟩ <;> rcases h5 with rfl|⟨_,rfl⟩ <;> kernel_rfl
theorem acd {ek:Int} {dn:List UInt8} {ar sk:Int} {sn:List UInt8} {six:Int} {da:al} {con:Bool} {df:al} {fu:List UInt8} {tk:Int} {tn:List UInt8} {tix:Int} {ta:al} {pa cp cs:Int} {d1 d2:al} {pk:List UInt8} (h1:cV da) (h2:cV df) (h3:cV ta) (h4:cV d1) (h5:cV d2):Rn [.dat (GG ek dn ar sk sn six da con df fu tk tn tix ta pa cp cs d1 d2 pk)]=some ⟨.undef,.new (.cells (cE ek dn ar sk sn six da con df fu tk tn tix ta pa cp cs d1 d2 pk))⟩:=by
 rcases h1 with rfl|⟨_,rfl⟩ <;> rcases h2 with rfl|⟨_,rfl⟩ <;> rcases h3 with rfl|⟨_,rfl⟩ <;> rcases h4 with rfl|⟨_,rfl⟩ <;> rcases h5 with rfl|⟨_,rfl⟩ <;> kernel_rfl
theorem PQ (t:Bool) (l:Nat) {ek:Int} {dn:List UInt8} {ar sk:Int} {sn:List UInt8} {six:Int} {da:al} {con:Bool} {df:al} {fu:List UInt8} {tk:Int} {tn:List UInt8} {tix:Int} {ta:al} {pa cp cs:Int} {d1 d2:al} {pk:List UInt8} (h4:cV d1) (h5:cV d2):er (env ak.aC) t 26 [.ptr (.loc l) 15] (some (.cells (cE ek dn ar sk sn six da con df fu tk tn tix ta pa cp cs d1 d2 pk)))=some ⟨.dat (aP cp cs d1 d2),.keep⟩:=by
 cases t <;> rcases h4 with rfl|⟨_,rfl⟩ <;> rcases h5 with rfl|⟨_,rfl⟩ <;> kernel_rfl
def jV (ins:List Ins):Bool:=match ins[ins.length - 1]? with|some x=>(jM (dI x.op)).fin|none=>false
def kP (c1 c2 c3 c4 c5 c6 c7 c8 ok fin tr:Bool) (rest:Int):Int:=
 if (c1||(c2||(c3||c4)))=true then 4 else if (c5||(c6||(c7||c8)))=true then 2 else if ok=false then 2 else if (!fin||tr)=true then 2 else rest
noncomputable def wh (d:Nat) (pa sl:Int) (ins:List Ins) (ne:Nat) (rest:Int):Int:=
 kP (aH 40 (Int.ofNat d)) (aH 200 sl) (aH 2000 (Int.ofNat ins.length)) (aH 2000 (Int.ofNat ne)) (aH pa 0) (aH 6 pa) (aH sl pa) (aB (Int.ofNat ins.length) 0)
  (ins.all (fun x=>ig (Int.ofNat ins.length) (Int.ofNat ne) sl x)) (jV ins) (lm ins) rest
def jC.zero (c:jC):Bool:=aB c.pa 0&&(aB c.sl 0&&(aB (Int.ofNat c.ins.length) 0&&aB (Int.ofNat c.cT.length) 0))
def qT (c1 c2 c3 z:Bool) (v:Int):Int:=if (c1||c2)=true then 2 else if (!c3&&!z)=true then 2 else if c3=false then 0 else v
mutual
noncomputable def jC.val:jC->Nat->Int
 | .mk pa sl _ ins _ cT=>fun d=>wh d pa sl ins cT.length (jv cT d)
noncomputable def jv:List (List fJ)->Nat->Int
 | []=>fun _=>0
 | l::r=>fun d=>if aB (tF l d) 0=true then jv r d else tF l d
noncomputable def tF:List fJ->Nat->Int
 | []=>fun _=>0
 | e::r=>fun d=>if aB (e.val d) 0=true then tF r d else e.val d
noncomputable def fJ.val:fJ->Nat->Int
 | .mk k _ _ _ _ c _=>fun d=>qT (aH k 1) (aH 5 k) (aB k 2) c.zero (c.val (d+1))
end
abbrev cN (l:List al) (n K r K2:Int):Prop:=KC 32 [dy,iv n] (db l K) 1 (XQ ⟨iv r,db l K2,1⟩)
theorem Ys {l:List al} {K K1:Int} (h:cN l 5 K 0 K1):KC 66 [dy] (db l K) 1 (XQ ⟨.dat (lf 0 0 []),db l K1,1⟩):=by
 refine co [] [] (x:=.of Tryz.f66 BO zl) ?_;refine oh h ?_;exact fi
theorem Yr {l:List al} {K K1 K2 a:Int} (h:cN l 5 K 1 K1) (h2:cN l 2 K1 a K2):KC 66 [dy] (db l K) 1 (XQ ⟨.dat (lf 2 a []),db l K2,1⟩):=by
 refine co [] [] (x:=.of Tryz.f66 BO zl) ?_;refine oh h ?_;refine oh h2 ?_;exact fi
theorem Yq {l:List al} {K K1 K2 a:Int} {s:List UInt8} (h:cN l 5 K 2 K1) (h2:cN l 6 K1 a K2) (hi:aq (env ak.aC) 70 [.dat (.slice (encS M1)),.dat (.flat (.int .i64 a))]=some ⟨.ref [sb s],.keep⟩) :
  KC 66 [dy] (db l K) 1 (XQ ⟨.dat (lf 3 0 s),db l K2,1⟩):=by
 refine co [] [20] (x:=.of Tryz.f66 BO zl) ?_;refine oh h ?_;refine oh h2 ?_;refine oo hi ?_;exact fi
theorem Yp {l:List al} {K K1 K2 r a:Int} (h:cN l 5 K r K1) (e0:aB r 0=false) (e1:aB r 1=false) (e2:aB r 2=false) (h2:cN l 7 K1 a K2) :
  KC 66 [dy] (db l K) 1 (XQ ⟨.dat (lf 1 (ap .i64 (a - 3)) []),db l K2,1⟩):=by
 refine co [6,9,14] [] (x:=.of Tryz.f66 BO zl) ?_;refine oh h ?_;refine ob e0 ?_;refine ob e1 ?_;refine ob e2 ?_;refine oh h2 ?_;exact fi
structure Rq (l:List Int) (k k2:Nat):Prop where
 le:k<=k2
 top:k2<=l.length
theorem Ai {α:Type} {l:List Int} {R:Nat->α->Nat->Prop} (step:∀k,k<=l.length->∃a k2,Rq l k k2/\R k a k2) {k:Nat} (hk:k<=l.length) :
  ∀m:Nat,∃(xs:List α) (ks:Nat->Nat),xs.length=m/\ks 0=k/\(∀i,i<=m->Rq l k (ks i))/\∀i a,xs[i]?=some a->R (ks i) a (ks (i+1))
 | 0=>⟨[],fun _=>k,rfl,rfl,fun _ _=>⟨Nat.le_refl _,hk⟩,fun i a h=>by simp at h⟩
 | m+1=>by
  obtain⟨xs,ks,h1,h2,h3,h4⟩:=Ai step hk m;have hm:=h3 m (Nat.le_refl _);obtain⟨a,k2,ha,hr⟩:=step (ks m) hm.top;refine⟨xs++[a],fun i=>if i<=m then ks i else k2,by simp[h1],by simp[h2],?_,?_⟩
  ·intro i hi;dsimp only
   split
   ·rename_i h;exact h3 i h
   exact⟨Nat.le_trans hm.le ha.le,ha.top⟩
  intro i x hx;dsimp only;have hil:=(List.getElem?_eq_some_iff.1 hx).1;rw[List.length_append,h1] at hil;simp only[List.length_cons,List.length_nil] at hil
  by_cases h:i < m
  ·rw[if_pos (by omega),if_pos (by omega)];rw[List.getElem?_append_left (by omega)] at hx;exact h4 i x hx
  have:i=m:=by omega
  subst this;rw[if_pos (by omega),if_neg (by omega)];rw[List.getElem?_append_right (by omega),h1,Nat.sub_self] at hx;simp at hx;subst hx;exact hr
theorem Tv {l:List Int} {k:Nat} (hl:l.length < 1000000000) (hk:k<=l.length):∃(ck ci:Int) (cs:List UInt8) (k2:Nat),cs.length < 1000000/\Rq l k k2/\KC 66 [dy] (db (l.map iN) (Int.ofNat k)) 1 (XQ ⟨.dat (lf ck ci cs),db (l.map iN) (Int.ofNat k2),1⟩):=by
 obtain⟨r,k1,⟨hr,a1,a2,_⟩,hc⟩:=bq (n:=5) hl hk (by omega) (by omega)
 match r,hr with
 | 0,_=>exact⟨_,_,_,k1,by simp,⟨a1,a2⟩,Ys hc⟩
 | 1,_=>
  obtain⟨a,k2,⟨_,b1,b2,_⟩,hc2⟩:=bq (n:=2) hl a2 (by omega) (by omega);exact⟨_,_,_,k2,by simp,⟨by omega,b2⟩,Yr hc hc2⟩
 | 2,_=>
  obtain⟨a,k2,⟨ha,b1,b2,_⟩,hc2⟩:=bq (n:=6) hl a2 (by omega) (by omega);have hlen:∀a:Nat,a < 6->∃s:List UInt8,M1[a]?=some s/\s.length < 1000000:=by
   intro a ha
   match a,ha with
   | 0,_=>exact⟨_,rfl,by simp⟩
   | 1,_=>exact⟨_,rfl,by simp⟩
   | 2,_=>exact⟨_,rfl,by simp⟩
   | 3,_=>exact⟨_,rfl,by simp⟩
   | 4,_=>exact⟨_,rfl,by simp⟩
   | 5,_=>exact⟨_,rfl,by simp⟩
  obtain⟨s,hs,hsl⟩:=hlen a ha;exact⟨_,_,_,k2,hsl,⟨by omega,b2⟩,Yq hc hc2 (A0 hs)⟩
 | n+3,_=>
  obtain⟨a,k2,⟨ha,b1,b2,_⟩,hc2⟩:=bq (n:=7) hl a2 (by omega) (by omega);exact⟨_,_,_,k2,by simp,⟨by omega,b2⟩,Yp hc (dj (by simp;omega)) (dj (by simp;omega)) (dj (by simp;omega)) hc2⟩
def Wj:List Int->ac
 | []=>.dat nl
 | x::r=>.own ((x::r).map iN)
noncomputable def aaH:Hints:=⟨bS,JR,bg,rowsOf bg 36⟩
def Bm (l:List al) (K n c i:Int) (pre:List Int):ab:=⟨[(8,iv i),(7,Wj pre),(0,dy),(1,iv n),(2,iv c)],[],db l K,1⟩
def G6 (l:List al) (K n c i:Int) (pre:List Int):ab:=⟨[(11,bv false),(8,iv i),(7,Wj pre),(0,dy),(1,iv n),(2,iv c)],[],db l K,1⟩
theorem Le {l:List al} {K K2 n c i x:Int} {pre:List Int} (h0:aH i c=true) (h:cN l n K x K2) (hp:pre.length < 1000000) {T:Exit->aa->Prop} (e:T .normal ((Bm l K2 n c (ap .i64 (i+1)) (pre++[x])).an Tryz.f36.ntmps)) :
  KD (roundOf Tryz.f36 0) T ((Bm l K n c i pre).an Tryz.f36.ntmps):=by
 have h3:=gD (a:=pre) (b:=[x]) (by simp;omega);rw[←List.map_append] at h3;clear hp
 rcases pre with _|⟨d,r⟩ <;>
 ·refine ay [11] [19] (H:=aaH) (live:=De) (by kernel_rfl) ?_;refine ob h0 ?_;refine oh h ?_;refine oo h3 ?_;exact oe e
theorem Nq {l:List al} {K n c i:Int} {pre:List Int} (h0:aH i c=false) {T:Exit->aa->Prop} (e:T (.exit 0) ((G6 l K n c i pre).an Tryz.f36.ntmps)) :
  KD (roundOf Tryz.f36 0) T ((Bm l K n c i pre).an Tryz.f36.ntmps):=by
 rcases pre with _|⟨d,r⟩ <;>
 ·refine ay [11] [] (H:=aaH) (live:=De) (by kernel_rfl) ?_;refine ob h0 ?_;exact oe e
theorem RW {l:List al} {K K2 n c i:Int} {pre:List Int} (hl:KD (.loop (roundOf Tryz.f36 0)) (fun e q=>e=.exit 0/\q=(G6 l K2 n c i pre).an Tryz.f36.ntmps) ((Bm l K n c 0 []).an Tryz.f36.ntmps)) :
  KC 36 [dy,iv n,iv c] (db l K) 1 (XQ ⟨Wj pre,db l K2,1⟩):=by
 rcases pre with _|⟨d,r⟩ <;>
 ·refine co [] [] (x:=.of Tryz.f36 JR De) ?_;refine lo hl ?_;rintro ex s ⟨rfl,rfl⟩;refine⟨_,rfl,?_⟩;exact fi
theorem Tq {l:List Int} {k n c:Nat} (hl:l.length < 1000000000) (hk:k<=l.length) (hn:0 < n) (hn2:n < 1000000000) (hc:c < 1000000):∃(ar:List Int) (k2:Nat),ar.length=c/\Rq l k k2/\KC 36 [dy,iv (Int.ofNat n),iv (Int.ofNat c)] (db (l.map iN) (Int.ofNat k)) 1 (XQ ⟨.dat (sl (ar.map iN)),db (l.map iN) (Int.ofNat k2),1⟩):=by
 obtain⟨ar,ks,h1,h2,h3,h4⟩:=Ai (R:=fun k x k2=>cN (l.map iN) (Int.ofNat n) (Int.ofNat k) x (Int.ofNat k2)) (fun k hk=>by
  obtain⟨r,k3,⟨_,b1,b2,_⟩,hc2⟩:=bq (n:=n) hl hk hn hn2;exact⟨Int.ofNat r,k3,⟨b1,b2⟩,hc2⟩) hk c
 refine⟨ar,ks c,h1,h3 c (Nat.le_refl _),?_⟩;have hq:KD (.loop (roundOf Tryz.f36 0)) (fun e q=>e=.exit 0/\q=(G6 (l.map iN) (Int.ofNat (ks c)) (Int.ofNat n) (Int.ofNat c) (Int.ofNat c) ar).an Tryz.f36.ntmps) ((Bm (l.map iN) (Int.ofNat k) (Int.ofNat n) (Int.ofNat c) 0 []).an Tryz.f36.ntmps):=by
  rw[←h2];refine aZ (St:=fun i=>(Bm (l.map iN) (Int.ofNat (ks i)) (Int.ofNat n) (Int.ofNat c) (Int.ofNat i) (ar.take i)).an Tryz.f36.ntmps) c ?_ ?_ (i:=0) (Nat.zero_le _)
  ·intro i hi;have hg:ar[i]?=some ar[i]:=List.getElem?_eq_getElem (by omega);have hw:ap .i64 (Int.ofNat i+1)=Int.ofNat (i+1):=ba (by omega);have ht:ar.take (i+1)=ar.take i++[ar[i]]:=List.take_succ_eq_append_getElem (by omega);refine Le (bc hi) (h4 i _ hg) (by rw[List.length_take];omega) ?_;rw[hw,←ht];exact rfl
  refine Nq (bW (by omega)) ?_;rw[List.take_of_length_le (by omega)];exact⟨rfl,rfl⟩
 have:=RW hq
 cases ar with
 | nil=>exact this
 | cons x r=>exact jR this
def Ty.small (t:Ty):Prop:=t.size < 41000000/\t.gJ
theorem yf {t:Ty} (h:t.small):t.gO:=⟨by have:=h.1;omega,h.2⟩
theorem Dr {l:List Int} {k:Nat} (hl:l.length < 10000000) (hk:k<=l.length):∃(t:Ty) (k2:Nat),t.small/\Rq l k k2/\KC 64 [dy,.dat (.slice (lg lK))] (db (l.map iN) (Int.ofNat k)) 1 (XQ ⟨.dat t.enc,db (l.map iN) (Int.ofNat k2),1⟩):=by
 have hd:=Gx;obtain⟨t,k2,h1,h2⟩:=(Tn (P:=fun _ _=>True) (ds:=lK) hl (by have:=hd.len;omega) (fun d hm=>by obtain⟨n,h1,h2⟩:=(hd.each d hm).ar;exact⟨n,h1,by omega,trivial⟩) (fun _ _=>trivial) trivial (l.length - k) k hk (Nat.le_refl _)).2.2 3 0 (by omega) (by omega) (by omega);exact⟨t,k2,⟨by have:=h1.size;have:=h1.top;omega,h1.ix⟩,⟨h1.le,h1.top⟩,RN h2⟩
abbrev YU (l:List al) (n x K:Int) (es:List al) (K2:Int):Prop:=KC 36 [dy,iv n,iv x] (db l K) 1 (XQ ⟨.dat (sl es),db l K2,1⟩)
abbrev Ry (l:List al) (K k:Int) (nm:List UInt8) (ix:Int) (la:List al) (K2:Int):Prop:=KC 64 [dy,.dat (.slice (lg lK))] (db l K) 1 (XQ ⟨.dat (.agg [i64 k,sb nm,i64 ix,sl la]),db l K2,1⟩)
abbrev rR (l:List al) (n c e K:Int) (d:al) (K2:Int):Prop:=KC 34 [dy,iv n,iv c,iv e] (db l K) 1 (XQ ⟨.dat d,db l K2,1⟩)
theorem ac1 {l:List al} {n c e K K1 K2 K3 K4 d a b:Int} (h1:cN l 22 K 0 K1) (h2:cN l n K1 d K2) (h3:cN l n K2 a K3) (h4:cN l n K3 b K4) {ck ci K5:Int} {cs:List UInt8} (hc:KC 66 [dy] (db l K4) 1 (XQ ⟨.dat (lf ck ci cs),db l K5,1⟩)):rR l n c e K (eb 1 d 0 0 0 [] nl 0 [] 0 nl ck ci cs) K5:=by
 refine co [] [] (x:=.of Tryz.f34 fG dZ) ?_;refine oh h1 ?_;refine oh h2 ?_;refine oh h3 ?_;refine oh h4 ?_;refine oh hc ?_;exact fi
theorem ac0 {l:List al} {n c e K K1 K2 K3 K4 d a b:Int} (h1:cN l 22 K 1 K1) (h2:cN l n K1 d K2) (h3:cN l n K2 a K3) (h4:cN l n K3 b K4) :rR l n c e K (eb 2 d a 0 0 [] nl 0 [] 0 nl 0 0 []) K4:=by
 refine co [] [] (x:=.of Tryz.f34 fG dZ) ?_;refine oh h1 ?_;refine oh h2 ?_;refine oh h3 ?_;refine oh h4 ?_;exact fi
theorem aaN {l:List al} {n c e K K1 K2 K3 K4 d a b:Int} (h1:cN l 22 K 2 K1) (h2:cN l n K1 d K2) (h3:cN l n K2 a K3) (h4:cN l n K3 b K4) {x K5:Int} {cu:Bool} (h5:cN l 7 K4 x K5) (hu:aB (ap .i64 (1+x)) 5=cu):rR l n c e K (eb 3 d a (match cu with|true=>0|false=>b) (ap .i64 (1+x)) [] nl 0 [] 0 nl 0 0 []) K5:=by
 refine co [53] [] (x:=.of Tryz.f34 fG dZ) ?_;refine oh h1 ?_;refine oh h2 ?_;refine oh h3 ?_;refine oh h4 ?_;refine oh h5 ?_;refine ox hu ?_
 cases cu <;>
 ·exact fi
theorem acZ {l:List al} {n c e K K1 K2 K3 K4 d a b:Int} (h1:cN l 22 K 3 K1) (h2:cN l n K1 d K2) (h3:cN l n K2 a K3) (h4:cN l n K3 b K4) {tk tix x K5 K6 K7:Int} {tn:List UInt8} {la es:List al} (ht:Ry l K4 tk tn tix la K5) (h5:cN l 3 K5 x K6) (h6:YU l n x K6 es K7):rR l n c e K (eb 4 d 0 0 0 [] (sl es) tk tn tix (sl la) 0 0 []) K7:=by
 have hb:=nK;refine co [] [] (x:=.of Tryz.f34 fG dZ) ?_;refine oh h1 ?_;refine oh h2 ?_;refine oh h3 ?_;refine oh h4 ?_;refine on hb ?_;refine oh ht ?_;refine oh h5 ?_;refine oh h6 ?_
 rcases la with _|⟨v2,v3⟩
 ·rcases es with _|⟨v0,v1⟩ <;>
  ·exact fi
 rcases es with _|⟨v4,v5⟩ <;>
 ·exact fi
theorem acY {l:List al} {n c e K K1 K2 K3 K4 d a b:Int} (h1:cN l 22 K 4 K1) (h2:cN l n K1 d K2) (h3:cN l n K2 a K3) (h4:cN l n K3 b K4) {x K5:Int} {s:List UInt8} (h5:cN l 6 K4 x K5) (hi:aq (env ak.aC) 70 [.dat (.slice (encS IG)),.dat (.flat (.int .i64 x))]=some ⟨.ref [sb s],.keep⟩):rR l n c e K (eb 5 d a 0 0 s nl 0 [] 0 nl 0 0 []) K5:=by
 refine co [] [79] (x:=.of Tryz.f34 fG dZ) ?_;refine oh h1 ?_;refine oh h2 ?_;refine oh h3 ?_;refine oh h4 ?_;refine oh h5 ?_;refine bK (by kernel_rfl) ?_ ?_
 ·refine oo hi ?_;refine bK (by kernel_rfl) ?_ ?_
  ·exact fi
  refine bK (by kernel_rfl) ?_ ?_
  ·exact fi
  refine bK (by kernel_rfl) ?_ ?_ <;>
  ·exact fi
 refine bK (by kernel_rfl) ?_ ?_
 ·refine oo hi ?_;refine bK (by kernel_rfl) ?_ ?_
  ·exact fi
  refine bK (by kernel_rfl) ?_ ?_ <;>
  ·exact fi
 refine bK (by kernel_rfl) ?_ ?_
 ·refine oo hi ?_;refine bK (by kernel_rfl) ?_ ?_ <;>
  ·exact fi
 refine oo hi ?_;exact fi
theorem acX {l:List al} {n c e K K1 K2 K3 K4 d a b:Int} (h1:cN l 22 K 5 K1) (h2:cN l n K1 d K2) (h3:cN l n K2 a K3) (h4:cN l n K3 b K4) {x K5:Int} {s:List UInt8} (h5:cN l 6 K4 x K5) (hi:aq (env ak.aC) 70 [.dat (.slice (encS IG)),.dat (.flat (.int .i64 x))]=some ⟨.ref [sb s],.keep⟩):rR l n c e K (eb 6 0 a b 0 s nl 0 [] 0 nl 0 0 []) K5:=by
 refine co [] [93] (x:=.of Tryz.f34 fG dZ) ?_;refine oh h1 ?_;refine oh h2 ?_;refine oh h3 ?_;refine oh h4 ?_;refine oh h5 ?_;refine bK (by kernel_rfl) ?_ ?_
 ·refine oo hi ?_;refine bK (by kernel_rfl) ?_ ?_
  ·exact fi
  refine bK (by kernel_rfl) ?_ ?_
  ·exact fi
  refine bK (by kernel_rfl) ?_ ?_ <;>
  ·exact fi
 refine bK (by kernel_rfl) ?_ ?_
 ·refine oo hi ?_;refine bK (by kernel_rfl) ?_ ?_
  ·exact fi
  refine bK (by kernel_rfl) ?_ ?_ <;>
  ·exact fi
 refine bK (by kernel_rfl) ?_ ?_
 ·refine oo hi ?_;refine bK (by kernel_rfl) ?_ ?_ <;>
  ·exact fi
 refine oo hi ?_;exact fi
theorem acW {l:List al} {n c e K K1 K2 K3 K4 d a b:Int} (h1:cN l 22 K 6 K1) (h2:cN l n K1 d K2) (h3:cN l n K2 a K3) (h4:cN l n K3 b K4) {x K5 K6:Int} {es:List al} (h5:cN l 4 K4 x K5) (h6:YU l n x K5 es K6):rR l n c e K (eb 7 d 0 0 0 [] (sl es) 0 [] 0 nl 0 0 []) K6:=by
 refine co [] [] (x:=.of Tryz.f34 fG dZ) ?_;refine oh h1 ?_;refine oh h2 ?_;refine oh h3 ?_;refine oh h4 ?_;refine oh h5 ?_;refine oh h6 ?_
 rcases es with _|⟨v0,v1⟩ <;>
 ·exact fi
theorem acV {l:List al} {n c e K K1 K2 K3 K4 d a b:Int} (h1:cN l 22 K 7 K1) (h2:cN l n K1 d K2) (h3:cN l n K2 a K3) (h4:cN l n K3 b K4) {x K5:Int} (h5:cN l 3 K4 x K5):rR l n c e K (eb 8 d a 0 x [] nl 0 [] 0 nl 0 0 []) K5:=by
 refine co [] [] (x:=.of Tryz.f34 fG dZ) ?_;refine oh h1 ?_;refine oh h2 ?_;refine oh h3 ?_;refine oh h4 ?_;refine oh h5 ?_;exact fi
theorem acU {l:List al} {n c e K K1 K2 K3 K4 d a b:Int} (h1:cN l 22 K 8 K1) (h2:cN l n K1 d K2) (h3:cN l n K2 a K3) (h4:cN l n K3 b K4) {tk tix K5:Int} {tn:List UInt8} {la:List al} (ht:Ry l K4 tk tn tix la K5):rR l n c e K (eb 9 d a 0 0 [] nl tk tn tix (sl la) 0 0 []) K5:=by
 have hb:=nK;refine co [] [] (x:=.of Tryz.f34 fG dZ) ?_;refine oh h1 ?_;refine oh h2 ?_;refine oh h3 ?_;refine oh h4 ?_;refine on hb ?_;refine oh ht ?_
 rcases la with _|⟨v0,v1⟩ <;>
 ·exact fi
theorem aa0 {l:List al} {n c e K K1 K2 K3 K4 d a b:Int} (h1:cN l 22 K 9 K1) (h2:cN l n K1 d K2) (h3:cN l n K2 a K3) (h4:cN l n K3 b K4) {x y K5 K6 K7:Int} {s:List UInt8} {es:List al} (h5:cN l 3 K4 x K5) (hi:aq (env ak.aC) 70 [.dat (.slice (encS zJ)),.dat (.flat (.int .i64 x))]=some ⟨.ref [sb s],.keep⟩) (h6:cN l 3 K5 y K6) (h7:YU l n y K6 es K7):rR l n c e K (eb 10 d 0 0 0 s (sl es) 0 [] 0 nl 0 0 []) K7:=by
 refine co [] [136] (x:=.of Tryz.f34 fG dZ) ?_;refine oh h1 ?_;refine oh h2 ?_;refine oh h3 ?_;refine oh h4 ?_;refine oh h5 ?_;refine bK (by kernel_rfl) ?_ ?_
 ·refine oo hi ?_;refine bK (by kernel_rfl) ?_ ?_
  ·refine oh h6 ?_;refine oh h7 ?_
   rcases es with _|⟨v0,v1⟩ <;>
   ·exact fi
  refine oh h6 ?_;refine bK (by kernel_rfl) ?_ ?_
  ·refine oh h7 ?_
   rcases es with _|⟨v2,v3⟩ <;>
   ·exact fi
  refine oh h7 ?_;refine bK (by kernel_rfl) ?_ ?_
  ·rcases es with _|⟨v4,v5⟩ <;>
   ·exact fi
  rcases es with _|⟨v6,v7⟩ <;>
  ·exact fi
 refine oh h6 ?_;refine bK (by kernel_rfl) ?_ ?_
 ·refine oo hi ?_;refine bK (by kernel_rfl) ?_ ?_
  ·refine oh h7 ?_
   rcases es with _|⟨v8,v9⟩ <;>
   ·exact fi
  refine oh h7 ?_;refine bK (by kernel_rfl) ?_ ?_
  ·rcases es with _|⟨v10,v11⟩ <;>
   ·exact fi
  rcases es with _|⟨v12,v13⟩ <;>
  ·exact fi
 refine oh h7 ?_;refine bK (by kernel_rfl) ?_ ?_
 ·refine oo hi ?_;refine bK (by kernel_rfl) ?_ ?_
  ·rcases es with _|⟨v14,v15⟩ <;>
   ·exact fi
  rcases es with _|⟨v16,v17⟩ <;>
  ·exact fi
 refine oo hi ?_
 rcases es with _|⟨v18,v19⟩ <;>
 ·exact fi
theorem aaZ {l:List al} {n c e K K1 K2 K3 K4 d a b:Int} (h1:cN l 22 K 10 K1) (h2:cN l n K1 d K2) (h3:cN l n K2 a K3) (h4:cN l n K3 b K4) {x y K5 K6 K7:Int} {s:List UInt8} {es:List al} (h5:cN l 3 K4 x K5) (hi:aq (env ak.aC) 70 [.dat (.slice (encS zJ)),.dat (.flat (.int .i64 x))]=some ⟨.ref [sb s],.keep⟩) (h6:cN l 3 K5 y K6) (h7:YU l n y K6 es K7):rR l n c e K (eb 11 d 0 0 0 s (sl es) 0 [] 0 nl 0 0 []) K7:=by
 refine co [] [136] (x:=.of Tryz.f34 fG dZ) ?_;refine oh h1 ?_;refine oh h2 ?_;refine oh h3 ?_;refine oh h4 ?_;refine oh h5 ?_;refine bK (by kernel_rfl) ?_ ?_
 ·refine oo hi ?_;refine bK (by kernel_rfl) ?_ ?_
  ·refine oh h6 ?_;refine oh h7 ?_
   rcases es with _|⟨v0,v1⟩ <;>
   ·exact fi
  refine oh h6 ?_;refine bK (by kernel_rfl) ?_ ?_
  ·refine oh h7 ?_
   rcases es with _|⟨v2,v3⟩ <;>
   ·exact fi
  refine oh h7 ?_;refine bK (by kernel_rfl) ?_ ?_
  ·rcases es with _|⟨v4,v5⟩ <;>
   ·exact fi
  rcases es with _|⟨v6,v7⟩ <;>
  ·exact fi
 refine oh h6 ?_;refine bK (by kernel_rfl) ?_ ?_
 ·refine oo hi ?_;refine bK (by kernel_rfl) ?_ ?_
  ·refine oh h7 ?_
   rcases es with _|⟨v8,v9⟩ <;>
   ·exact fi
  refine oh h7 ?_;refine bK (by kernel_rfl) ?_ ?_
  ·rcases es with _|⟨v10,v11⟩ <;>
   ·exact fi
  rcases es with _|⟨v12,v13⟩ <;>
  ·exact fi
 refine oh h7 ?_;refine bK (by kernel_rfl) ?_ ?_
 ·refine oo hi ?_;refine bK (by kernel_rfl) ?_ ?_
  ·rcases es with _|⟨v14,v15⟩ <;>
   ·exact fi
  rcases es with _|⟨v16,v17⟩ <;>
  ·exact fi
 refine oo hi ?_
 rcases es with _|⟨v18,v19⟩ <;>
 ·exact fi
theorem aaY {l:List al} {n c e K K1 K2 K3 K4 d a b:Int} (h1:cN l 22 K 11 K1) (h2:cN l n K1 d K2) (h3:cN l n K2 a K3) (h4:cN l n K3 b K4) {x K5:Int} (h5:cN l c K4 x K5):rR l n c e K (eb 12 0 0 0 x [] nl 0 [] 0 nl 0 0 []) K5:=by
 refine co [] [] (x:=.of Tryz.f34 fG dZ) ?_;refine oh h1 ?_;refine oh h2 ?_;refine oh h3 ?_;refine oh h4 ?_;refine oh h5 ?_;exact fi
theorem aaX {l:List al} {n c e K K1 K2 K3 K4 d a b:Int} (h1:cN l 22 K 12 K1) (h2:cN l n K1 d K2) (h3:cN l n K2 a K3) (h4:cN l n K3 b K4) {x K5:Int} (h5:cN l c K4 x K5):rR l n c e K (eb 13 0 a 0 x [] nl 0 [] 0 nl 0 0 []) K5:=by
 refine co [] [] (x:=.of Tryz.f34 fG dZ) ?_;refine oh h1 ?_;refine oh h2 ?_;refine oh h3 ?_;refine oh h4 ?_;refine oh h5 ?_;exact fi
theorem aaW {l:List al} {n c e K K1 K2 K3 K4 d a b:Int} (h1:cN l 22 K 13 K1) (h2:cN l n K1 d K2) (h3:cN l n K2 a K3) (h4:cN l n K3 b K4) :rR l n c e K (eb 14 0 0 0 0 [] nl 0 [] 0 nl 0 0 []) K4:=by
 refine co [] [] (x:=.of Tryz.f34 fG dZ) ?_;refine oh h1 ?_;refine oh h2 ?_;refine oh h3 ?_;refine oh h4 ?_;exact fi
theorem aaV {l:List al} {n c e K K1 K2 K3 K4 d a b:Int} (h1:cN l 22 K 14 K1) (h2:cN l n K1 d K2) (h3:cN l n K2 a K3) (h4:cN l n K3 b K4) :rR l n c e K (eb 15 0 a 0 0 [] nl 0 [] 0 nl 0 0 []) K4:=by
 refine co [] [] (x:=.of Tryz.f34 fG dZ) ?_;refine oh h1 ?_;refine oh h2 ?_;refine oh h3 ?_;refine oh h4 ?_;exact fi
theorem aaU {l:List al} {n c e K K1 K2 K3 K4 d a b:Int} (h1:cN l 22 K 15 K1) (h2:cN l n K1 d K2) (h3:cN l n K2 a K3) (h4:cN l n K3 b K4) :rR l n c e K (eb 16 0 a 0 0 [] nl 0 [] 0 nl 0 0 []) K4:=by
 refine co [] [] (x:=.of Tryz.f34 fG dZ) ?_;refine oh h1 ?_;refine oh h2 ?_;refine oh h3 ?_;refine oh h4 ?_;exact fi
theorem aaT {l:List al} {n c e K K1 K2 K3 K4 d a b:Int} (h1:cN l 22 K 16 K1) (h2:cN l n K1 d K2) (h3:cN l n K2 a K3) (h4:cN l n K3 b K4) {x K5:Int} (h0:aB e 0=false) (h5:cN l e K4 x K5):rR l n c e K (eb 17 0 0 0 x [] nl 0 [] 0 nl 0 0 []) K5:=by
 refine co [169] [] (x:=.of Tryz.f34 fG dZ) ?_;refine oh h1 ?_;refine oh h2 ?_;refine oh h3 ?_;refine oh h4 ?_;refine ob h0 ?_;refine oh h5 ?_;exact fi
theorem aaS {l:List al} {n c e K K1 K2 K3 K4 d a b:Int} (h1:cN l 22 K 17 K1) (h2:cN l n K1 d K2) (h3:cN l n K2 a K3) (h4:cN l n K3 b K4) :rR l n c e K (eb 18 0 0 0 0 [] nl 0 [] 0 nl 0 0 []) K4:=by
 refine co [] [] (x:=.of Tryz.f34 fG dZ) ?_;refine oh h1 ?_;refine oh h2 ?_;refine oh h3 ?_;refine oh h4 ?_;exact fi
theorem aaR {l:List al} {n c e K K1 K2 K3 K4 d a b:Int} (h1:cN l 22 K 18 K1) (h2:cN l n K1 d K2) (h3:cN l n K2 a K3) (h4:cN l n K3 b K4) :rR l n c e K (eb 19 0 a 0 0 [] nl 0 [] 0 nl 0 0 []) K4:=by
 refine co [] [] (x:=.of Tryz.f34 fG dZ) ?_;refine oh h1 ?_;refine oh h2 ?_;refine oh h3 ?_;refine oh h4 ?_;exact fi
theorem aaQ {l:List al} {n c e K K1 K2 K3 K4 d a b:Int} (h1:cN l 22 K 19 K1) (h2:cN l n K1 d K2) (h3:cN l n K2 a K3) (h4:cN l n K3 b K4) {x K5:Int} (h5:cN l 4 K4 x K5):rR l n c e K (eb 20 0 0 0 (ap .i64 (1+x)) [] nl 0 [] 0 nl 0 0 []) K5:=by
 refine co [] [] (x:=.of Tryz.f34 fG dZ) ?_;refine oh h1 ?_;refine oh h2 ?_;refine oh h3 ?_;refine oh h4 ?_;refine oh h5 ?_;exact fi
theorem aaP {l:List al} {n c e K K1 K2 K3 K4 d a b:Int} (h1:cN l 22 K 20 K1) (h2:cN l n K1 d K2) (h3:cN l n K2 a K3) (h4:cN l n K3 b K4) :rR l n c e K (eb 21 0 0 0 0 [] nl 0 [] 0 nl 0 0 []) K4:=by
 refine co [] [] (x:=.of Tryz.f34 fG dZ) ?_;refine oh h1 ?_;refine oh h2 ?_;refine oh h3 ?_;refine oh h4 ?_;exact fi
theorem aaO {l:List al} {n c e K K1 K2 K3 K4 d a b:Int} (h1:cN l 22 K 21 K1) (h2:cN l n K1 d K2) (h3:cN l n K2 a K3) (h4:cN l n K3 b K4) {x y K5 K6 K7:Int} {es:List al} (h5:cN l 4 K4 x K5) (h6:cN l 3 K5 y K6) (h7:YU l n y K6 es K7):rR l n c e K (eb 22 d 0 0 (ap .i64 (1+x)) [] (sl es) 0 [] 0 nl 0 0 []) K7:=by
 refine co [] [] (x:=.of Tryz.f34 fG dZ) ?_;refine oh h1 ?_;refine oh h2 ?_;refine oh h3 ?_;refine oh h4 ?_;refine oh h5 ?_;refine oh h6 ?_;refine oh h7 ?_
 rcases es with _|⟨v0,v1⟩ <;>
 ·exact fi
theorem WM {l:List al} {n c e K K1 K2 K3 K4 d a b:Int} (h1:cN l 22 K 16 K1) (h2:cN l n K1 d K2) (h3:cN l n K2 a K3) (h4:cN l n K3 b K4) (h0:aB e 0=true):rR l n c e K (eb 14 0 0 0 0 [] nl 0 [] 0 nl 0 0 []) K4:=by
 refine co [169] [] (x:=.of Tryz.f34 fG dZ) ?_;refine oh h1 ?_;refine oh h2 ?_;refine oh h3 ?_;refine oh h4 ?_;refine ob h0 ?_;exact fi
theorem Ed (l:List al):sx false l=sl l:=by cases l <;> rfl
theorem Qm (a:Nat) (h:a < 6):∃s,IG[a]?=some s:=⟨IG[a]'h,List.getElem?_eq_getElem h⟩
theorem vd (a:Nat) (h:a < 3):∃s,zJ[a]?=some s:=⟨zJ[a]'h,List.getElem?_eq_getElem h⟩
theorem cQ:(Ty.mk 0 [] 0 []).gO:=⟨by simp[Ty.size,aT],by simp[Ty.gJ,eO,aB]⟩
def Ins.gen (x:Ins):Prop:=x.ty.gO/\x.ar.length < 1000000/\x.cs.length < 1000000000
theorem LM {x:Ins} (h:x.gen):x.gO:=⟨h.1,by have:=h.2.1;omega,h.2.2⟩
def GIn (l:List Int) (n c e k:Nat):Prop:=∃(x:Ins) (k2:Nat),x.gen/\Rq l k k2/\rR (l.map iN) (Int.ofNat n) (Int.ofNat c) (Int.ofNat e) (Int.ofNat k) x.enc (Int.ofNat k2)
theorem ee {l:List Int} {n c e k k2:Nat} (x:Ins) (hx:x.gen) (h:Rq l k k2) (hc:rR (l.map iN) (Int.ofNat n) (Int.ofNat c) (Int.ofNat e) (Int.ofNat k) x.enc (Int.ofNat k2)):GIn l n c e k:=⟨x,k2,hx,h,hc⟩
theorem uX (op dst a b im:Int) (nm:List UInt8) (ar:List Int) (k:Int) (tn:List UInt8) (ix:Int) (la:List Ty) (ck ci:Int) (cs:List UInt8) :
  eb op dst a b im nm (sl (ar.map iN)) k tn ix (sl (ax la)) ck ci cs=(Ins.mk op dst a b im nm false ar (.mk k tn ix la) ck ci cs).enc:=by
 show _=al.agg ([i64 op,i64 dst,i64 a,i64 b,i64 im,sb nm,sx false (ar.map iN)]++((Ty.mk k tn ix la).cells++[i64 ck,i64 ci,sb cs,nl]));rw[Ed];rfl
theorem Ts {l:List Int} {n c e k:Nat} (hl:l.length < 10000000) (hk:k<=l.length) (hn:0 < n) (hn2:n < 1000000) (hc:0 < c) (hc2:c < 1000000) (he:e < 1000000):GIn l n c e k:=by
 have hb:l.length < 1000000000:=by omega
 obtain⟨r,k1,⟨hr,a1,a2,_⟩,h1⟩:=bq (n:=22) hb hk (by omega) (by omega);obtain⟨d,k2,⟨_,b1,b2,_⟩,h2⟩:=bq (n:=n) hb a2 hn (by omega);obtain⟨a,k3,⟨_,c1,c2,_⟩,h3⟩:=bq (n:=n) hb b2 hn (by omega);obtain⟨b,k4,⟨_,d1,d2,_⟩,h4⟩:=bq (n:=n) hb c2 hn (by omega);have hsl:∀{k:Nat} (m:Nat),k<=l.length->m < 1000000->∃(ar:List Int) (k2:Nat),ar.length=m/\Rq l k k2/\YU (l.map iN) (Int.ofNat n) (Int.ofNat m) (Int.ofNat k) (ar.map iN) (Int.ofNat k2):=fun m hk hm=>Tq hb hk hn (by omega) hm
 match r,hr with
 | 0,_=>
  obtain⟨ck,ci,cs,k5,e1,e2,h5⟩:=Tv hb d2;exact ee ⟨1,(Int.ofNat d),0,0,0,[],false,[],(.mk 0 [] 0 []),ck,ci,cs⟩ ⟨cQ,by simp,by show cs.length < _;omega⟩ ⟨by have:=e2.le;omega,e2.top⟩ (ac1 h1 h2 h3 h4 h5)
 | 1,_=>
  exact ee ⟨2,(Int.ofNat d),(Int.ofNat a),0,0,[],false,[],(.mk 0 [] 0 []),0,0,[]⟩ ⟨cQ,by simp,by simp⟩ ⟨by omega,d2⟩ (ac0 h1 h2 h3 h4)
 | 2,_=>
  obtain⟨x,k5,⟨hxl,hxa,hxb,_⟩,hx⟩:=bq (n:=7) hb d2 (by omega) (by omega)
  cases hu:aB (ap .i64 (1+Int.ofNat x)) 5 with
  | true=>exact ee ⟨3,(Int.ofNat d),(Int.ofNat a),0,(ap .i64 (1+Int.ofNat x)),[],false,[],(.mk 0 [] 0 []),0,0,[]⟩ ⟨cQ,by simp,by simp⟩ ⟨by omega,hxb⟩ (aaN h1 h2 h3 h4 hx hu)
  | false=>exact ee ⟨3,(Int.ofNat d),(Int.ofNat a),(Int.ofNat b),(ap .i64 (1+Int.ofNat x)),[],false,[],(.mk 0 [] 0 []),0,0,[]⟩ ⟨cQ,by simp,by simp⟩ ⟨by omega,hxb⟩ (aaN h1 h2 h3 h4 hx hu)
 | 3,_=>
  obtain⟨t,k5,t1,t2,ht⟩:=Dr hl d2;obtain⟨tk,tn,tix,la⟩:=t;obtain⟨x,k6,⟨hxl,hxa,hxb,_⟩,hx⟩:=bq (n:=3) hb t2.top (by omega) (by omega);obtain⟨ar,k7,e1,e2,hs⟩:=hsl x hxb (by omega);have hh:=acZ (c:=Int.ofNat c) (e:=Int.ofNat e) h1 h2 h3 h4 ht hx hs;rw[uX] at hh;exact ee ⟨4,(Int.ofNat d),0,0,0,[],false,ar,(.mk tk tn tix la),0,0,[]⟩ ⟨yf t1,by show ar.length < _;omega,by simp⟩ ⟨by have:=t2.le;have:=e2.le;omega,e2.top⟩ (hh)
 | 4,_=>
  obtain⟨x,k5,⟨hxl,hxa,hxb,_⟩,hx⟩:=bq (n:=6) hb d2 (by omega) (by omega);obtain⟨nm,hnm⟩:=Qm x hxl;exact ee ⟨5,(Int.ofNat d),(Int.ofNat a),0,0,nm,false,[],(.mk 0 [] 0 []),0,0,[]⟩ ⟨cQ,by simp,by simp⟩ ⟨by omega,hxb⟩ (acY h1 h2 h3 h4 hx (A0 hnm))
 | 5,_=>
  obtain⟨x,k5,⟨hxl,hxa,hxb,_⟩,hx⟩:=bq (n:=6) hb d2 (by omega) (by omega);obtain⟨nm,hnm⟩:=Qm x hxl;exact ee ⟨6,0,(Int.ofNat a),(Int.ofNat b),0,nm,false,[],(.mk 0 [] 0 []),0,0,[]⟩ ⟨cQ,by simp,by simp⟩ ⟨by omega,hxb⟩ (acX h1 h2 h3 h4 hx (A0 hnm))
 | 6,_=>
  obtain⟨x,k5,⟨hxl,hxa,hxb,_⟩,hx⟩:=bq (n:=4) hb d2 (by omega) (by omega);obtain⟨ar,k7,e1,e2,hs⟩:=hsl x hxb (by omega);have hh:=acW (c:=Int.ofNat c) (e:=Int.ofNat e) h1 h2 h3 h4 hx hs;have e0:=uX 7 (Int.ofNat d) 0 0 0 [] ar 0 [] 0 [] 0 0 [];have hh2:rR (l.map iN) (Int.ofNat n) (Int.ofNat c) (Int.ofNat e) (Int.ofNat k) (eb 7 (Int.ofNat d) 0 0 0 [] (sl (ar.map iN)) 0 [] 0 (sl (ax [])) 0 0 []) (Int.ofNat k7):=hh;rw[e0] at hh2;exact ee ⟨7,(Int.ofNat d),0,0,0,[],false,ar,(.mk 0 [] 0 []),0,0,[]⟩ ⟨cQ,by show ar.length < _;omega,by simp⟩ ⟨by have:=e2.le;omega,e2.top⟩ (hh2)
 | 7,_=>
  obtain⟨x,k5,⟨hxl,hxa,hxb,_⟩,hx⟩:=bq (n:=3) hb d2 (by omega) (by omega);exact ee ⟨8,(Int.ofNat d),(Int.ofNat a),0,(Int.ofNat x),[],false,[],(.mk 0 [] 0 []),0,0,[]⟩ ⟨cQ,by simp,by simp⟩ ⟨by omega,hxb⟩ (acV h1 h2 h3 h4 hx)
 | 8,_=>
  obtain⟨t,k5,t1,t2,ht⟩:=Dr hl d2;obtain⟨tk,tn,tix,la⟩:=t;have hh:=acU (c:=Int.ofNat c) (e:=Int.ofNat e) h1 h2 h3 h4 ht;have hh2:rR (l.map iN) (Int.ofNat n) (Int.ofNat c) (Int.ofNat e) (Int.ofNat k) (eb 9 (Int.ofNat d) (Int.ofNat a) 0 0 [] (sl (([]:List Int).map iN)) tk tn tix (sl (ax la)) 0 0 []) (Int.ofNat k5):=hh;rw[uX] at hh2;exact ee ⟨9,(Int.ofNat d),(Int.ofNat a),0,0,[],false,[],(.mk tk tn tix la),0,0,[]⟩ ⟨yf t1,by simp,by simp⟩ ⟨by have:=t2.le;omega,t2.top⟩ (hh2)
 | 9,_=>
  obtain⟨x,k5,⟨hxl,hxa,hxb,_⟩,hx⟩:=bq (n:=3) hb d2 (by omega) (by omega);obtain⟨nm,hnm⟩:=vd x hxl;obtain⟨y,k6,⟨hyl,hya,hyb,_⟩,hy⟩:=bq (n:=3) hb hxb (by omega) (by omega);obtain⟨ar,k7,e1,e2,hs⟩:=hsl y hyb (by omega);have hh:=aa0 (c:=Int.ofNat c) (e:=Int.ofNat e) h1 h2 h3 h4 hx (A0 hnm) hy hs;have hh2:rR (l.map iN) (Int.ofNat n) (Int.ofNat c) (Int.ofNat e) (Int.ofNat k) (eb 10 (Int.ofNat d) 0 0 0 nm (sl (ar.map iN)) 0 [] 0 (sl (ax [])) 0 0 []) (Int.ofNat k7):=hh;rw[uX] at hh2;exact ee ⟨10,(Int.ofNat d),0,0,0,nm,false,ar,(.mk 0 [] 0 []),0,0,[]⟩ ⟨cQ,by show ar.length < _;omega,by simp⟩ ⟨by have:=e2.le;omega,e2.top⟩ (hh2)
 | 10,_=>
  obtain⟨x,k5,⟨hxl,hxa,hxb,_⟩,hx⟩:=bq (n:=3) hb d2 (by omega) (by omega);obtain⟨nm,hnm⟩:=vd x hxl;obtain⟨y,k6,⟨hyl,hya,hyb,_⟩,hy⟩:=bq (n:=3) hb hxb (by omega) (by omega);obtain⟨ar,k7,e1,e2,hs⟩:=hsl y hyb (by omega);have hh:=aaZ (c:=Int.ofNat c) (e:=Int.ofNat e) h1 h2 h3 h4 hx (A0 hnm) hy hs;have hh2:rR (l.map iN) (Int.ofNat n) (Int.ofNat c) (Int.ofNat e) (Int.ofNat k) (eb 11 (Int.ofNat d) 0 0 0 nm (sl (ar.map iN)) 0 [] 0 (sl (ax [])) 0 0 []) (Int.ofNat k7):=hh;rw[uX] at hh2;exact ee ⟨11,(Int.ofNat d),0,0,0,nm,false,ar,(.mk 0 [] 0 []),0,0,[]⟩ ⟨cQ,by show ar.length < _;omega,by simp⟩ ⟨by have:=e2.le;omega,e2.top⟩ (hh2)
 | 11,_=>
  obtain⟨x,k5,⟨hxl,hxa,hxb,_⟩,hx⟩:=bq (n:=c) hb d2 (by omega) (by omega);exact ee ⟨12,0,0,0,(Int.ofNat x),[],false,[],(.mk 0 [] 0 []),0,0,[]⟩ ⟨cQ,by simp,by simp⟩ ⟨by omega,hxb⟩ (aaY h1 h2 h3 h4 hx)
 | 12,_=>
  obtain⟨x,k5,⟨hxl,hxa,hxb,_⟩,hx⟩:=bq (n:=c) hb d2 (by omega) (by omega);exact ee ⟨13,0,(Int.ofNat a),0,(Int.ofNat x),[],false,[],(.mk 0 [] 0 []),0,0,[]⟩ ⟨cQ,by simp,by simp⟩ ⟨by omega,hxb⟩ (aaX h1 h2 h3 h4 hx)
 | 13,_=>
  exact ee ⟨14,0,0,0,0,[],false,[],(.mk 0 [] 0 []),0,0,[]⟩ ⟨cQ,by simp,by simp⟩ ⟨by omega,d2⟩ (aaW h1 h2 h3 h4)
 | 14,_=>
  exact ee ⟨15,0,(Int.ofNat a),0,0,[],false,[],(.mk 0 [] 0 []),0,0,[]⟩ ⟨cQ,by simp,by simp⟩ ⟨by omega,d2⟩ (aaV h1 h2 h3 h4)
 | 15,_=>
  exact ee ⟨16,0,(Int.ofNat a),0,0,[],false,[],(.mk 0 [] 0 []),0,0,[]⟩ ⟨cQ,by simp,by simp⟩ ⟨by omega,d2⟩ (aaU h1 h2 h3 h4)
 | 16,_=>
  by_cases he0:e=0
  ·subst he0;exact ee ⟨14,0,0,0,0,[],false,[],(.mk 0 [] 0 []),0,0,[]⟩ ⟨cQ,by simp,by simp⟩ ⟨by omega,d2⟩ (WM h1 h2 h3 h4 rfl)
  obtain⟨x,k5,⟨hxl,hxa,hxb,_⟩,hx⟩:=bq (n:=e) hb d2 (by omega) (by omega);have h0:aB (Int.ofNat e) 0=false:=dj (by simp;omega);exact ee ⟨17,0,0,0,(Int.ofNat x),[],false,[],(.mk 0 [] 0 []),0,0,[]⟩ ⟨cQ,by simp,by simp⟩ ⟨by omega,hxb⟩ (aaT h1 h2 h3 h4 h0 hx)
 | 17,_=>
  exact ee ⟨18,0,0,0,0,[],false,[],(.mk 0 [] 0 []),0,0,[]⟩ ⟨cQ,by simp,by simp⟩ ⟨by omega,d2⟩ (aaS h1 h2 h3 h4)
 | 18,_=>
  exact ee ⟨19,0,(Int.ofNat a),0,0,[],false,[],(.mk 0 [] 0 []),0,0,[]⟩ ⟨cQ,by simp,by simp⟩ ⟨by omega,d2⟩ (aaR h1 h2 h3 h4)
 | 19,_=>
  obtain⟨x,k5,⟨hxl,hxa,hxb,_⟩,hx⟩:=bq (n:=4) hb d2 (by omega) (by omega);exact ee ⟨20,0,0,0,(ap .i64 (1+Int.ofNat x)),[],false,[],(.mk 0 [] 0 []),0,0,[]⟩ ⟨cQ,by simp,by simp⟩ ⟨by omega,hxb⟩ (aaQ h1 h2 h3 h4 hx)
 | 20,_=>
  exact ee ⟨21,0,0,0,0,[],false,[],(.mk 0 [] 0 []),0,0,[]⟩ ⟨cQ,by simp,by simp⟩ ⟨by omega,d2⟩ (aaP h1 h2 h3 h4)
 | 21,_=>
  obtain⟨x,k5,⟨hxl,hxa,hxb,_⟩,hx⟩:=bq (n:=4) hb d2 (by omega) (by omega);obtain⟨y,k6,⟨hyl,hya,hyb,_⟩,hy⟩:=bq (n:=3) hb hxb (by omega) (by omega);obtain⟨ar,k7,e1,e2,hs⟩:=hsl y hyb (by omega);have hh:=aaO (c:=Int.ofNat c) (e:=Int.ofNat e) h1 h2 h3 h4 hx hy hs;have hh2:rR (l.map iN) (Int.ofNat n) (Int.ofNat c) (Int.ofNat e) (Int.ofNat k) (eb 22 (Int.ofNat d) 0 0 (ap .i64 (1+Int.ofNat x)) [] (sl (ar.map iN)) 0 [] 0 (sl (ax [])) 0 0 []) (Int.ofNat k7):=hh;rw[uX] at hh2;exact ee ⟨22,(Int.ofNat d),0,0,(ap .i64 (1+Int.ofNat x)),[],false,ar,(.mk 0 [] 0 []),0,0,[]⟩ ⟨cQ,by show ar.length < _;omega,by simp⟩ ⟨by have:=e2.le;omega,e2.top⟩ (hh2)
 | r+22,hr=>exact absurd hr (by omega)
def eT:List al->ac
 | []=>.dat nl
 | x::r=>.own (x::r)
theorem CW {l:List al} (h:l≠[]):eT l=.own l:=by
 cases l with
 | nil=>exact absurd rfl h
 | cons a r=>rfl
noncomputable def hGC:Hints:=⟨bS,Ss,bg,rowsOf bg 9⟩
def SD (pa s:Int) (A B:ac):Heap:=[(.loc 5,.cells [iv pa,iv s,A,B]),(.loc 4,.cells (cC 0 0 nl nl))]
def K9 (l:List al) (K pa s dp:Int) (B:ac) (i:Int):ab:=⟨[(6,iv i),(5,.ptr (.loc 5) 0),(4,.ptr (.loc 4) 0),(0,dy),(1,iv dp)],SD pa s (.dat nl) B,db l K,1⟩
def Nh (l:List al) (K pa s dp:Int) (B:ac) (i:Int):ab:=⟨[(26,bv false),(6,iv i),(5,.ptr (.loc 5) 0),(4,.ptr (.loc 4) 0),(0,dy),(1,iv dp)],SD pa s (.dat nl) B,db l K,1⟩
abbrev Rz (l:List al) (dp K:Int) (d:al) (K2:Int):Prop:=KC 33 [dy,iv dp] (db l K) 1 (XQ ⟨.dat d,db l K2,1⟩)
theorem Qc {l:List al} {K K2 pa s dp i:Int} {pre post:List al} {ek:Int} {dn:List UInt8} {ar sk:Int} {sn:List UInt8} {six:Int} {da:al} {con:Bool} {df:al} {fu:List UInt8} {tk:Int} {tn:List UInt8} {tix:Int} {ta:al} {pb cp cs:Int} {d1 d2:al} {pk:List UInt8} (h0:aH 0 i=true)
  (h1:cV da) (h2:cV df) (h3:cV ta) (h4:cV d1) (h5:cV d2)
  (he:Rz l (ap .i64 (dp - 1)) K (GG ek dn ar sk sn six da con df fu tk tn tix ta pb cp cs d1 d2 pk) K2)
  (ha:bU (env ak.aC) false 24 [.own pre,.dat (.slice [.slice [GG ek dn ar sk sn six da con df fu tk tn tix ta pb cp cs d1 d2 pk]])] none=some ⟨.own post,.keep⟩) {T:Exit->aa->Prop}
  (e:T .normal ((K9 l K2 pa s dp (.own post) (ap .i64 (i - 1))).an Tryz.f9.ntmps)) :
  KD (roundOf Tryz.f9 0) T ((K9 l K pa s dp (eT pre) i).an Tryz.f9.ntmps):=by
 clear h1 h2 h3 h4 h5
 rcases pre with _|⟨d,r⟩ <;>
 ·refine ay [26] [37] (H:=hGC) (live:=BV) (by kernel_rfl) ?_;refine ob h0 ?_;refine oh he ?_;refine oo ha ?_;exact oe e
theorem To {l:List al} {K pa s dp i:Int} {pre:List al} (h0:aH 0 i=false) {T:Exit->aa->Prop} (e:T (.exit 0) ((Nh l K pa s dp (eT pre) i).an Tryz.f9.ntmps)) :
  KD (roundOf Tryz.f9 0) T ((K9 l K pa s dp (eT pre) i).an Tryz.f9.ntmps):=by
 rcases pre with _|⟨d,r⟩ <;>
 ·refine ay [26] [] (H:=hGC) (live:=BV) (by kernel_rfl) ?_;refine ob h0 ?_;exact oe e
def K0 (l:List al) (K pa s:Int) (A B:ac) (cnt i:Int):ab:=⟨[(8,iv i),(7,iv cnt),(5,.ptr (.loc 5) 0),(4,.ptr (.loc 4) 0),(0,dy)],SD pa s A B,db l K,1⟩
def Ng (l:List al) (K pa s:Int) (A B:ac) (cnt i:Int):ab:=⟨[(45,bv false),(8,iv i),(7,iv cnt),(5,.ptr (.loc 5) 0),(4,.ptr (.loc 4) 0),(0,dy)],SD pa s A B,db l K,1⟩
theorem Qe {l:List al} {K K2 pa s cnt i:Int} {dd pre post:List al} {op dst a b im:Int} {nm:List UInt8} {dx:al} {k:Int} {tn:List UInt8} {ix:Int} {dt:al} {ck ci:Int} {cs:List UInt8} (h0:aH i (ap .i64 (cnt - 1))=true)
  (he:KC 34 [dy,iv s,iv cnt,iv (Int.ofNat dd.length)] (db l K) 1 (XQ ⟨.dat (eb op dst a b im nm dx k tn ix dt ck ci cs),db l K2,1⟩))
  (ha:bU (env ak.aC) false 23 [.own pre,.dat (.slice [eb op dst a b im nm dx k tn ix dt ck ci cs])] none=some ⟨.own post,.keep⟩) {T:Exit->aa->Prop}
  (e:T .normal ((K0 l K2 pa s (.own post) (eT dd) cnt (ap .i64 (i+1))).an Tryz.f9.ntmps)) :
  KD (roundOf Tryz.f9 1) T ((K0 l K pa s (eT pre) (eT dd) cnt i).an Tryz.f9.ntmps):=by
 rcases pre with _|⟨d,r⟩ <;>
 ·rcases dd with _|⟨x,y⟩ <;>
  ·refine ay [45] [59] (H:=hGC) (live:=BV) (by kernel_rfl) ?_;refine ob h0 ?_;refine oh he ?_;refine oo ha ?_;exact oe e
theorem Tz {l:List al} {K pa s cnt i:Int} {dd pre:List al} (h0:aH i (ap .i64 (cnt - 1))=false) {T:Exit->aa->Prop} (e:T (.exit 2) ((Ng l K pa s (eT pre) (eT dd) cnt i).an Tryz.f9.ntmps)) :
  KD (roundOf Tryz.f9 1) T ((K0 l K pa s (eT pre) (eT dd) cnt i).an Tryz.f9.ntmps):=by
 rcases pre with _|⟨d,r⟩ <;>
 ·rcases dd with _|⟨x,y⟩ <;>
  ·refine ay [45] [] (H:=hGC) (live:=BV) (by kernel_rfl) ?_;refine ob h0 ?_;exact oe e
def mb (c:Bool):Int:=match c with|true=>16|false=>19
theorem WQ {l:List al} {K K1 K2 K3 K4 K5 K6 K7 K8 pa x y z w u m dp ie ii:Int} {dd es post:List al} {c:Bool}
  (h1:cN l 3 K pa K1) (h2:cN l 4 K1 x K2) (h3:cN l 3 K2 y K3) (hm:Mx (env ak.aC) [iv dp,iv 1]=some ⟨iv m,.keep⟩)
  (hE:KD (.loop (roundOf Tryz.f9 0)) (fun e q=>e=.exit 0/\q=(Nh l K4 pa (ap .i64 (ap .i64 (pa+1)+x)) dp (eT dd) ie).an Tryz.f9.ntmps) ((K9 l K3 pa (ap .i64 (ap .i64 (pa+1)+x)) dp (eT []) (ap .i64 (y*m))).an Tryz.f9.ntmps))
  (h4:cN l 9 K4 z K5)
  (hI:KD (.loop (roundOf Tryz.f9 1)) (fun e q=>e=.exit 2/\q=(Ng l K6 pa (ap .i64 (ap .i64 (pa+1)+x)) (eT es) (eT dd) (ap .i64 (2+z)) ii).an Tryz.f9.ntmps) ((K0 l K5 pa (ap .i64 (ap .i64 (pa+1)+x)) (eT []) (eT dd) (ap .i64 (2+z)) 0).an Tryz.f9.ntmps))
  (h5:cN l (ap .i64 (ap .i64 (pa+1)+x)) K6 w K7) (h6:cN l 4 K7 u K8) (hu:aB u 3=c)
  (ha:bU (env ak.aC) false 23 [.own es,.dat (.slice [eb (mb c) 0 w 0 0 [] nl 0 [] 0 nl 0 0 []])] none=some ⟨.own post,.keep⟩) :
  KC 9 [dy,iv dp] (db l K) 1 (XQ ⟨.dat (aP pa (ap .i64 (ap .i64 (pa+1)+x)) (.slice post) (sl dd)),db l K8,1⟩):=by
 cases c <;>
 ·rcases es with _|⟨d,r⟩ <;>
  ·rcases dd with _|⟨x,y⟩ <;>
   ·refine co [68] [23,76] (x:=.of Tryz.f9 Ss BV) ?_;refine oh h1 ?_;refine oh h2 ?_;refine oh h3 ?_;refine oo hm ?_;refine lo hE ?_;rintro ex s ⟨rfl,rfl⟩;refine⟨_,rfl,?_⟩;refine oh h4 ?_;refine lo hI ?_;rintro ex s ⟨rfl,rfl⟩;refine⟨_,rfl,?_⟩;refine oh h5 ?_;refine oh h6 ?_;refine ob hu ?_;refine oo ha ?_;exact fi
abbrev MN (k:Int) (nm:List UInt8) (ix:Int) (la:List al):al:=.agg [i64 k,sb nm,i64 ix,sl la]
theorem qk (x:al) (l:List al):ae 63 [.dat (.slice (x::l))] (.dat (.agg [i64 3,sb [],i64 0,.slice (x::l)])):=by
 refine co [] [] (x:=.of Tryz.f63 OA PC) ?_;exact fi
abbrev CoT (l:List al) (dp K:Int) (pa s:Int) (es dd:List al) (K2:Int):Prop:=KC 9 [dy,iv dp] (db l K) 1 (XQ ⟨.dat (aP pa s (.slice es) (sl dd)),db l K2,1⟩)
theorem ac8 {l:List al} {K K1 K2 K3 tk tix dp a ar sk six:Int} {tn dn sn:List UInt8} {la sa fl:List al} {con:Bool} (ht:Ry l K tk tn tix la K1) (h1:cN l 6 K1 0 K2) (h2:cN l 8 K2 a K3)
  (hi:aq (env ak.aC) 112 [.dat (.slice (lg lK)),iv a]=some ⟨.ref [sb dn,i64 ar,i64 sk,sb sn,i64 six,sl sa,bl con,sl fl],.keep⟩) :
  Rz l dp K (GG 1 dn ar sk sn six (sl sa) con (sl fl) [] 0 [] 0 nl 0 0 0 nl nl []) K3:=by
 have hb:=nK;have hT:=qk (MN tk tn tix la) [];refine co [] [21] (x:=.of Tryz.f33 sG nt) ?_;refine on hb ?_;refine oh ht ?_;refine on hT ?_;refine oh h1 ?_;refine on hb ?_;refine oh h2 ?_;refine oo hi ?_
 rcases sa with _|⟨v2,v3⟩
 ·rcases fl with _|⟨v0,v1⟩ <;>
  ·exact fi
 rcases fl with _|⟨v4,v5⟩ <;>
 ·exact fi
theorem ac7 {l:List al} {K K1 K2 K3 tk tix dp a:Int} {tn s:List UInt8} {la:List al} (ht:Ry l K tk tn tix la K1) (h1:cN l 6 K1 1 K2) (h2:cN l 3 K2 a K3)
  (hi:aq (env ak.aC) 70 [.dat (.slice (encS zJ)),.dat (.flat (.int .i64 a))]=some ⟨.ref [sb s],.keep⟩) :
  Rz l dp K (GG 3 [] 0 0 [] 0 nl false nl s 3 [] 0 (.slice [MN tk tn tix la]) 0 0 0 nl nl []) K3:=by
 have hb:=nK;have hT:=qk (MN tk tn tix la) [];refine co [] [31] (x:=.of Tryz.f33 sG nt) ?_;refine on hb ?_;refine oh ht ?_;refine on hT ?_;refine oh h1 ?_;refine oh h2 ?_;refine oo hi ?_;exact fi
theorem ac6 {l:List al} {K K1 K2 K3 tk tix dp a:Int} {tn:List UInt8} {la:List al} (ht:Ry l K tk tn tix la K1) (h1:cN l 6 K1 2 K2) (h2:cN l 2 K2 a K3) :
  Rz l dp K (GG (ap .i64 (4+a)) [] 0 0 [] 0 nl false nl [] 0 [] 0 nl 0 0 0 nl nl [112]) K3:=by
 have hb:=nK;have hT:=qk (MN tk tn tix la) [];refine co [] [] (x:=.of Tryz.f33 sG nt) ?_;refine on hb ?_;refine oh ht ?_;refine on hT ?_;refine oh h1 ?_;refine oh h2 ?_;exact fi
theorem abU {l:List al} {K K1 K2 K3 K4 tk tix dp a r s:Int} {tn nm:List UInt8} {la es dd:List al} (ht:Ry l K tk tn tix la K1) (h1:cN l 6 K1 r K2) (r0:aB r 0=false) (r1:aB r 1=false) (r2:aB r 2=false)
  (hc:CoT l dp K2 1 s es dd K3) (h2:cN l 3 K3 a K4) (hi:aq (env ak.aC) 70 [.dat (.slice (encS zJ)),.dat (.flat (.int .i64 a))]=some ⟨.ref [sb nm],.keep⟩) :
  Rz l dp K (GG 2 [] 0 0 [] 0 nl false nl nm 3 [] 0 (.slice [MN tk tn tix la]) 1 1 s (.slice es) (sl dd) []) K4:=by
 have hb:=nK;have hT:=qk (MN tk tn tix la) [];refine co [17,25,36] [57] (x:=.of Tryz.f33 sG nt) ?_;refine on hb ?_;refine oh ht ?_;refine on hT ?_;refine oh h1 ?_;refine ob r0 ?_;refine ob r1 ?_;refine ob r2 ?_;refine oh hc ?_
 rcases dd with _|⟨v0,v1⟩ <;>
 ·refine oh h2 ?_;refine oo hi ?_;exact fi
theorem abT {l:List al} {K K1 K2 K3 K4 K5 tk tix dp a r s pa:Int} {tn nm:List UInt8} {la es dd:List al} (ht:Ry l K tk tn tix la K1) (h1:cN l 6 K1 r K2) (r0:aB r 0=false) (r1:aB r 1=false) (r2:aB r 2=false)
  (hc:CoT l dp K2 pa s es dd K3) (hp:aB pa 1=false) (hv:cN l 5 K3 4 K4) (h2:cN l 3 K4 a K5) (hi:aq (env ak.aC) 70 [.dat (.slice (encS zJ)),.dat (.flat (.int .i64 a))]=some ⟨.ref [sb nm],.keep⟩) :
  Rz l dp K (GG 2 [] 0 0 [] 0 nl false nl nm 3 [] 0 (.slice [MN tk tn tix la]) pa pa s (.slice es) (sl dd) []) K5:=by
 have hb:=nK;have hT:=qk (MN tk tn tix la) [];refine co [17,25,36,46] [57] (x:=.of Tryz.f33 sG nt) ?_;refine on hb ?_;refine oh ht ?_;refine on hT ?_;refine oh h1 ?_;refine ob r0 ?_;refine ob r1 ?_;refine ob r2 ?_;refine oh hc ?_
 rcases dd with _|⟨v0,v1⟩ <;>
 ·refine ob hp ?_;refine oh hv ?_;refine oh h2 ?_;refine oo hi ?_;exact fi
noncomputable def hGE:Hints:=⟨bS,sG,bg,rowsOf bg 33⟩
def aau (pa s:Int) (es:List al) (d2:al) (A:ac):Heap:=[(.loc 7,.cells [iv 3,.dat (sb []),iv 0,A]),(.loc 6,.cells (cC pa s (.slice es) d2)),(.loc 4,.cells (cE 0 [] 0 0 [] 0 nl false nl [] 0 [] 0 nl 0 0 0 nl nl []))]
def KZ (l:List al) (K pa s:Int) (es:List al) (d2:al) (A:ac) (i:Int):ab:=⟨[(8,iv i),(7,.ptr (.loc 7) 0),(6,.ptr (.loc 6) 0),(4,.ptr (.loc 4) 0),(0,dy)],aau pa s es d2 A,db l K,1⟩
def Nf (l:List al) (K pa s:Int) (es:List al) (d2:al) (A:ac) (i:Int):ab:=⟨[(68,bv false),(8,iv i),(7,.ptr (.loc 7) 0),(6,.ptr (.loc 6) 0),(4,.ptr (.loc 4) 0),(0,dy)],aau pa s es d2 A,db l K,1⟩
theorem Qa {l:List al} {K K2 pa s i:Int} {es:List al} {d2:al} {pre post:List al} {tk tix:Int} {tn:List UInt8} {la:List al} (h0:aH i pa=true) (ht:Ry l K tk tn tix la K2)
  (ha:bU (env ak.aC) false 38 [.own pre,.dat (.slice [MN tk tn tix la])] none=some ⟨.own post,.keep⟩) {T:Exit->aa->Prop}
  (e:T .normal ((KZ l K2 pa s es d2 (.own post) (ap .i64 (i+1))).an Tryz.f33.ntmps)) :
  KD (roundOf Tryz.f33 0) T ((KZ l K pa s es d2 (eT pre) i).an Tryz.f33.ntmps):=by
 have hb:=nK
 rcases pre with _|⟨d,r⟩ <;>
 ·refine ay [68] [77] (H:=hGE) (live:=nt) (by kernel_rfl) ?_;refine ob h0 ?_;refine on hb ?_;refine oh ht ?_;refine oo ha ?_;exact oe e
theorem Tl {l:List al} {K pa s i:Int} {es:List al} {d2:al} {pre:List al} (h0:aH i pa=false) {T:Exit->aa->Prop}
  (e:T (.exit 1) ((Nf l K pa s es d2 (eT pre) i).an Tryz.f33.ntmps)) :
  KD (roundOf Tryz.f33 0) T ((KZ l K pa s es d2 (eT pre) i).an Tryz.f33.ntmps):=by
 rcases pre with _|⟨d,r⟩ <;>
 ·refine ay [68] [] (H:=hGE) (live:=nt) (by kernel_rfl) ?_;refine ob h0 ?_;exact oe e
theorem abS {l:List al} {K K1 K2 K3 K4 K5 K6 tk tix dp a r s pa v ie:Int} {tn nm:List UInt8} {la es dd ts:List al} (ht:Ry l K tk tn tix la K1) (h1:cN l 6 K1 r K2) (r0:aB r 0=false) (r1:aB r 1=false) (r2:aB r 2=false)
  (hc:CoT l dp K2 pa s es dd K3) (hp:aB pa 1=false) (hv:cN l 5 K3 v K4) (hv4:aB v 4=false)
  (hl:KD (.loop (roundOf Tryz.f33 0)) (fun e q=>e=.exit 1/\q=(Nf l K5 pa s es (sl dd) (eT ts) ie).an Tryz.f33.ntmps) ((KZ l K4 pa s es (sl dd) (eT []) 0).an Tryz.f33.ntmps))
  (h2:cN l 3 K5 a K6) (hi:aq (env ak.aC) 70 [.dat (.slice (encS zJ)),.dat (.flat (.int .i64 a))]=some ⟨.ref [sb nm],.keep⟩) :
  Rz l dp K (GG 2 [] 0 0 [] 0 nl false nl nm 3 [] 0 (sl ts) pa pa s (.slice es) (sl dd) []) K6:=by
 have hb:=nK;have hT:=qk (MN tk tn tix la) []
 rcases ts with _|⟨d,r⟩ <;>
 ·rcases dd with _|⟨x,y⟩ <;>
  ·refine co [17,25,36,46,50] [84] (x:=.of Tryz.f33 sG nt) ?_;refine on hb ?_;refine oh ht ?_;refine on hT ?_;refine oh h1 ?_;refine ob r0 ?_;refine ob r1 ?_;refine ob r2 ?_;refine oh hc ?_;refine ob hp ?_;refine oh hv ?_;refine ob hv4 ?_;refine lo hl ?_;rintro ex s ⟨rfl,rfl⟩;refine⟨_,rfl,?_⟩;refine oh h2 ?_;refine oo hi ?_;exact fi
noncomputable def YR:Hints:=⟨bS,yR,bg,rowsOf bg 38⟩
def xU (c:List ac) (d:Int) (es:List al) (i:Int):ab:=⟨[(59,iv i),(58,iv (Int.ofNat es.length)),(57,.dat (.slice es)),(2,.ptr (.loc 2) 0),(1,iv d)],[(.loc 2,.cells c)],[],0⟩
def CB (c:List ac) (d:Int) (es:List al) (i:Int):ab:=⟨[(60,bv false),(59,iv i),(58,iv (Int.ofNat es.length)),(57,.dat (.slice es)),(2,.ptr (.loc 2) 0),(1,iv d)],[(.loc 2,.cells c)],[],0⟩
def od (e:Int):ab:=⟨[(4,iv e)],[],[],0⟩
def qH (d n:Int) (ds:al) (i:Int):ab:=⟨[(91,iv i),(90,iv n),(89,.dat ds),(1,iv d)],[],[],0⟩
def um (d n:Int) (ds:al) (i:Int):ab:=⟨[(92,bv false),(91,iv i),(90,iv n),(89,.dat ds),(1,iv d)],[],[],0⟩
def Bl (d n:Int) (ds:al) (i:Int) (l:List al) (k:Int):ab:=⟨[(97,iv k),(96,iv (Int.ofNat l.length)),(95,.dat (.slice l)),(91,iv i),(90,iv n),(89,.dat ds),(1,iv d)],[],[],0⟩
def G4 (d n:Int) (ds:al) (i:Int) (l:List al) (k:Int):ab:=⟨[(98,bv false),(97,iv k),(96,iv (Int.ofNat l.length)),(95,.dat (.slice l)),(91,iv i),(90,iv n),(89,.dat ds),(1,iv d)],[],[],0⟩
theorem acv {p sl d:Int} {es:List al} {d2:al} (g2:cV d2) {op dst a b im:Int} {nm:List UInt8} {dx:al} {xk:Int} {tn:List UInt8} {ix:Int} {dt:al} {ck ci:Int} {cs:List UInt8} (g3:cV dx) (g4:cV dt) {i:Int} {ok:Bool} {T:Exit->aa->Prop} (h0:aH i (Int.ofNat es.length)=true)
  (hi:aq (env ak.aC) 23 [.dat (.slice es),.dat (.flat (.int .i64 i))]=some ⟨.ref [i64 op,i64 dst,i64 a,i64 b,i64 im,sb nm,dx,i64 xk,sb tn,i64 ix,dt,i64 ck,i64 ci,sb cs,nl],.keep⟩) (hv:ae 67 [.dat (aP p sl (.slice es) d2),.dat (eb op dst a b im nm dx xk tn ix dt ck ci cs)] (bv ok))
  (e1:ok=true->T .normal ((xU (cC p sl (.slice es) d2) d es (ap .i64 (i+1))).an Tryz.f38.ntmps)) (e2:ok=false->T .ret ((od 2).an Tryz.f38.ntmps)) :
  KD (roundOf Tryz.f38 0) T ((xU (cC p sl (.slice es) d2) d es i).an Tryz.f38.ntmps):=by
 have q2:=@xq false op dst a b im nm _ xk tn ix _ ck ci cs g3 g4;have q3:=@G3 6 op dst a b im nm _ xk tn ix _ ck ci cs g3 g4;have q4:=@PN false 6 op dst a b im nm dx xk tn ix dt ck ci cs g3 g4;have q5:=@aN false 2 p sl (.slice es) _ (.inr ⟨_,rfl⟩) g2;clear g2 g3 g4;refine ay [60] [61,62,100006,63,64] (H:=YR) (live:=kK) (by kernel_rfl) ?_;refine ob h0 ?_;refine oo hi ?_;refine oo q2 ?_;refine oo q3 ?_;refine oo q5 ?_;refine oo q4 ?_;refine on hv ?_
 cases ok
 ·exact oe (e2 rfl)
 exact oe (e1 rfl)
theorem Y5 {p sl d:Int} {es:List al} {d2:al} {i:Int} {T:Exit->aa->Prop} (h0:aH i (Int.ofNat es.length)=false) (e:T (.exit 1) ((CB (cC p sl (.slice es) d2) d es i).an Tryz.f38.ntmps)) :
  KD (roundOf Tryz.f38 0) T ((xU (cC p sl (.slice es) d2) d es i).an Tryz.f38.ntmps):=by
 refine ay [60] [] (H:=YR) (live:=kK) (by kernel_rfl) ?_;refine ob h0 ?_;exact oe e
theorem acw {d n:Int} {ds:al} {i k v:Int} {l:List al} {ek:Int} {dn:List UInt8} {ar sk:Int} {sn:List UInt8} {six:Int} {da:al} {con:Bool} {df:al} {fu:List UInt8} {tk:Int} {tn:List UInt8} {tix:Int} {ta:al} {pa cp cs:Int} {d1 d2:al} {pk:List UInt8} (h1:cV da) (h2:cV df) (h3:cV ta) (h4:cV d1) (h5:cV d2) {z:Bool} {T:Exit->aa->Prop} (f0:aH k (Int.ofNat l.length)=true)
  (hi:aq (env ak.aC) 54 [.dat (.slice l),.dat (.flat (.int .i64 k))]=some ⟨.ref [i64 ek,sb dn,i64 ar,i64 sk,sb sn,i64 six,da,bl con,df,sb fu,i64 tk,sb tn,i64 tix,ta,i64 pa,i64 cp,i64 cs,d1,d2,sb pk],.keep⟩) (hv:ae 69 [.dat (GG ek dn ar sk sn six da con df fu tk tn tix ta pa cp cs d1 d2 pk),iv d] (iv v)) (hz:aB v 0=z)
  (e1:z=true->T .normal ((Bl d n ds i l (ap .i64 (k+1))).an Tryz.f38.ntmps)) (e2:z=false->T .ret ((od v).an Tryz.f38.ntmps)) :
  KD (roundOf Tryz.f38 2) T ((Bl d n ds i l k).an Tryz.f38.ntmps):=by
 have q2:=@PO false ek dn ar sk sn six _ con _ fu tk tn tix _ pa cp cs _ _ pk h1 h2 h3 h4 h5;have q3:=@Uj 12 ek dn ar sk sn six _ con _ fu tk tn tix _ pa cp cs _ _ pk h1 h2 h3 h4 h5;have q4:=@aaw false 12 ek dn ar sk sn six _ con _ fu tk tn tix _ pa cp cs _ _ pk h1 h2 h3 h4 h5;clear h1 h2 h3 h4 h5;refine ay [98,105] [99,100,100012,101] (H:=YR) (live:=kK) (by kernel_rfl) ?_;refine ob f0 ?_;refine oo hi ?_;refine oo q2 ?_;refine oo q3 ?_;refine oo q4 ?_;refine on hv ?_;refine ox hz ?_
 cases z
 ·exact oe (e2 rfl)
 exact oe (e1 rfl)
theorem Y6 {d n:Int} {ds:al} {i k:Int} {l:List al} {T:Exit->aa->Prop} (f0:aH k (Int.ofNat l.length)=false) (e:T (.exit 5) ((G4 d n ds i l k).an Tryz.f38.ntmps)) :
  KD (roundOf Tryz.f38 2) T ((Bl d n ds i l k).an Tryz.f38.ntmps):=by
 refine ay [98] [] (H:=YR) (live:=kK) (by kernel_rfl) ?_;refine ob f0 ?_;exact oe e
theorem acx {d i v:Int} {dd l:List al} {z:Bool} {T:Exit->aa->Prop} (f0:aH i (Int.ofNat dd.length)=true)
  (hi:aq (env ak.aC) 24 [.dat (.slice dd),.dat (.flat (.int .i64 i))]=some ⟨.ref [.slice l],.keep⟩)
  (hl:KD (.loop (roundOf Tryz.f38 2)) (fun e q=>(e=.exit 5/\z=true/\∃k,q=(G4 d (Int.ofNat dd.length) (.slice dd) i l k).an Tryz.f38.ntmps)∨(e=.ret/\z=false/\q=(od v).an Tryz.f38.ntmps)) ((Bl d (Int.ofNat dd.length) (.slice dd) i l 0).an Tryz.f38.ntmps))
  (e1:z=true->T .normal ((qH d (Int.ofNat dd.length) (.slice dd) (ap .i64 (i+1))).an Tryz.f38.ntmps)) (e2:z=false->T .ret ((od v).an Tryz.f38.ntmps)) :
  KD (roundOf Tryz.f38 1) T ((qH d (Int.ofNat dd.length) (.slice dd) i).an Tryz.f38.ntmps):=by
 refine ay [92] [93] (H:=YR) (live:=kK) (by kernel_rfl) ?_;refine ob f0 ?_;refine oo hi ?_;refine lo hl ?_;rintro ex s (⟨rfl,rfl,⟨x0,rfl⟩⟩|⟨rfl,rfl,rfl⟩)
 ·refine⟨_,rfl,?_⟩;exact oe (e1 rfl)
 refine⟨_,rfl,?_⟩;exact oe (e2 rfl)
theorem Ua {d n:Int} {ds:al} {i:Int} {T:Exit->aa->Prop} (f0:aH i n=false) (e:T (.exit 3) ((um d n ds i).an Tryz.f38.ntmps)) :
  KD (roundOf Tryz.f38 1) T ((qH d n ds i).an Tryz.f38.ntmps):=by
 refine ay [92] [] (H:=YR) (live:=kK) (by kernel_rfl) ?_;refine ob f0 ?_;exact oe e
theorem Y1 {p sl d:Int} {es dd:List al} {c1 c2 c3 c4 c5 c6 c7 c8 ok tr z okS:Bool} {v:Int} {s:ke}
  (k1:aH 40 d=c1) (k2:aH 200 sl=c2) (k5:aH p 0=c5) (k6:aH 6 p=c6) (k7:aH sl p=c7) (k3:aH 2000 (Int.ofNat es.length)=c3) (k4:aH 2000 (Int.ofNat dd.length)=c4) (k8:aB (Int.ofNat es.length) 0=c8)
  (hl:c8=false->KD (.loop (roundOf Tryz.f38 0)) (fun e q=>(e=.exit 1/\ok=true/\∃i,q=(CB (cC p sl (.slice es) (.slice dd)) d es i).an Tryz.f38.ntmps)∨(e=.ret/\ok=false/\q=(od 2).an Tryz.f38.ntmps)) ((xU (cC p sl (.slice es) (.slice dd)) d es 0).an Tryz.f38.ntmps))
  {op:Int} {lc:List al} (hi:c8=false->aq (env ak.aC) 23 [.dat (.slice es),.dat (.flat (.int .i64 (ap .i64 (Int.ofNat es.length - 1))))]=some ⟨.ref (i64 op::lc),.keep⟩)
  (hs:ae 58 [iv op] (.tup [.dat s.enc,bv okS])) (hf:ok=true->ae 68 [.dat (aP p sl (.slice es) (.slice dd))] (bv tr))
  (he:c1=false->KD (.loop (roundOf Tryz.f38 1)) (fun e q=>(e=.exit 3/\z=true/\∃i,q=(um d (Int.ofNat dd.length) (.slice dd) i).an Tryz.f38.ntmps)∨(e=.ret/\z=false/\q=(od v).an Tryz.f38.ntmps)) ((qH d (Int.ofNat dd.length) (.slice dd) 0).an Tryz.f38.ntmps)) :
  ae 38 [.dat (aP p sl (.slice es) (.slice dd)),iv d] (iv (kP c1 c2 c3 c4 c5 c6 c7 c8 ok s.fin tr (if z=true then 0 else v))):=by
 have q5:=@aN false 2 p sl (.slice es) (.slice dd) (.inr ⟨_,rfl⟩) (.inr ⟨_,rfl⟩);obtain⟨w,s1,s2,s3,s4,s5,s6,s7,s8,s9,s10,s11⟩:=s;refine co [16,20,26,32,37,41,48,54] [75,85] (x:=.of Tryz.f38 yR kK) ?_;refine ob k1 ?_
 cases c1
 ·refine ob k2 ?_
  cases c2
  ·refine ob k3 ?_
   cases c3
   ·refine ob k4 ?_
    cases c4
    ·refine ob k5 ?_
     cases c5
     ·refine ob k6 ?_
      cases c6
      ·refine ob k7 ?_
       cases c7
       ·refine ob k8 ?_
        cases c8
        ·refine lo (hl rfl) ?_;rintro ex s (⟨rfl,rfl,⟨x0,rfl⟩⟩|⟨rfl,rfl,rfl⟩)
         ·refine⟨_,rfl,?_⟩;refine oo (hi rfl) ?_;refine on hs ?_
          cases s11
          ·exact fi
          refine oo q5 ?_;refine on (hf rfl) ?_
          cases tr
          ·refine lo (he rfl) ?_;rintro ex s (⟨rfl,rfl,⟨x1,rfl⟩⟩|⟨rfl,rfl,rfl⟩) <;>
           ·refine⟨_,rfl,?_⟩;exact fi
          exact fi
         refine⟨_,rfl,?_⟩;exact fi
        exact fi
       exact fi
      exact fi
     exact fi
    exact fi
   exact fi
  exact fi
 exact fi
theorem Y2 {p sl d:Int} {es dd:List al} {c1 c2 c3 c4 c5 c6 c7 c8 ok tr z okS:Bool} {v:Int} {s:ke}
  (k1:aH 40 d=c1) (k2:aH 200 sl=c2) (k5:aH p 0=c5) (k6:aH 6 p=c6) (k7:aH sl p=c7) (k3:aH 2000 (Int.ofNat es.length)=c3) (k8:aB (Int.ofNat es.length) 0=c8)
  (hl:c8=false->KD (.loop (roundOf Tryz.f38 0)) (fun e q=>(e=.exit 1/\ok=true/\∃i,q=(CB (cC p sl (.slice es) nl) d es i).an Tryz.f38.ntmps)∨(e=.ret/\ok=false/\q=(od 2).an Tryz.f38.ntmps)) ((xU (cC p sl (.slice es) nl) d es 0).an Tryz.f38.ntmps))
  {op:Int} {lc:List al} (hi:c8=false->aq (env ak.aC) 23 [.dat (.slice es),.dat (.flat (.int .i64 (ap .i64 (Int.ofNat es.length - 1))))]=some ⟨.ref (i64 op::lc),.keep⟩)
  (hs:ae 58 [iv op] (.tup [.dat s.enc,bv okS])) (hf:ok=true->ae 68 [.dat (aP p sl (.slice es) nl)] (bv tr))
  (he:c1=false->KD (.loop (roundOf Tryz.f38 1)) (fun e q=>(e=.exit 3/\z=true/\∃i,q=(um d 0 nl i).an Tryz.f38.ntmps)∨(e=.ret/\z=false/\q=(od v).an Tryz.f38.ntmps)) ((qH d 0 nl 0).an Tryz.f38.ntmps)) :
  ae 38 [.dat (aP p sl (.slice es) nl),iv d] (iv (kP c1 c2 c3 false c5 c6 c7 c8 ok s.fin tr (if z=true then 0 else v))):=by
 have q5:=@aN false 2 p sl (.slice es) nl (.inr ⟨_,rfl⟩) (.inl rfl);obtain⟨w,s1,s2,s3,s4,s5,s6,s7,s8,s9,s10,s11⟩:=s;refine co [16,20,26,37,41,48,54] [75,85] (x:=.of Tryz.f38 yR kK) ?_;refine ob k1 ?_
 cases c1
 ·refine ob k2 ?_
  cases c2
  ·refine ob k3 ?_
   cases c3
   ·refine ob k5 ?_
    cases c5
    ·refine ob k6 ?_
     cases c6
     ·refine ob k7 ?_
      cases c7
      ·refine ob k8 ?_
       cases c8
       ·refine lo (hl rfl) ?_;rintro ex s (⟨rfl,rfl,⟨x0,rfl⟩⟩|⟨rfl,rfl,rfl⟩)
        ·refine⟨_,rfl,?_⟩;refine oo (hi rfl) ?_;refine on hs ?_
         cases s11
         ·exact fi
         refine oo q5 ?_;refine on (hf rfl) ?_
         cases tr
         ·refine lo (he rfl) ?_;rintro ex s (⟨rfl,rfl,⟨x1,rfl⟩⟩|⟨rfl,rfl,rfl⟩) <;>
          ·refine⟨_,rfl,?_⟩;exact fi
         exact fi
        refine⟨_,rfl,?_⟩;exact fi
       exact fi
      exact fi
     exact fi
    exact fi
   exact fi
  exact fi
 exact fi
theorem Y3 {p sl d:Int} {es dd:List al} {c1 c2 c3 c4 c5 c6 c7 c8 ok tr z okS:Bool} {v:Int} {s:ke}
  (k1:aH 40 d=c1) (k2:aH 200 sl=c2) (k5:aH p 0=c5) (k6:aH 6 p=c6) (k7:aH sl p=c7) (k4:aH 2000 (Int.ofNat dd.length)=c4) :
  ae 38 [.dat (aP p sl nl (.slice dd)),iv d] (iv (kP c1 c2 false c4 c5 c6 c7 true false false false 0)):=by
 refine co [16,20,32,37,41,48] [] (x:=.of Tryz.f38 yR kK) ?_;refine ob k1 ?_
 cases c1
 ·refine ob k2 ?_
  cases c2
  ·refine ob k4 ?_
   cases c4
   ·refine ob k5 ?_
    cases c5
    ·refine ob k6 ?_
     cases c6
     ·refine ob k7 ?_
      cases c7 <;>
      ·exact fi
     exact fi
    exact fi
   exact fi
  exact fi
 exact fi
theorem Y4 {p sl d:Int} {es dd:List al} {c1 c2 c3 c4 c5 c6 c7 c8 ok tr z okS:Bool} {v:Int} {s:ke}
  (k1:aH 40 d=c1) (k2:aH 200 sl=c2) (k5:aH p 0=c5) (k6:aH 6 p=c6) (k7:aH sl p=c7) :
  ae 38 [.dat (aP p sl nl nl),iv d] (iv (kP c1 c2 false false c5 c6 c7 true false false false 0)):=by
 refine co [16,20,37,41,48] [] (x:=.of Tryz.f38 yR kK) ?_;refine ob k1 ?_
 cases c1
 ·refine ob k2 ?_
  cases c2
  ·refine ob k5 ?_
   cases c5
   ·refine ob k6 ?_
    cases c6
    ·refine ob k7 ?_
     cases c7 <;>
     ·exact fi
    exact fi
   exact fi
  exact fi
 exact fi
theorem YX {p sl:Int} {es dd:List al} {c1 c2 c3 c4:Bool} (h1:aB p 0=c1) (h2:aB sl 0=c2) (h3:aB (Int.ofNat es.length) 0=c3) (h4:aB (Int.ofNat dd.length) 0=c4):ae 103 [.dat (aP p sl (.slice es) (.slice dd))] (bv (c1&&(c2&&(c3&&c4)))):=by
 refine co [5,9,15,21] [] (x:=.of Tryz.f103 uM sY) ?_;refine ob h1 ?_
 cases c1
 ·exact fi
 refine ob h2 ?_
 cases c2
 ·exact fi
 refine ob h3 ?_
 cases c3
 ·exact fi
 refine ob h4 ?_
 cases c4 <;>
 ·exact fi
theorem YY {p sl:Int} {es dd:List al} {c1 c2 c3 c4:Bool} (h1:aB p 0=c1) (h2:aB sl 0=c2) (h3:aB (Int.ofNat es.length) 0=c3):ae 103 [.dat (aP p sl (.slice es) nl)] (bv (c1&&(c2&&(c3&&true)))):=by
 refine co [5,9,15] [] (x:=.of Tryz.f103 uM sY) ?_;refine ob h1 ?_
 cases c1
 ·exact fi
 refine ob h2 ?_
 cases c2
 ·exact fi
 refine ob h3 ?_
 cases c3 <;>
 ·exact fi
theorem YZ {p sl:Int} {es dd:List al} {c1 c2 c3 c4:Bool} (h1:aB p 0=c1) (h2:aB sl 0=c2) (h4:aB (Int.ofNat dd.length) 0=c4):ae 103 [.dat (aP p sl nl (.slice dd))] (bv (c1&&(c2&&(true&&c4)))):=by
 refine co [5,9,21] [] (x:=.of Tryz.f103 uM sY) ?_;refine ob h1 ?_
 cases c1
 ·exact fi
 refine ob h2 ?_
 cases c2
 ·exact fi
 refine ob h4 ?_
 cases c4 <;>
 ·exact fi
theorem Y0 {p sl:Int} {es dd:List al} {c1 c2 c3 c4:Bool} (h1:aB p 0=c1) (h2:aB sl 0=c2):ae 103 [.dat (aP p sl nl nl)] (bv (c1&&(c2&&(true&&true)))):=by
 refine co [5,9] [] (x:=.of Tryz.f103 uM sY) ?_;refine ob h1 ?_
 cases c1
 ·exact fi
 refine ob h2 ?_
 cases c2 <;>
 ·exact fi
theorem RH {d v:Int} {ek:Int} {dn:List UInt8} {ar sk:Int} {sn:List UInt8} {six:Int} {da:al} {con:Bool} {df:al} {fu:List UInt8} {tk:Int} {tn:List UInt8} {tix:Int} {ta:al} {pa cp cs:Int} {d1 d2:al} {pk:List UInt8} (h1:cV da) (h2:cV df) (h3:cV ta) (h4:cV d1) (h5:cV d2) {c1 c2 c3 z:Bool} (k1:aH ek 1=c1) (k2:aH 5 ek=c2) (k3:aB ek 2=c3) (hz:ae 103 [.dat (aP cp cs d1 d2)] (bv z)) (hv:ae 38 [.dat (aP cp cs d1 d2),iv (ap .i64 (d+1))] (iv v)) :
  ae 69 [.dat (GG ek dn ar sk sn six da con df fu tk tn tix ta pa cp cs d1 d2 pk),iv d] (iv (qT c1 c2 c3 z v)):=by
 have q1:=@acd ek dn ar sk sn six _ con _ fu tk tn tix _ pa cp cs _ _ pk h1 h2 h3 h4 h5;have q2:=@PQ false 2 ek dn ar sk sn six da con df fu tk tn tix ta pa cp cs _ _ pk h4 h5;clear h1 h2 h3 h4 h5;refine co [8,12,17,27] [2,29,20] (x:=.of Tryz.f69 Oy PA) ?_;refine oo q1 ?_;refine ob k1 ?_
 cases c1
 ·refine ob k2 ?_
  cases c2
  ·refine ox k3 ?_
   cases c3
   ·refine oo q2 ?_;refine on hz ?_
    cases z
    ·exact fi
    refine ox k3 ?_;exact fi
   refine ox k3 ?_;refine oo q2 ?_;refine on hv ?_;exact fi
  exact fi
 exact fi
theorem jC.ub (pa sl:Int) (iz:Bool) (ins:List Ins) (ez:Bool) (cT:List (List fJ)) (d:Nat):jC.val (.mk pa sl iz ins ez cT) d=wh d pa sl ins cT.length (jv cT d):=by rw[jC.val]
theorem fJ.ub (k:Int) (dc:tW) (f:List UInt8) (sg:Ty) (pa:Int) (c:jC) (pk:List UInt8) (d:Nat):fJ.val (.mk k dc f sg pa c pk) d=qT (aH k 1) (aH 5 k) (aB k 2) c.zero (c.val (d+1)):=by rw[fJ.val]
mutual
def jC.ok:jC->Prop
 | .mk _ _ _ ins _ cT=>(∀x∈ins,x.gO)/\ins.length < 1000000/\cT.length < 1000000/\uN cT
def uN:List (List fJ)->Prop
 | []=>True
 | l::r=>l.length < 1000000/\UL l/\uN r
def UL:List fJ->Prop
 | []=>True
 | e::r=>e.ok/\UL r
def fJ.ok:fJ->Prop
 | .mk _ d _ s _ c _=>d.gO/\s.gO/\c.ok
end
theorem ze:∀{l:List (List fJ)},uN l->∀x∈l,x.length < 1000000/\UL x
 | [],_,x,hx=>by simp at hx
 | a::r,h,x,hx=>by
  simp only[uN] at h
  rcases List.mem_cons.1 hx with rfl|hx
  ·exact⟨h.1,h.2.1⟩
  exact ze h.2.2 x hx
theorem MI {p sl d:Int} {ins:List Ins} {ez:Bool} {ed:List al} (hx:∀x∈ins,x.gO) (hn:ins.length < 1000000) :
  KD (.loop (roundOf Tryz.f38 0)) (fun e q=>(e=.exit 1/\ins.all (fun x=>ig (Int.ofNat ins.length) (Int.ofNat ed.length) sl x)=true/\∃i,q=(CB (cC p sl (.slice (encI ins)) (sx ez ed)) d (encI ins) i).an Tryz.f38.ntmps)∨(e=.ret/\ins.all (fun x=>ig (Int.ofNat ins.length) (Int.ofNat ed.length) sl x)=false/\q=(od 2).an Tryz.f38.ntmps))
   ((xU (cC p sl (.slice (encI ins)) (sx ez ed)) d (encI ins) 0).an Tryz.f38.ntmps):=by
 have hlen:(encI ins).length=ins.length:=bP ins;refine cH (St:=fun i=>(xU (cC p sl (.slice (encI ins)) (sx ez ed)) d (encI ins) (Int.ofNat i)).an Tryz.f38.ntmps) (fun i=>ins.all (fun x=>ig (Int.ofNat ins.length) (Int.ofNat ed.length) sl x)=(ins.drop i).all (fun x=>ig (Int.ofNat ins.length) (Int.ofNat ed.length) sl x)) ins.length ?_ ?_ (i:=0) (Nat.zero_le _) rfl
 ·intro i hi hI;have hg:ins[i]?=some ins[i]:=List.getElem?_eq_getElem hi;have hm:ins[i]∈ins:=List.getElem_mem hi;have hd:(ins.drop i).all (fun x=>ig (Int.ofNat ins.length) (Int.ofNat ed.length) sl x)=(ig (Int.ofNat ins.length) (Int.ofNat ed.length) sl ins[i]&&(ins.drop (i+1)).all (fun x=>ig (Int.ofNat ins.length) (Int.ofNat ed.length) sl x)):=by rw[List.drop_eq_getElem_cons hi];rfl
  generalize ins[i]=x at hg hd hm;rw[←hI] at hd;have hw:ap .i64 (Int.ofNat i+1)=Int.ofNat (i+1):=ba (by omega);have hv:=@DM p sl (encI ins) ed ez _ (hx x hm);rw[hlen] at hv;have hi2:=tm hg;generalize ig (Int.ofNat ins.length) (Int.ofNat ed.length) sl x=b at hv hd;obtain⟨op,dst,a,b',im,nm,az,ar,⟨xk,tn,ix,la⟩,ck,ci,cs⟩:=x;refine acv (dH ez ed) (dH az (ar.map iN)) (dz (ax la)) (bc (by rw[hlen];exact hi)) hi2 hv ?_ ?_
  ·rintro rfl;rw[hw];exact⟨rfl,hd⟩
  rintro rfl;exact .inr ⟨rfl,hd,rfl⟩
 intro hI;have h1:ins.all (fun x=>ig (Int.ofNat ins.length) (Int.ofNat ed.length) sl x)=true:=by rw[hI,List.drop_length];rfl
 exact Y5 (bW (by rw[hlen];omega)) (.inl ⟨rfl,h1,_,rfl⟩)
theorem Ga {l:List fJ} {k:Nat} {e:fJ} {d:Nat} (h:l[k]?=some e):tF (l.drop k) d=if aB (e.val d) 0=true then tF (l.drop (k+1)) d else e.val d:=by
 have hk:=(List.getElem?_eq_some_iff.1 h).1;rw[List.drop_eq_getElem_cons hk]
 have:l[k]=e:=by rw[List.getElem?_eq_getElem hk] at h;exact Option.some.inj h
 rw[this,tF]
theorem B8 {l:List (List fJ)} {k:Nat} {e:List fJ} {d:Nat} (h:l[k]?=some e):jv (l.drop k) d=if aB (tF e d) 0=true then jv (l.drop (k+1)) d else tF e d:=by
 have hk:=(List.getElem?_eq_some_iff.1 h).1;rw[List.drop_eq_getElem_cons hk]
 have:l[k]=e:=by rw[List.getElem?_eq_getElem hk] at h;exact Option.some.inj h
 rw[this,jv]
theorem MJ {d:Nat} {n:Int} {ds:al} {i:Int} {l:List fJ} (hn:l.length < 1000000) (hv:∀e∈l,ae 69 [.dat e.enc,iv (Int.ofNat d)] (iv (e.val d))) :
  KD (.loop (roundOf Tryz.f38 2)) (fun e q=>(e=.exit 5/\aB (tF l d) 0=true/\∃k,q=(G4 (Int.ofNat d) n ds i (jZ l) k).an Tryz.f38.ntmps)∨(e=.ret/\aB (tF l d) 0=false/\q=(od (tF l d)).an Tryz.f38.ntmps))
   ((Bl (Int.ofNat d) n ds i (jZ l) 0).an Tryz.f38.ntmps):=by
 have hlen:(jZ l).length=l.length:=wy l;refine cH (St:=fun k=>(Bl (Int.ofNat d) n ds i (jZ l) (Int.ofNat k)).an Tryz.f38.ntmps) (fun k=>tF l d=tF (l.drop k) d) l.length ?_ ?_ (i:=0) (Nat.zero_le _) rfl
 ·intro k hk hI;have hg:l[k]?=some l[k]:=List.getElem?_eq_getElem hk;have hm:l[k]∈l:=List.getElem_mem hk;generalize l[k]=e at hg hm;rw[Ga hg] at hI;have hv1:=hv e hm;have hi2:=UO hg;have hw:ap .i64 (Int.ofNat k+1)=Int.ofNat (k+1):=ba (by omega);generalize e.val d=v at hv1 hI;obtain⟨ek,⟨dn,ar,⟨sk,sn,six,sa⟩,con,fl⟩,fu,⟨tk,tn,tix,ta⟩,pa,⟨cp,cs,iz,ins,ez,cT⟩,pk⟩:=e;have hi3:aq (env ak.aC) _ [.dat (.slice (jZ l)),.dat (.flat (.int .i64 (Int.ofNat k)))]=some ⟨.ref [i64 ek,sb dn,i64 ar,i64 sk,sb sn,i64 six,sl (ax sa),bl con,sl (DD fl),sb fu,i64 tk,sb tn,i64 tix,sl (ax ta),i64 pa,i64 cp,i64 cs,sx iz (encI ins),sx ez (aO cT),sb pk],.keep⟩:=hi2;have hv2:ae 69 [.dat (GG ek dn ar sk sn six (sl (ax sa)) con (sl (DD fl)) fu tk tn tix (sl (ax ta)) pa cp cs (sx iz (encI ins)) (sx ez (aO cT)) pk),iv (Int.ofNat d)] (iv v):=hv1;refine acw (dz _) (dz _) (dz _) (dH _ _) (dH _ _) (bc (by rw[hlen];exact hk)) hi3 hv2 rfl ?_ ?_
  ·intro h;rw[hw];refine⟨rfl,?_⟩;rw[hI,h];rfl
  intro h;rw[h] at hI
  have:tF l d=v:=hI
  rw[this];exact .inr ⟨rfl,h,rfl⟩
 intro hI;rw[List.drop_length] at hI;have h1:aB (tF l d) 0=true:=by rw[hI,tF];rfl
 exact Y6 (bW (by rw[hlen];omega)) (.inl ⟨rfl,h1,_,rfl⟩)
theorem MK {d:Nat} {dd:List (List fJ)} (hn:dd.length < 1000000) (hl:∀l∈dd,l.length < 1000000) (hv:∀l∈dd,∀e∈l,ae 69 [.dat e.enc,iv (Int.ofNat d)] (iv (e.val d))) :
  KD (.loop (roundOf Tryz.f38 1)) (fun e q=>(e=.exit 3/\aB (jv dd d) 0=true/\∃i,q=(um (Int.ofNat d) (Int.ofNat (aO dd).length) (.slice (aO dd)) i).an Tryz.f38.ntmps)∨(e=.ret/\aB (jv dd d) 0=false/\q=(od (jv dd d)).an Tryz.f38.ntmps))
   ((qH (Int.ofNat d) (Int.ofNat (aO dd).length) (.slice (aO dd)) 0).an Tryz.f38.ntmps):=by
 have hlen:(aO dd).length=dd.length:=eg dd;refine cH (St:=fun k=>(qH (Int.ofNat d) (Int.ofNat (aO dd).length) (.slice (aO dd)) (Int.ofNat k)).an Tryz.f38.ntmps) (fun k=>jv dd d=jv (dd.drop k) d) dd.length ?_ ?_ (i:=0) (Nat.zero_le _) rfl
 ·intro k hk hI;have hg:dd[k]?=some dd[k]:=List.getElem?_eq_getElem hk;have hm:dd[k]∈dd:=List.getElem_mem hk;generalize dd[k]=l at hg hm;rw[B8 hg] at hI;have hw:ap .i64 (Int.ofNat k+1)=Int.ofNat (k+1):=ba (by omega);have hF:=@MJ d (Int.ofNat (aO dd).length) (.slice (aO dd)) (Int.ofNat k) _ (hl l hm) (hv l hm);refine acx (bc (by rw[hlen];exact hk)) (UP hg) hF ?_ ?_
  ·intro h;rw[hw];refine⟨rfl,?_⟩;rw[hI,h];rfl
  intro h;rw[h] at hI
  have:jv dd d=tF l d:=hI
  rw[this];exact .inr ⟨rfl,h,rfl⟩
 intro hI;rw[List.drop_length] at hI;have h1:aB (jv dd d) 0=true:=by rw[hI,jv];rfl
 exact Ua (bW (by rw[hlen];omega)) (.inl ⟨rfl,h1,_,rfl⟩)
theorem KN {d n:Int} {ds:al} (h:aH 0 n=false) :
  KD (.loop (roundOf Tryz.f38 1)) (fun e q=>e=.exit 3/\∃i,q=(um d n ds i).an Tryz.f38.ntmps) ((qH d n ds 0).an Tryz.f38.ntmps):=by
 refine aZ (St:=fun _=>(qH d n ds 0).an Tryz.f38.ntmps) 0 (fun i hi=>absurd hi (by omega)) ?_ (i:=0) (Nat.le_refl _);exact Ua h ⟨rfl,_,rfl⟩
theorem IX (c:jC):ae 103 [.dat c.enc] (bv c.zero):=by
 obtain⟨pa,sl,iz,ins,ez,cT⟩:=c;have h1:Int.ofNat (encI ins).length=Int.ofNat ins.length:=by rw[bP]
 have h2:Int.ofNat (aO cT).length=Int.ofNat cT.length:=by rw[eg]
 have ss:=fun (es dd:List al)=>@YX pa sl es dd _ _ _ _ rfl rfl rfl rfl
 have key:∀(a b:al),(a=.slice (encI ins)∨(a=nl/\ins=[]))->(b=.slice (aO cT)∨(b=nl/\cT=[]))->ae 103 [.dat (aP pa sl a b)] (bv (jC.zero (.mk pa sl iz ins ez cT))):=by
  rintro a b (rfl|⟨rfl,rfl⟩) (rfl|⟨rfl,rfl⟩)
  ·have:=ss (encI ins) (aO cT)
   rw[h1,h2] at this;exact this
  ·have:=@YY pa sl (encI ins) [] _ _ _ true rfl rfl rfl
   rw[h1] at this;exact this
  ·have:=@YZ pa sl [] (aO cT) _ _ true _ rfl rfl rfl
   rw[h2] at this;exact this
  exact @Y0 pa sl [] [] _ _ true true rfl rfl
 refine key (sx iz (encI ins)) (sx ez (aO cT)) ?_ ?_
 ·cases ins with
  | nil=>cases iz with
   | true=>exact .inl (by simp[encI,sx])
   | false=>exact .inr ⟨rfl,rfl⟩
  | cons x r=>exact .inl (by simp[encI,sx])
 cases cT with
 | nil=>cases ez with
  | true=>exact .inl (by simp[aO,sx])
  | false=>exact .inr ⟨by simp[aO,sx],rfl⟩
 | cons x r=>exact .inl (by simp[aO,sx])
theorem jh (z:Bool) (l:List al):sx z l=.slice l∨(sx z l=nl/\l=[]):=by
 cases l with
 | nil=>cases z with
  | true=>exact .inl rfl
  | false=>exact .inr ⟨rfl,rfl⟩
 | cons x r=>exact .inl rfl
theorem Fu {d:Nat} (h:aH 40 (Int.ofNat d)=false):d<=40:=by
 rw[cW] at h;simp only[decide_eq_false_iff_not,Int.ofNat_eq_natCast] at h;omega
theorem DL {pa sl:Int} {iz ez:Bool} {ins:List Ins} {cT:List (List fJ)} {d:Nat} (hx:∀x∈ins,x.gO) (hn:ins.length < 1000000) (hne:cT.length < 1000000) (hl:∀l∈cT,l.length < 1000000)
  (hv:d<=40->∀l∈cT,∀e∈l,ae 69 [.dat e.enc,iv (Int.ofNat d)] (iv (e.val d))) :
  ae 38 [.dat (jC.enc (.mk pa sl iz ins ez cT)),iv (Int.ofNat d)] (iv (jC.val (.mk pa sl iz ins ez cT) d)):=by
 have h1:Int.ofNat (encI ins).length=Int.ofNat ins.length:=by rw[bP]
 have h2:Int.ofNat (aO cT).length=Int.ofNat cT.length:=by rw[eg]
 have e0:jC.enc (.mk pa sl iz ins ez cT)=aP pa sl (sx iz (encI ins)) (sx ez (aO cT)):=rfl;rw[e0,jC.ub]
 rcases jh iz (encI ins) with hi|⟨hi,hi0⟩
 ·rw[hi];have hlI:=@MI pa sl (Int.ofNat d) _ ez (aO cT) hx hn;rw[h2] at hlI;have hidx:∀c8:Bool,aB (Int.ofNat ins.length) 0=c8->∃(op:Int) (lc:List al),(c8=false->aq (env ak.aC) 23 [.dat (.slice (encI ins)),.dat (.flat (.int .i64 (ap .i64 (Int.ofNat (encI ins).length - 1))))]=some ⟨.ref (i64 op::lc),.keep⟩)/\jV ins=(jM (dI op)).fin:=by
   intro c8 hc
   cases c8
   ·have hp:0 < ins.length:=by
     rcases Nat.eq_zero_or_pos ins.length with h|h
     ·rw[h] at hc;simp[ct] at hc
     exact h
    have hg:ins[ins.length - 1]?=some ins[ins.length - 1]:=List.getElem?_eq_getElem (by omega);have hw:ap .i64 (Int.ofNat (encI ins).length - 1)=Int.ofNat (ins.length - 1):=by
     rw[h1,cF,show Int.ofNat ins.length - 1=Int.ofNat (ins.length - 1) by simp;omega];exact wrap_i64 (by show _<=((ins.length - 1:Nat):Int);omega) (by show ((ins.length - 1:Nat):Int)<=_;omega)
    have hf:jV ins=(jM (dI ins[ins.length - 1].op)).fin:=by unfold jV;rw[hg]
    generalize ins[ins.length - 1]=x at hg hf;have hi2:=tm hg;rw[←hw] at hi2;obtain⟨op,dst,a,b',im,nm,az,ar,⟨xk,tn,ix,la⟩,ck,ci,cs⟩:=x;exact⟨op,_,fun _=>hi2,hf⟩
   have:ins=[]:=by
    cases ins with
    | nil=>rfl
    | cons a r=>exact absurd hc (by simp[ct];omega)
   subst this;exact⟨0,[],fun h=>by simp at h,rfl⟩
  obtain⟨op,lc,hop,hfin⟩:=hidx _ rfl;have hfr:∀ok:Bool,ins.all (fun x=>ig (Int.ofNat ins.length) (Int.ofNat cT.length) sl x)=ok->(ok=true->ae 68 [.dat (aP pa sl (.slice (encI ins)) (sx ez (aO cT)))] (bv (lm ins))):=by
   intro ok h1 h2;rw[h2] at h1;exact YD (dH ez (aO cT)) (zd h1) hn
  have hz:∀v:Int,(if aB v 0=true then (0:Int) else v)=v:=by
   intro v
   split
   ·rename_i h;rw[ct] at h;simpa using (beq_iff_eq.1 h).symm
   rfl
  rcases jh ez (aO cT) with he|⟨he,he0⟩
  ·rw[he] at hlI hfr ⊢;have hE:=fun hc:aH 40 (Int.ofNat d)=false=>MK (d:=d) hne hl (hv (Fu hc))
   have:=Y1 (p:=pa) (sl:=sl) (d:=Int.ofNat d) (es:=encI ins) (dd:=aO cT) rfl rfl rfl rfl rfl (by rw[h1]) (by rw[h2]) (by rw[h1]) (fun _=>hlI) hop (tL op) (hfr _ rfl) hE
   rw[hz,←hfin] at this;exact this
  rw[he] at hlI hfr ⊢;have hed:cT=[]:=by
   cases cT with
   | nil=>rfl
   | cons a r=>simp[aO] at he0
  subst hed;have hE:=@KN (Int.ofNat d) 0 nl rfl;have hE2:KD (.loop (roundOf Tryz.f38 1)) (fun e q=>(e=.exit 3/\true=true/\∃i,q=(um (Int.ofNat d) 0 nl i).an Tryz.f38.ntmps)∨(e=.ret/\true=false/\q=(od 0).an Tryz.f38.ntmps)) ((qH (Int.ofNat d) 0 nl 0).an Tryz.f38.ntmps):=hE.mono (by rintro e q ⟨h1,h2⟩;exact .inl ⟨h1,rfl,h2⟩)
  have:=@Y2 pa sl (Int.ofNat d) (encI ins) [] _ _ _ true _ _ _ _ _ _ _ _ _ _ rfl rfl rfl rfl rfl (by rw[h1]) (by rw[h1]) (fun _=>hlI) _ _ hop (tL op) (hfr _ rfl) (fun _=>hE2)
  rw[←hfin] at this;exact this
 rw[hi];have hins:ins=[]:=by
  cases ins with
  | nil=>rfl
  | cons a r=>simp[encI] at hi0
 subst hins;have hh:∀c4:Bool,aH 2000 (Int.ofNat cT.length)=c4->wh d pa sl [] cT.length (jv cT d)=kP (aH 40 (Int.ofNat d)) (aH 200 sl) false c4 (aH pa 0) (aH 6 pa) (aH sl pa) true false false false 0:=by
  intro c4 h;subst h;unfold wh kP;have e1:aB (Int.ofNat ([]:List Ins).length) 0=true:=rfl;have e2:aH 2000 (Int.ofNat ([]:List Ins).length)=false:=rfl;rw[e1,e2];simp only[Bool.or_true,if_true]
 rw[hh _ rfl]
 rcases jh ez (aO cT) with he|⟨he,he0⟩
 ·rw[he]
  have:=@Y3 pa sl (Int.ofNat d) [] (aO cT) _ _ true _ _ _ _ true true true true true 0 ke.zero rfl rfl rfl rfl rfl rfl
  rw[h2] at this;exact this
 rw[he];have hed:cT=[]:=by
  cases cT with
  | nil=>rfl
  | cons a r=>simp[aO] at he0
 subst hed;exact @Y4 pa sl (Int.ofNat d) [] [] _ _ true true _ _ _ true true true true true 0 ke.zero rfl rfl rfl rfl rfl
mutual
theorem tK:∀(c:jC) (d:Nat),c.ok->d<=41->ae 38 [.dat c.enc,iv (Int.ofNat d)] (iv (c.val d))
 | .mk pa sl iz ins ez cT,d,h,hd=>by
  simp only[jC.ok] at h;obtain⟨h1,h2,h3,h4⟩:=h;exact DL h1 h2 h3 (fun l hl=>(ze h4 l hl).1) (fun hd2=>Gn cT d h4 hd2)
theorem Gn:∀(l:List (List fJ)) (d:Nat),uN l->d<=40->∀x∈l,∀e∈x,ae 69 [.dat e.enc,iv (Int.ofNat d)] (iv (e.val d))
 | [],_,_,_,x,hx,_,_=>by simp at hx
 | a::r,d,h,hd,x,hx,e,he=>by
  simp only[uN] at h
  rcases List.mem_cons.1 hx with hx|hx
  ·rw[hx] at he;exact KH a d h.2.1 hd e he
  exact Gn r d h.2.2 hd x hx e he
theorem KH:∀(l:List fJ) (d:Nat),UL l->d<=40->∀e∈l,ae 69 [.dat e.enc,iv (Int.ofNat d)] (iv (e.val d))
 | [],_,_,_,e,he=>by simp at he
 | a::r,d,h,hd,e,he=>by
  simp only[UL] at h
  rcases List.mem_cons.1 he with he|he
  ·rw[he];exact Gm a d h.1 hd
  exact KH r d h.2 hd e he
theorem Gm:∀(e:fJ) (d:Nat),e.ok->d<=40->ae 69 [.dat e.enc,iv (Int.ofNat d)] (iv (e.val d))
 | .mk ek ⟨dn,ar,⟨sk,sn,six,sa⟩,con,fl⟩ fu ⟨tk,tn,tix,ta⟩ pa c pk,d,h,hd=>by
  simp only[fJ.ok] at h;have hw:ap .i64 (Int.ofNat d+1)=Int.ofNat (d+1):=ba (by omega);have hc:=tK c (d+1) h.2.2 (by omega);have hz:=IX c;rw[←hw] at hc;rw[fJ.ub];generalize c.val (d+1)=v at hc;generalize c.zero=z at hz;obtain⟨cp,cs,iz,ins,ez,cT⟩:=c
  have:=@RH (Int.ofNat d) _ ek dn ar sk sn six _ con _ fu tk tn tix _ pa _ _ _ _ pk (dz (ax sa)) (dz (DD fl)) (dz (ax ta)) (dH iz (encI ins)) (dH ez (aO cT)) _ _ _ _ rfl rfl rfl hz hc
  exact this
end
theorem P1 (x:Ins):x.enc.cells.length=15:=P4 x
theorem tE (a b:List Ins):encI (a++b)=encI a++encI b:=by simp[pE]
theorem zZ (l:List Ins):sizedB 15 (encI l)=true:=kj (fun d hd=>by
 rw[pE] at hd;obtain⟨t,_,rfl⟩:=List.mem_map.1 hd;exact P1 t)
theorem IQ (l:List Ins):eZ (encI l)=false:=by
 cases l with
 | nil=>rfl
 | cons t r=>rfl
theorem U1 {pre:List Ins} {x:Ins} (hl:pre.length < 1000000):bU (env ak.aC) false 23 [.own (encI pre),.dat (.slice [x.enc])] none=some ⟨.own (encI (pre++[x])),.keep⟩:=by
 rw[tE];refine xB (i:=MU) (ds:=[x.enc]) (k:=14) Ji rfl ue ?_ ?_ (by kernel_rfl) ?_ ?_ ?_ (by simp)
 ·exact zZ [x]
 ·exact zZ pre
 ·have h1:MU.bytes<=1000:=fM (by kernel_rfl);rw[bP]
  calc (pre.length+1)*MU.bytes<=1000000000*1000:=Nat.mul_le_mul (by omega) h1
   _<=140737488355328:=by decide
 ·rw[bP];simp[lim];omega
 unfold jI;rw[show encI pre++[x.enc]=encI (pre++[x]) by rw[tE];rfl,IQ]
theorem vt (a b:List (List fJ)):aO (a++b)=aO a++aO b:=by simp[mO]
theorem wz (l:List (List fJ)):sizedB 1 (aO l)=true:=kj (fun d hd=>by
 rw[mO] at hd;obtain⟨t,_,rfl⟩:=List.mem_map.1 hd;rfl)
theorem F8 (l:List (List fJ)):eZ (aO l)=false:=by
 cases l with
 | nil=>simp[aO,eZ]
 | cons t r=>rw[aO];rfl
theorem ach {pre:List (List fJ)} {x:List fJ} (hl:pre.length < 1000000):bU (env ak.aC) false 24 [.own (aO pre),.dat (.slice [.slice (jZ x)])] none=some ⟨.own (aO (pre++[x])),.keep⟩:=by
 have e1:aO [x]=[.slice (jZ x)]:=by rw[aO,aO]
 rw[vt,e1];refine xB (i:=MV) (ds:=[.slice (jZ x)]) (k:=0) Jj rfl ug ?_ ?_ (by kernel_rfl) ?_ ?_ ?_ (by simp)
 ·rw[←e1];exact wz [x]
 ·exact wz pre
 ·have h1:MV.bytes<=1000:=fM (by kernel_rfl);rw[eg]
  calc (pre.length+1)*MV.bytes<=1000000000*1000:=Nat.mul_le_mul (by omega) h1
   _<=140737488355328:=by decide
 ·rw[eg];simp[lim];omega
 unfold jI;rw[show aO pre++[.slice (jZ x)]=aO (pre++[x]) by rw[vt,e1],F8]
structure adk (c:jC):Prop where
 ok:c.ok
 ez:c.ez=false
 iz:c.iz=false
 pa:∃n:Nat,c.pa=Int.ofNat n/\n<=2
 len:2<=c.ins.length/\c.ins.length<=10
 elen:c.cT.length<=2
 gen:∀x∈c.ins,x.gen
def GCd (l:List Int) (dp:Int):Prop:=∀k,k<=l.length->∃(c:jC) (k2:Nat),adk c/\Rq l k k2/\KC 9 [dy,iv dp] (db (l.map iN) (Int.ofNat k)) 1 (XQ ⟨.dat c.enc,db (l.map iN) (Int.ofNat k2),1⟩)
def GEd (l:List Int) (dp:Int):Prop:=∀k,k<=l.length->∃(e:fJ) (k2:Nat),e.ok/\Rq l k k2/\Rz (l.map iN) dp (Int.ofNat k) e.enc (Int.ofNat k2)
def fN (es:List fJ):List (List fJ):=es.map (fun e=>[e])
theorem D1:∀{es:List fJ},(∀e∈es,e.ok)->uN (fN es)
 | [],_=>by simp[fN,uN]
 | e::r,h=>by
  show uN ([e]::fN r);simp only[uN,UL];exact⟨by simp,⟨h e (by simp),trivial⟩,D1 (fun x hx=>h x (by simp[hx]))⟩
theorem FI {l:List Int} {dp:Int} {m:Nat} (hl:l.length < 10000000) (hm1:m<=1) (hm:Mx (env ak.aC) [iv dp,iv 1]=some ⟨iv (Int.ofNat m),.keep⟩) (hE:0 < m->GEd l (ap .i64 (dp - 1))):GCd l dp:=by
 intro k hk;have hb:l.length < 1000000000:=by omega
 obtain⟨pa,k1,⟨hpa,a1,a2,_⟩,h1⟩:=bq (n:=3) hb hk (by omega) (by omega);obtain⟨x,k2,⟨hx,b1,b2,_⟩,h2⟩:=bq (n:=4) hb a2 (by omega) (by omega);obtain⟨y,k3,⟨hy,c1,c2,_⟩,h3⟩:=bq (n:=3) hb b2 (by omega) (by omega);have hs:ap .i64 (ap .i64 (Int.ofNat pa+1)+Int.ofNat x)=Int.ofNat (pa+1+x):=by
  rw[show ap .i64 (Int.ofNat pa+1)=Int.ofNat (pa+1) from ba (by omega),cF];exact wrap_i64 (by simp;omega) (by simp;omega)
 have hym:ap .i64 (Int.ofNat y*Int.ofNat m)=Int.ofNat (y*m):=by
  rw[cF,show Int.ofNat y*Int.ofNat m=Int.ofNat (y*m) from rfl]
  have:y*m<=2*1:=Nat.mul_le_mul (by omega) hm1
  exact wrap_i64 (by show _<=((y*m:Nat):Int);omega) (by show ((y*m:Nat):Int)<=_;omega)
 obtain⟨n0,hn0⟩:∃n0,y*m=n0:=⟨_,rfl⟩;have hn2:n0<=2:=by
  have:y*m<=2*1:=Nat.mul_le_mul (by omega) hm1
  omega
 -- the edits
 obtain⟨es,ks,e1,e2,e3,e4⟩:∃(es:List fJ) (ks:Nat->Nat),es.length=n0/\ks 0=k3/\(∀i,i<=n0->Rq l k3 (ks i))/\∀i e,es[i]?=some e->e.ok/\Rz (l.map iN) (ap .i64 (dp - 1)) (Int.ofNat (ks i)) e.enc (Int.ofNat (ks (i+1))):=by
  rcases Nat.eq_zero_or_pos n0 with h0|h0
  ·exact⟨[],fun _=>k3,by simp[h0],rfl,fun i _=>⟨Nat.le_refl _,c2⟩,fun i e h=>by simp at h⟩
  have hmp:0 < m:=by
   rcases Nat.eq_zero_or_pos m with h|h
   ·rw[h,Nat.mul_zero] at hn0;omega
   exact h
  exact Ai (R:=fun k (e:fJ) k2=>e.ok/\Rz (l.map iN) (ap .i64 (dp - 1)) (Int.ofNat k) e.enc (Int.ofNat k2)) (fun k hk=>by
   obtain⟨e,k2,q1,q2,q3⟩:=hE hmp k hk;exact⟨e,k2,q2,q1,q3⟩) c2 n0
 have hEl:KD (.loop (roundOf Tryz.f9 0)) (fun e q=>e=.exit 0/\q=(Nh (l.map iN) (Int.ofNat (ks n0)) (Int.ofNat pa) (ap .i64 (ap .i64 (Int.ofNat pa+1)+Int.ofNat x)) dp (eT (aO (fN es))) 0).an Tryz.f9.ntmps)
   ((K9 (l.map iN) (Int.ofNat k3) (Int.ofNat pa) (ap .i64 (ap .i64 (Int.ofNat pa+1)+Int.ofNat x)) dp (eT []) (ap .i64 (Int.ofNat y*Int.ofNat m))).an Tryz.f9.ntmps):=by
  rw[hym,hn0,←e2];have e0:(eT []:ac)=eT (aO (fN (es.take 0))):=by rw[List.take_zero];simp[fN,aO]
  rw[e0];refine aZ (St:=fun j=>(K9 (l.map iN) (Int.ofNat (ks j)) (Int.ofNat pa) (ap .i64 (ap .i64 (Int.ofNat pa+1)+Int.ofNat x)) dp (eT (aO (fN (es.take j)))) (Int.ofNat (n0 - j))).an Tryz.f9.ntmps) n0 ?_ ?_ (i:=0) (Nat.zero_le _)
  ·intro j hj;have hg:es[j]?=some es[j]:=List.getElem?_eq_getElem (by omega);have ht:es.take (j+1)=es.take j++[es[j]]:=List.take_succ_eq_append_getElem (by omega);generalize es[j]=e at hg ht;obtain⟨hok,hcall⟩:=e4 j e hg;have hw:ap .i64 (Int.ofNat (n0 - j) - 1)=Int.ofNat (n0 - (j+1)):=by
    rw[cF,show Int.ofNat (n0 - j) - 1=Int.ofNat (n0 - (j+1)) by simp;omega];exact wrap_i64 (by show _<=((n0 - (j+1):Nat):Int);omega) (by show ((n0 - (j+1):Nat):Int)<=_;omega)
   have happ:=ach (pre:=fN (es.take j)) (x:=[e]) (by rw[fN,List.length_map,List.length_take];omega);have hwr:fN (es.take (j+1))=fN (es.take j)++[[e]]:=by rw[ht];simp[fN]
   have hpost:(ac.own (aO (fN (es.take j)++[[e]])))=eT (aO (fN (es.take (j+1)))):=by
    rw[hwr,CW];rw[vt];rw[aO];simp
   have h0:aH 0 (Int.ofNat (n0 - j))=true:=bc (i:=0) (L:=n0 - j) (by omega);have e1:jZ [e]=[e.enc]:=by simp[jZ,fJ.enc]
   rw[e1] at happ;clear ht hwr;obtain⟨ek,⟨dn,ar,⟨sk,sn,six,sa⟩,con,fl⟩,fu,⟨tk,tn,tix,ta⟩,pb,⟨cp,cs,iz,ins,ez,cT⟩,pk⟩:=e;refine Qc h0 (dz (ax sa)) (dz (DD fl)) (dz (ax ta)) (dH iz (encI ins)) (dH ez (aO cT)) hcall happ ?_;rw[hw,hpost];exact rfl
  rw[Nat.sub_self];refine To rfl ?_;rw[List.take_of_length_le (by omega)];exact⟨rfl,rfl⟩
 have hk4:=(e3 n0 (Nat.le_refl _)).top;obtain⟨z,k5,⟨hz,f1,f2,_⟩,h4⟩:=bq (n:=9) hb hk4 (by omega) (by omega);have hcnt:ap .i64 (2+Int.ofNat z)=Int.ofNat (2+z):=by
  rw[cF];exact wrap_i64 (by simp;omega) (by simp;omega)
 have hcnt2:ap .i64 (Int.ofNat (2+z) - 1)=Int.ofNat (1+z):=by
  rw[cF,show Int.ofNat (2+z) - 1=Int.ofNat (1+z) by simp;omega];exact wrap_i64 (by simp;omega) (by simp;omega)
 -- the instructions
 obtain⟨s0,hs0⟩:∃s0,pa+1+x=s0:=⟨_,rfl⟩;rw[hs0] at hs;have hs1:0 < s0/\s0 < 1000000:=by omega
 obtain⟨xs,js,i1,i2,i3,i4⟩:=Ai (R:=fun k xi k2=>Ins.gen xi/\rR (l.map iN) (Int.ofNat s0) (Int.ofNat (2+z)) (Int.ofNat es.length) (Int.ofNat k) (Ins.enc xi) (Int.ofNat k2)) (fun k hk=>by
  obtain⟨xi,k2,q1,q2,q3⟩:=@Ts _ s0 (2+z) es.length _ hl hk hs1.1 hs1.2 (by omega) (by omega) (by omega);exact⟨xi,k2,q2,q1,q3⟩) f2 (1+z)
 have hdl:(aO (fN es)).length=es.length:=by rw[eg];exact List.length_map _
 have hIl:KD (.loop (roundOf Tryz.f9 1)) (fun e q=>e=.exit 2/\q=(Ng (l.map iN) (Int.ofNat (js (1+z))) (Int.ofNat pa) (ap .i64 (ap .i64 (Int.ofNat pa+1)+Int.ofNat x)) (eT (encI xs)) (eT (aO (fN es))) (ap .i64 (2+Int.ofNat z)) (Int.ofNat (1+z))).an Tryz.f9.ntmps)
   ((K0 (l.map iN) (Int.ofNat k5) (Int.ofNat pa) (ap .i64 (ap .i64 (Int.ofNat pa+1)+Int.ofNat x)) (eT []) (eT (aO (fN es))) (ap .i64 (2+Int.ofNat z)) 0).an Tryz.f9.ntmps):=by
  rw[hs,hcnt,←i2];have e0:(eT []:ac)=eT (encI (xs.take 0)):=by rw[List.take_zero];rfl
  rw[e0];refine aZ (St:=fun j=>(K0 (l.map iN) (Int.ofNat (js j)) (Int.ofNat pa) (Int.ofNat s0) (eT (encI (xs.take j))) (eT (aO (fN es))) (Int.ofNat (2+z)) (Int.ofNat j)).an Tryz.f9.ntmps) (1+z) ?_ ?_ (i:=0) (Nat.zero_le _)
  ·intro j hj;have hg:xs[j]?=some xs[j]:=List.getElem?_eq_getElem (by omega);have ht:xs.take (j+1)=xs.take j++[xs[j]]:=List.take_succ_eq_append_getElem (by omega);generalize xs[j]=xi at hg ht;obtain⟨_,hcall⟩:=i4 j xi hg;have hw:ap .i64 (Int.ofNat j+1)=Int.ofNat (j+1):=ba (by omega);have happ:=U1 (pre:=xs.take j) (x:=xi) (by rw[List.length_take];omega);have hpost:(ac.own (encI (xs.take j++[xi])))=eT (encI (xs.take (j+1))):=by
    rw[ht,CW];rw[tE];simp[encI]
   rw[←hdl] at hcall;clear ht;obtain⟨op,dst,a,b',im,nm,az,ar,⟨xk,tn,ix,la⟩,ck,ci,cs⟩:=xi;refine Qe (by rw[hcnt2];exact bc hj) hcall happ ?_;rw[hw,hpost];exact rfl
  refine Tz (by rw[hcnt2];exact bW (by omega)) ?_;rw[List.take_of_length_le (by omega)];exact⟨rfl,rfl⟩
 have hk6:=(i3 (1+z) (Nat.le_refl _)).top;obtain⟨w,k7,⟨_,g1,g2,_⟩,h5⟩:=bq (n:=s0) hb hk6 hs1.1 (by omega);obtain⟨u,k8,⟨_,g3,g4,_⟩,h6⟩:=bq (n:=4) hb g2 (by omega) (by omega);rw[←hs] at h5;obtain⟨c,hc⟩:∃c,aB (Int.ofNat u) 3=c:=⟨_,rfl⟩;have hlast:eb (mb c) 0 (Int.ofNat w) 0 0 [] nl 0 [] 0 nl 0 0 []=(Ins.mk (mb c) 0 (Int.ofNat w) 0 0 [] false [] (.mk 0 [] 0 []) 0 0 []).enc:=rfl;have happ:=U1 (pre:=xs) (x:=Ins.mk (mb c) 0 (Int.ofNat w) 0 0 [] false [] (.mk 0 [] 0 []) 0 0 []) (by omega);rw[←hlast] at happ;have h:=WQ h1 h2 h3 hm hEl h4 hIl h5 h6 hc happ;rw[hs] at h;have hgen:∀xi∈xs++[Ins.mk (mb c) 0 (Int.ofNat w) 0 0 [] false [] (.mk 0 [] 0 []) 0 0 []],xi.gen:=by
  intro xi hxi
  rcases List.mem_append.1 hxi with hxi|hxi
  ·obtain⟨j,hj⟩:=List.mem_iff_getElem?.1 hxi;exact (i4 j xi hj).1
  simp at hxi;subst hxi;exact⟨cQ,by simp,by simp⟩
 refine⟨.mk (Int.ofNat pa) (Int.ofNat s0) false (xs++[Ins.mk (mb c) 0 (Int.ofNat w) 0 0 [] false [] (.mk 0 [] 0 []) 0 0 []]) false (fN es),k8,⟨?_,rfl,rfl,⟨pa,rfl,by omega⟩,?_,?_,hgen⟩,⟨?_,g4⟩,?_⟩
 ·simp only[jC.ok];refine⟨fun xi hxi=>LM (hgen xi hxi),by rw[List.length_append,i1];simp;omega,by rw[fN,List.length_map];omega,?_⟩
  ·exact D1 (fun e he=>by
    obtain⟨j,hj⟩:=List.mem_iff_getElem?.1 he;exact (e4 j e hj).1)
 ·show 2<=(xs++_).length/\(xs++_).length<=10;rw[List.length_append,i1];simp;omega
 ·show (fN es).length<=2;rw[fN,List.length_map];omega
 ·have q1:=(e3 n0 (Nat.le_refl _)).le;have q2:=(i3 (1+z) (Nat.le_refl _)).le;omega
 have e1:jC.enc (.mk (Int.ofNat pa) (Int.ofNat s0) false (xs++[Ins.mk (mb c) 0 (Int.ofNat w) 0 0 [] false [] (.mk 0 [] 0 []) 0 0 []]) false (fN es))=aP (Int.ofNat pa) (Int.ofNat s0) (.slice (encI (xs++[Ins.mk (mb c) 0 (Int.ofNat w) 0 0 [] false [] (.mk 0 [] 0 []) 0 0 []]))) (sl (aO (fN es))):=by
  rw[←Ed];show aP _ _ (sx false (encI _)) _=_
  have:encI (xs++[Ins.mk (mb c) 0 (Int.ofNat w) 0 0 [] false [] (.mk 0 [] 0 []) 0 0 []])≠[]:=by rw[tE];simp[encI]
  generalize encI (xs++[Ins.mk (mb c) 0 (Int.ofNat w) 0 0 [] false [] (.mk 0 [] 0 []) 0 0 []])=q at this ⊢
  cases q with
  | nil=>exact absurd rfl this
  | cons a r=>rfl
 rw[e1];exact h
theorem tG:(⟨[],0,.mk 0 [] 0 [],false,[]⟩:tW).gO:=⟨cQ,fun f hf=>by simp at hf,by simp⟩
def c0:jC:=.mk 0 0 false [] false []
theorem Q7:c0.ok:=by simp[c0,jC.ok,uN]
theorem D2 {l:List Ty} (h:∀t∈l,t.small) (hl:l.length<=2):(Ty.mk 3 [] 0 l).gO:=by
 have h1:aT l<=41000000*l.length:=by
  clear hl
  induction l with
  | nil=>simp[aT]
  | cons a r ih=>
   have:=(h a (by simp)).1
   have:=ih (fun t ht=>h t (by simp[ht]))
   simp only[aT,List.length_cons];omega
 refine⟨?_,?_⟩
 ·have:41000000*l.length<=41000000*2:=Nat.mul_le_mul_left _ hl
  simp only[Ty.size];omega
 simp only[Ty.gJ];exact⟨by simp[aB],zy (fun t ht=>(h t ht).2)⟩
theorem Qd {l:List Int} {dp:Int} (hl:l.length < 10000000) (hC:GCd l dp):GEd l dp:=by
 intro k hk;have hb:l.length < 1000000000:=by omega
 obtain⟨t,k1,ht,a1,hct⟩:=Dr hl hk;obtain⟨r,k2,⟨hr,b1,b2,_⟩,h1⟩:=bq (n:=6) hb a1.top (by omega) (by omega);have hsig:(Ty.mk 3 [] 0 [t]).gO:=D2 (by simpa using ht) (by simp);obtain⟨tk,tn,tix,la⟩:=t;have hct:Ry (l.map iN) (Int.ofNat k) tk tn tix (ax la) (Int.ofNat k1):=hct
 match r,hr with
 | 0,_=>
  obtain⟨a,k3,⟨ha,c1,c2,_⟩,h2⟩:=bq (n:=8) hb b2 (by omega) (by omega);have hg:lK[a]?=some (lK[a]'ha):=List.getElem?_eq_getElem ha;have hdf:(lK[a]'ha).gO:=(Gx.each _ (List.getElem_mem ha)).gO;generalize (lK[a]'ha)=d at hg hdf;have hi:=UQ hg;obtain⟨dn,ar,⟨sk,sn,six,sa⟩,con,fl⟩:=d;refine⟨.mk 1 ⟨dn,ar,.mk sk sn six sa,con,fl⟩ [] (.mk 0 [] 0 []) 0 c0 [],k3,?_,⟨by have:=a1.le;omega,c2⟩,ac8 hct h1 h2 hi⟩;simp only[fJ.ok];exact⟨hdf,cQ,Q7⟩
 | 1,_=>
  obtain⟨a,k3,⟨ha,c1,c2,_⟩,h2⟩:=bq (n:=3) hb b2 (by omega) (by omega);obtain⟨nm,hnm⟩:=vd a ha;refine⟨.mk 3 ⟨[],0,.mk 0 [] 0 [],false,[]⟩ nm (.mk 3 [] 0 [.mk tk tn tix la]) 0 c0 [],k3,?_,⟨by have:=a1.le;omega,c2⟩,ac7 hct h1 h2 (A0 hnm)⟩;simp only[fJ.ok];exact⟨tG,hsig,Q7⟩
 | 2,_=>
  obtain⟨a,k3,⟨ha,c1,c2,_⟩,h2⟩:=bq (n:=2) hb b2 (by omega) (by omega);refine⟨.mk (ap .i64 (4+Int.ofNat a)) ⟨[],0,.mk 0 [] 0 [],false,[]⟩ [] (.mk 0 [] 0 []) 0 c0 [112],k3,?_,⟨by have:=a1.le;omega,c2⟩,ac6 hct h1 h2⟩;simp only[fJ.ok];exact⟨tG,cQ,Q7⟩
 | r+3,_=>
  have r0:aB (Int.ofNat (r+3)) 0=false:=dj (by simp;omega);have r1:aB (Int.ofNat (r+3)) 1=false:=dj (by simp;omega);have r2:aB (Int.ofNat (r+3)) 2=false:=dj (by simp;omega);obtain⟨c,k3,hgc,c1,hc⟩:=hC k2 b2;obtain⟨pa,s,iz,ins,ez,cT⟩:=c;obtain⟨hok,hez,hiz,⟨pn,hpa,hpn⟩,⟨hl2,hl10⟩,_⟩:=hgc;have hez:ez=false:=hez;have hiz:iz=false:=hiz;have hpa:pa=Int.ofNat pn:=hpa;subst hez hiz hpa;have hne:encI ins≠[]:=by
   intro h
   have:=congrArg List.length h
   rw[bP] at this
   have:ins.length=0:=this
   have:2<=ins.length:=hl2
   omega
  have hce:jC.enc (.mk (Int.ofNat pn) s false ins false cT)=aP (Int.ofNat pn) s (.slice (encI ins)) (sl (aO cT)):=by
   show aP _ _ (sx false (encI ins)) (sx false (aO cT))=_;rw[Ed (aO cT)];generalize encI ins=q at hne
   cases q with
   | nil=>exact absurd rfl hne
   | cons a r=>rfl
  rw[hce] at hc;have hc:CoT (l.map iN) dp (Int.ofNat k2) (Int.ofNat pn) s (encI ins) (aO cT) (Int.ofNat k3):=hc;have hee:∀(nm:List UInt8) (ts:List Ty),GG 2 [] 0 0 [] 0 nl false nl nm 3 [] 0 (sl (ax ts)) (Int.ofNat pn) (Int.ofNat pn) s (.slice (encI ins)) (sl (aO cT)) []=(fJ.mk 2 ⟨[],0,.mk 0 [] 0 [],false,[]⟩ nm (.mk 3 [] 0 ts) (Int.ofNat pn) (.mk (Int.ofNat pn) s false ins false cT) []).enc:=by
   intro nm ts;show al.agg ([i64 2,sb [],i64 0,i64 0,sb [],i64 0,nl,bl false,nl,sb nm,i64 3,sb [],i64 0,sl (ax ts),i64 (Int.ofNat pn)]++[i64 (Int.ofNat pn),i64 s,.slice (encI ins),sl (aO cT),sb []])=al.agg ([i64 2,sb [],i64 0,i64 0,sb [],i64 0,nl,bl false,nl,sb nm,i64 3,sb [],i64 0,sl (ax ts),i64 (Int.ofNat pn)]++[i64 (Int.ofNat pn),i64 s,sx false (encI ins),sx false (aO cT),sb []]);rw[Ed (aO cT)];generalize encI ins=q at hne
   cases q with
   | nil=>exact absurd rfl hne
   | cons a r=>rfl
  have hsl1:sl (ax [Ty.mk tk tn tix la])=.slice [MN tk tn tix (ax la)]:=rfl
  by_cases hp1:pn=1
  ·subst hp1;obtain⟨a,k4,⟨ha,d1,d2,_⟩,h2⟩:=bq (n:=3) hb c1.top (by omega) (by omega);obtain⟨nm,hnm⟩:=vd a ha;refine⟨.mk 2 ⟨[],0,.mk 0 [] 0 [],false,[]⟩ nm (.mk 3 [] 0 [.mk tk tn tix la]) (Int.ofNat 1) (.mk (Int.ofNat 1) s false ins false cT) [],k4,?_,⟨by have:=a1.le;have:=c1.le;omega,d2⟩,?_⟩
   ·simp only[fJ.ok];exact⟨tG,hsig,hok⟩
   rw[←hee,hsl1];exact abU hct h1 r0 r1 r2 hc h2 (A0 hnm)
  have hpf:aB (Int.ofNat pn) 1=false:=dj (by simp;omega);obtain⟨v,k4,⟨hv,d1,d2,_⟩,h2⟩:=bq (n:=5) hb c1.top (by omega) (by omega)
  by_cases hv4:v=4
  ·subst hv4;obtain⟨a,k5,⟨ha,f1,f2,_⟩,h3⟩:=bq (n:=3) hb d2 (by omega) (by omega);obtain⟨nm,hnm⟩:=vd a ha;refine⟨.mk 2 ⟨[],0,.mk 0 [] 0 [],false,[]⟩ nm (.mk 3 [] 0 [.mk tk tn tix la]) (Int.ofNat pn) (.mk (Int.ofNat pn) s false ins false cT) [],k5,?_,⟨by have:=a1.le;have:=c1.le;omega,f2⟩,?_⟩
   ·simp only[fJ.ok];exact⟨tG,hsig,hok⟩
   rw[←hee,hsl1];exact abT hct h1 r0 r1 r2 hc hpf h2 h3 (A0 hnm)
  have hvf:aB (Int.ofNat v) 4=false:=dj (by simp;omega);obtain⟨ts,ks,e1,e2,e3,e4⟩:=Ai (R:=fun k t k2=>Ty.small t/\KC _ [dy,.dat (.slice (lg lK))] (db (l.map iN) (Int.ofNat k)) 1 (XQ ⟨.dat (Ty.enc t),db (l.map iN) (Int.ofNat k2),1⟩)) (fun k hk=>by
   obtain⟨t,k2,q1,q2,q3⟩:=Dr hl hk;exact⟨t,k2,q2,q1,q3⟩) d2 pn
  have hpl:KD (.loop (roundOf Tryz.f33 0)) (fun e q=>e=.exit 1/\q=(Nf (l.map iN) (Int.ofNat (ks pn)) (Int.ofNat pn) s (encI ins) (sl (aO cT)) (eT (ax ts)) (Int.ofNat pn)).an Tryz.f33.ntmps)
    ((KZ (l.map iN) (Int.ofNat k4) (Int.ofNat pn) s (encI ins) (sl (aO cT)) (eT []) 0).an Tryz.f33.ntmps):=by
   rw[←e2];have e0:(eT []:ac)=eT (ax (ts.take 0)):=by rw[List.take_zero];rfl
   rw[e0];refine aZ (St:=fun j=>(KZ (l.map iN) (Int.ofNat (ks j)) (Int.ofNat pn) s (encI ins) (sl (aO cT)) (eT (ax (ts.take j))) (Int.ofNat j)).an Tryz.f33.ntmps) pn ?_ ?_ (i:=0) (Nat.zero_le _)
   ·intro j hj;have hg:ts[j]?=some ts[j]:=List.getElem?_eq_getElem (by omega);have ht:ts.take (j+1)=ts.take j++[ts[j]]:=List.take_succ_eq_append_getElem (by omega);generalize ts[j]=tj at hg ht;obtain⟨_,hcall⟩:=e4 j tj hg;have hw:ap .i64 (Int.ofNat j+1)=Int.ofNat (j+1):=ba (by omega);have happ:=YL (pre:=ts.take j) (t:=tj) (by rw[List.length_take];omega);have hpost:(ac.own (ax (ts.take j++[tj])))=eT (ax (ts.take (j+1))):=by
     rw[ht,CW];rw[zY];simp[ax]
    clear ht;obtain⟨k',n',x',l'⟩:=tj;refine Qa (bc hj) hcall happ ?_;rw[hw,hpost];exact rfl
   refine Tl (bW (by omega)) ?_;rw[List.take_of_length_le (by omega)];exact⟨rfl,rfl⟩
  have hk5:=e3 pn (Nat.le_refl _);obtain⟨a,k6,⟨ha,f1,f2,_⟩,h3⟩:=bq (n:=3) hb hk5.top (by omega) (by omega);obtain⟨nm,hnm⟩:=vd a ha;have hts:(Ty.mk 3 [] 0 ts).gO:=D2 (fun t ht=>by
   obtain⟨j,hj⟩:=List.mem_iff_getElem?.1 ht;exact (e4 j t hj).1) (by omega)
  refine⟨.mk 2 ⟨[],0,.mk 0 [] 0 [],false,[]⟩ nm (.mk 3 [] 0 ts) (Int.ofNat pn) (.mk (Int.ofNat pn) s false ins false cT) [],k6,?_,⟨by have:=a1.le;have:=c1.le;have:=hk5.le;omega,f2⟩,?_⟩
  ·simp only[fJ.ok];exact⟨tG,hts,hok⟩
  rw[←hee];exact abS hct h1 r0 r1 r2 hc hpf h2 hvf hpl h3 (A0 hnm)
theorem Tx {l:List Int} (hl:l.length < 10000000):GCd l 0:=FI (m:=0) hl (by omega) rfl (fun h=>absurd h (by omega))
theorem Tt {l:List Int} (hl:l.length < 10000000):GEd l 0:=Qd hl (Tx hl)
theorem Tw {l:List Int} (hl:l.length < 10000000):GCd l 1:=FI (m:=1) hl (by omega) rfl (fun _=>Tt hl)
noncomputable def hRe:Hints:=⟨bS,JS,bg,rowsOf bg 15⟩
def lS (m:Nat) (c1 K fs:List ac) (len N:Nat):ab:=⟨[(4,.win (.out m) 1 0 len),(3,.win (.out 0) 1 0 N),(1,.ptr (.loc 1) 0)],[(.loc 1,.cells c1)],[(.out m,.cells K),(.out 0,.cells fs)],m+1⟩
def Bn (m:Nat) (c1 K fs:List ac) (len N:Nat) (i:Int):ab:=⟨[(32,bv false),(5,iv i),(4,.win (.out m) 1 0 len),(3,.win (.out 0) 1 0 N),(1,.ptr (.loc 1) 0)],[(.loc 1,.cells c1)],[(.out m,.cells K),(.out 0,.cells fs)],m+1⟩
def xV (c1 fs:List ac) (N:Nat):ab:=⟨[(16,bv false),(3,.win (.out 0) 1 0 N),(1,.ptr (.loc 1) 0)],[(.loc 1,.cells c1)],[(.out 0,.cells fs)],2⟩
def qI (m:Nat) (c1 K fs:List ac) (N:Nat):ab:=⟨[(16,bv false),(4,.win (.out m) 1 0 0),(3,.win (.out 0) 1 0 N),(1,.ptr (.loc 1) 0)],[(.loc 1,.cells c1)],[(.out m,.cells K),(.out 0,.cells fs)],m+1⟩
theorem Sc {p sl:Int} {es:List al} {d2:al} {K fs:List ac} {N:Nat} {T:Exit->aa->Prop} (e:T (.exit 0) ((qI 1 (cC p sl (.slice es) d2) K fs N).an Tryz.f15.ntmps)) :
  KD (roundOf Tryz.f15 0) T ((lS 1 (cC p sl (.slice es) d2) K fs 0 N).an Tryz.f15.ntmps):=by
 refine ay [] [] (H:=hRe) (live:=zn) (by kernel_rfl) ?_;exact oe e
theorem NS {p sl:Int} {es els:List al} {d2:al} (g2:cV d2) {K K2 fs f2:List ac} {k k2 o io N:Nat} {i:Int} {y:Bool} {T:Exit->aa->Prop}
  (f1:jB (env ak.aC) 22 [.win (.out 1) 1 0 (k+1)] none=some ⟨iv (Int.ofNat (k+1)),.keep⟩) (g1:aH 0 (Int.ofNat (k+1))=true)
  (f3:aq (env ak.aC) 22 [.win (.out 1) 1 0 (k+1),iv (ap .i64 (Int.ofNat (k+1) - 1))]=some ⟨.ptr (.out 1) o,.keep⟩)
  (f4:er (env ak.aC) false 3 [.ptr (.out 1) o] (some (.cells K))=some ⟨iv i,.keep⟩)
  (f5:eU (env ak.aC) 22 none (some (.tmp 26)) none [.win (.out 1) 1 0 (k+1),iv (ap .i64 (Int.ofNat (k+1) - 1))]=some ⟨.win (.out 1) 1 0 k,.keep⟩)
  (f6:aq (env ak.aC) 35 [.win (.out 0) 1 0 N,iv i]=some ⟨.ptr (.out 0) io,.keep⟩) (f7:er (env ak.aC) false 4 [.ptr (.out 0) io] (some (.cells fs))=some ⟨bv y,.keep⟩)
  (f8:dR (env ak.aC) 4 [.ptr (.out 0) io,bv true] (some (.cells fs))=some ⟨.undef,.set (.cells f2)⟩) (n1:bC (.cells f2)=true)
  (f9:ae 40 [.dat (aP p sl (.slice es) d2),iv i] (.dat (.slice els)))
  (fa:bU (env ak.aC) true 22 [.win (.out 1) 1 0 k,.dat (.slice els)] (some (.cells K))=some ⟨.undef,.grow (.cells K2) 1 k2⟩) (n2:bC (.cells K2)=true)
  (e1:y=true->T .normal ((Bn 1 (cC p sl (.slice es) d2) K fs k N i).an Tryz.f15.ntmps))
  (e2:y=false->T .normal ((lS 2 (cC p sl (.slice es) d2) K2 f2 k2 N).an Tryz.f15.ntmps)) :
  KD (roundOf Tryz.f15 0) T ((lS 1 (cC p sl (.slice es) d2) K fs (k+1) N).an Tryz.f15.ntmps):=by
 have q3:=@aN false 1 p sl (.slice es) _ (.inr ⟨_,rfl⟩) g2;clear g2;refine ay [600035,500040] [15,19,21,22,25,27,30,31,35,100035,37,40] (H:=hRe) (live:=zn) (by kernel_rfl) ?_;refine oo f1 ?_;refine oo f1 ?_;refine oo f3 ?_;refine oo f4 ?_;refine oo f1 ?_;refine oo f5 ?_;refine oo f6 ?_;refine oo f7 ?_
 cases y
 ·refine oo f6 ?_;refine oo f8 ?_;refine ob n1 ?_;refine oo q3 ?_;refine on f9 ?_;refine oo fa ?_;refine ob n2 ?_;exact oe (e2 rfl)
 exact oe (e1 rfl)
theorem Ln {p sl:Int} {es:List al} {d2:al} (g2:cV d2) {K K2 fs f2:List ac} {k k2 o io N:Nat} {i:Int} {y:Bool} {T:Exit->aa->Prop}
  (f1:jB (env ak.aC) 22 [.win (.out 1) 1 0 (k+1)] none=some ⟨iv (Int.ofNat (k+1)),.keep⟩) (g1:aH 0 (Int.ofNat (k+1))=true)
  (f3:aq (env ak.aC) 22 [.win (.out 1) 1 0 (k+1),iv (ap .i64 (Int.ofNat (k+1) - 1))]=some ⟨.ptr (.out 1) o,.keep⟩)
  (f4:er (env ak.aC) false 3 [.ptr (.out 1) o] (some (.cells K))=some ⟨iv i,.keep⟩)
  (f5:eU (env ak.aC) 22 none (some (.tmp 26)) none [.win (.out 1) 1 0 (k+1),iv (ap .i64 (Int.ofNat (k+1) - 1))]=some ⟨.win (.out 1) 1 0 k,.keep⟩)
  (f6:aq (env ak.aC) 35 [.win (.out 0) 1 0 N,iv i]=some ⟨.ptr (.out 0) io,.keep⟩) (f7:er (env ak.aC) false 4 [.ptr (.out 0) io] (some (.cells fs))=some ⟨bv y,.keep⟩)
  (f8:dR (env ak.aC) 4 [.ptr (.out 0) io,bv true] (some (.cells fs))=some ⟨.undef,.set (.cells f2)⟩) (n1:bC (.cells f2)=true)
  (f9:ae 40 [.dat (aP p sl (.slice es) d2),iv i] (.dat nl))
  (fa:bU (env ak.aC) true 22 (GH [.win (.out 1) 1 0 k,.dat nl]) (some (.cells K))=some ⟨.undef,.grow (.cells K2) 1 k2⟩) (n2:bC (.cells K2)=true)
  (e1:y=true->T .normal ((Bn 1 (cC p sl (.slice es) d2) K fs k N i).an Tryz.f15.ntmps))
  (e2:y=false->T .normal ((lS 2 (cC p sl (.slice es) d2) K2 f2 k2 N).an Tryz.f15.ntmps)) :
  KD (roundOf Tryz.f15 0) T ((lS 1 (cC p sl (.slice es) d2) K fs (k+1) N).an Tryz.f15.ntmps):=by
 have q3:=@aN false 1 p sl (.slice es) _ (.inr ⟨_,rfl⟩) g2;clear g2;refine ay [600035,500040] [15,19,21,22,25,27,30,31,35,100035,37,40] (H:=hRe) (live:=zn) (by kernel_rfl) ?_;refine oo f1 ?_;refine oo f1 ?_;refine oo f3 ?_;refine oo f4 ?_;refine oo f1 ?_;refine oo f5 ?_;refine oo f6 ?_;refine oo f7 ?_
 cases y
 ·refine oo f6 ?_;refine oo f8 ?_;refine ob n1 ?_;refine oo q3 ?_;refine on f9 ?_;refine oo fa ?_;refine ob n2 ?_;exact oe (e2 rfl)
 exact oe (e1 rfl)
theorem Wc {p sl:Int} {es:List al} {d2:al} (g2:cV d2) {fs0 fs2:List ac} {N:Nat} (hN:N=es.length) (h0:ae 13 [.dat (aP p sl (.slice es) d2)] (iv 0))
  (h1:eV (env ak.aC) 35 [iv (Int.ofNat es.length),iv (Int.ofNat es.length)]=some ⟨.undef,.grow (.cells fs0) 1 N⟩) (h2:bC (.cells fs0)=true)
  (hl:KD (.loop (roundOf Tryz.f15 0)) (fun e q=>e=.exit 0/\q=(xV (cC p sl (.slice es) d2) fs2 N).an Tryz.f15.ntmps) ((lS 1 (cC p sl (.slice es) d2) [iv 0] fs0 1 N).an Tryz.f15.ntmps)) :
  KC 15 [.dat (aP p sl (.slice es) d2)] [] 0 (XQ ⟨.win (.out 0) 1 0 N,[(.out 0,.cells fs2)],2⟩):=by
 have q1:=@aS p sl (.slice es) _ (.inr ⟨_,rfl⟩) g2;have q3:=@aN false 1 p sl (.slice es) _ (.inr ⟨_,rfl⟩) g2;clear g2;subst hN;refine gB [500012] [1,6,12] (x:=rP.of Tryz.f15 JS zn) (by kernel_rfl) ?_;refine oo q1 ?_;refine oo q3 ?_;refine on h0 ?_;refine oo h1 ?_;refine ob h2 ?_;refine lo hl ?_;rintro ex s ⟨rfl,rfl⟩;refine⟨_,rfl,?_⟩;exact fi
inductive YM (G:Gr):Nat->Prop
 |zero:YM G 0
 |step {i j:Nat}:i < G.n->YM G i->j∈G.succ i->YM G j
open Classical in
noncomputable def dA (G:Gr):List Bool:=(List.range G.n).map (fun i=>decide (YM G i))
theorem ry (G:Gr):(dA G).length=G.n:=by simp[dA]
theorem nj (G:Gr) {i:Nat} (h:i < G.n):(dA G).getD i false=true↔YM G i:=by
 unfold dA;rw[List.getD_eq_getElem?_getD,List.getElem?_map,List.getElem?_range h];simp
theorem NR {G:Gr} {f:List Bool} (h:G.Reach f):f=dA G:=by
 apply List.ext_getElem (by rw[h.len,ry])
 intro i h1 h2;have hi:i < G.n:=by rw[h.len] at h1;exact h1
 have key:f.getD i false=true↔(dA G).getD i false=true:=by
  rw[nj G hi]
  constructor
  ·intro hf;exact h.least (YM G) .zero (fun i hi hR j hj=>.step hi hR hj) i hf
  intro hR
  have:∀j,YM G j->f.getD j false=true:=by
   intro j hj
   induction hj with
   | zero=>exact h.zero
   | step hlt _ hm ih=>exact h.closed _ hlt ih _ hm
  exact this i hR
 rw[List.getD_eq_getElem?_getD,List.getD_eq_getElem?_getD,List.getElem?_eq_getElem h1,List.getElem?_eq_getElem h2] at key;rw[Bool.eq_iff_iff];simpa using key
theorem LI {m:Name} {n:Nat} (h:n < 1000000000):jB (env ak.aC) 22 [.win m 1 0 n] none=some ⟨iv (Int.ofNat n),.keep⟩:=by
 have e:jB (env ak.aC) 22 [.win m 1 0 n] none=if Nat.ble n lim=true then some ⟨iv (Int.ofNat n),.keep⟩ else none:=by kernel_rfl
 rw[e,if_pos];rw[Nat.ble_eq];simp only[lim];omega
theorem Np {m:Name} {k:Nat} (x:Operand):eU (env ak.aC) 22 none (some x) none [.win m 1 0 (k+1),iv (Int.ofNat k)]=some ⟨.win m 1 0 k,.keep⟩:=by
 have e:eU (env ak.aC) 22 none (some x) none [.win m 1 0 (k+1),iv (Int.ofNat k)]=if (Nat.ble 0 k&&Nat.ble k (k+1)&&Nat.beq 1 ri.size)=true then some ⟨.win m 1 0 k,.keep⟩ else none:=by kernel_rfl
 have h1:Nat.ble k (k+1)=true:=by rw[Nat.ble_eq];omega
 rw[e,h1,fe];simp
theorem Aj:∀x:List Int,((x.map iN).flatMap al.cells).map ac.dat=bB x
 | []=>rfl
 | a::r=>by
  have:=Aj r
  simp only[List.map_cons,List.flatMap_cons,List.map_append,this];rfl
theorem YK {E:bu} {i:TI} {ds:List al} {k:Nat} (hp:E.pr=ak.aC) (hs:i.size=k+1) (hd:sizedB (k+1) ds=true) (hb:Nat.blt 0 i.bytes=true) (hl:(0+ds.length)*i.bytes<=140737488355328) (hl2:0+ds.length<=lim) :
  gC E.pr i [] (.dat (.slice ds))=some ds:=by
 have hes:sizedB (k+1) ([]:List al)=true:=rfl;simp only[gC,hp,hs,ak.aC,hd,hes,hb,List.length_nil,gm hl,gm hl2,List.nil_append]
theorem Rk {m:Name} {l:List Int} {k:Nat} (x:List Int) (h1:k+x.length < 100000000) (h2:k<=l.length) :
  bU (env ak.aC) true 22 [.win m 1 0 k,.dat (.slice (x.map iN))] (some (.cells (bB l)))=some ⟨.undef,.grow (.cells (bB (l.take k++x))) 1 (k+x.length)⟩:=by
 have hb:ri.bytes<=1000:=fM (by kernel_rfl);have hb0:Nat.blt 0 ri.bytes=true:=by kernel_rfl
 have hl1:(0+(x.map iN).length)*ri.bytes<=140737488355328:=by
  rw[List.length_map]
  calc (0+x.length)*ri.bytes<=100000000*1000:=Nat.mul_le_mul (by omega) hb
   _<=140737488355328:=by decide
 have hl2:0+(x.map iN).length<=lim:=by rw[List.length_map];simp only[lim];omega
 have ea:gC (env ak.aC).pr ri [] (.dat (.slice (x.map iN)))=some (x.map iN):=YK (k:=0) rfl fe (rk x) hb0 hl1 hl2;have e2:ff (k*ri.size) (bB l)++((x.map iN).flatMap al.cells).map ac.dat=bB (l.take k++x):=by
  rw[fe,Nat.mul_one,uh,Aj];simp[bB]
 have h3:Nat.ble ((k+(x.map iN).length)*ri.bytes) 140737488355328=true:=by
  rw[Nat.ble_eq,List.length_map]
  calc (k+x.length)*ri.bytes<=100000000*1000:=Nat.mul_le_mul (by omega) hb
   _<=140737488355328:=by decide
 have h4:Nat.ble (k+(x.map iN).length) lim=true:=by rw[Nat.ble_eq,List.length_map];simp only[lim];omega
 have h5:Nat.ble (k*ri.size) (bB l).length=true:=by rw[fe,Nat.ble_eq,show (bB l).length=l.length from List.length_map _];omega
 have h6:Nat.beq 1 ri.size=true:=by rw[fe];rfl
 have h7:Nat.beq 0 0=true:=rfl;have e0:bU (env ak.aC) true 22 [.win m 1 0 k,.dat (.slice (x.map iN))] (some (.cells (bB l)))=ja (env ak.aC) ri k (bB l) (.dat (.slice (x.map iN))):=by
  simp only[bU,Cy,h6,h7,Bool.and_self,if_true]
 rw[e0];unfold ja;rw[ea];dsimp only;rw[e2,h3,h4,h5,qt,fe,List.length_map];rfl
theorem Dn (k:Nat):∀l:List Bool,tZ k (fk l)=false
 | []=>rfl
 | a::r=>by show (P5 k (bv a)||tZ k (fk r))=_;rw[Dn k r];rfl
theorem CO (ρ:Nat->Nat):∀l:List Bool,gx ρ (fk l)=fk l
 | []=>rfl
 | a::r=>by show eS ρ (bv a)::gx ρ (fk r)=_;rw[CO ρ r];rfl
def Eg (x y:Nat) (c1:List ac) (len N:Nat):ab:=⟨[(4,.win (.out x) 1 0 len),(3,.win (.out y) 1 0 N),(1,.ptr (.loc 1) 0)],[(.loc 1,.cells c1)],[],0⟩
def G7 (x y:Nat) (c1:List ac) (N:Nat):ab:=⟨[(16,bv false),(4,.win (.out x) 1 0 0),(3,.win (.out y) 1 0 N),(1,.ptr (.loc 1) 0)],[(.loc 1,.cells c1)],[],0⟩
theorem NJ {p sl:Int} {d1 d2:al} {a m:Nat} {ρ:Nat->Nat} (h0:ρ 0=0) (ha:ρ a=m) {ks:List Int} {f:List Bool} {len N:Nat} :
  Hk ρ (m+1) ((lS a (cC p sl d1 d2) (bB ks) (fk f) len N).an Tryz.f15.ntmps)=(lS m (cC p sl d1 d2) (bB ks) (fk f) len N).an Tryz.f15.ntmps:=by
 have e1:gx ρ ((Eg a 0 (cC p sl d1 d2) len N).an Tryz.f15.ntmps).tmps=((Eg (ρ a) (ρ 0) (cC p sl d1 d2) len N).an Tryz.f15.ntmps).tmps:=by kernel_rfl
 rw[h0,ha] at e1;have e2:gS ρ [(.loc 1,.cells (cC p sl d1 d2))]=[(.loc 1,.cells (cC p sl d1 d2))]:=by kernel_rfl
 have e3:gS ρ [(.out a,.cells (bB ks)),(.out 0,.cells (fk f))]=[(.out m,.cells (bB ks)),(.out 0,.cells (fk f))]:=by simp only[gS,tY,oE,eL,CO,h0,ha]
 show (⟨gx ρ ((Eg a 0 (cC p sl d1 d2) len N).an Tryz.f15.ntmps).tmps,gS ρ [(.loc 1,.cells (cC p sl d1 d2))],gS ρ [(.out a,.cells (bB ks)),(.out 0,.cells (fk f))],m+1⟩:aa)=_;rw[e1,e2,e3];rfl
theorem V5 {p sl:Int} {d1 d2:al} {a m:Nat} {ρ:Nat->Nat} (h0:ρ 0=0) (ha:ρ a=m) {ks:List Int} {f:List Bool} {N:Nat} :
  Hk ρ (m+1) ((qI a (cC p sl d1 d2) (bB ks) (fk f) N).an Tryz.f15.ntmps)=(qI m (cC p sl d1 d2) (bB ks) (fk f) N).an Tryz.f15.ntmps:=by
 have e1:gx ρ ((G7 a 0 (cC p sl d1 d2) N).an Tryz.f15.ntmps).tmps=((G7 (ρ a) (ρ 0) (cC p sl d1 d2) N).an Tryz.f15.ntmps).tmps:=by kernel_rfl
 rw[h0,ha] at e1;have e2:gS ρ [(.loc 1,.cells (cC p sl d1 d2))]=[(.loc 1,.cells (cC p sl d1 d2))]:=by kernel_rfl
 have e3:gS ρ [(.out a,.cells (bB ks)),(.out 0,.cells (fk f))]=[(.out m,.cells (bB ks)),(.out 0,.cells (fk f))]:=by simp only[gS,tY,oE,eL,CO,h0,ha]
 show (⟨gx ρ ((G7 a 0 (cC p sl d1 d2) N).an Tryz.f15.ntmps).tmps,gS ρ [(.loc 1,.cells (cC p sl d1 d2))],gS ρ [(.out a,.cells (bB ks)),(.out 0,.cells (fk f))],m+1⟩:aa)=_;rw[e1,e2,e3];rfl
theorem Yd {p sl:Int} {d1 d2:al} {ks:List Int} {f:List Bool} {len N:Nat}:Qn ((lS 1 (cC p sl d1 d2) (bB ks) (fk f) len N).an Tryz.f15.ntmps)=true:=by
 have e1:tZ 2 ((Eg 1 0 (cC p sl d1 d2) len N).an Tryz.f15.ntmps).tmps=false:=by kernel_rfl
 have e2:uZ 2 [(.loc 1,.cells (cC p sl d1 d2))]=false:=by kernel_rfl
 have e3:uZ 2 [(.out 1,.cells (bB ks)),(.out 0,.cells (fk f))]=false:=by
  simp only[uZ,UR,xv,Dn];rfl
 show (!tZ 2 ((Eg 1 0 (cC p sl d1 d2) len N).an Tryz.f15.ntmps).tmps&&(!uZ 2 [(.loc 1,.cells (cC p sl d1 d2))]&&(!uZ 2 [(.out 1,.cells (bB ks)),(.out 0,.cells (fk f))]&&jz [(.out 1,.cells (bB ks)),(.out 0,.cells (fk f))] 2)))=true;rw[e1,e2,e3];rfl
theorem Sb {p sl:Int} {d1 d2:al} {ks:List Int} {f:List Bool} {len N m:Nat} {T:Exit->aa->Prop}
  (h:KD (roundOf Tryz.f15 0) (fun e s=>T e (Hk (gd (so [0,m]) 2 (m+1)) (m+1+(s.next - 2)) s)) ((lS 1 (cC p sl d1 d2) (bB ks) (fk f) len N).an Tryz.f15.ntmps)) :
  KD (roundOf Tryz.f15 0) T ((lS m (cC p sl d1 d2) (bB ks) (fk f) len N).an Tryz.f15.ntmps):=by
 have h2:=cD.rn h (so [0,m]) (m+1) Yd;rw[NJ (m:=m) rfl rfl] at h2;refine h2.mono ?_;rintro e s ⟨s1,hq,rfl⟩;exact hq
theorem LV {p sl:Int} {d1 d2:al} {K fs:List ac} {len N:Nat} {i:Int}:fw bZ ((Bn 1 (cC p sl d1 d2) K fs len N i).an Tryz.f15.ntmps) ((lS 1 (cC p sl d1 d2) K fs len N).an Tryz.f15.ntmps):=by
 have h:=jq (G:=bZ) (n:=Tryz.f15.ntmps) (Bn 1 (cC p sl d1 d2) K fs len N i) (2 ^ 4+2 ^ 3+2 ^ 1);have e:((gN (Bn 1 (cC p sl d1 d2) K fs len N i) (fun l=>dP l (2 ^ 4+2 ^ 3+2 ^ 1))).an Tryz.f15.ntmps)=((lS 1 (cC p sl d1 d2) K fs len N).an Tryz.f15.ntmps):=by kernel_rfl
 rw[e] at h;exact h
theorem LU {p sl:Int} {d1 d2:al} {K fs:List ac} {m N:Nat}:∃s,fw bZ ((qI m (cC p sl d1 d2) K fs N).an Tryz.f15.ntmps) s/\s=⟨((xV (cC p sl d1 d2) fs N).an Tryz.f15.ntmps).tmps,[(.loc 1,.cells (cC p sl d1 d2))],[(.out m,.cells K),(.out 0,.cells fs)],m+1⟩:=by
 have h:=jq (G:=bZ) (n:=Tryz.f15.ntmps) (qI m (cC p sl d1 d2) K fs N) (2 ^ 16+2 ^ 3+2 ^ 1);have e:((gN (qI m (cC p sl d1 d2) K fs N) (fun l=>dP l (2 ^ 16+2 ^ 3+2 ^ 1))).an Tryz.f15.ntmps)=⟨((xV (cC p sl d1 d2) fs N).an Tryz.f15.ntmps).tmps,[(.loc 1,.cells (cC p sl d1 d2))],[(.out m,.cells K),(.out 0,.cells fs)],m+1⟩:=by kernel_rfl
 exact⟨_,h,e⟩
theorem Sa {p sl:Int} {ins:List Ins} {d2:al} (g2:cV d2) (hv:oZ ins) (hn:ins.length < 1000000) (h0:0 < ins.length) :
  KD (.loop (roundOf Tryz.f15 0)) (fun e q=>e=.exit 0/\q=(xV (cC p sl (.slice (encI ins)) d2) (fk (dA (bJ ins))) ins.length).an Tryz.f15.ntmps)
   ((lS 1 (cC p sl (.slice (encI ins)) d2) [iv 0] (fk (List.replicate ins.length false)) 1 ins.length).an Tryz.f15.ntmps):=by
 have key:KD (.loop (roundOf Tryz.f15 0)) (fun e q=>e=.exit 0/\∃m ks,q=(qI m (cC p sl (.slice (encI ins)) d2) (bB ks) (fk (dA (bJ ins))) ins.length).an Tryz.f15.ntmps)
   ((lS 1 (cC p sl (.slice (encI ins)) d2) (bB [0]) (fk (List.replicate ins.length false)) 1 ins.length).an Tryz.f15.ntmps):=by
  have hlenS:∀i,((bJ ins).succ i).length<=2:=fun i=>kh ins i
  have htodo:∀f k,todo (bJ ins) f k<=3*k:=by
   intro f k
   induction k with
   | zero=>simp[todo]
   | succ k ih=>
    have:=hlenS k
    simp only[todo]
    split <;> omega
  refine zi (I:=fun μ s=>∃m ws f ks,(bJ ins).tT f ws/\ks.take ws.length=ws.map Int.ofNat/\ws.length<=ks.length/\μ=todo (bJ ins) f ins.length+ws.length/\μ<=3*ins.length+1/\s=(lS m (cC p sl (.slice (encI ins)) d2) (bB ks) (fk f) ws.length ins.length).an Tryz.f15.ntmps) ?_
   (m:=todo (bJ ins) (List.replicate ins.length false) ins.length+1) ⟨1,[0],List.replicate ins.length false,[0],Gr.tT.init h0,rfl,Nat.le_refl _,rfl,by have:=htodo (List.replicate ins.length false) ins.length;omega,rfl⟩
  rintro μ s ⟨m,ws,f,ks,hW,hk,hkl,rfl,hb,rfl⟩;refine Sb ?_
  rcases List.eq_nil_or_concat ws with rfl|⟨ws1,i,rfl⟩
  ·refine Sc ?_;rw[show m+1+(((qI 1 (cC p sl (.slice (encI ins)) d2) (bB ks) (fk f) ins.length).an Tryz.f15.ntmps).next - 2)=m+1 from rfl,V5 (m:=m) rfl rfl];refine⟨rfl,m,ks,?_⟩;rw[NR hW.done]
  rw[List.concat_eq_append] at hW hk hkl hb ⊢;have hlw:(ws1++[i]).length=ws1.length+1:=by simp
  rw[hlw] at hk hkl hb ⊢;have hi:i < ins.length:=hW.lt i (by simp);have hfl:f.length=ins.length:=hW.len;have hki:ks[ws1.length]?=some (Int.ofNat i):=by
   have:(ks.take (ws1.length+1))[ws1.length]?=((ws1++[i]).map Int.ofNat)[ws1.length]?:=by rw[hk]
   rw[List.getElem?_take,if_pos (by omega)] at this;rw[this,List.map_append,List.getElem?_append_right (by simp),List.length_map,Nat.sub_self];rfl
  have hk1:ks.take ws1.length=ws1.map Int.ofNat:=by
   have:=congrArg (List.take ws1.length) hk
   rw[List.take_take,show min ws1.length (ws1.length+1)=ws1.length by omega] at this;rw[this,List.map_append];have e:(ws1.map Int.ofNat).length=ws1.length:=List.length_map _;rw[List.take_append_of_le_length (by omega),List.take_of_length_le (by omega)]
  have hw:ap .i64 (Int.ofNat (ws1.length+1) - 1)=Int.ofNat ws1.length:=by
   rw[cF,show Int.ofNat (ws1.length+1) - 1=Int.ofNat ws1.length by simp];exact wrap_i64 (by show _<=(ws1.length:Int);omega) (by show (ws1.length:Int)<=_;omega)
  have hx:ins[i]?=some ins[i]:=List.getElem?_eq_getElem hi;generalize ins[i]=x at hx;have f9:=IZ (p:=p) (sl:=sl) g2 hx (by omega);rw[←rY hv hx] at f9;have hgf:f[i]?=some (f.getD i false):=by
   rw[List.getD_eq_getElem?_getD,List.getElem?_eq_getElem (by omega)];rfl
  have f1:=LI (m:=.out 1) (n:=ws1.length+1) (by omega);have g1:aH 0 (Int.ofNat (ws1.length+1))=true:=bc (i:=0) (L:=ws1.length+1) (by omega);have f3:=@zx (.out 1) (ws1.length+1) ws1.length (by omega);have f5:=Np (m:=.out 1) (k:=ws1.length) (.tmp 26);rw[←hw] at f3 f5;have f4:=zq (.out 1) hki;have f6:=qh (m:=.out 0) (n:=ins.length) hi;have f7:=Dj (.out 0) hgf;have f8:=M4 (l:=f) (i:=i) (.out 0) true (by omega);have hl2:(fO ins i).length<=2:=kh ins i;have fa:=@Rk (.out 1) ks ws1.length ((fO ins i).map Int.ofNat) (by rw[List.length_map];omega) (by omega)
  -- the two ends
  have hQ1:f.getD i false=true->sj (fun s'=>∃μ',μ' < todo (bJ ins) f ins.length+(ws1.length+1)/\∃m ws f ks,(bJ ins).tT f ws/\ks.take ws.length=ws.map Int.ofNat/\ws.length<=ks.length/\μ'=todo (bJ ins) f ins.length+ws.length/\μ'<=3*ins.length+1/\s'=(lS m (cC p sl (.slice (encI ins)) d2) (bB ks) (fk f) ws.length ins.length).an Tryz.f15.ntmps)
    (fun e q=>e=.exit 0/\∃m ks,q=(qI m (cC p sl (.slice (encI ins)) d2) (bB ks) (fk (dA (bJ ins))) ins.length).an Tryz.f15.ntmps) .normal (Hk (gd (so [0,m]) 2 (m+1)) (m+1+(2 - 2)) ((lS 1 (cC p sl (.slice (encI ins)) d2) (bB ks) (fk f) ws1.length ins.length).an Tryz.f15.ntmps)):=by
   intro hy;rw[show m+1+(2 - 2)=m+1 from rfl,NJ (m:=m) rfl rfl];exact⟨_,by omega,m,ws1,f,ks,hW.skip hy,hk1,by omega,rfl,by omega,rfl⟩
  have hQ2:f.getD i false=false->sj (fun s'=>∃μ',μ' < todo (bJ ins) f ins.length+(ws1.length+1)/\∃m ws f ks,(bJ ins).tT f ws/\ks.take ws.length=ws.map Int.ofNat/\ws.length<=ks.length/\μ'=todo (bJ ins) f ins.length+ws.length/\μ'<=3*ins.length+1/\s'=(lS m (cC p sl (.slice (encI ins)) d2) (bB ks) (fk f) ws.length ins.length).an Tryz.f15.ntmps)
    (fun e q=>e=.exit 0/\∃m ks,q=(qI m (cC p sl (.slice (encI ins)) d2) (bB ks) (fk (dA (bJ ins))) ins.length).an Tryz.f15.ntmps) .normal (Hk (gd (so [0,m]) 2 (m+1)) (m+1+(3 - 2)) ((lS 2 (cC p sl (.slice (encI ins)) d2) (bB (ks.take ws1.length++(fO ins i).map Int.ofNat)) (fk (f.set i true)) (ws1.length+((fO ins i).map Int.ofNat).length) ins.length).an Tryz.f15.ntmps)):=by
   intro hy;rw[show m+1+(3 - 2)=m+1+1 from rfl,@NJ _ _ _ _ 2 (m+1) (gd (so [0,m]) 2 (m+1)) rfl rfl];have ht:=D4 (G:=bJ ins) (by omega:i < f.length) hy ins.length hi;have hl3:((bJ ins).succ i).length=(fO ins i).length:=rfl;have hwl:(ws1++(bJ ins).succ i).length=ws1.length+((fO ins i).map Int.ofNat).length:=by rw[List.length_append,List.length_map];rfl
   refine⟨_,?_,m+1,ws1++(bJ ins).succ i,f.set i true,ks.take ws1.length++(fO ins i).map Int.ofNat,hW.go,?_,?_,rfl,?_,?_⟩
   ·rw[List.length_append];omega
   ·rw[hwl,hk1,List.take_of_length_le (by rw[List.length_append,List.length_map];omega),List.map_append];rfl
   ·rw[hwl,List.length_append,List.length_take];omega
   ·rw[List.length_append];omega
   rw[hwl]
  generalize hl:fO ins i=l at f9 fa hQ2;refine gw (Q:=fun ex q=>(ex=.normal/\f.getD i false=true/\q=(Bn 1 (cC p sl (.slice (encI ins)) d2) (bB ks) (fk f) ws1.length ins.length (Int.ofNat i)).an Tryz.f15.ntmps)∨(ex=.normal/\f.getD i false=false/\q=(lS 2 (cC p sl (.slice (encI ins)) d2) (bB (ks.take ws1.length++l.map Int.ofNat)) (fk (f.set i true)) (ws1.length+(l.map Int.ofNat).length) ins.length).an Tryz.f15.ntmps)) ?_ ?_
  ·cases l with
   | nil=>exact Ln g2 f1 g1 f3 f4 f5 f6 f7 f8 (iL _) f9 fa (dw _) (fun h=>.inl ⟨rfl,h,rfl⟩) (fun h=>.inr ⟨rfl,h,rfl⟩)
   | cons j0 l0=>exact NS g2 f1 g1 f3 f4 f5 f6 f7 f8 (iL _) f9 fa (dw _) (fun h=>.inl ⟨rfl,h,rfl⟩) (fun h=>.inr ⟨rfl,h,rfl⟩)
  rintro ex q (⟨rfl,hy,rfl⟩|⟨rfl,hy,rfl⟩)
  ·exact⟨_,LV,hQ1 hy⟩
  exact⟨_,fw.refl _ _,hQ2 hy⟩
 have key2:=gw (Q':=fun e q=>e=.exit 0/\∃m ks,q=⟨((xV (cC p sl (.slice (encI ins)) d2) (fk (dA (bJ ins))) ins.length).an Tryz.f15.ntmps).tmps,[(.loc 1,.cells (cC p sl (.slice (encI ins)) d2))],[(.out m,.cells (bB ks)),(.out 0,.cells (fk (dA (bJ ins))))],m+1⟩) key (by
  rintro e q ⟨rfl,m,ks,rfl⟩;obtain⟨s2,h1,h2⟩:=@LU p sl (.slice (encI ins)) d2 (bB ks) (fk (dA (bJ ins))) m ins.length;exact⟨s2,h1,rfl,m,ks,h2⟩)
 have key3:=key2.UM (Q':=fun e q=>e=.exit 0/\∃m,q=⟨((xV (cC p sl (.slice (encI ins)) d2) (fk (dA (bJ ins))) ins.length).an Tryz.f15.ntmps).tmps,[(.loc 1,.cells (cC p sl (.slice (encI ins)) d2))],[(.out 0,.cells (fk (dA (bJ ins))))],m+1⟩) (by
  rintro e q ⟨rfl,m,ks,rfl⟩;exact⟨[(.out 0,.cells (fk (dA (bJ ins))))],[(.out m,.cells (bB ks))],List.Perm.swap _ _ _,rfl,m,rfl⟩)
 refine key3.low ?_;rintro e q ⟨rfl,m,rfl⟩;have e1:tZ 2 ((xV (cC p sl (.slice (encI ins)) d2) (fk (dA (bJ ins))) ins.length).an Tryz.f15.ntmps).tmps=false:=by kernel_rfl
 have e2:uZ 2 [(.loc 1,.cells (cC p sl (.slice (encI ins)) d2))]=false:=by kernel_rfl
 have e3:uZ 2 [(.out 0,.cells (fk (dA (bJ ins))))]=false:=by simp only[uZ,UR,Dn];rfl
 exact⟨e1,e2,e3,rfl,rfl⟩
theorem Mq:∀(f:List Bool) (i:Nat) (d:al),(f.map bl)[i]?=some d->d.cells.length=1/\∀j c,d.cells[j]?=some c->∃a,(fk f)[i*1+j]?=some a/\jc a=some c:=by
 intro f i d h;rw[List.getElem?_map] at h
 cases hf:f[i]? with
 | none=>rw[hf] at h;simp at h
 | some b=>
  rw[hf] at h;simp only[Option.map_some,Option.some.injEq] at h;subst h;refine⟨rfl,?_⟩;intro j c hc
  cases j with
  | zero=>
   have:(bl b).cells[0]?=some (bl b):=rfl
   rw[this] at hc;simp only[Option.some.injEq] at hc;subst hc;refine⟨bv b,?_,rfl⟩;rw[Nat.mul_one,Nat.add_zero];show (f.map bv)[i]?=_;rw[List.getElem?_map,hf];rfl
  | succ j=>have:(bl b).cells[j+1]?=none:=rfl;rw[this] at hc;simp at hc
theorem Gt {p sl:Int} {ins:List Ins} {d2:al} (g2:cV d2) (hv:oZ ins) (hn:ins.length < 1000000) (h0:0 < ins.length) (h1:ae 13 [.dat (aP p sl (.slice (encI ins)) d2)] (iv 0)) :
  ae 15 [.dat (aP p sl (.slice (encI ins)) d2)] (.dat (.slice ((dA (bJ ins)).map bl))):=by
 have hlen:(encI ins).length=ins.length:=bP ins;have h:=Wc g2 (N:=ins.length) (fs0:=fk (List.replicate ins.length false)) hlen.symm h1 (by rw[hlen];exact Fh hn) (iL _) (Sa (p:=p) (sl:=sl) g2 hv hn h0);refine aD.vh h (by rw[List.length_map,ry];rfl) (by simp only[lim];omega) (Mq _)
noncomputable def UX:Hints:=⟨bS,yU,bg,rowsOf bg 20⟩
def SE (c:List ac):Heap:=[(.loc 3,.cells (cC 0 0 nl nl)),(.loc 2,.cells c)]
def oO (c:List ac):ab:=⟨[(5,iv 0),(3,.ptr (.loc 3) 0),(2,.ptr (.loc 2) 0)],SE c,[],0⟩
def lU (c:List ac):ab:=⟨[(41,bv false),(5,iv 0),(3,.ptr (.loc 3) 0),(2,.ptr (.loc 2) 0)],SE c,[],0⟩
def oN (c:List ac):ab:=⟨[(6,iv 0),(3,.ptr (.loc 3) 0),(2,.ptr (.loc 2) 0)],SE c,[],0⟩
def lT (c:List ac):ab:=⟨[(60,bv false),(6,iv 0),(3,.ptr (.loc 3) 0),(2,.ptr (.loc 2) 0)],SE c,[],0⟩
theorem Yy {p sl:Int} {es dd:List al} (h:aH 0 (Int.ofNat es.length)=false) {T:Exit->aa->Prop} (e:T (.exit 0) ((lU (cC p sl (.slice es) (.slice dd))).an Tryz.f20.ntmps)):KD (roundOf Tryz.f20 0) T ((oO (cC p sl (.slice es) (.slice dd))).an Tryz.f20.ntmps):=by
 refine ay [41] [] (H:=UX) (live:=iO) (by kernel_rfl) ?_;refine ob h ?_;exact oe e
theorem Yu {p sl:Int} {es dd:List al} (h:aH 0 (Int.ofNat dd.length)=false) {T:Exit->aa->Prop} (e:T (.exit 2) ((lT (cC p sl (.slice es) (.slice dd))).an Tryz.f20.ntmps)):KD (roundOf Tryz.f20 1) T ((oN (cC p sl (.slice es) (.slice dd))).an Tryz.f20.ntmps):=by
 refine ay [60] [] (H:=UX) (live:=iO) (by kernel_rfl) ?_;refine ob h ?_;exact oe e
theorem ab3 {p sl:Int} {es dd:List al} {c1 c2 c3 c4:Bool} (h1:aB p 0=c1) (h2:aB sl 0=c2) (h3:aB (Int.ofNat es.length) 0=c3) (h4:aB (Int.ofNat dd.length) 0=c4) 
  (l0:c3=true->c4=true->KD (.loop (roundOf Tryz.f20 0)) (fun e q=>e=.exit 0/\q=(lU (cC p sl (.slice es) (.slice dd))).an Tryz.f20.ntmps) ((oO (cC p sl (.slice es) (.slice dd))).an Tryz.f20.ntmps))
  (l1:c3=true->c4=true->KD (.loop (roundOf Tryz.f20 1)) (fun e q=>e=.exit 2/\q=(lT (cC p sl (.slice es) (.slice dd))).an Tryz.f20.ntmps) ((oN (cC p sl (.slice es) (.slice dd))).an Tryz.f20.ntmps)) :
  ae 20 [.dat (aP p sl (.slice es) (.slice dd)),.dat (aP 0 0 nl nl)] (bv (c1&&(c2&&(c3&&c4)))):=by
 refine co [11,17,26,35] [] (x:=.of Tryz.f20 yU iO) ?_;refine ox h1 ?_
 cases c1
 ·exact fi
 refine ox h2 ?_
 cases c2
 ·exact fi
 refine ox h3 ?_
 cases c3
 ·exact fi
 refine ox h4 ?_
 cases c4
 ·exact fi
 refine lo (l0 rfl rfl) ?_;rintro ex s ⟨rfl,rfl⟩;refine⟨_,rfl,?_⟩;refine lo (l1 rfl rfl) ?_;rintro ex s ⟨rfl,rfl⟩;refine⟨_,rfl,?_⟩;exact fi
theorem Yz {p sl:Int} {es dd:List al} (h:aH 0 (Int.ofNat es.length)=false) {T:Exit->aa->Prop} (e:T (.exit 0) ((lU (cC p sl (.slice es) nl)).an Tryz.f20.ntmps)):KD (roundOf Tryz.f20 0) T ((oO (cC p sl (.slice es) nl)).an Tryz.f20.ntmps):=by
 refine ay [41] [] (H:=UX) (live:=iO) (by kernel_rfl) ?_;refine ob h ?_;exact oe e
theorem Yv {p sl:Int} {es dd:List al} {T:Exit->aa->Prop} (e:T (.exit 2) ((lT (cC p sl (.slice es) nl)).an Tryz.f20.ntmps)):KD (roundOf Tryz.f20 1) T ((oN (cC p sl (.slice es) nl)).an Tryz.f20.ntmps):=by
 refine ay [] [] (H:=UX) (live:=iO) (by kernel_rfl) ?_;exact oe e
theorem ab4 {p sl:Int} {es dd:List al} {c1 c2 c3 c4:Bool} (h1:aB p 0=c1) (h2:aB sl 0=c2) (h3:aB (Int.ofNat es.length) 0=c3) 
  (l0:c3=true->KD (.loop (roundOf Tryz.f20 0)) (fun e q=>e=.exit 0/\q=(lU (cC p sl (.slice es) nl)).an Tryz.f20.ntmps) ((oO (cC p sl (.slice es) nl)).an Tryz.f20.ntmps))
  (l1:c3=true->KD (.loop (roundOf Tryz.f20 1)) (fun e q=>e=.exit 2/\q=(lT (cC p sl (.slice es) nl)).an Tryz.f20.ntmps) ((oN (cC p sl (.slice es) nl)).an Tryz.f20.ntmps)) :
  ae 20 [.dat (aP p sl (.slice es) nl),.dat (aP 0 0 nl nl)] (bv (c1&&(c2&&(c3&&true)))):=by
 refine co [11,17,26] [] (x:=.of Tryz.f20 yU iO) ?_;refine ox h1 ?_
 cases c1
 ·exact fi
 refine ox h2 ?_
 cases c2
 ·exact fi
 refine ox h3 ?_
 cases c3
 ·exact fi
 refine lo (l0 rfl) ?_;rintro ex s ⟨rfl,rfl⟩;refine⟨_,rfl,?_⟩;refine lo (l1 rfl) ?_;rintro ex s ⟨rfl,rfl⟩;refine⟨_,rfl,?_⟩;exact fi
theorem YA {p sl:Int} {es dd:List al} {T:Exit->aa->Prop} (e:T (.exit 0) ((lU (cC p sl nl (.slice dd))).an Tryz.f20.ntmps)):KD (roundOf Tryz.f20 0) T ((oO (cC p sl nl (.slice dd))).an Tryz.f20.ntmps):=by
 refine ay [] [] (H:=UX) (live:=iO) (by kernel_rfl) ?_;exact oe e
theorem Yw {p sl:Int} {es dd:List al} (h:aH 0 (Int.ofNat dd.length)=false) {T:Exit->aa->Prop} (e:T (.exit 2) ((lT (cC p sl nl (.slice dd))).an Tryz.f20.ntmps)):KD (roundOf Tryz.f20 1) T ((oN (cC p sl nl (.slice dd))).an Tryz.f20.ntmps):=by
 refine ay [60] [] (H:=UX) (live:=iO) (by kernel_rfl) ?_;refine ob h ?_;exact oe e
theorem ab5 {p sl:Int} {es dd:List al} {c1 c2 c3 c4:Bool} (h1:aB p 0=c1) (h2:aB sl 0=c2) (h4:aB (Int.ofNat dd.length) 0=c4) 
  (l0:c4=true->KD (.loop (roundOf Tryz.f20 0)) (fun e q=>e=.exit 0/\q=(lU (cC p sl nl (.slice dd))).an Tryz.f20.ntmps) ((oO (cC p sl nl (.slice dd))).an Tryz.f20.ntmps))
  (l1:c4=true->KD (.loop (roundOf Tryz.f20 1)) (fun e q=>e=.exit 2/\q=(lT (cC p sl nl (.slice dd))).an Tryz.f20.ntmps) ((oN (cC p sl nl (.slice dd))).an Tryz.f20.ntmps)) :
  ae 20 [.dat (aP p sl nl (.slice dd)),.dat (aP 0 0 nl nl)] (bv (c1&&(c2&&(true&&c4)))):=by
 refine co [11,17,35] [] (x:=.of Tryz.f20 yU iO) ?_;refine ox h1 ?_
 cases c1
 ·exact fi
 refine ox h2 ?_
 cases c2
 ·exact fi
 refine ox h4 ?_
 cases c4
 ·exact fi
 refine lo (l0 rfl) ?_;rintro ex s ⟨rfl,rfl⟩;refine⟨_,rfl,?_⟩;refine lo (l1 rfl) ?_;rintro ex s ⟨rfl,rfl⟩;refine⟨_,rfl,?_⟩;exact fi
theorem YB {p sl:Int} {es dd:List al} {T:Exit->aa->Prop} (e:T (.exit 0) ((lU (cC p sl nl nl)).an Tryz.f20.ntmps)):KD (roundOf Tryz.f20 0) T ((oO (cC p sl nl nl)).an Tryz.f20.ntmps):=by
 refine ay [] [] (H:=UX) (live:=iO) (by kernel_rfl) ?_;exact oe e
theorem Yx {p sl:Int} {es dd:List al} {T:Exit->aa->Prop} (e:T (.exit 2) ((lT (cC p sl nl nl)).an Tryz.f20.ntmps)):KD (roundOf Tryz.f20 1) T ((oN (cC p sl nl nl)).an Tryz.f20.ntmps):=by
 refine ay [] [] (H:=UX) (live:=iO) (by kernel_rfl) ?_;exact oe e
theorem ab6 {p sl:Int} {es dd:List al} {c1 c2 c3 c4:Bool} (h1:aB p 0=c1) (h2:aB sl 0=c2) 
  (l0:KD (.loop (roundOf Tryz.f20 0)) (fun e q=>e=.exit 0/\q=(lU (cC p sl nl nl)).an Tryz.f20.ntmps) ((oO (cC p sl nl nl)).an Tryz.f20.ntmps))
  (l1:KD (.loop (roundOf Tryz.f20 1)) (fun e q=>e=.exit 2/\q=(lT (cC p sl nl nl)).an Tryz.f20.ntmps) ((oN (cC p sl nl nl)).an Tryz.f20.ntmps)) :
  ae 20 [.dat (aP p sl nl nl),.dat (aP 0 0 nl nl)] (bv (c1&&(c2&&(true&&true)))):=by
 refine co [11,17] [] (x:=.of Tryz.f20 yU iO) ?_;refine ox h1 ?_
 cases c1
 ·exact fi
 refine ox h2 ?_
 cases c2
 ·exact fi
 refine lo l0 ?_;rintro ex s ⟨rfl,rfl⟩;refine⟨_,rfl,?_⟩;refine lo l1 ?_;rintro ex s ⟨rfl,rfl⟩;refine⟨_,rfl,?_⟩;exact fi
theorem rT {n:Nat} (h:aB (Int.ofNat n) 0=true):aH 0 (Int.ofNat n)=false:=by
 rw[ct] at h
 have:(n:Int)=0:=by simpa using h
 rw[cW];simp only[decide_eq_false_iff_not,Int.ofNat_eq_natCast];omega
theorem tJ {c:List ac} (h:∀{T:Exit->aa->Prop},T (.exit 0) ((lU c).an Tryz.f20.ntmps)->KD (roundOf Tryz.f20 0) T ((oO c).an Tryz.f20.ntmps)) :
  KD (.loop (roundOf Tryz.f20 0)) (fun e q=>e=.exit 0/\q=(lU c).an Tryz.f20.ntmps) ((oO c).an Tryz.f20.ntmps):=by
 refine aZ (St:=fun _=>(oO c).an Tryz.f20.ntmps) 0 (fun i hi=>absurd hi (by omega)) ?_ (i:=0) (Nat.le_refl _);exact h ⟨rfl,rfl⟩
theorem tI {c:List ac} (h:∀{T:Exit->aa->Prop},T (.exit 2) ((lT c).an Tryz.f20.ntmps)->KD (roundOf Tryz.f20 1) T ((oN c).an Tryz.f20.ntmps)) :
  KD (.loop (roundOf Tryz.f20 1)) (fun e q=>e=.exit 2/\q=(lT c).an Tryz.f20.ntmps) ((oN c).an Tryz.f20.ntmps):=by
 refine aZ (St:=fun _=>(oN c).an Tryz.f20.ntmps) 0 (fun i hi=>absurd hi (by omega)) ?_ (i:=0) (Nat.le_refl _);exact h ⟨rfl,rfl⟩
noncomputable def Iy:Hints:=⟨bS,yQ,bg,rowsOf bg 39⟩
def xW (c:List ac) (d n i:Int):ab:=⟨[(6,iv i),(5,iv n),(2,.ptr (.loc 2) 0),(1,iv d)],[(.loc 2,.cells c)],[],0⟩
def CC (c:List ac) (d n i:Int):ab:=⟨[(55,bv false),(6,iv i),(5,iv n),(2,.ptr (.loc 2) 0),(1,iv d)],[(.loc 2,.cells c)],[],0⟩
def mE (e:Int):ab:=⟨[(4,iv e)],[],[],0⟩
def qJ (c:List ac) (d i:Int):ab:=⟨[(8,iv i),(2,.ptr (.loc 2) 0),(1,iv d)],[(.loc 2,.cells c)],[],0⟩
def uq (c:List ac) (d i:Int):ab:=⟨[(91,bv false),(8,iv i),(2,.ptr (.loc 2) 0),(1,iv d)],[(.loc 2,.cells c)],[],0⟩
def Bo (c:List ac) (d i k:Int):ab:=⟨[(9,iv k),(8,iv i),(2,.ptr (.loc 2) 0),(1,iv d)],[(.loc 2,.cells c)],[],0⟩
def G8 (c:List ac) (d i k:Int):ab:=⟨[(101,bv false),(9,iv k),(8,iv i),(2,.ptr (.loc 2) 0),(1,iv d)],[(.loc 2,.cells c)],[],0⟩
theorem acI {p sl d:Int} {es:List al} {d2:al} (g2:cV d2) {op dst a b im:Int} {nm:List UInt8} {dx:al} {xk:Int} {tn:List UInt8} {ix:Int} {dt:al} {ck ci:Int} {cs:List UInt8} (g3:cV dx) (g4:cV dt) {i:Int} {ok:Bool} {T:Exit->aa->Prop} (h0:aH i (Int.ofNat es.length)=true)
  (hi:aq (env ak.aC) 23 [.dat (.slice es),.dat (.flat (.int .i64 i))]=some ⟨.ref [i64 op,i64 dst,i64 a,i64 b,i64 im,sb nm,dx,i64 xk,sb tn,i64 ix,dt,i64 ck,i64 ci,sb cs,nl],.keep⟩) (hv:ae 70 [.dat (aP p sl (.slice es) d2),.dat (eb op dst a b im nm dx xk tn ix dt ck ci cs)] (bv ok))
  (e1:ok=true->T .normal ((xW (cC p sl (.slice es) d2) d (Int.ofNat es.length) (ap .i64 (i+1))).an Tryz.f39.ntmps)) (e2:ok=false->T .ret ((mE 2).an Tryz.f39.ntmps)) :
  KD (roundOf Tryz.f39 0) T ((xW (cC p sl (.slice es) d2) d (Int.ofNat es.length) i).an Tryz.f39.ntmps):=by
 have q2:=@xq false op dst a b im nm _ xk tn ix _ ck ci cs g3 g4;have q5:=@aN false 2 p sl (.slice es) _ (.inr ⟨_,rfl⟩) g2;clear g2 g3 g4;refine ay [55] [58,62,63] (H:=Iy) (live:=jH) (by kernel_rfl) ?_;refine ob h0 ?_;refine oo q5 ?_;refine oo hi ?_;refine oo q2 ?_;refine on hv ?_
 cases ok
 ·exact oe (e2 rfl)
 exact oe (e1 rfl)
theorem aad {p sl d:Int} {es:List al} {d2:al} {n i:Int} {T:Exit->aa->Prop} (h0:aH i n=false) (e:T (.exit 0) ((CC (cC p sl (.slice es) d2) d n i).an Tryz.f39.ntmps)) :
  KD (roundOf Tryz.f39 0) T ((xW (cC p sl (.slice es) d2) d n i).an Tryz.f39.ntmps):=by
 refine ay [55] [] (H:=Iy) (live:=jH) (by kernel_rfl) ?_;refine ob h0 ?_;exact oe e
theorem acJ {p sl d:Int} {e1:al} {dd l:List al} {i k v:Int} {ek:Int} {dn:List UInt8} {ar sk:Int} {sn:List UInt8} {six:Int} {da:al} {con:Bool} {df:al} {fu:List UInt8} {tk:Int} {tn:List UInt8} {tix:Int} {ta:al} {pa cp cs:Int} {d1 d2:al} {pk:List UInt8} (h1:cV da) (h2:cV df) (h3:cV ta) (h4:cV d1) (h5:cV d2) {c1 c2 c3 z vz:Bool} {T:Exit->aa->Prop} (f0:aH k (Int.ofNat l.length)=true)
  (hi:aq (env ak.aC) 24 [.dat (.slice dd),.dat (.flat (.int .i64 i))]=some ⟨.ref [.slice l],.keep⟩)
  (hk:aq (env ak.aC) 54 [.dat (.slice l),.dat (.flat (.int .i64 k))]=some ⟨.ref [i64 ek,sb dn,i64 ar,i64 sk,sb sn,i64 six,da,bl con,df,sb fu,i64 tk,sb tn,i64 tix,ta,i64 pa,i64 cp,i64 cs,d1,d2,sb pk],.keep⟩)
  (k1:aH ek 1=c1) (k2:aH 5 ek=c2) (k3:aB ek 2=c3) (hz:ae 20 [.dat (aP cp cs d1 d2),.dat (aP 0 0 nl nl)] (bv z)) (hv:ae 39 [.dat (aP cp cs d1 d2),iv (ap .i64 (d+1))] (iv v)) (hvz:aB v 0=vz)
  (t1:(if c3=true then vz else (!(c1||c2)&&z))=true->T .normal ((Bo (cC p sl e1 (.slice dd)) d i (ap .i64 (k+1))).an Tryz.f39.ntmps))
  (t2:c3=true->vz=false->T .ret ((mE v).an Tryz.f39.ntmps)) (t3:c3=false->(!(c1||c2)&&z)=false->T .ret ((mE 2).an Tryz.f39.ntmps)) :
  KD (roundOf Tryz.f39 2) T ((Bo (cC p sl e1 (.slice dd)) d i k).an Tryz.f39.ntmps):=by
 have q2:=@PO false ek dn ar sk sn six _ con _ fu tk tn tix _ pa cp cs _ _ pk h1 h2 h3 h4 h5;have q3:=@Uj 10 ek dn ar sk sn six _ con _ fu tk tn tix _ pa cp cs _ _ pk h1 h2 h3 h4 h5;have q4:=@PQ false 10 ek dn ar sk sn six da con df fu tk tn tix ta pa cp cs _ _ pk h4 h5;clear h1 h2 h3 h4 h5;refine ay [101,114,121,125,129] [98,107,110,111,100010,116,133] (H:=Iy) (live:=jH) (by kernel_rfl) ?_;refine oo hi ?_;refine ob f0 ?_;refine oo hi ?_;refine oo hk ?_;refine oo q2 ?_;refine oo q3 ?_;refine ob k3 ?_
 cases c3
 ·refine ob k1 ?_
  cases c1
  ·refine ob k2 ?_
   cases c2
   ·refine oo q4 ?_;refine on hz ?_
    cases z
    ·exact oe (t3 rfl rfl)
    exact oe (t1 rfl)
   exact oe (t3 rfl rfl)
  exact oe (t3 rfl rfl)
 refine oo q4 ?_;refine on hv ?_;refine ox hvz ?_
 cases vz
 ·exact oe (t2 rfl rfl)
 exact oe (t1 rfl)
theorem aae {p sl d:Int} {e1:al} {dd l:List al} {i k:Int} {T:Exit->aa->Prop} (f0:aH k (Int.ofNat l.length)=false)
  (hi:aq (env ak.aC) 24 [.dat (.slice dd),.dat (.flat (.int .i64 i))]=some ⟨.ref [.slice l],.keep⟩) (e:T (.exit 4) ((G8 (cC p sl e1 (.slice dd)) d i k).an Tryz.f39.ntmps)) :
  KD (roundOf Tryz.f39 2) T ((Bo (cC p sl e1 (.slice dd)) d i k).an Tryz.f39.ntmps):=by
 refine ay [101] [98] (H:=Iy) (live:=jH) (by kernel_rfl) ?_;refine oo hi ?_;refine ob f0 ?_;exact oe e
theorem acK {p sl d i v:Int} {e1:al} {dd:List al} {z:Bool} {T:Exit->aa->Prop} (f0:aH i (Int.ofNat dd.length)=true)
  (hl:KD (.loop (roundOf Tryz.f39 2)) (fun e q=>(e=.exit 4/\z=true/\∃k,q=(G8 (cC p sl e1 (.slice dd)) d i k).an Tryz.f39.ntmps)∨(e=.ret/\z=false/\q=(mE v).an Tryz.f39.ntmps)) ((Bo (cC p sl e1 (.slice dd)) d i 0).an Tryz.f39.ntmps))
  (t1:z=true->T .normal ((qJ (cC p sl e1 (.slice dd)) d (ap .i64 (i+1))).an Tryz.f39.ntmps)) (t2:z=false->T .ret ((mE v).an Tryz.f39.ntmps)) :
  KD (roundOf Tryz.f39 1) T ((qJ (cC p sl e1 (.slice dd)) d i).an Tryz.f39.ntmps):=by
 refine ay [91] [] (H:=Iy) (live:=jH) (by kernel_rfl) ?_;refine ob f0 ?_;refine lo hl ?_;rintro ex s (⟨rfl,rfl,⟨x0,rfl⟩⟩|⟨rfl,rfl,rfl⟩)
 ·refine⟨_,rfl,?_⟩;exact oe (t1 rfl)
 refine⟨_,rfl,?_⟩;exact oe (t2 rfl)
theorem aaf {p sl d i:Int} {e1:al} {dd:List al} {T:Exit->aa->Prop} (f0:aH i (Int.ofNat dd.length)=false) (e:T (.exit 2) ((uq (cC p sl e1 (.slice dd)) d i).an Tryz.f39.ntmps)) :
  KD (roundOf Tryz.f39 1) T ((qJ (cC p sl e1 (.slice dd)) d i).an Tryz.f39.ntmps):=by
 refine ay [91] [] (H:=Iy) (live:=jH) (by kernel_rfl) ?_;refine ob f0 ?_;exact oe e
theorem aag {p sl d:Int} {e1:al} {T:Exit->aa->Prop} (e:T (.exit 2) ((uq (cC p sl e1 nl) d 0).an Tryz.f39.ntmps)) :
  KD (roundOf Tryz.f39 1) T ((qJ (cC p sl e1 nl) d 0).an Tryz.f39.ntmps):=by
 refine ay [] [] (H:=Iy) (live:=jH) (by kernel_rfl) ?_;exact oe e
theorem Z9 {p sl d:Int} {es dd:List al} {c1 c2 c3 c4 c5 c6 c7 c8 ok tr z o12 o16 o19:Bool} {v:Int}
  (k1:aH 40 d=c1) (k2:aH 200 sl=c2) (k5:aH p 0=c5) (k6:aH 6 p=c6) (k7:aH sl p=c7) (k3:aH 2000 (Int.ofNat es.length)=c3) (k4:aH 2000 (Int.ofNat dd.length)=c4) (k8:aB (Int.ofNat es.length) 0=c8)
  (hl:c8=false->KD (.loop (roundOf Tryz.f39 0)) (fun e q=>(e=.exit 0/\ok=true/\∃i,q=(CC (cC p sl (.slice es) (.slice dd)) d (Int.ofNat es.length) i).an Tryz.f39.ntmps)∨(e=.ret/\ok=false/\q=(mE 2).an Tryz.f39.ntmps)) ((xW (cC p sl (.slice es) (.slice dd)) d (Int.ofNat es.length) 0).an Tryz.f39.ntmps))
  {op:Int} {lc:List al} (hi:c8=false->aq (env ak.aC) 23 [.dat (.slice es),.dat (.flat (.int .i64 (ap .i64 (Int.ofNat es.length - 1))))]=some ⟨.ref (i64 op::lc),.keep⟩)
  (j1:aB op 12=o12) (j2:aB op 16=o16) (j3:aB op 19=o19) (hf:ok=true->ae 71 [.dat (aP p sl (.slice es) (.slice dd))] (bv tr))
  (he:c1=false->KD (.loop (roundOf Tryz.f39 1)) (fun e q=>(e=.exit 2/\z=true/\∃i,q=(uq (cC p sl (.slice es) (.slice dd)) d i).an Tryz.f39.ntmps)∨(e=.ret/\z=false/\q=(mE v).an Tryz.f39.ntmps)) ((qJ (cC p sl (.slice es) (.slice dd)) d 0).an Tryz.f39.ntmps)) :
  ae 39 [.dat (aP p sl (.slice es) (.slice dd)),iv d] (iv (kP c1 c2 c3 c4 c5 c6 c7 c8 ok (o12||(o16||o19)) tr (if z=true then 0 else v))):=by
 have q5:=@aN false 2 p sl (.slice es) (.slice dd) (.inr ⟨_,rfl⟩) (.inr ⟨_,rfl⟩);refine co [13,17,23,29,36,40,47,51,74,77,81] [70,84] (x:=.of Tryz.f39 yQ jH) ?_;refine ob k1 ?_
 cases c1
 ·refine ob k2 ?_
  cases c2
  ·refine ob k3 ?_
   cases c3
   ·refine ob k4 ?_
    cases c4
    ·refine ob k5 ?_
     cases c5
     ·refine ob k6 ?_
      cases c6
      ·refine ob k7 ?_
       cases c7
       ·refine ob k8 ?_
        cases c8
        ·refine lo (hl rfl) ?_;rintro ex s (⟨rfl,rfl,⟨x0,rfl⟩⟩|⟨rfl,rfl,rfl⟩)
         ·refine⟨_,rfl,?_⟩;refine oo (hi rfl) ?_;refine ox j1 ?_
          cases o12
          ·refine ox j2 ?_
           cases o16
           ·refine ox j3 ?_
            cases o19
            ·exact fi
            refine oo q5 ?_;refine on (hf rfl) ?_
            cases tr
            ·refine lo (he rfl) ?_;rintro ex s (⟨rfl,rfl,⟨x3,rfl⟩⟩|⟨rfl,rfl,rfl⟩) <;>
             ·refine⟨_,rfl,?_⟩;exact fi
            exact fi
           refine oo q5 ?_;refine on (hf rfl) ?_
           cases tr
           ·refine lo (he rfl) ?_;rintro ex s (⟨rfl,rfl,⟨x2,rfl⟩⟩|⟨rfl,rfl,rfl⟩) <;>
            ·refine⟨_,rfl,?_⟩;exact fi
           exact fi
          refine oo q5 ?_;refine on (hf rfl) ?_
          cases tr
          ·refine lo (he rfl) ?_;rintro ex s (⟨rfl,rfl,⟨x1,rfl⟩⟩|⟨rfl,rfl,rfl⟩) <;>
           ·refine⟨_,rfl,?_⟩;exact fi
          exact fi
         refine⟨_,rfl,?_⟩;exact fi
        exact fi
       exact fi
      exact fi
     exact fi
    exact fi
   exact fi
  exact fi
 exact fi
theorem aaa {p sl d:Int} {es dd:List al} {c1 c2 c3 c4 c5 c6 c7 c8 ok tr z o12 o16 o19:Bool} {v:Int}
  (k1:aH 40 d=c1) (k2:aH 200 sl=c2) (k5:aH p 0=c5) (k6:aH 6 p=c6) (k7:aH sl p=c7) (k3:aH 2000 (Int.ofNat es.length)=c3) (k8:aB (Int.ofNat es.length) 0=c8)
  (hl:c8=false->KD (.loop (roundOf Tryz.f39 0)) (fun e q=>(e=.exit 0/\ok=true/\∃i,q=(CC (cC p sl (.slice es) nl) d (Int.ofNat es.length) i).an Tryz.f39.ntmps)∨(e=.ret/\ok=false/\q=(mE 2).an Tryz.f39.ntmps)) ((xW (cC p sl (.slice es) nl) d (Int.ofNat es.length) 0).an Tryz.f39.ntmps))
  {op:Int} {lc:List al} (hi:c8=false->aq (env ak.aC) 23 [.dat (.slice es),.dat (.flat (.int .i64 (ap .i64 (Int.ofNat es.length - 1))))]=some ⟨.ref (i64 op::lc),.keep⟩)
  (j1:aB op 12=o12) (j2:aB op 16=o16) (j3:aB op 19=o19) (hf:ok=true->ae 71 [.dat (aP p sl (.slice es) nl)] (bv tr))
  (he:c1=false->KD (.loop (roundOf Tryz.f39 1)) (fun e q=>(e=.exit 2/\z=true/\∃i,q=(uq (cC p sl (.slice es) nl) d i).an Tryz.f39.ntmps)∨(e=.ret/\z=false/\q=(mE v).an Tryz.f39.ntmps)) ((qJ (cC p sl (.slice es) nl) d 0).an Tryz.f39.ntmps)) :
  ae 39 [.dat (aP p sl (.slice es) nl),iv d] (iv (kP c1 c2 c3 false c5 c6 c7 c8 ok (o12||(o16||o19)) tr (if z=true then 0 else v))):=by
 have q5:=@aN false 2 p sl (.slice es) nl (.inr ⟨_,rfl⟩) (.inl rfl);refine co [13,17,23,36,40,47,51,74,77,81] [70,84] (x:=.of Tryz.f39 yQ jH) ?_;refine ob k1 ?_
 cases c1
 ·refine ob k2 ?_
  cases c2
  ·refine ob k3 ?_
   cases c3
   ·refine ob k5 ?_
    cases c5
    ·refine ob k6 ?_
     cases c6
     ·refine ob k7 ?_
      cases c7
      ·refine ob k8 ?_
       cases c8
       ·refine lo (hl rfl) ?_;rintro ex s (⟨rfl,rfl,⟨x0,rfl⟩⟩|⟨rfl,rfl,rfl⟩)
        ·refine⟨_,rfl,?_⟩;refine oo (hi rfl) ?_;refine ox j1 ?_
         cases o12
         ·refine ox j2 ?_
          cases o16
          ·refine ox j3 ?_
           cases o19
           ·exact fi
           refine oo q5 ?_;refine on (hf rfl) ?_
           cases tr
           ·refine lo (he rfl) ?_;rintro ex s (⟨rfl,rfl,⟨x3,rfl⟩⟩|⟨rfl,rfl,rfl⟩) <;>
            ·refine⟨_,rfl,?_⟩;exact fi
           exact fi
          refine oo q5 ?_;refine on (hf rfl) ?_
          cases tr
          ·refine lo (he rfl) ?_;rintro ex s (⟨rfl,rfl,⟨x2,rfl⟩⟩|⟨rfl,rfl,rfl⟩) <;>
           ·refine⟨_,rfl,?_⟩;exact fi
          exact fi
         refine oo q5 ?_;refine on (hf rfl) ?_
         cases tr
         ·refine lo (he rfl) ?_;rintro ex s (⟨rfl,rfl,⟨x1,rfl⟩⟩|⟨rfl,rfl,rfl⟩) <;>
          ·refine⟨_,rfl,?_⟩;exact fi
         exact fi
        refine⟨_,rfl,?_⟩;exact fi
       exact fi
      exact fi
     exact fi
    exact fi
   exact fi
  exact fi
 exact fi
theorem aab {p sl d:Int} {es dd:List al} {c1 c2 c3 c4 c5 c6 c7 c8 ok tr z o12 o16 o19:Bool} {v:Int}
  (k1:aH 40 d=c1) (k2:aH 200 sl=c2) (k5:aH p 0=c5) (k6:aH 6 p=c6) (k7:aH sl p=c7) (k4:aH 2000 (Int.ofNat dd.length)=c4) :
  ae 39 [.dat (aP p sl nl (.slice dd)),iv d] (iv (kP c1 c2 false c4 c5 c6 c7 true false false false 0)):=by
 refine co [13,17,29,36,40,47] [] (x:=.of Tryz.f39 yQ jH) ?_;refine ob k1 ?_
 cases c1
 ·refine ob k2 ?_
  cases c2
  ·refine ob k4 ?_
   cases c4
   ·refine ob k5 ?_
    cases c5
    ·refine ob k6 ?_
     cases c6
     ·refine ob k7 ?_
      cases c7 <;>
      ·exact fi
     exact fi
    exact fi
   exact fi
  exact fi
 exact fi
theorem aac {p sl d:Int} {es dd:List al} {c1 c2 c3 c4 c5 c6 c7 c8 ok tr z o12 o16 o19:Bool} {v:Int}
  (k1:aH 40 d=c1) (k2:aH 200 sl=c2) (k5:aH p 0=c5) (k6:aH 6 p=c6) (k7:aH sl p=c7) :
  ae 39 [.dat (aP p sl nl nl),iv d] (iv (kP c1 c2 false false c5 c6 c7 true false false false 0)):=by
 refine co [13,17,36,40,47] [] (x:=.of Tryz.f39 yQ jH) ?_;refine ob k1 ?_
 cases c1
 ·refine ob k2 ?_
  cases c2
  ·refine ob k5 ?_
   cases c5
   ·refine ob k6 ?_
    cases c6
    ·refine ob k7 ?_
     cases c7 <;>
     ·exact fi
    exact fi
   exact fi
  exact fi
 exact fi
theorem Hr (c:jC):ae 20 [.dat c.enc,.dat (aP 0 0 nl nl)] (bv c.zero):=by
 obtain⟨pa,sl,iz,ins,ez,cT⟩:=c;have h1:Int.ofNat (encI ins).length=Int.ofNat ins.length:=by rw[bP]
 have h2:Int.ofNat (aO cT).length=Int.ofNat cT.length:=by rw[eg]
 have key:∀(a b:al),(a=.slice (encI ins)∨(a=nl/\ins=[]))->(b=.slice (aO cT)∨(b=nl/\cT=[]))->ae 20 [.dat (aP pa sl a b),.dat (aP 0 0 nl nl)] (bv (jC.zero (.mk pa sl iz ins ez cT))):=by
  rintro a b (rfl|⟨rfl,rfl⟩) (rfl|⟨rfl,rfl⟩)
  ·have:=@ab3 pa sl (encI ins) (aO cT) _ _ _ _ rfl rfl rfl rfl (fun h3 h4=>tJ (fun e=>Yy (rT h3) e)) (fun h3 h4=>tI (fun e=>Yu (rT h4) e))
   rw[h1,h2] at this;exact this
  ·have:=@ab4 pa sl (encI ins) [] _ _ _ true rfl rfl rfl (fun h3=>tJ (fun e=>Yz (dd:=[]) (rT h3) e)) (fun h3=>tI (fun e=>Yv (dd:=[]) e))
   rw[h1] at this;exact this
  ·have:=@ab5 pa sl [] (aO cT) _ _ true _ rfl rfl rfl (fun h4=>tJ (fun e=>YA (es:=[]) e)) (fun h4=>tI (fun e=>Yw (es:=[]) (rT h4) e))
   rw[h2] at this;exact this
  exact @ab6 pa sl [] [] _ _ true true rfl rfl (tJ (fun e=>YB (es:=[]) (dd:=[]) e)) (tI (fun e=>Yx (es:=[]) (dd:=[]) e))
 refine key (sx iz (encI ins)) (sx ez (aO cT)) ?_ ?_
 ·rcases jh iz (encI ins) with h|⟨h,h0⟩
  ·exact .inl h
  refine .inr ⟨h,?_⟩
  cases ins with
  | nil=>rfl
  | cons a r=>simp[encI] at h0
 rcases jh ez (aO cT) with h|⟨h,h0⟩
 ·exact .inl h
 refine .inr ⟨h,?_⟩
 cases cT with
 | nil=>rfl
 | cons a r=>simp[aO] at h0
theorem NX {p sl d:Int} {ins:List Ins} {ez:Bool} {ed:List al} (hx:∀x∈ins,x.gO) (hn:ins.length < 1000000) :
  KD (.loop (roundOf Tryz.f39 0)) (fun e q=>(e=.exit 0/\ins.all (fun x=>ig (Int.ofNat ins.length) (Int.ofNat ed.length) sl x)=true/\∃i,q=(CC (cC p sl (.slice (encI ins)) (sx ez ed)) d (Int.ofNat (encI ins).length) i).an Tryz.f39.ntmps)∨(e=.ret/\ins.all (fun x=>ig (Int.ofNat ins.length) (Int.ofNat ed.length) sl x)=false/\q=(mE 2).an Tryz.f39.ntmps))
   ((xW (cC p sl (.slice (encI ins)) (sx ez ed)) d (Int.ofNat (encI ins).length) 0).an Tryz.f39.ntmps):=by
 have hlen:(encI ins).length=ins.length:=bP ins;refine cH (St:=fun i=>(xW (cC p sl (.slice (encI ins)) (sx ez ed)) d (Int.ofNat (encI ins).length) (Int.ofNat i)).an Tryz.f39.ntmps) (fun i=>ins.all (fun x=>ig (Int.ofNat ins.length) (Int.ofNat ed.length) sl x)=(ins.drop i).all (fun x=>ig (Int.ofNat ins.length) (Int.ofNat ed.length) sl x)) ins.length ?_ ?_ (i:=0) (Nat.zero_le _) rfl
 ·intro i hi hI;have hg:ins[i]?=some ins[i]:=List.getElem?_eq_getElem hi;have hm:ins[i]∈ins:=List.getElem_mem hi;have hd:(ins.drop i).all (fun x=>ig (Int.ofNat ins.length) (Int.ofNat ed.length) sl x)=(ig (Int.ofNat ins.length) (Int.ofNat ed.length) sl ins[i]&&(ins.drop (i+1)).all (fun x=>ig (Int.ofNat ins.length) (Int.ofNat ed.length) sl x)):=by rw[List.drop_eq_getElem_cons hi];rfl
  generalize ins[i]=x at hg hd hm;rw[←hI] at hd;have hw:ap .i64 (Int.ofNat i+1)=Int.ofNat (i+1):=ba (by omega);have hv:=@AT p sl (encI ins) ed ez _ (hx x hm);rw[hlen] at hv;have hi2:=tm hg;generalize ig (Int.ofNat ins.length) (Int.ofNat ed.length) sl x=b at hv hd;obtain⟨op,dst,a,b',im,nm,az,ar,⟨xk,tn,ix,la⟩,ck,ci,cs⟩:=x;refine acI (dH ez ed) (dH az (ar.map iN)) (dz (ax la)) (bc (by rw[hlen];exact hi)) hi2 hv ?_ ?_
  ·rintro rfl;rw[hw];exact⟨rfl,hd⟩
  rintro rfl;exact .inr ⟨rfl,hd,rfl⟩
 intro hI;have h1:ins.all (fun x=>ig (Int.ofNat ins.length) (Int.ofNat ed.length) sl x)=true:=by rw[hI,List.drop_length];rfl
 exact aad (bW (by rw[hlen];omega)) (.inl ⟨rfl,h1,_,rfl⟩)
def YW (d:Nat) (e:fJ):Prop:=match e with
 | .mk _ _ _ _ _ c _=>∀d1:Int,d1=ap .i64 (Int.ofNat d+1)->ae 39 [.dat c.enc,iv d1] (iv (c.val (d+1)))
theorem NY {p sl:Int} {e1:al} {d:Nat} {dd:List (List fJ)} {i:Nat} {l:List fJ} (hn:l.length < 1000000) (hi:dd[i]?=some l) (hv:∀e∈l,YW d e) :
  KD (.loop (roundOf Tryz.f39 2)) (fun e q=>(e=.exit 4/\aB (tF l d) 0=true/\∃k,q=(G8 (cC p sl e1 (.slice (aO dd))) (Int.ofNat d) (Int.ofNat i) k).an Tryz.f39.ntmps)∨(e=.ret/\aB (tF l d) 0=false/\q=(mE (tF l d)).an Tryz.f39.ntmps))
   ((Bo (cC p sl e1 (.slice (aO dd))) (Int.ofNat d) (Int.ofNat i) 0).an Tryz.f39.ntmps):=by
 have hlen:(jZ l).length=l.length:=wy l;have hie:=UP hi;refine cH (St:=fun k=>(Bo (cC p sl e1 (.slice (aO dd))) (Int.ofNat d) (Int.ofNat i) (Int.ofNat k)).an Tryz.f39.ntmps) (fun k=>tF l d=tF (l.drop k) d) l.length ?_ ?_ (i:=0) (Nat.zero_le _) rfl
 ·intro k hk hI;have hg:l[k]?=some l[k]:=List.getElem?_eq_getElem hk;have hm:l[k]∈l:=List.getElem_mem hk;generalize l[k]=e at hg hm;rw[Ga hg] at hI;have hv1:=hv e hm;have hi2:=UO hg;have hw:ap .i64 (Int.ofNat k+1)=Int.ofNat (k+1):=ba (by omega);obtain⟨ek,⟨dn,ar,⟨sk,sn,six,sa⟩,con,fl⟩,fu,⟨tk,tn,tix,ta⟩,pa,c,pk⟩:=e;have hc:ae 39 [.dat c.enc,iv (ap .i64 (Int.ofNat d+1))] (iv (c.val (d+1))):=hv1 _ rfl;have hz:=Hr c;rw[fJ.ub] at hI;generalize c.val (d+1)=v at hc hI;generalize c.zero=z at hz hI;obtain⟨cp,cs,iz,ins,ez,cT⟩:=c;have hi3:aq (env ak.aC) _ [.dat (.slice (jZ l)),.dat (.flat (.int .i64 (Int.ofNat k)))]=some ⟨.ref [i64 ek,sb dn,i64 ar,i64 sk,sb sn,i64 six,Go.Proofs.YtmpmgmmcaghacaaGreatDoor.sl (ax sa),bl con,Go.Proofs.YtmpmgmmcaghacaaGreatDoor.sl (DD fl),sb fu,i64 tk,sb tn,i64 tix,Go.Proofs.YtmpmgmmcaghacaaGreatDoor.sl (ax ta),i64 pa,i64 cp,i64 cs,sx iz (encI ins),sx ez (aO cT),sb pk],.keep⟩:=hi2;have h12:aB ek 2=true->aH ek 1=false/\aH 5 ek=false:=by
   intro h;rw[ct] at h
   have:ek=2:=by simpa using h
   subst this;exact⟨rfl,rfl⟩
  have hzc:ae 20 [.dat (aP cp cs (sx iz (encI ins)) (sx ez (aO cT))),.dat (aP 0 0 nl nl)] (bv z):=hz;have hvc:ae 39 [.dat (aP cp cs (sx iz (encI ins)) (sx ez (aO cT))),iv (ap .i64 (Int.ofNat d+1))] (iv v):=hc;have hE:tF l d=(if aB (qT (aH ek 1) (aH 5 ek) (aB ek 2) z v) 0=true then tF (l.drop (k+1)) d else qT (aH ek 1) (aH 5 ek) (aB ek 2) z v):=hI;generalize hb1:aH ek 1=b1 at hE h12;generalize hb2:aH 5 ek=b2 at hE h12;generalize hb3:aB ek 2=b3 at hE h12;refine acJ (dz _) (dz _) (dz _) (dH _ _) (dH _ _) (bc (by rw[hlen];exact hk)) hie hi3 hb1 hb2 hb3 hzc hvc rfl ?_ ?_ ?_
  ·intro h;rw[hw];refine⟨rfl,?_⟩;rw[hE]
   cases b3
   ·have h:(!(b1||b2)&&z)=true:=h;simp only[Bool.and_eq_true,Bool.not_eq_true',Bool.or_eq_false_iff] at h;obtain⟨⟨rfl,rfl⟩,rfl⟩:=h
    have:qT false false false true v=0:=rfl
    rw[this];exact if_pos rfl
   obtain⟨rfl,rfl⟩:=h12 rfl;have h:aB v 0=true:=h
   have:qT false false true z v=v:=rfl
   rw[this,if_pos h]
  ·intro h h2;subst h;obtain⟨rfl,rfl⟩:=h12 rfl;have e:qT false false true z v=v:=rfl;rw[e,h2] at hE
   have:tF l d=v:=hE
   rw[this];exact .inr ⟨rfl,h2,rfl⟩
  intro h h2;subst h;have e:qT b1 b2 false z v=2:=by
   unfold qT
   cases b1 <;> cases b2 <;> cases z <;> simp_all
  rw[e] at hE
  have:tF l d=2:=hE
  rw[this];exact .inr ⟨rfl,rfl,rfl⟩
 intro hI;rw[List.drop_length] at hI;have h1:aB (tF l d) 0=true:=by rw[hI,tF];rfl
 exact aae (bW (by rw[hlen];omega)) hie (.inl ⟨rfl,h1,_,rfl⟩)
theorem NZ {p sl:Int} {e1:al} {d:Nat} {dd:List (List fJ)} (hn:dd.length < 1000000) (hl:∀l∈dd,l.length < 1000000) (hv:∀l∈dd,∀e∈l,YW d e) :
  KD (.loop (roundOf Tryz.f39 1)) (fun e q=>(e=.exit 2/\aB (jv dd d) 0=true/\∃i,q=(uq (cC p sl e1 (.slice (aO dd))) (Int.ofNat d) i).an Tryz.f39.ntmps)∨(e=.ret/\aB (jv dd d) 0=false/\q=(mE (jv dd d)).an Tryz.f39.ntmps))
   ((qJ (cC p sl e1 (.slice (aO dd))) (Int.ofNat d) 0).an Tryz.f39.ntmps):=by
 have hlen:(aO dd).length=dd.length:=eg dd;refine cH (St:=fun k=>(qJ (cC p sl e1 (.slice (aO dd))) (Int.ofNat d) (Int.ofNat k)).an Tryz.f39.ntmps) (fun k=>jv dd d=jv (dd.drop k) d) dd.length ?_ ?_ (i:=0) (Nat.zero_le _) rfl
 ·intro k hk hI;have hg:dd[k]?=some dd[k]:=List.getElem?_eq_getElem hk;have hm:dd[k]∈dd:=List.getElem_mem hk;generalize dd[k]=l at hg hm;rw[B8 hg] at hI;have hw:ap .i64 (Int.ofNat k+1)=Int.ofNat (k+1):=ba (by omega);have hF:=@NY p sl e1 d _ _ _ (hl l hm) hg (hv l hm);refine acK (bc (by rw[hlen];exact hk)) hF ?_ ?_
  ·intro h;rw[hw];refine⟨rfl,?_⟩;rw[hI,h];rfl
  intro h;rw[h] at hI
  have:jv dd d=tF l d:=hI
  rw[this];exact .inr ⟨rfl,h,rfl⟩
 intro hI;rw[List.drop_length] at hI;have h1:aB (jv dd d) 0=true:=by rw[hI,jv];rfl
 exact aaf (bW (by rw[hlen];omega)) (.inl ⟨rfl,h1,_,rfl⟩)
theorem Ey (op:Int):(jM (dI op)).fin=(aB op 12||(aB op 16||aB op 19)):=by
 by_cases h12:op=12
 ·subst h12;rfl
 by_cases h16:op=16
 ·subst h16;rfl
 by_cases h19:op=19
 ·subst h19;rfl
 rw[Ju h12 h16 h19,dj h12,dj h16,dj h19];rfl
theorem CQ {pa sl:Int} {iz ez:Bool} {ins:List Ins} {cT:List (List fJ)} {d:Nat} (hx:∀x∈ins,x.gO) (hn:ins.length < 1000000) (hne:cT.length < 1000000) (hl:∀l∈cT,l.length < 1000000)
  (hv:d<=40->∀l∈cT,∀e∈l,YW d e) :
  ae 39 [.dat (jC.enc (.mk pa sl iz ins ez cT)),iv (Int.ofNat d)] (iv (jC.val (.mk pa sl iz ins ez cT) d)):=by
 have h1:Int.ofNat (encI ins).length=Int.ofNat ins.length:=by rw[bP]
 have h2:Int.ofNat (aO cT).length=Int.ofNat cT.length:=by rw[eg]
 have e0:jC.enc (.mk pa sl iz ins ez cT)=aP pa sl (sx iz (encI ins)) (sx ez (aO cT)):=rfl;rw[e0,jC.ub]
 rcases jh iz (encI ins) with hi|⟨hi,hi0⟩
 ·rw[hi];have hlI:=@NX pa sl (Int.ofNat d) _ ez (aO cT) hx hn;rw[h2] at hlI;have hidx:∀c8:Bool,aB (Int.ofNat ins.length) 0=c8->∃(op:Int) (lc:List al),(c8=false->aq (env ak.aC) 23 [.dat (.slice (encI ins)),.dat (.flat (.int .i64 (ap .i64 (Int.ofNat (encI ins).length - 1))))]=some ⟨.ref (i64 op::lc),.keep⟩)/\jV ins=(aB op 12||(aB op 16||aB op 19)):=by
   intro c8 hc
   cases c8
   ·have hp:0 < ins.length:=by
     rcases Nat.eq_zero_or_pos ins.length with h|h
     ·rw[h] at hc;simp[ct] at hc
     exact h
    have hg:ins[ins.length - 1]?=some ins[ins.length - 1]:=List.getElem?_eq_getElem (by omega);have hw:ap .i64 (Int.ofNat (encI ins).length - 1)=Int.ofNat (ins.length - 1):=by
     rw[h1,cF,show Int.ofNat ins.length - 1=Int.ofNat (ins.length - 1) by simp;omega];exact wrap_i64 (by show _<=((ins.length - 1:Nat):Int);omega) (by show ((ins.length - 1:Nat):Int)<=_;omega)
    have hf:jV ins=(jM (dI ins[ins.length - 1].op)).fin:=by unfold jV;rw[hg]
    generalize ins[ins.length - 1]=x at hg hf;have hi2:=tm hg;rw[←hw] at hi2;obtain⟨op,dst,a,b',im,nm,az,ar,⟨xk,tn,ix,la⟩,ck,ci,cs⟩:=x;exact⟨op,_,fun _=>hi2,hf.trans (Ey op)⟩
   have:ins=[]:=by
    cases ins with
    | nil=>rfl
    | cons a r=>exact absurd hc (by simp[ct];omega)
   subst this;exact⟨0,[],fun h=>by simp at h,rfl⟩
  obtain⟨op,lc,hop,hfin⟩:=hidx _ rfl;have hfr:∀ok:Bool,ins.all (fun x=>ig (Int.ofNat ins.length) (Int.ofNat cT.length) sl x)=ok->(ok=true->ae 71 [.dat (aP pa sl (.slice (encI ins)) (sx ez (aO cT)))] (bv (lm ins))):=by
   intro ok h1 h2;rw[h2] at h1;exact Oa (dH ez (aO cT)) (zd h1) hn
  have hz:∀v:Int,(if aB v 0=true then (0:Int) else v)=v:=by
   intro v
   split
   ·rename_i h;rw[ct] at h;simpa using (beq_iff_eq.1 h).symm
   rfl
  rcases jh ez (aO cT) with he|⟨he,he0⟩
  ·rw[he] at hlI hfr ⊢;have hE:=fun hc:aH 40 (Int.ofNat d)=false=>@NZ pa sl (.slice (encI ins)) d _ hne hl (hv (Fu hc))
   have:=Z9 (p:=pa) (sl:=sl) (d:=Int.ofNat d) (es:=encI ins) (dd:=aO cT) rfl rfl rfl rfl rfl (by rw[h1]) (by rw[h2]) (by rw[h1]) (fun _=>hlI) hop rfl rfl rfl (hfr _ rfl) hE
   rw[hz,←hfin] at this;exact this
  rw[he] at hlI hfr ⊢;have hed:cT=[]:=by
   cases cT with
   | nil=>rfl
   | cons a r=>simp[aO] at he0
  subst hed;have hE2:KD (.loop (roundOf Tryz.f39 1)) (fun e q=>(e=.exit 2/\true=true/\∃i,q=(uq (cC pa sl (.slice (encI ins)) nl) (Int.ofNat d) i).an Tryz.f39.ntmps)∨(e=.ret/\true=false/\q=(mE 0).an Tryz.f39.ntmps)) ((qJ (cC pa sl (.slice (encI ins)) nl) (Int.ofNat d) 0).an Tryz.f39.ntmps):=by
   refine aZ (St:=fun _=>(qJ (cC pa sl (.slice (encI ins)) nl) (Int.ofNat d) 0).an Tryz.f39.ntmps) 0 (fun i hi=>absurd hi (by omega)) ?_ (i:=0) (Nat.le_refl _);exact aag (.inl ⟨rfl,rfl,_,rfl⟩)
  have:=@aaa pa sl (Int.ofNat d) (encI ins) [] _ _ _ true _ _ _ _ _ _ _ _ _ _ _ rfl rfl rfl rfl rfl (by rw[h1]) (by rw[h1]) (fun _=>hlI) _ _ hop rfl rfl rfl (hfr _ rfl) (fun _=>hE2)
  rw[←hfin] at this;exact this
 rw[hi];have hins:ins=[]:=by
  cases ins with
  | nil=>rfl
  | cons a r=>simp[encI] at hi0
 subst hins;have hh:∀c4:Bool,aH 2000 (Int.ofNat cT.length)=c4->wh d pa sl [] cT.length (jv cT d)=kP (aH 40 (Int.ofNat d)) (aH 200 sl) false c4 (aH pa 0) (aH 6 pa) (aH sl pa) true false false false 0:=by
  intro c4 h;subst h;unfold wh kP;have e1:aB (Int.ofNat ([]:List Ins).length) 0=true:=rfl;have e2:aH 2000 (Int.ofNat ([]:List Ins).length)=false:=rfl;rw[e1,e2];simp only[Bool.or_true,if_true]
 rw[hh _ rfl]
 rcases jh ez (aO cT) with he|⟨he,he0⟩
 ·rw[he]
  have:=@aab pa sl (Int.ofNat d) [] (aO cT) _ _ true _ _ _ _ true true true true true true true 0 rfl rfl rfl rfl rfl rfl
  rw[h2] at this;exact this
 rw[he];have hed:cT=[]:=by
  cases cT with
  | nil=>rfl
  | cons a r=>simp[aO] at he0
 subst hed;exact @aac pa sl (Int.ofNat d) [] [] _ _ true true _ _ _ true true true true true true true 0 rfl rfl rfl rfl rfl
mutual
theorem sy:∀(c:jC) (d:Nat),c.ok->d<=41->ae 39 [.dat c.enc,iv (Int.ofNat d)] (iv (c.val d))
 | .mk pa sl iz ins ez cT,d,h,hd=>by
  simp only[jC.ok] at h;obtain⟨h1,h2,h3,h4⟩:=h;exact CQ h1 h2 h3 (fun l hl=>(ze h4 l hl).1) (fun hd2=>EQ cT d h4 hd2)
theorem EQ:∀(l:List (List fJ)) (d:Nat),uN l->d<=40->∀x∈l,∀e∈x,YW d e
 | [],_,_,_,x,hx,_,_=>by simp at hx
 | a::r,d,h,hd,x,hx,e,he=>by
  simp only[uN] at h
  rcases List.mem_cons.1 hx with hx|hx
  ·rw[hx] at he;exact JE a d h.2.1 hd e he
  exact EQ r d h.2.2 hd x hx e he
theorem JE:∀(l:List fJ) (d:Nat),UL l->d<=40->∀e∈l,YW d e
 | [],_,_,_,e,he=>by simp at he
 | a::r,d,h,hd,e,he=>by
  simp only[UL] at h
  rcases List.mem_cons.1 he with he|he
  ·rw[he];exact Sm a d h.1 hd
  exact JE r d h.2 hd e he
theorem Sm:∀(e:fJ) (d:Nat),e.ok->d<=40->YW d e
 | .mk ek dc fu sg pa c pk,d,h,hd=>by
  simp only[fJ.ok] at h;intro d1 hd1;have hw:ap .i64 (Int.ofNat d+1)=Int.ofNat (d+1):=ba (by omega);rw[hd1,hw];exact sy c (d+1) h.2.2 (by omega)
end
theorem ab9 {p s v:Int} {d1 d2:al} (g1:cV d1) (g2:cV d2) (h:ae 38 [.dat (aP p s d1 d2),iv 1] (iv v)):ae 13 [.dat (aP p s d1 d2)] (iv v):=by
 have q1:=aS (p:=p) (s:=s) g1 g2;have q3:=aN false 1 (p:=p) (s:=s) g1 g2;clear g1 g2;refine co [] [1,3] (x:=.of Tryz.f13 O6 PL) ?_;refine oo q1 ?_;refine oo q3 ?_;refine on h ?_;exact fi
theorem aai {p s v:Int} {d1 d2:al} (g1:cV d1) (g2:cV d2) (h:ae 39 [.dat (aP p s d1 d2),iv 1] (iv v)):ae 14 [.dat (aP p s d1 d2)] (iv v):=by
 have q1:=aS (p:=p) (s:=s) g1 g2;have q3:=aN false 1 (p:=p) (s:=s) g1 g2;clear g1 g2;refine co [] [1,3] (x:=.of Tryz.f14 OZ PK) ?_;refine oo q1 ?_;refine oo q3 ?_;refine on h ?_;exact fi
theorem ZE {p s i:Int} {es:List al} {d2:al} {ls:List al} (g2:cV d2) (h0:aH i 0=false) (h1:aH i (Int.ofNat es.length)=true) (h:ae 40 [.dat (aP p s (.slice es) d2),iv i] (.dat (sl ls))):ae 16 [.dat (aP p s (.slice es) d2),iv i] (.dat (sl ls)):=by
 have q1:=@aS p s (.slice es) _ (.inr ⟨_,rfl⟩) g2;have q3:=@aN false 2 p s (.slice es) _ (.inr ⟨_,rfl⟩) g2;clear g2
 rcases ls with _|⟨x,y⟩ <;>
 ·refine co [6,12] [2,14] (x:=.of Tryz.f16 OR PJ) ?_;refine oo q1 ?_;refine ob h0 ?_;refine ox h1 ?_;refine oo q3 ?_;refine on h ?_;exact fi
theorem KJ:ae 12 [] (bv true):=dm _ _ _ _ _ (by kernel_rfl)
theorem DR {p s:Int} {ins:List Ins} {d2:al} {i:Nat} {x:Ins} (g2:cV d2) (hx:ins[i]?=some x) (hn:ins.length < 1000000000) :
  ae 16 [.dat (aP p s (.slice (encI ins)) d2),iv (Int.ofNat i)] (.dat (sl ((gV ins.length x.op x.im i).map iN))):=by
 have hil:i < ins.length:=(List.getElem?_eq_some_iff.1 hx).1;exact ZE g2 (by rw[cW];simp) (bc (by rw[bP];exact hil)) (IZ g2 hx hn)
theorem Ix {c1 c2 c3 c4 c5 c6 c7 c8 ok fin tr:Bool} {rest:Int} (h:kP c1 c2 c3 c4 c5 c6 c7 c8 ok fin tr rest=0):ok=true/\fin=true:=by
 unfold kP at h
 split at h
 ·simp at h
 split at h
 ·simp at h
 split at h
 ·simp at h
 rename_i hok
 split at h
 ·simp at h
 rename_i hf
 cases ok <;> cases fin <;> simp_all
theorem zC {f:List Bool} {i:Nat} {b:Bool} (h:f[i]?=some b):aq (env ak.aC) 35 [.dat (.slice (f.map bl)),iv (Int.ofNat i)]=some ⟨.ref [bl b],.keep⟩:=
 lO (d:=bl b) Jk rfl (by rw[List.getElem?_map,h];rfl) (by rw[pY];rfl) (by rw[pY];decide)
theorem Po {ins:List Ins} {i:Nat} {x:Ins} (hx:ins[i]?=some x) (hf:jV ins=true) (h:gV ins.length x.op x.im i=[]):(aB x.op 16||aB x.op 19)=true:=by
 have hil:i < ins.length:=(List.getElem?_eq_some_iff.1 hx).1;have hfin:(jM (dI x.op)).fin=true:=by
  cases hq:(jM (dI x.op)).fin with
  | true=>rfl
  | false=>
   exfalso
   by_cases hlt:i+1 < ins.length
   ·unfold gV at h;rw[hq,decide_eq_true hlt] at h;simp only[Bool.not_false,Bool.true_and] at h
    cases hB:((jM (dI x.op)).cond||aB x.op 12) with
    | true=>rw[hB] at h;exact sc _ _ h
    | false=>rw[hB] at h;simp at h
   have:i=ins.length - 1:=by omega
   subst this;unfold jV at hf;rw[hx] at hf;have hf2:(jM (dI x.op)).fin=true:=hf;rw[hf2] at hq;simp at hq
 rw[Ey] at hfin
 by_cases h12:x.op=12
 ·exfalso
  unfold gV at h;have hB:((jM (dI x.op)).cond||aB x.op 12)=true:=by rw[h12];rfl
  rw[hB] at h
  split at h <;> simp_all [sc]
 rw[dj h12,Bool.false_or] at hfin;exact hfin
theorem Mf {n:Nat} {op im:Int} {i:Nat} (h:gV n op im i≠[]):aB op 16=false/\aB op 19=false:=by
 constructor
 ·by_cases h16:op=16
  ·subst h16;exact absurd rfl h
  exact dj h16
 by_cases h19:op=19
 ·subst h19;exact absurd rfl h
 exact dj h19
theorem WG {l:List Int} (hl:l.length < 10000000):ae 4 [.dat (.slice (l.map iN))] (bv true):=by
 obtain⟨c,k2,hg,_,hc⟩:=Tw hl 0 (Nat.zero_le _);obtain⟨pa,s,iz,ins,ez,cT⟩:=c;obtain⟨hok,hez,hiz,_,⟨hl2,hl10⟩,_⟩:=hg;have hez:ez=false:=hez;have hiz:iz=false:=hiz;subst hez hiz;have hl2:2<=ins.length:=hl2;have hl10:ins.length<=10:=hl10;have hV:=tK _ 1 hok (by omega);have hR:=sy _ 1 hok (by omega);have hce:jC.enc (.mk pa s false ins false cT)=aP pa s (.slice (encI ins)) (sl (aO cT)):=by
  have hne:encI ins≠[]:=by
   intro h
   have:=congrArg List.length h
   rw[bP] at this
   have:ins.length=0:=this
   omega
  show aP _ _ (sx false (encI ins)) (sx false (aO cT))=_;rw[Ed (aO cT)];generalize encI ins=q at hne
  cases q with
  | nil=>exact absurd rfl hne
  | cons a r=>rfl
 rw[hce] at hV hR hc;have g2:=dz (aO cT);have hV1:=ab9 (.inr ⟨_,rfl⟩) g2 hV;have hR1:=aai (.inr ⟨_,rfl⟩) g2 hR;rw[jC.ub] at hV1 hR1
 cases hv:aB (wh 1 pa s ins cT.length (jv cT 1)) 0 with
 | false=>exact Tc g2 hc KJ hV1 hR1 hv
 | true=>
  have hv0:wh 1 pa s ins cT.length (jv cT 1)=0:=by rw[ct] at hv;simpa using hv
  rw[hv0] at hV1;obtain⟨hall,hfin⟩:=Ix hv0;have hoi:=zd hall;have hlen:(encI ins).length=ins.length:=bP ins;have hrl:(dA (bJ ins)).length=ins.length:=ry _;have hRe:=Gt g2 hoi (by omega) (by omega) hV1;have hget:∀i,i < ins.length->(dA (bJ ins))[i]?=some ((dA (bJ ins)).getD i false):=by
   intro i hi;rw[List.getD_eq_getElem?_getD,List.getElem?_eq_getElem (by omega)];rfl
  have h0t:(dA (bJ ins)).getD 0 false=true:=(nj (bJ ins) (by show 0 < ins.length;omega)).2 .zero;have hi0:=zC (hget 0 (by omega));rw[h0t] at hi0;refine PS g2 hc KJ hV1 hRe (by rw[List.length_map,hrl,hlen,eB]) hi0 ?_;refine aZ (St:=fun i=>(Ha (cC pa s (.slice (encI ins)) (sl (aO cT))) (db (l.map iN) (Int.ofNat k2)) (.slice ((dA (bJ ins)).map bl)) (Int.ofNat i)).an Tryz.f4.ntmps) ins.length ?_ ?_ (i:=0) (Nat.zero_le _)
  ·intro i hi;have hx:ins[i]?=some ins[i]:=List.getElem?_eq_getElem hi;generalize ins[i]=x at hx;have hS:=DR (p:=pa) (s:=s) g2 hx (by omega);have hse:=rY hoi hx;have hidx:=tm hx;have hne:=fun h=>Po hx hfin h
   have hng:=fun h=>@Mf ins.length x.op x.im i h
   rw[←hse] at hS hne hng;have hw:ap .i64 (Int.ofNat i+1)=Int.ofNat (i+1):=ba (by omega);have hlt:∀j∈fO ins i,j < ins.length:=(bJ ins).lt i hi;have hstep:∀j∈fO ins i,(dA (bJ ins)).getD i false=true->(dA (bJ ins)).getD j false=true:=by
    intro j hj hr;exact (nj (bJ ins) (hlt j hj)).2 (.step hi ((nj (bJ ins) hi).1 hr) hj)
   have hsl2:=kh ins i;generalize fO ins i=ls at *;obtain⟨op,dst,a,b,im,nm,az,ar,⟨xk,tn,ix,la⟩,ck,ci,cs⟩:=x
   cases ls with
   | nil=>
    refine aaA g2 (bc (by rw[hlen];exact hi)) hS hidx rfl rfl ?_ ?_ ?_
    ·refine aZ (St:=fun _=>(Ej (cC pa s (.slice (encI ins)) (sl (aO cT))) (db (l.map iN) (Int.ofNat k2)) (.slice ((dA (bJ ins)).map bl)) (Int.ofNat i) nl 0).an Tryz.f4.ntmps) 0 (fun i hi=>absurd hi (by omega)) ?_ (i:=0) (Nat.le_refl _);exact aay ⟨rfl,_,rfl⟩
    ·intro _;rw[hw];exact rfl
    intro h
    have:=hne rfl
    rw[show (aB op 16||aB op 19)=false from h] at this;simp at this
   | cons j0 l0=>
    obtain⟨h16,h19⟩:=hng (by simp);generalize hls:j0::l0=ls at *;have hlm:((ls.map Int.ofNat).map iN).length=ls.length:=by rw[List.length_map,List.length_map]
    have hdl:sl ((ls.map Int.ofNat).map iN)=.slice ((ls.map Int.ofNat).map iN):=by rw[←hls];rfl
    rw[hdl] at hS;have hlp:0 < ls.length:=by rw[←hls];simp
    refine acN g2 (bc (by rw[hlen];exact hi)) hS hidx h16 h19 (dj (by intro h;have:=Int.ofNat.inj (h.trans (show (0:Int)=Int.ofNat 0 from rfl));omega)) ?_ ?_
    ·refine aZ (St:=fun k=>(Ej (cC pa s (.slice (encI ins)) (sl (aO cT))) (db (l.map iN) (Int.ofNat k2)) (.slice ((dA (bJ ins)).map bl)) (Int.ofNat i) (.slice ((ls.map Int.ofNat).map iN)) (Int.ofNat k)).an Tryz.f4.ntmps) ls.length ?_ ?_ (i:=0) (Nat.zero_le _)
     ·intro k hk;have hgk:ls[k]?=some ls[k]:=List.getElem?_eq_getElem hk;have hm:=List.getElem_mem hk;generalize ls[k]=j at hgk hm;have hgk2:(ls.map Int.ofNat)[k]?=some (Int.ofNat j):=by rw[List.getElem?_map,hgk];rfl
      have hwk:ap .i64 (Int.ofNat k+1)=Int.ofNat (k+1):=ba (by omega);refine acM (bc (by rw[hlm];exact hk)) (uY hgk2) (by rw[cW];simp) (bc (by rw[List.length_map,hrl];exact hlt j hm)) (zC (hget i hi)) (zC (hget j (hlt j hm))) ?_ ?_
      ·intro _;rw[hwk];exact rfl
      intro h;simp only[Bool.and_eq_true,Bool.not_eq_true'] at h
      have:=hstep j hm h.1
      rw[h.2] at this;simp at this
     exact aax (bW (by rw[hlm];omega)) ⟨rfl,_,rfl⟩
    rw[hw];exact rfl
  exact aaz (bW (by rw[hlen];omega)) ⟨rfl,_,rfl⟩
end Go.Proofs.YtmpmgmmcaghacaaGreatDoor
