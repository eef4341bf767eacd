/- IrClosed returns true and changes nothing, for arguments of bulk at most 1048576 (the card of the second form; conditions: those of the given row). Names are shortened by a program, for the claim's bound. Part 6. -/
import Derived.Test.YtmpmgmmcaghacaaGreatDoorQ05
set_option linter.unusedVariables false
set_option linter.unusedSimpArgs false
set_option maxRecDepth 100000
set_option maxHeartbeats 4000000
namespace Go.Proofs.YtmpmgmmcaghacaaGreatDoor
open Go.Tp
mutual
def Ty.from (P:List UInt8->Nat->Prop):Ty->Prop
 | .mk k nm _ args=>(k=2->P nm args.length)/\kS P args
def kS (P:List UInt8->Nat->Prop):List Ty->Prop
 | []=>True
 | t::r=>t.from P/\kS P r
end
theorem FL {P:List UInt8->Nat->Prop}:∀{l:List Ty},(∀t∈l,t.from P)->kS P l
 | [],_=>trivial
 | t::r,h=>⟨h t (by simp),FL (fun x hx=>h x (by simp[hx]))⟩
theorem zy:∀{l:List Ty},(∀t∈l,t.gJ)->eO l
 | [],_=>by simp[eO]
 | t::r,h=>by simp only[eO];exact⟨h t (by simp),zy (fun x hx=>h x (by simp[hx]))⟩
structure GT (P:List UInt8->Nat->Prop) (N:Nat) (t:Ty) (k k2:Nat):Prop where
 size:t.size+4*k<=4*k2+1
 ix:t.gJ
 frm:t.from P
 le:k<=k2
 top:k2<=N
def GR (l:List Int) (P:List UInt8->Nat->Prop) (g:FuncId) (args:List ac) (k:Nat):Prop:=∃t k2,GT P l.length t k k2/\KC g args (db (l.map iN) (Int.ofNat k)) 1 (XQ ⟨.dat t.enc,db (l.map iN) (Int.ofNat k2),1⟩)
theorem IW {l:List Int} {P:List UInt8->Nat->Prop} {g:FuncId} {args:List ac} {k:Nat} (hk:k<=l.length) (h:∀k',k<=k'->k'<=l.length->GR l P g args k'):∀n:Nat,∃(ts:List Ty) (ks:Nat->Nat),ts.length=n/\ks 0=k/\k<=ks n/\ks n<=l.length/\aT ts+4*k<=4*ks n+n/\eO ts/\kS P ts ∧
  ∀i t,ts[i]?=some t->KC g args (db (l.map iN) (Int.ofNat (ks i))) 1 (XQ ⟨.dat t.enc,db (l.map iN) (Int.ofNat (ks (i+1))),1⟩)
 | 0=>⟨[],fun _=>k,rfl,rfl,Nat.le_refl _,hk,by simp[aT],by simp[eO],trivial,fun i t h=>by simp at h⟩
 | n+1=>by
  obtain⟨ts,ks,h1,h2,h3,h4,h5,h6,h7,h8⟩:=IW hk h n;obtain⟨t,k2,ht,hc⟩:=h (ks n) h3 h4;have hsz:aT (ts++[t])=aT ts+t.size:=by
   have:=@kC (ts++[t]) n t (by rw[←h1];simp)
   rw[show (ts++[t]).take (n+1)=ts++[t] from List.take_of_length_le (by simp;omega),show (ts++[t]).take n=ts by rw[←h1];simp] at this;exact this
  have hmem:∀{Q:Ty->Prop},(∀x∈ts,Q x)->Q t->∀x∈ts++[t],Q x:=by
   intro Q ha hb x hx
   rcases List.mem_append.1 hx with hx|hx
   ·exact ha x hx
   simp at hx;rw[hx];exact hb
  have hto1:∀{l:List Ty},eO l->∀x∈l,x.gJ:=by
   intro l
   induction l with
   | nil=>intro _ x hx;simp at hx
   | cons a r ih=>intro h x hx;simp only[eO] at h;rcases List.mem_cons.1 hx with rfl|hx;exact h.1;exact ih h.2 x hx
  have hto2:∀{l:List Ty},kS P l->∀x∈l,x.from P:=by
   intro l
   induction l with
   | nil=>intro _ x hx;simp at hx
   | cons a r ih=>intro h x hx;simp only[kS] at h;rcases List.mem_cons.1 hx with rfl|hx;exact h.1;exact ih h.2 x hx
  refine⟨ts++[t],fun i=>if i<=n then ks i else k2,by simp[h1],by simp[h2],?_,?_,?_,zy (hmem (hto1 h6) ht.ix),FL (hmem (hto2 h7) ht.frm),?_⟩
  ·have:=ht.le;dsimp only;rw[if_neg (by omega:¬n+1<=n)];omega
  ·have:=ht.top;dsimp only;rw[if_neg (by omega:¬n+1<=n)];omega
  ·have:=ht.size;dsimp only;rw[if_neg (by omega:¬n+1<=n),hsz];omega
  intro i u hu
  by_cases hi:i < n
  ·rw[List.getElem?_append_left (by omega)] at hu;dsimp only;rw[if_pos (by omega:i<=n),if_pos (by omega:i+1<=n)];exact h8 i u hu
  have hin:i=n:=by
   have:=(List.getElem?_eq_some_iff.1 hu).1
   simp at this;omega
  subst hin;rw[List.getElem?_append_right (by omega),h1,Nat.sub_self] at hu;simp at hu;subst hu;dsimp only;rw[if_pos (Nat.le_refl _),if_neg (by omega:¬i+1<=i)];exact hc
theorem jE {a b:Nat} (h:a < b):aH (Int.ofNat a) (Int.ofNat b)=true:=by rw[gI,decide_eq_true h]
theorem me {a b:Nat} (h:¬a < b):aH (Int.ofNat a) (Int.ofNat b)=false:=by rw[gI,decide_eq_false h]
theorem Hz {dp:Int} (h:0 < dp):aH 0 dp=true:=by rw[cW,decide_eq_true h]
theorem Pq {dp:Int} (h:¬0 < dp):aH 0 dp=false:=by rw[cW,decide_eq_false h]
theorem mz {dp:Int} (h1:0<=dp) (h2:dp<=100):ap .i64 (dp - 1)=dp - 1:=by rw[cF,wrap_i64 (by omega) (by omega)]
theorem Ta (i:Nat) (h:i < 4):∃b,kM[i]?=some b/\b∈kM:=⟨kM[i],List.getElem?_eq_getElem h,List.getElem_mem h⟩
theorem zp {i:Nat} (h:i < 4):∃b,b∈kM/\aq (env ak.aC) 70 [.dat (.slice (encS kM)),.dat (.flat (.int .i64 (Int.ofNat i)))]=some ⟨.ref [sb b],.keep⟩:=by
 obtain⟨b,hb,hm⟩:=Ta i h;exact⟨b,hm,A0 hb⟩
theorem nH {P:List UInt8->Nat->Prop} {N k k2:Nat} {b:List UInt8} (hP:P b 0) (h1:k<=k2) (h2:k2<=N):GT P N (.mk 2 b 0 []) k k2:=
 ⟨by simp[Ty.size,aT];omega,by simp[Ty.gJ,eO,aB],by simp[Ty.from,kS];exact hP,h1,h2⟩
theorem zG {P:List UInt8->Nat->Prop} {N k k2 i:Nat} (hi:i < 100) (h1:k<=k2) (h2:k2<=N):GT P N (.mk 5 [] (Int.ofNat i) []) k k2:=
 ⟨by simp[Ty.size,aT];omega,by simp only[Ty.gJ,eO];exact⟨fun _=>jE (b:=9223372036854775808) (Nat.lt_of_lt_of_le hi (by decide)),trivial⟩,by simp[Ty.from,kS],h1,h2⟩
section
variable {l:List Int} {ds:List tW} {P:List UInt8->Nat->Prop} (hl:l.length < 10000000) (hds:ds.length < 1000) (har:∀d∈ds,∃n:Nat,d.ar=Int.ofNat n/\n<=4/\P d.nm n) (hP0:∀b∈kM,P b 0) (hPB:P [66,111,120] 1)
def aA (ds:List tW) (dp:Int) (v:Nat):List ac:=[dy,.dat (.slice (lg ds)),iv dp,iv (Int.ofNat v)]
include hl hds har hP0
theorem Fg {k:Nat} (hk:k<=l.length) {dp:Int} {v:Nat} (h0:0<=dp) (h3:dp<=3) (ih:∀k',k < k'->k'<=l.length->GR l P 173 (aA ds (dp - 1) v) k'):GR l P 137 (aA ds dp v) k:=by
 have hw:ap .i64 (Int.ofNat (lg ds).length+4)=Int.ofNat (ds.length+4):=by
  rw[F9,cF];exact wrap_i64 (by simp;omega) (by simp;omega)
 obtain⟨r,k2,⟨hr,hk2,hk3,hk4⟩,hc⟩:=bq (n:=ds.length+4) (by omega:l.length < 1000000000) hk (by omega) (by omega);rw[←hw] at hc
 by_cases h4:r < 4
 ·obtain⟨b,hb,hi⟩:=zp h4;exact⟨_,k2,nH (hP0 b hb) hk2 hk3,Ps hc (jE h4) hi⟩
 have hlt:r - 4 < ds.length:=by omega
 have hg:ds[r - 4]?=some ds[r - 4]:=List.getElem?_eq_getElem hlt;obtain⟨n,hn,hn4,hPn⟩:=har _ (List.getElem_mem hlt);have hkk:=hk4 (by omega);obtain⟨ts,ks,c1,c2,c3,c4,c5,c6,c7,c8⟩:=@IW _ P 173 (aA ds (dp - 1) v) _ hk3 (fun k' hk' hkl=>ih k' (by omega) hkl) n;have hi:=UQ hg;have hw2:Int.ofNat (r - 4)=ap .i64 (Int.ofNat r - 4):=by
  rw[cF,wrap_i64 (by simp;omega) (by simp;omega)];simp;omega
 rw[hw2] at hi;generalize ds[r - 4]=d at *;obtain⟨nm,ar,⟨kk,tn,ix,la⟩,con,fl⟩:=d;dsimp only at hn hPn;subst hn;refine⟨.mk 2 nm 0 ts,ks n,⟨by simp only[Ty.size];omega,by simp only[Ty.gJ];exact⟨by simp[aB],c6⟩,by simp only[Ty.from];exact⟨fun _=>by rw[c1];exact hPn,c7⟩,by omega,c4⟩,?_⟩;refine Pt (la:=ax la) (lb:=DD fl) (ie:=Int.ofNat n) hc (me h4) hi ?_;rw[←c2];refine aZ (St:=fun i=>(Nd (Wp (Ic (cellsD nm (Int.ofNat n) kk tn ix (ax la) con (DD fl))) nm (ts.take i)) (l.map iN) (lg ds) dp (Int.ofNat v) (Int.ofNat (ks i)) (Int.ofNat i)).an Tryz.f137.ntmps) n ?_ ?_ (i:=0) (Nat.zero_le _)
 ·intro i hi2;have hti:ts[i]?=some ts[i]:=List.getElem?_eq_getElem (by omega);have hci:=c8 i _ hti;have hwp:dp - 1=ap .i64 (dp - 1):=(mz h0 (by omega)).symm;unfold aA at hci;rw[hwp] at hci;refine Pn (jE hi2) hci (by rw[List.length_take];omega) ?_;rw[ba (by omega),←Ec hti];exact rfl
 refine Sy (me (by omega)) ⟨rfl,?_⟩;rw[List.take_of_length_le (by omega)]
omit hds har in
theorem Rg {k:Nat} (hk:k<=l.length) {dp:Int} {v:Nat} (h0:-1<=dp) (h3:dp<=3) (hv:v < 100) (ihn:0 < dp->∀k',k<=k'->k'<=l.length->GR l P 137 (aA ds dp v) k') (iht:0 < dp->∀k',k < k'->k'<=l.length->GR l P 94 (aA ds (dp - 1) 0) k'):GR l P 173 (aA ds dp v) k:=by
 obtain⟨r,k2,⟨hr,hk2,hk3,hk4⟩,hc⟩:=bq (n:=6) (by omega:l.length < 1000000000) hk (by omega) (by omega)
 by_cases hv0:r < 2/\0 < v
 ·obtain⟨i,k3,⟨hi,hk5,hk6,hk7⟩,hc2⟩:=bq (n:=v) (by omega:l.length < 1000000000) hk3 hv0.2 (by omega);exact⟨_,k3,zG (by omega) (by omega) hk6,T1 hc (jE hv0.1) (jE (a:=0) hv0.2) hc2⟩
 have hcc:aH (Int.ofNat r) (Int.ofNat 2)=true->aH (Int.ofNat 0) (Int.ofNat v)=false:=by
  intro h;rw[gI,decide_eq_true_eq] at h;exact me (by omega)
 by_cases hdp:0 < dp
 ·by_cases hr4:r < 4
  ·obtain⟨t,k3,ht,hct⟩:=ihn hdp k2 hk2 hk3;refine⟨t,k3,⟨?_,ht.ix,ht.frm,?_,ht.top⟩,Ms hc rfl rfl hcc (Hz hdp) (jE hr4) hct⟩
   ·have:=ht.size;omega
   have:=ht.le;omega
  obtain⟨t,k3,ht,hct⟩:=iht hdp k2 (hk4 (by omega)) hk3;unfold aA at hct;rw[←mz (by omega:0<=dp) (by omega)] at hct;refine⟨t,k3,⟨?_,ht.ix,ht.frm,?_,ht.top⟩,Rf hc (me (b:=2) (by omega)) (Hz hdp) (me hr4) hct⟩
  ·have:=ht.size;omega
  have:=ht.le;omega
 obtain⟨i,k3,⟨hi,hk5,hk6,hk7⟩,hc2⟩:=bq (n:=4) (by omega:l.length < 1000000000) hk3 (by omega) (by omega);obtain⟨b,hb,hix⟩:=zp hi;exact⟨_,k3,nH (hP0 b hb) (by omega) hk6,Rh hc rfl rfl hcc (Pq hdp) hc2 hix⟩
omit hds har in
include hPB in
theorem Jl {k:Nat} (hk:k<=l.length) {dp:Int} {v:Nat} (h0:0<=dp) (h3:dp<=3) (hv:v+dp<=10) (ihn:∀k',k < k'->k'<=l.length->GR l P 137 (aA ds dp v) k')
  (iht:∀k',k < k'->k'<=l.length->∀(dp:Int) (v:Nat),0<=dp->dp<=3->v+dp<=10->GR l P 94 (aA ds dp v) k'):GR l P 94 (aA ds dp v) k:=by
 obtain⟨r,k2,⟨hr,hk2,hk3,hk4⟩,hc⟩:=bq (n:=14) (by omega:l.length < 1000000000) hk (by omega) (by omega);have leaf:∃i k3 b,(k2<=k3/\k3<=l.length/\P b 0)/\dF (l.map iN) (Int.ofNat k2) 4 (Int.ofNat i) (Int.ofNat k3)/\aq (env ak.aC) 70 [.dat (.slice (encS kM)),.dat (.flat (.int .i64 (Int.ofNat i)))]=some ⟨.ref [sb b],.keep⟩:=by
  obtain⟨i,k3,⟨hi,hk5,hk6,hk7⟩,hc2⟩:=bq (n:=4) (by omega:l.length < 1000000000) hk3 (by omega) (by omega);obtain⟨b,hb,hix⟩:=zp hi;exact⟨i,k3,b,⟨hk5,hk6,hP0 b hb⟩,hc2,hix⟩
 have hnam:∀{c:Nat},0 < r->∃t k3,GT P l.length t k k3/\vL (l.map iN) (lg ds) dp (Int.ofNat v) (Int.ofNat k2) t.enc (Int.ofNat k3):=by
  intro c h;obtain⟨t,k3,ht,hct⟩:=ihn k2 (hk4 h) hk3;exact⟨t,k3,⟨by have:=ht.size;omega,ht.ix,ht.frm,by have:=ht.le;omega,ht.top⟩,hct⟩
 by_cases hdp:0 < dp
 ·have hd:=Hz hdp;have sub:∀(k':Nat),k < k'->k'<=l.length->∃t k3,GT P l.length t k' k3/\dW (l.map iN) (lg ds) (ap .i64 (dp - 1)) (Int.ofNat v) (Int.ofNat k') t.enc (Int.ofNat k3):=by
   intro k' h1 h2;obtain⟨t,k3,ht,hct⟩:=iht k' h1 h2 (dp - 1) v (by omega) (by omega) (by omega);rw[mz (by omega) (by omega)];exact⟨t,k3,ht,hct⟩
  have hcase:r=0∨r=1∨r=2∨r=3∨r=4∨r=5∨r=6∨r=7∨r=8∨r=9∨r=10∨r=11∨r=12∨r=13:=by omega
  have hun:0 < r->∃t u k3 k4,GT P l.length (.mk 4 [] 0 [t,u]) k k4/\dW (l.map iN) (lg ds) (ap .i64 (dp - 1)) (Int.ofNat v) (Int.ofNat k2) t.enc (Int.ofNat k3)/\dW (l.map iN) (lg ds) (ap .i64 (dp - 1)) (Int.ofNat v) (Int.ofNat k3) u.enc (Int.ofNat k4):=by
   intro h;have hkk:=hk4 h;obtain⟨t,k3,ht,hct⟩:=sub k2 hkk hk3;obtain⟨u,k4,hu,hcu⟩:=sub k3 (by have:=ht.le;omega) ht.top;refine⟨t,u,k3,k4,⟨?_,?_,?_,?_,hu.top⟩,hct,hcu⟩
   ·have:=ht.size;have:=hu.size;simp only[Ty.size,aT];omega
   ·simp only[Ty.gJ,eO];exact⟨by simp[aB],ht.ix,hu.ix,trivial⟩
   ·simp only[Ty.from,kS];exact⟨fun h=>by simp at h,ht.frm,hu.frm,trivial⟩
   have:=ht.le;have:=hu.le;omega
  have htup:0 < r->∃n k3 ts k4,dF (l.map iN) (Int.ofNat k2) 4 n (Int.ofNat k3)/\GT P l.length (.mk 3 [] 0 ts) k k4/\KD (.loop (roundOf Tryz.f94 0)) (fun e s=>e=.exit 1/\s=(Jp (l.map iN) (lg ds) dp (Int.ofNat v) n (Int.ofNat k4) n ts).an Tryz.f94.ntmps) ((G5 (l.map iN) (lg ds) dp (Int.ofNat v) n (Int.ofNat k3) 0 []).an Tryz.f94.ntmps):=by
   intro h;have hkk:=hk4 h;obtain⟨n,k3,⟨hn,hk5,hk6,hk7⟩,hc2⟩:=bq (n:=4) (by omega:l.length < 1000000000) hk3 (by omega) (by omega);obtain⟨ts,ks,c1,c2,c3,c4,c5,c6,c7,c8⟩:=@IW _ P 94 (aA ds (dp - 1) v) _ hk6 (fun k' h1 h2=>iht k' (by omega) h2 (dp - 1) v (by omega) (by omega) (by omega)) n;refine⟨_,k3,ts,ks n,hc2,⟨by simp only[Ty.size];omega,by simp only[Ty.gJ];exact⟨by simp[aB],c6⟩,by simp only[Ty.from];exact⟨fun h=>by simp at h,c7⟩,by omega,c4⟩,?_⟩;rw[←c2];refine aZ (St:=fun i=>(G5 (l.map iN) (lg ds) dp (Int.ofNat v) (Int.ofNat n) (Int.ofNat (ks i)) (Int.ofNat i) (ts.take i)).an Tryz.f94.ntmps) n ?_ ?_ (i:=0) (Nat.zero_le _)
   ·intro i hi2;have hti:ts[i]?=some ts[i]:=List.getElem?_eq_getElem (by omega);have hci:=c8 i _ hti;unfold aA at hci;rw[←mz h0 (by omega)] at hci;refine MP (jE hi2) hci (by rw[List.length_take];omega) ?_;rw[ba (by omega),←Ec hti];exact rfl
   refine RK (me (by omega)) ⟨rfl,?_⟩;rw[List.take_of_length_le (by omega)]
  rcases hcase with rfl|rfl|rfl|rfl|rfl|rfl|rfl|rfl|rfl|rfl|rfl|rfl|rfl|rfl
  ·obtain⟨i,k3,b,⟨g1,g2,g3⟩,hc2,hix⟩:=leaf;exact⟨_,k3,nH g3 (by omega) g2,xO hc rfl hc2 hix⟩
  ·obtain⟨i,k3,b,⟨g1,g2,g3⟩,hc2,hix⟩:=leaf;exact⟨_,k3,nH g3 (by omega) g2,xN hc rfl hc2 hix⟩
  ·exact⟨_,k2,⟨by simp[Ty.size,aT];omega,by simp[Ty.gJ,eO,aB],by simp[Ty.from,kS],hk2,hk3⟩,Eb hc rfl⟩
  ·by_cases hv0:0 < v
   ·obtain⟨i,k3,⟨hi,hk5,hk6,hk7⟩,hc2⟩:=bq (n:=v) (by omega:l.length < 1000000000) hk3 hv0 (by omega);exact⟨_,k3,zG (by omega) (by omega) hk6,Bf hc rfl (jE (a:=0) hv0) hc2⟩
   obtain⟨t,k3,ht,hct⟩:=hnam (c:=0) (by omega);exact⟨t,k3,ht,Bi hc rfl (me (a:=0) hv0) hct⟩
  ·by_cases hv0:0 < v
   ·obtain⟨i,k3,⟨hi,hk5,hk6,hk7⟩,hc2⟩:=bq (n:=v) (by omega:l.length < 1000000000) hk3 hv0 (by omega);exact⟨_,k3,zG (by omega) (by omega) hk6,Be hc rfl (jE (a:=0) hv0) hc2⟩
   obtain⟨t,k3,ht,hct⟩:=hnam (c:=0) (by omega);exact⟨t,k3,ht,Bh hc rfl (me (a:=0) hv0) hct⟩
  ·obtain⟨t,k3,ht,hct⟩:=hnam (c:=0) (by omega);exact⟨t,k3,ht,Bg hc rfl hct⟩
  ·obtain⟨t,k3,ht,hct⟩:=hnam (c:=0) (by omega);exact⟨t,k3,ht,KQ hc hd hct⟩
  ·obtain⟨t,k3,ht,hct⟩:=hnam (c:=0) (by omega);exact⟨t,k3,ht,KP hc hd hct⟩
  ·obtain⟨t,u,k3,k4,g,ht,hu⟩:=hun (by omega);exact⟨_,k4,g,MX hc hd ht hu⟩
  ·obtain⟨t,u,k3,k4,g,ht,hu⟩:=hun (by omega);exact⟨_,k4,g,MW hc hd ht hu⟩
  ·obtain⟨n,k3,ts,k4,hn,g,hlp⟩:=htup (by omega);exact⟨_,k4,g,GU hc hd hn hlp⟩
  ·obtain⟨n,k3,ts,k4,hn,g,hlp⟩:=htup (by omega);exact⟨_,k4,g,GS hc hd hn hlp⟩
  ·have hkk:=hk4 (by omega);obtain⟨i,k3,⟨hi,hk5,hk6,hk7⟩,hc2⟩:=bq (n:=2) (by omega:l.length < 1000000000) hk3 (by omega) (by omega);have hwv:ap .i64 (Int.ofNat v+1)=Int.ofNat (v+1):=ba (by omega);have hwp:ap .i64 (dp - 1)=dp - 1:=mz h0 (by omega)
   by_cases hi0:i=0
   ·subst hi0;obtain⟨u,k4,hu,hcu⟩:=iht k3 (by omega) hk6 (dp - 1) (v+1) (by omega) (by omega) (by omega);refine⟨_,k4,⟨?_,?_,?_,?_,hu.top⟩,MZ hc hd hc2 (by rw[hwp,hwv];exact hcu)⟩
    ·have:=hu.size;simp only[Ty.size,aT];omega
    ·simp only[Ty.gJ,eO];exact⟨by simp[aB],⟨by simp[aB],trivial⟩,hu.ix,trivial⟩
    ·simp only[Ty.from,kS];exact⟨fun h=>by simp at h,⟨fun h=>by simp at h,trivial⟩,hu.frm,trivial⟩
    have:=hu.le;omega
   have hi1:i=1:=by omega
   subst hi1;obtain⟨t,k4,ht,hct⟩:=iht k3 (by omega) hk6 1 0 (by omega) (by omega) (by omega);obtain⟨u,k5,hu,hcu⟩:=iht k4 (by have:=ht.le;omega) ht.top (dp - 1) (v+1) (by omega) (by omega) (by omega);refine⟨_,k5,⟨?_,?_,?_,?_,hu.top⟩,MY hc hd hc2 hct (by rw[hwp,hwv];exact hcu)⟩
   ·have:=ht.size;have:=hu.size;simp only[Ty.size,aT];omega
   ·simp only[Ty.gJ,eO];exact⟨by simp[aB],ht.ix,hu.ix,trivial⟩
   ·simp only[Ty.from,kS];exact⟨fun h=>by simp at h,ht.frm,hu.frm,trivial⟩
   have:=ht.le;have:=hu.le;omega
  have hkk:=hk4 (by omega);obtain⟨i,k3,⟨hi,hk5,hk6,hk7⟩,hc2⟩:=bq (n:=4) (by omega:l.length < 1000000000) hk3 (by omega) (by omega);have gb:GT P l.length I4 k k3:=⟨by simp[I4,Ty.size,aT];omega,by simp[I4,Ty.gJ,eO,aB,aH],by simp[I4,Ty.from,kS];exact hPB,by omega,hk6⟩;have hic:i=0∨i=1∨i=2∨i=3:=by omega
  rcases hic with rfl|rfl|rfl|rfl
  ·exact⟨_,k3,⟨by simp[Ty.size,aT];omega,by simp[Ty.gJ,eO,aB],by simp[Ty.from,kS],by omega,hk6⟩,GV hc hd hc2⟩
  ·exact⟨_,k3,gb,KU hc hd hc2⟩
  ·exact⟨_,k3,gb,KT hc hd hc2⟩
  exact⟨_,k3,gb,KS hc hd hc2⟩
 have hd:=Pq hdp
 by_cases h5:5 < r
 ·obtain⟨i,k3,b,⟨g1,g2,g3⟩,hc2,hix⟩:=leaf;exact⟨_,k3,nH g3 (by omega) g2,KR hc hd (jE (a:=5) h5) hc2 hix⟩
 have hcase:r=0∨r=1∨r=2∨r=3∨r=4∨r=5:=by omega
 rcases hcase with rfl|rfl|rfl|rfl|rfl|rfl
 ·obtain⟨i,k3,b,⟨g1,g2,g3⟩,hc2,hix⟩:=leaf;exact⟨_,k3,nH g3 (by omega) g2,xO hc rfl hc2 hix⟩
 ·obtain⟨i,k3,b,⟨g1,g2,g3⟩,hc2,hix⟩:=leaf;exact⟨_,k3,nH g3 (by omega) g2,xN hc rfl hc2 hix⟩
 ·exact⟨_,k2,⟨by simp[Ty.size,aT];omega,by simp[Ty.gJ,eO,aB],by simp[Ty.from,kS],hk2,hk3⟩,Eb hc rfl⟩
 ·by_cases hv0:0 < v
  ·obtain⟨i,k3,⟨hi,hk5,hk6,hk7⟩,hc2⟩:=bq (n:=v) (by omega:l.length < 1000000000) hk3 hv0 (by omega);exact⟨_,k3,zG (by omega) (by omega) hk6,Bf hc rfl (jE (a:=0) hv0) hc2⟩
  obtain⟨t,k3,ht,hct⟩:=hnam (c:=0) (by omega);exact⟨t,k3,ht,Bi hc rfl (me (a:=0) hv0) hct⟩
 ·by_cases hv0:0 < v
  ·obtain⟨i,k3,⟨hi,hk5,hk6,hk7⟩,hc2⟩:=bq (n:=v) (by omega:l.length < 1000000000) hk3 hv0 (by omega);exact⟨_,k3,zG (by omega) (by omega) hk6,Be hc rfl (jE (a:=0) hv0) hc2⟩
  obtain⟨t,k3,ht,hct⟩:=hnam (c:=0) (by omega);exact⟨t,k3,ht,Bh hc rfl (me (a:=0) hv0) hct⟩
 obtain⟨t,k3,ht,hct⟩:=hnam (c:=0) (by omega);exact⟨t,k3,ht,Bg hc rfl hct⟩
include hPB in
theorem Tn:∀(m k:Nat),k<=l.length->l.length - k<=m->
  (∀(dp:Int) (v:Nat),0<=dp->dp<=3->v+dp<=10->GR l P 137 (aA ds dp v) k)/\(∀(dp:Int) (v:Nat),-1<=dp->dp<=3->v+dp<=10->GR l P 173 (aA ds dp v) k)/\(∀(dp:Int) (v:Nat),0<=dp->dp<=3->v+dp<=10->GR l P 94 (aA ds dp v) k):=by
 intro m
 induction m with
 | zero=>
  intro k hk hm;have hn:∀(dp:Int) (v:Nat),0<=dp->dp<=3->v+dp<=10->GR l P 137 (aA ds dp v) k:=fun dp v h0 h3 hv=>Fg hl hds har hP0 hk h0 h3 (fun k' h1 h2=>by omega)
  refine⟨hn,?_,?_⟩
  ·intro dp v h0 h3 hv;refine Rg hl hP0 hk h0 h3 (by omega) (fun hp k' h1 h2=>?_) (fun hp k' h1 h2=>by omega)
   have:k'=k:=by omega
   subst this;exact hn dp v (by omega) h3 hv
  intro dp v h0 h3 hv;exact Jl hl hP0 hPB hk h0 h3 hv (fun k' h1 h2=>by omega) (fun k' h1 h2=>by omega)
 | succ m ih=>
  intro k hk hm;have hn:∀(dp:Int) (v:Nat),0<=dp->dp<=3->v+dp<=10->GR l P 137 (aA ds dp v) k:=fun dp v h0 h3 hv=>Fg hl hds har hP0 hk h0 h3 (fun k' h1 h2=>(ih k' h2 (by omega)).2.1 _ _ (by omega) (by omega) (by omega))
  refine⟨hn,?_,?_⟩
  ·intro dp v h0 h3 hv;refine Rg hl hP0 hk h0 h3 (by omega) (fun hp k' h1 h2=>?_) (fun hp k' h1 h2=>(ih k' h2 (by omega)).2.2 _ _ (by omega) (by omega) (by omega))
   by_cases hkk:k'=k
   ·subst hkk;exact hn dp v (by omega) h3 hv
   exact (ih k' h2 (by omega)).1 _ _ (by omega) h3 hv
  intro dp v h0 h3 hv;exact Jl hl hP0 hPB hk h0 h3 hv (fun k' h1 h2=>(ih k' h2 (by omega)).1 _ _ h0 h3 hv) (fun k' h1 h2 dp v a b c=>(ih k' h2 (by omega)).2.2 _ _ a b c)
end
def lK:List tW:=[⟨[66,111,120],1,(.mk 0 [] 0 []),false,[]⟩,
 ⟨[67,101,108,108],1,(.mk 2 [66,111,120] 0 [(.mk 5 [] 0 [])]),true,[⟨[105,116,101,109],(.mk 5 [] 0 [])⟩]⟩,
 ⟨[73,110,116,66,111,120],0,(.mk 2 [66,111,120] 0 [(.mk 2 [73,110,116] 0 [])]),true,[⟨[105,116,101,109],(.mk 2 [73,110,116] 0 [])⟩]⟩,
 ⟨[83,104,97,112,101],0,(.mk 0 [] 0 []),false,[]⟩,
 ⟨[68,111,116],0,(.mk 2 [83,104,97,112,101] 0 []),true,[]⟩,
 ⟨[68,105,115,107],0,(.mk 2 [83,104,97,112,101] 0 []),true,[⟨[114,97,100,105,117,115],(.mk 2 [73,110,116] 0 [])⟩]⟩,
 ⟨[80,97,105,114],2,(.mk 0 [] 0 []),true,[⟨[102,105,114,115,116],(.mk 5 [] 0 [])⟩,⟨[115,101,99,111,110,100],(.mk 5 [] 1 [])⟩]⟩,
 ⟨[78,101,115,116],1,(.mk 2 [66,111,120] 0 [(.mk 2 [66,111,120] 0 [(.mk 5 [] 0 [])])]),true,[⟨[105,110,110,101,114],(.mk 2 [66,111,120] 0 [(.mk 5 [] 0 [])])⟩]⟩]
theorem nK:ae 65 [] (.own (lg lK)):=dm _ _ _ _ _ (by kernel_rfl)
def WL:List (List UInt8):=lK.map tW.nm++Yi
structure DOk (d:tW):Prop where
 gO:d.gO
 ar:∃n:Nat,d.ar=Int.ofNat n/\n<=2
 nm:d.nm∈WL
 flen:d.fl.length<=2
structure GD (ds:List tW):Prop where
 len:ds.length<=900
 each:∀d∈ds,DOk d
 abs:∃d∈ds,d.con=false
section
variable {l:List Int} {ds:List tW} (hl:l.length < 10000000) (hd:GD ds)
include hl hd
end
theorem Gx:GD lK where
 len:=by decide
 each:=by
  have key:∀d∈lK,(d.sup.size < 100000000/\d.sup.gJ)/\(∀f∈d.fl,f.ty.size < 100000000/\f.ty.gJ)/\d.fl.length<=2/\(∃n:Nat,d.ar=Int.ofNat n/\n<=2):=by
   intro d hd;simp only[lK,List.mem_cons,List.mem_nil_iff,or_false] at hd
   rcases hd with rfl|rfl|rfl|rfl|rfl|rfl|rfl|rfl <;>
    simp[Ty.size,aT,Ty.gJ,eO,aB,aH]
   all_goals first|exact⟨0,rfl,by omega⟩|exact⟨1,rfl,by omega⟩|exact⟨2,rfl,by omega⟩
  intro d hd;obtain⟨h1,h2,h3,h4⟩:=key d hd;exact⟨⟨h1,h2,by omega⟩,h4,List.mem_append_left _ (List.mem_map_of_mem hd),h3⟩
 abs:=⟨_,List.mem_cons_self,rfl⟩
theorem RN {l ds:List al} {k k2:Int} {t:Ty} (h:dW l ds 3 0 k t.enc k2):KC 64 [dy,.dat (.slice ds)] (db l k) 1 (XQ ⟨.dat t.enc,db l k2,1⟩):=by
 obtain⟨ek2,en,ei,ea⟩:=t
 rcases ea with _|⟨x,ea⟩ <;>
 ·refine co [] [] (x:=.of Tryz.f64 Oz PB) ?_;refine oh h ?_;exact fi
theorem Pf {z:Bool} {dx:al} (hz:dx=sx z []) {p1 sl:Int} {d1 d2:al} (g1:cV d1) (g2:cV d2) {op dst a b im:Int} {nm:List UInt8} {k:Int} {tn:List UInt8} {ix:Int} {dt:al} {ck ci:Int} {cs:List UInt8} {s:ke} {c1 c2 c3 u1 u2:Bool} (g3:cV dt)
  (hl:KD (.loop (roundOf Tryz.f97 0)) (fun e q=>e=.exit 0/\q=(Nc dx 0 (cC p1 sl d1 d2) (cX op dst a b im nm dx k tn ix dt ck ci cs) (cS s) (Int.ofNat 0)).an Tryz.f97.ntmps)
   ((Ei dx 0 (cC p1 sl d1 d2) (cX op dst a b im nm dx k tn ix dt ck ci cs) (cS s) (Int.ofNat 0)).an Tryz.f97.ntmps))
  (h1:KC 141 [iv dst,bv s.dst,.ptr (.out 0) 0] (hC p1 sl d1 d2) 1 (XQ ⟨bv c1,hC p1 sl d1 d2,1⟩))
  (h2:KC 141 [iv a,bv s.a,.ptr (.out 0) 0] (hC p1 sl d1 d2) 1 (XQ ⟨bv c2,hC p1 sl d1 d2,1⟩))
  (h3:KC 141 [iv b,bv (s.b&&!(u1&&u2)),.ptr (.out 0) 0] (hC p1 sl d1 d2) 1 (XQ ⟨bv c3,hC p1 sl d1 d2,1⟩))
  (zu:aB op 3=u1) (zv:aB im 5=u2) :
  ae 97 [.dat (aP p1 sl d1 d2),.dat (eb op dst a b im nm dx k tn ix dt ck ci cs),.dat s.enc] (bv (c1&&(c2&&c3))):=by
 have q1:=aS (p:=p1) (s:=sl) g1 g2;have q2:=@br op dst a b im nm dx k tn ix _ ck ci cs (hz ▸ dH z []) g3;clear g1 g2 g3;obtain⟨w,s1,s2,s3,s4,s5,s6,s7,s8,s9,s10,s11⟩:=s
 cases z <;>
 ·subst hz;refine co [28,32] [3,4] (x:=.of Tryz.f97 E5 rG) ?_;refine oo q1 ?_;refine oo q2 ?_;refine lo hl ?_;rintro ex s ⟨rfl,rfl⟩;refine⟨_,rfl,?_⟩;refine ob zu ?_
  cases u1
  ·cases s6 <;>
   ·refine oh h1 ?_
    cases c1
    ·exact fi
    refine oh h2 ?_
    cases c2
    ·exact fi
    cases s3 <;>
    ·refine oh h3 ?_;exact fi
  refine ob zv ?_
  cases u2 <;>
  ·cases s6 <;>
   ·refine oh h1 ?_
    cases c1
    ·exact fi
    refine oh h2 ?_
    cases c2
    ·exact fi
    cases s3 <;>
    ·refine oh h3 ?_;exact fi
theorem ab8 {p1 sl:Int} {d1 d2:al} (g1:cV d1) (g2:cV d2) (x:Ins) (s:ke) (hn:x.ar.length < 1000000000) :
  ae 97 [.dat (aP p1 sl d1 d2),.dat x.enc,.dat s.enc] (bv (E7 sl x s)):=by
 obtain⟨op,dst,a,b,im,nm,az,ar,⟨k,tn,ix,la⟩,ck,ci,cs⟩:=x;have h1:=@DN p1 dst sl d1 d2 s.dst;have h2:=@DN p1 a sl d1 d2 s.a;have h3:=@DN p1 b sl d1 d2 (s.b&&!(aB op 3&&aB im 5))
 cases ar with
 | nil=>
  have h:=@Pf az (sx az []) rfl _ _ _ _ g1 g2 op _ _ _ im nm k tn ix _ ck ci cs _ _ _ _ _ _ (dz (ax la)) Lx h1 h2 h3 rfl rfl;have e:E7 sl ⟨op,dst,a,b,im,nm,az,[],⟨k,tn,ix,la⟩,ck,ci,cs⟩ s=(fg dst sl s.dst&&(fg a sl s.a&&fg b sl (s.b&&!(aB op 3&&aB im 5)))):=by
   have e0:aB (Int.ofNat ([]:List Int).length) 0=true:=rfl;have e6:aH 6 (Int.ofNat ([]:List Int).length)=false:=rfl;simp only[E7,Ik,Ins.unary,e0,e6,List.all_nil,Bool.or_true,Bool.true_and,Bool.not_false]
  rw[e];exact h
 | cons y r=>
  have h:=@Su ((y::r).map iN) _ _ _ _ g1 g2 op _ _ _ im nm k tn ix _ ck ci cs _ _ _ _ _ _ _ _ _ (dz (ax la)) (Pe hn) h1 h2 h3 rfl rfl rfl rfl;rw[List.length_map] at h;exact h
def Ins.gO (x:Ins):Prop:=x.ty.gO/\x.ar.length < 1000000000/\x.cs.length < 1000000000
theorem DM {p sl:Int} {es ed:List al} (z:Bool) {x:Ins} (h:x.gO) :
  ae 67 [.dat (aP p sl (.slice es) (sx z ed)),.dat x.enc] (bv (ig (Int.ofNat es.length) (Int.ofNat ed.length) sl x)):=by
 obtain⟨ht,ha,hs⟩:=h;have h0:=tL x.op;have h1:=@ab8 p sl (.slice es) (sx z ed) (.inr ⟨_,rfl⟩) (dH z ed) x (jM (dI x.op)) ha;have h2:=@aca p sl es ed z x;have h3:=Cg x.nm;have h5:=QZ (IY x.ty (by have:=ht.1;omega)) (I2 (t:=x.ty) (by have:=ht.1;omega) ht.2);have h6:=DO (TW x.ty (.mk 0 [] 0 []) (by have:=ht.1;omega));have h7:=TX (k:=x.ck) (i:=x.ci) hs;obtain⟨op,dst,a,b,im,nm,az,ar,⟨k,tn,ix,la⟩,ck,ci,cs⟩:=x;have h8:=U5 (d1:=.slice es) (d2:=sx z ed) (.inr ⟨_,rfl⟩) (dH z ed) (dH az (ar.map iN)) (dz (ax la)) h0 h1 h2 h3 rfl h5 h6 h7 rfl;have e:ig (Int.ofNat es.length) (Int.ofNat ed.length) sl ⟨op,dst,a,b,im,nm,az,ar,⟨k,tn,ix,la⟩,ck,ci,cs⟩=(shS (dI op)&&(E7 sl ⟨op,dst,a,b,im,nm,az,ar,⟨k,tn,ix,la⟩,ck,ci,cs⟩ (jM (dI op))&&(FE (Int.ofNat es.length) (Int.ofNat ed.length) op im&&((if (jM (dI op)).nm=true then isIdent nm else ju nm [])&&((if (jM (dI op)).ty=true then (aB (Ty.mk k tn ix la).validate 0&&Ks (Ty.mk k tn ix la).fv) else MC (Ty.mk k tn ix la) (.mk 0 [] 0 []))&&(mg ck ci cs&&((jM (dI op)).con||aB ck 0))))))):=by
  unfold ig
  cases hq:dI op with
  | none=>rfl
  | some s=>rfl
 rw[e];exact h8
theorem Bx {s:List Int} {x:Int}:iI s x≠[]:=by
 unfold iI
 cases h:s.contains x with
 | true=>intro h2;dsimp only at h2;rw[h2] at h;simp at h
 | false=>exact FD
theorem NI {k ix:Int} {u:Nat} {s:List Int} (h:s≠[]):ew k ix u s≠[]:=by
 unfold ew
 cases aB k 5 with
 | false=>exact h
 | true=>
  cases aH ix (Int.ofNat u) with
  | true=>exact h
  | false=>exact Bx
mutual
theorem ab2:∀(t:Ty) (u:Nat) {s:List Int},s≠[]->t.cf u s≠[]
 | .mk k nm ix l,u,s,h=>by rw[Ty.cf];exact DK l u (NI h)
theorem DK {k:Int}:∀(l:List Ty) {j:Nat} (u:Nat) {s:List Int},s≠[]->qV k l j u s≠[]
 | [],j,u,s,h=>by rw[qV];exact h
 | t::r,j,u,s,h=>by rw[qV];exact DK r u (ab2 t _ h)
end
mutual
theorem Ce:∀(t:Ty) (u:Nat),Ks (t.cf u [])=t.closed u
 | .mk k nm ix l,u=>by
  rw[Ty.cf,Ty.closed]
  cases hk:aB k 5 with
  | false=>
   have e:ew k ix u []=[]:=by unfold ew;rw[hk]
   rw[e,Bool.false_and,Bool.not_false,Bool.true_and];exact rN l u 0
  | true=>
   cases hg:aH ix (Int.ofNat u) with
   | true=>
    have e:ew k ix u []=[]:=by unfold ew;rw[hk,hg]
    rw[e,Bool.not_true,Bool.and_false,Bool.not_false,Bool.true_and];exact rN l u 0
   | false=>
    have e:ew k ix u []≠[]:=by unfold ew;rw[hk,hg];exact Bx
    have h2:=DK (k:=k) l (j:=0) u e;rw[Bool.not_false,Bool.true_and,Bool.not_true,Bool.false_and]
    cases h:qV k l 0 u (ew k ix u []) with
    | nil=>exact absurd h h2
    | cons _ _=>rfl
theorem rN {k:Int}:∀(l:List Ty) (u j:Nat),Ks (qV k l j u [])=fb k j l u
 | [],u,j=>by rw[qV,fb];rfl
 | t::r,u,j=>by
  rw[qV,fb];have h:=Ce t (u+dU k j)
  cases hc:t.closed (u+dU k j) with
  | true=>
   rw[hc] at h;have e:t.cf (u+dU k j) []=[]:=by cases h3:t.cf (u+dU k j) [] with|nil=>rfl|cons _ _=>rw[h3] at h;simp[Ks] at h
   rw[e,Bool.true_and];exact rN r u (j+1)
  | false=>
   rw[hc] at h;have e:t.cf (u+dU k j) []≠[]:=by intro h3;rw[h3] at h;simp[Ks] at h
   have h2:=DK (k:=k) r (j:=j+1) u e;rw[Bool.false_and]
   cases h4:qV k r (j+1) u (t.cf (u+dU k j) []) with
   | nil=>exact absurd h4 h2
   | cons _ _=>rfl
end
theorem BD {t:Ty} (h:t.gO):ae 108 [.dat t.enc] (bv (t.closed 0)):=by
 rw[←Ce t 0];exact ES h.1 h.2
noncomputable def hRP:Hints:=⟨bS,CZ,bg,rowsOf bg 181⟩
def ZH (lo:Heap) (i:Int):ab:=⟨[(3,iv i),(1,.ptr (.loc 1) 0)],lo,[],0⟩
def ZF (lo:Heap) (i:Int):ab:=⟨[(15,bv false),(3,iv i),(1,.ptr (.loc 1) 0)],lo,[],0⟩
def ZG:ab:=⟨[(2,bv false)],[],[],0⟩
theorem NF {k:Int} {nm:List UInt8} {ix:Int} {l:List Ty} {t:Ty} {i:Nat} {c:Bool} (hi:i < (ax l).length) (ht:l[i]?=some t) (hc:ae 181 [.dat t.enc] (bv c)) {T:Exit->aa->Prop}
  (e1:c=true->T .normal ((ZH (jT 1 k nm ix (.slice (ax l))) (ap .i64 (Int.ofNat i+1))).an Tryz.f181.ntmps)) (e2:c=false->T .ret (ZG.an Tryz.f181.ntmps)) :
  KD (roundOf Tryz.f181 0) T ((ZH (jT 1 k nm ix (.slice (ax l))) (Int.ofNat i)).an Tryz.f181.ntmps):=by
 have h1:=bc hi;have h2:=oF ht;generalize ax l=es at *;clear ht hi;obtain⟨k2,nm2,ix2,a2⟩:=t
 rcases a2 with _|⟨b,d⟩ <;>
 ·refine ay [15] [21] (H:=hRP) (live:=sS) (by kernel_rfl) ?_;refine ob h1 ?_;refine oo h2 ?_;refine on hc ?_
  cases c
  ·exact oe (e2 rfl)
  exact oe (e1 rfl)
theorem R4 {k:Int} {nm:List UInt8} {ix:Int} {l:List al} {T:Exit->aa->Prop} (e:T (.exit 0) ((ZF (jT 1 k nm ix (sl l)) (Int.ofNat l.length)).an Tryz.f181.ntmps)) :
  KD (roundOf Tryz.f181 0) T ((ZH (jT 1 k nm ix (sl l)) (Int.ofNat l.length)).an Tryz.f181.ntmps):=by
 have h1:=bW (i:=l.length) (L:=l.length) (by omega)
 rcases l with _|⟨x,l⟩
 ·refine ay [] [] (H:=hRP) (live:=sS) (by kernel_rfl) ?_;exact oe e
 refine ay [15] [] (H:=hRP) (live:=sS) (by kernel_rfl) ?_;refine ob h1 ?_;exact oe e
theorem V3 {k:Int} {nm:List UInt8} {ix:Int} {l:List al} {c2 c5 cc ca:Bool} (h5:aB k 5=c5) (hc:ae 108 [.dat (.agg [i64 k,sb nm,i64 ix,sl l])] (bv cc)) (h2:aB k 2=c2)
  (hl:KD (.loop (roundOf Tryz.f181 0)) (fun e s=>(e=.exit 0/\ca=false/\s=(ZF (jT 1 k nm ix (sl l)) (Int.ofNat l.length)).an Tryz.f181.ntmps)∨(e=.ret/\ca=true/\s=ZG.an Tryz.f181.ntmps)) ((ZH (jT 1 k nm ix (sl l)) (Int.ofNat 0)).an Tryz.f181.ntmps)) :
  ae 181 [.dat (.agg [i64 k,sb nm,i64 ix,sl l])] (bv (c5||cc||(c2&&!ca))):=by
 rcases l with _|⟨x,l⟩ <;>
 ·cases c2 <;>
  ·refine co [6,27] [] (x:=.of Tryz.f181 CZ sS) ?_;refine ob h5 ?_
   cases c5
   ·refine on hc ?_
    cases cc
    ·refine lo hl ?_;rintro ex s (⟨rfl,rfl,rfl⟩|⟨rfl,rfl,rfl⟩)
     ·refine⟨_,rfl,?_⟩;refine ob h2 ?_;exact fi
     refine⟨_,rfl,?_⟩;exact fi
    exact fi
   exact fi
theorem AA {l:List Ty} {i:Nat} {t:Ty} (h:l[i]?=some t):gE (l.drop i)=(!t.plain||gE (l.drop (i+1))):=by rw[ku h,gE]
mutual
theorem Sj:∀t:Ty,t.gO->ae 181 [.dat t.enc] (bv t.plain)
 | .mk k nm ix l,h=>by
  have hc:=BD h;obtain⟨h1,h2⟩:=h;simp only[Ty.size] at h1;simp only[Ty.gJ] at h2;have ih:=yJ l (by omega) h2.2;have hlen:=gf l;rw[Ty.plain];refine V3 rfl hc rfl ?_;refine cH (St:=fun i=>(ZH (jT 1 k nm ix (sl (ax l))) (Int.ofNat i)).an Tryz.f181.ntmps) (fun i=>gE l=gE (l.drop i)) (ax l).length ?_ ?_ (i:=0) (Nat.zero_le _) rfl
  ·intro i hi hI;obtain⟨t,ht,hm⟩:=get_mem hi;have hd:=AA ht;rw[←hI] at hd;have hsl:=nb hi;have hw:ap .i64 (Int.ofNat i+1)=Int.ofNat (i+1):=ba (by rw[aJ] at hi;omega);have hc:=ih t hm;rw[hsl];generalize t.plain=c at hc hd;refine NF hi ht hc ?_ ?_
   ·rintro rfl;rw[hw];exact⟨rfl,hd⟩
   rintro rfl;exact .inr ⟨rfl,hd,rfl⟩
  intro hI;refine R4 (.inl ⟨rfl,?_,rfl⟩);rw[hI,aJ,List.drop_length,gE]
theorem yJ:∀l:List Ty,aT l < 100000000->eO l->∀t∈l,ae 181 [.dat t.enc] (bv t.plain)
 | [],_,_,t,ht=>by simp at ht
 | u::r,h,hx,t,ht=>by
  simp only[aT] at h;simp only[eO] at hx
  rcases List.mem_cons.1 ht with h1|ht
  ·rw[h1];exact Sj u ⟨by omega,hx.1⟩
  exact yJ r (by omega) hx.2 t ht
end
theorem EI:Gz (fun n=>Aq (iZ n) (X 149 [Fx n] [] 0)) 256=true:=by kernel_rfl
theorem N6 (c:UInt8):ae 149 [Fx c.toNat] (bv (iZ c.toNat)):=dm _ _ _ _ _ (pI (qv EI _ c.toNat_lt))
theorem Lh:Gz (fun n=>Aq (A9 n) (X 150 [Fx n] [] 0)) 256=true:=by kernel_rfl
theorem Wg (c:UInt8):ae 150 [Fx c.toNat] (bv (A9 c.toNat)):=dm _ _ _ _ _ (pI (qv Lh _ c.toNat_lt))
noncomputable def hRI:Hints:=⟨bS,yZ,bg,rowsOf bg 106⟩
def ZK (b:List UInt8) (i:Int):ab:=⟨[(3,iv i),(0,.dat (sb b))],[],[],0⟩
def ZI (b:List UInt8) (i:Int):ab:=⟨[(21,bv false),(3,iv i),(0,.dat (sb b))],[],[],0⟩
def ZJ:ab:=⟨[(2,bv false)],[],[],0⟩
theorem Lk {b:List UInt8} {c:UInt8} {i:Nat} {cw c3:Bool} {L:Int} (hL:Int.ofNat b.length=L) (h1:aH (Int.ofNat i) (Int.ofNat b.length)=true) (h2:pV (env ak.aC) 9 [.dat (sb b),.dat (.flat (.int .i64 (Int.ofNat i)))]=some ⟨Fx c.toNat,.keep⟩) (h3:ae 150 [Fx c.toNat] (bv cw)) (h4:aB (Int.ofNat c.toNat) 45=c3) {T:Exit->aa->Prop}
  (e1:(cw&&!c3)=true->T .normal ((ZK b (ap .i64 (Int.ofNat i+1))).an Tryz.f106.ntmps)) (e2:(cw&&!c3)=false->T .ret (ZJ.an Tryz.f106.ntmps)) :
  KD (roundOf Tryz.f106 0) T ((ZK b (Int.ofNat i)).an Tryz.f106.ntmps):=by
 refine ay [21,33] [26,32] (H:=hRI) (live:=sX) (by kernel_rfl) ?_;refine ob h1 ?_;refine oo h2 ?_;refine on h3 ?_
 cases cw
 ·exact oe (e2 rfl)
 refine oo h2 ?_;refine ob h4 ?_
 cases c3
 ·exact oe (e1 rfl)
 exact oe (e2 rfl)
theorem NL {b:List UInt8} {T:Exit->aa->Prop} (e:T (.exit 0) ((ZI b (Int.ofNat b.length)).an Tryz.f106.ntmps)) :
  KD (roundOf Tryz.f106 0) T ((ZK b (Int.ofNat b.length)).an Tryz.f106.ntmps):=by
 have h1:=bW (i:=b.length) (L:=b.length) (by omega);refine ay [21] [] (H:=hRI) (live:=sX) (by kernel_rfl) ?_;refine ob h1 ?_;exact oe e
theorem R6 {b:List UInt8} {c:UInt8} {c1 c2 ca:Bool} (h2:aH 24 (Int.ofNat (c::b).length)=c1) (h3:ae 149 [Fx c.toNat] (bv c2))
  (hl:c1=false->KD (.loop (roundOf Tryz.f106 0)) (fun e s=>(e=.exit 0/\ca=true/\s=(ZI (c::b) (Int.ofNat (c::b).length)).an Tryz.f106.ntmps)∨(e=.ret/\ca=false/\s=ZJ.an Tryz.f106.ntmps)) ((ZK (c::b) (Int.ofNat 0)).an Tryz.f106.ntmps)) :
  ae 106 [.dat (sb (c::b))] (bv (!c1&&c2&&ca)):=by
 have g1:=mW (b:=c::b) (i:=0) rfl
 cases c1
 ·have hl2:=hl rfl;clear hl;refine co [10] [14] (x:=.of Tryz.f106 yZ sX) ?_;refine ob h2 ?_;refine oo g1 ?_;refine on h3 ?_
  cases c2
  ·exact fi
  refine lo hl2 ?_;rintro ex s (⟨rfl,rfl,rfl⟩|⟨rfl,rfl,rfl⟩) <;>
  ·refine⟨_,rfl,?_⟩;exact fi
 clear hl;refine co [10] [] (x:=.of Tryz.f106 yZ sX) ?_;refine ob h2 ?_;exact fi
theorem R5:ae 106 [.dat (sb [])] (bv false):=dm _ _ _ _ _ (by kernel_rfl)
theorem xf (b:List UInt8):ae 106 [.dat (sb b)] (bv (isIdent b)):=by
 cases b with
 | nil=>exact R5
 | cons c b=>
  have h3:=N6 c;have e:isIdent (c::b)=(!aH 24 (Int.ofNat (c::b).length)&&iZ c.toNat&&(c::b).all (fun c=>dQ c.toNat)):=by
   have e2:Nat.ble (b.length+1) 24=!aH 24 (Int.ofNat (c::b).length):=by
    rw[show (24:Int)=Int.ofNat 24 from rfl,gI]
    by_cases h:24 < (c::b).length
    ·rw[decide_eq_true h];simp at h ⊢;rw[Bool.eq_false_iff,ne_eq,Nat.ble_eq];omega
    rw[decide_eq_false h];simp at h ⊢;omega
   show (Nat.ble (b.length+1) 24&&iZ c.toNat&&(c::b).all (fun c=>dQ c.toNat))=_;rw[e2]
  rw[e];refine R6 rfl h3 (fun hc=>?_);have hlen:(c::b).length < 1000:=by
   rw[show (24:Int)=Int.ofNat 24 from rfl,gI] at hc;simp only[decide_eq_false_iff_not] at hc;omega
  obtain⟨l,hl⟩:∃l,l=c::b:=⟨_,rfl⟩;rw[←hl] at hlen ⊢;clear hl hc e h3;refine cH (St:=fun i=>(ZK l (Int.ofNat i)).an Tryz.f106.ntmps) (fun i=>l.all (fun c=>dQ c.toNat)=(l.drop i).all (fun c=>dQ c.toNat)) l.length ?_ ?_ (i:=0) (Nat.zero_le _) rfl
  ·intro i hi hI;have ht:l[i]?=some l[i]:=List.getElem?_eq_getElem hi;generalize l[i]=t at ht;have hd:(l.drop i).all (fun c=>dQ c.toNat)=(dQ t.toNat&&(l.drop (i+1)).all (fun c=>dQ c.toNat)):=by rw[ku ht];rfl
   rw[←hI] at hd;have hw:ap .i64 (Int.ofNat i+1)=Int.ofNat (i+1):=ba (by omega);have e2:dQ t.toNat=(A9 t.toNat&&!(aB (Int.ofNat t.toNat) 45)):=by
    show (!Nat.beq t.toNat 45&&A9 t.toNat)=(A9 t.toNat&&!(Nat.beq t.toNat 45));rw[Bool.and_comm]
   rw[e2] at hd;refine Lk rfl (bc hi) (mW ht) (Wg t) rfl ?_ ?_
   ·intro h;rw[h] at hd;rw[hw];exact⟨rfl,hd⟩
   intro h;rw[h] at hd;exact .inr ⟨rfl,hd,rfl⟩
  intro hI;rw[List.drop_length] at hI;exact NL (.inl ⟨rfl,hI,rfl⟩)
theorem aah (b:List UInt8):ae 180 [.dat (sb b)] (bv (gK b)):=by
 have e:gK b=(ju b [65,110,121]||ju b [78,101,118,101,114]||ju b [116,117,112,108,101]||ju b [117,110,105,111,110]||ju b [101,120,105,115,116,115]):=by
  unfold gK sq;simp only[List.any_cons,List.any_nil,Bool.or_false,Bool.or_assoc]
 rw[e];generalize h1:ju b [65,110,121]=c1;generalize h2:ju b [78,101,118,101,114]=c2;generalize h3:ju b [116,117,112,108,101]=c3;generalize h4:ju b [117,110,105,111,110]=c4;generalize h5:ju b [101,120,105,115,116,115]=c5;refine co [4,7,11,15,19] [] (x:=.of Tryz.f180 HK J9) ?_;refine ob h1 ?_
 cases c1
 ·refine ob h2 ?_
  cases c2
  ·refine ob h3 ?_
   cases c3
   ·refine ob h4 ?_
    cases c4
    ·refine ob h5 ?_
     cases c5 <;>
     ·exact fi
    exact fi
   exact fi
  exact fi
 exact fi
theorem dj {k j:Int} (h:k≠j):aB k j=false:=by rw[ct];simpa using h
theorem kinds (k:Int) {c0 c1 c2 c3 c4 c5 c6:Bool} (h0:aB k 0=c0) (h1:aB k 1=c1) (h2:aB k 2=c2) (h3:aB k 3=c3) (h4:aB k 4=c4) (h5:aB k 5=c5) (h6:aB k 6=c6) :
  (c0=true/\c1=false/\c2=false/\c3=false/\c4=false/\c5=false/\c6=false)∨(c0=false/\c1=true/\c2=false/\c3=false/\c4=false/\c5=false/\c6=false)∨(c0=false/\c1=false/\c2=true/\c3=false/\c4=false/\c5=false/\c6=false)∨(c0=false/\c1=false/\c2=false/\c3=true/\c4=false/\c5=false/\c6=false)∨(c0=false/\c1=false/\c2=false/\c3=false/\c4=true/\c5=false/\c6=false)∨(c0=false/\c1=false/\c2=false/\c3=false/\c4=false/\c5=true/\c6=false)∨(c0=false/\c1=false/\c2=false/\c3=false/\c4=false/\c5=false/\c6=true)∨(c0=false/\c1=false/\c2=false/\c3=false/\c4=false/\c5=false/\c6=false):=by
 subst h0 h1 h2 h3 h4 h5 h6
 by_cases q0:k=0
 ·subst q0;exact .inl ⟨rfl,rfl,rfl,rfl,rfl,rfl,rfl⟩
 by_cases q1:k=1
 ·subst q1;exact .inr (.inl ⟨rfl,rfl,rfl,rfl,rfl,rfl,rfl⟩)
 by_cases q2:k=2
 ·subst q2;exact .inr (.inr (.inl ⟨rfl,rfl,rfl,rfl,rfl,rfl,rfl⟩))
 by_cases q3:k=3
 ·subst q3;exact .inr (.inr (.inr (.inl ⟨rfl,rfl,rfl,rfl,rfl,rfl,rfl⟩)))
 by_cases q4:k=4
 ·subst q4;exact .inr (.inr (.inr (.inr (.inl ⟨rfl,rfl,rfl,rfl,rfl,rfl,rfl⟩))))
 by_cases q5:k=5
 ·subst q5;exact .inr (.inr (.inr (.inr (.inr (.inl ⟨rfl,rfl,rfl,rfl,rfl,rfl,rfl⟩)))))
 by_cases q6:k=6
 ·subst q6;exact .inr (.inr (.inr (.inr (.inr (.inr (.inl ⟨rfl,rfl,rfl,rfl,rfl,rfl,rfl⟩))))))
 exact .inr (.inr (.inr (.inr (.inr (.inr (.inr ⟨dj q0,dj q1,dj q2,dj q3,dj q4,dj q5,dj q6⟩))))))
noncomputable def YS:Hints:=⟨bS,fA,bg,rowsOf bg 153⟩
def Rr (j:Nat) (lo:Heap) (n:Nat) (i:Int):ab:=⟨[(j,iv i),(3,iv (Int.ofNat n)),(1,.ptr (.loc 1) 0)],lo,[],0⟩
def M5 (q j:Nat) (lo:Heap) (n:Nat) (i:Int):ab:=⟨[(q,bv false),(j,iv i),(3,iv (Int.ofNat n)),(1,.ptr (.loc 1) 0)],lo,[],0⟩
def RR:ab:=⟨[(2,bv false)],[],[],0⟩
theorem Lj {k:Int} {nm:List UInt8} {ix:Int} {l:List Ty} {t:Ty} {i:Nat} {c:Bool} (hi:i < (ax l).length) (ht:l[i]?=some t) (hc:ae 181 [.dat t.enc] (bv c)) {T:Exit->aa->Prop}
  (e1:c=true->T .normal ((Rr 4 (jT 1 k nm ix (.slice (ax l))) (ax l).length (ap .i64 (Int.ofNat i+1))).an Tryz.f153.ntmps)) (e2:c=false->T .ret (RR.an Tryz.f153.ntmps)) :
  KD (roundOf Tryz.f153 0) T ((Rr 4 (jT 1 k nm ix (.slice (ax l))) (ax l).length (Int.ofNat i)).an Tryz.f153.ntmps):=by
 have h1:=bc hi;have h2:=oF ht;generalize ax l=es at *;clear ht hi;obtain⟨k2,nm2,ix2,a2⟩:=t
 rcases a2 with _|⟨b,d⟩ <;>
 ·refine ay [65] [71] (H:=YS) (live:=du) (by kernel_rfl) ?_;refine ob h1 ?_;refine oo h2 ?_;refine on hc ?_
  cases c
  ·exact oe (e2 rfl)
  exact oe (e1 rfl)
theorem Nz {k:Int} {nm:List UInt8} {ix:Int} {l:List al} {T:Exit->aa->Prop} (e:T (.exit 1) ((M5 65 4 (jT 1 k nm ix (sl l)) l.length (Int.ofNat l.length)).an Tryz.f153.ntmps)) :
  KD (roundOf Tryz.f153 0) T ((Rr 4 (jT 1 k nm ix (sl l)) l.length (Int.ofNat l.length)).an Tryz.f153.ntmps):=by
 have h1:=bW (i:=l.length) (L:=l.length) (by omega)
 rcases l with _|⟨x,l⟩
 ·refine ay [] [] (H:=YS) (live:=du) (by kernel_rfl) ?_;exact oe e
 refine ay [65] [] (H:=YS) (live:=du) (by kernel_rfl) ?_;refine ob h1 ?_;exact oe e
theorem Li {k:Int} {nm:List UInt8} {ix:Int} {l:List Ty} {t:Ty} {i:Nat} {c:Bool} (hi:i < (ax l).length) (ht:l[i]?=some t) (hc:ae 153 [.dat t.enc] (bv c)) {T:Exit->aa->Prop}
  (e1:c=true->T .normal ((Rr 5 (jT 1 k nm ix (.slice (ax l))) (ax l).length (ap .i64 (Int.ofNat i+1))).an Tryz.f153.ntmps)) (e2:c=false->T .ret (RR.an Tryz.f153.ntmps)) :
  KD (roundOf Tryz.f153 1) T ((Rr 5 (jT 1 k nm ix (.slice (ax l))) (ax l).length (Int.ofNat i)).an Tryz.f153.ntmps):=by
 have h1:=bc hi;have h2:=oF ht;generalize ax l=es at *;clear ht hi;obtain⟨k2,nm2,ix2,a2⟩:=t
 rcases a2 with _|⟨b,d⟩ <;>
 ·refine ay [97] [103] (H:=YS) (live:=du) (by kernel_rfl) ?_;refine ob h1 ?_;refine oo h2 ?_;refine on hc ?_
  cases c
  ·exact oe (e2 rfl)
  exact oe (e1 rfl)
theorem Ny {k:Int} {nm:List UInt8} {ix:Int} {l:List al} {T:Exit->aa->Prop} (e:T (.exit 3) ((M5 97 5 (jT 1 k nm ix (sl l)) l.length (Int.ofNat l.length)).an Tryz.f153.ntmps)) :
  KD (roundOf Tryz.f153 1) T ((Rr 5 (jT 1 k nm ix (sl l)) l.length (Int.ofNat l.length)).an Tryz.f153.ntmps):=by
 have h1:=bW (i:=l.length) (L:=l.length) (by omega)
 rcases l with _|⟨x,l⟩
 ·refine ay [] [] (H:=YS) (live:=du) (by kernel_rfl) ?_;exact oe e
 refine ay [97] [] (H:=YS) (live:=du) (by kernel_rfl) ?_;refine ob h1 ?_;exact oe e
theorem VA {k ix:Int} {nm:List UInt8} {l:List Ty} {cp ca:Bool} (hi:ae 106 [.dat (sb nm)] (bv (isIdent nm))) (hr:ae 180 [.dat (sb nm)] (bv (gK nm))) (hcp:gE l=cp) (hnil:l=[]->ca=false)
  (hcl:∀t r,l=t::r->ae 108 [.dat t.enc] (bv (gU l)))
  (hl0:KD (.loop (roundOf Tryz.f153 0)) (fun e s=>(e=.exit 1/\cp=false/\s=(M5 65 4 (jT 1 k nm ix (sl (ax l))) (ax l).length (Int.ofNat (ax l).length)).an Tryz.f153.ntmps)∨(e=.ret/\cp=true/\s=RR.an Tryz.f153.ntmps)) ((Rr 4 (jT 1 k nm ix (sl (ax l))) (ax l).length (Int.ofNat 0)).an Tryz.f153.ntmps))
  (hl1:KD (.loop (roundOf Tryz.f153 1)) (fun e s=>(e=.exit 3/\ca=false/\s=(M5 97 5 (jT 1 k nm ix (sl (ax l))) (ax l).length (Int.ofNat (ax l).length)).an Tryz.f153.ntmps)∨(e=.ret/\ca=true/\s=RR.an Tryz.f153.ntmps)) ((Rr 5 (jT 1 k nm ix (sl (ax l))) (ax l).length (Int.ofNat 0)).an Tryz.f153.ntmps)) :
  ae 153 [.dat (Ty.mk k nm ix l).enc] (bv (uP k nm ix l&&!ca)):=by
 unfold uP;rw[hcp];clear hcp;generalize gU l=fc at hcl;generalize isIdent nm=ci at hi;generalize gK nm=cr at hr;generalize h0:aB k 0=c0;generalize h1:aB k 1=c1;generalize h2:aB k 2=c2;generalize h3:aB k 3=c3;generalize h4:aB k 4=c4;generalize h5:aB k 5=c5;generalize h6:aB k 6=c6;generalize hn:ju nm []=cn;generalize hx:aB ix 0=cx;generalize hl6:aH 6 (Int.ofNat (ax l).length)=l6;generalize hl2:aH (Int.ofNat (ax l).length) 2=l2;generalize he0:aB (Int.ofNat (ax l).length) 0=e0;generalize he2:aB (Int.ofNat (ax l).length) 2=e2;generalize hx0:aH ix 0=x0;generalize hx2:aH 200 ix=x2;have hk:=kinds k h0 h1 h2 h3 h4 h5 h6
 rcases l with _|⟨t,r⟩
 ·have hca:=hnil rfl;subst hca;have z6:l6=false:=hl6.symm;have z2:l2=true:=hl2.symm;have z0:e0=true:=he0.symm;have y2:e2=false:=he2.symm;subst z6;subst z2;subst z0;subst y2;have hl2':=hl1.mono (Q':=fun e s=>e=.exit 3/\s=(M5 97 5 (jT 1 k nm ix (sl (ax []))) (ax []).length (Int.ofNat (ax []).length)).an Tryz.f153.ntmps) (by
   rintro e s (⟨q1,_,q2⟩|⟨_,q,_⟩)
   ·exact⟨q1,q2⟩
   simp at q)
  clear hcl hnil hl6 hl2 he0 he2 hl1
  rcases hk with⟨rfl,rfl,rfl,rfl,rfl,rfl,rfl⟩|⟨rfl,rfl,rfl,rfl,rfl,rfl,rfl⟩|⟨rfl,rfl,rfl,rfl,rfl,rfl,rfl⟩|⟨rfl,rfl,rfl,rfl,rfl,rfl,rfl⟩|⟨rfl,rfl,rfl,rfl,rfl,rfl,rfl⟩|⟨rfl,rfl,rfl,rfl,rfl,rfl,rfl⟩|⟨rfl,rfl,rfl,rfl,rfl,rfl,rfl⟩|⟨rfl,rfl,rfl,rfl,rfl,rfl,rfl⟩
  ·refine co [11,15,20,24,30] [] (x:=.of Tryz.f153 fA du) ?_;refine ox h2 ?_;refine ox hn ?_
   cases cn
   ·exact fi
   refine ox h5 ?_;refine ox hx ?_
   cases cx
   ·exact fi
   refine ob h0 ?_;exact fi
  ·refine co [11,15,20,24,30,31] [] (x:=.of Tryz.f153 fA du) ?_;refine ox h2 ?_;refine ox hn ?_
   cases cn
   ·exact fi
   refine ox h5 ?_;refine ox hx ?_
   cases cx
   ·exact fi
   refine ob h0 ?_;refine ob h1 ?_;exact fi
  ·refine co [11,20,24,30,31,35,49] [] (x:=.of Tryz.f153 fA du) ?_;refine ox h2 ?_;refine ox h5 ?_;refine ox hx ?_
   cases cx
   ·exact fi
   refine ob h0 ?_;refine ob h1 ?_;refine ob h5 ?_;refine ob h2 ?_;refine on hi ?_
   cases ci
   ·exact fi
   refine on hr ?_
   cases cr
   ·refine lo hl0 ?_;rintro ex s (⟨rfl,rfl,rfl⟩|⟨rfl,rfl,rfl⟩)
    ·refine⟨_,rfl,?_⟩;refine lo hl2' ?_;rintro ex s ⟨rfl,rfl⟩;refine⟨_,rfl,?_⟩;exact fi
    refine⟨_,rfl,?_⟩;exact fi
   exact fi
  ·refine co [11,15,20,24,30,31,35,49,76] [] (x:=.of Tryz.f153 fA du) ?_;refine ox h2 ?_;refine ox hn ?_
   cases cn
   ·exact fi
   refine ox h5 ?_;refine ox hx ?_
   cases cx
   ·exact fi
   refine ob h0 ?_;refine ob h1 ?_;refine ob h5 ?_;refine ob h2 ?_;refine ob h3 ?_;refine lo hl2' ?_;rintro ex s ⟨rfl,rfl⟩;refine⟨_,rfl,?_⟩;exact fi
  ·refine co [11,15,20,24,30,31,35,49,76,80] [] (x:=.of Tryz.f153 fA du) ?_;refine ox h2 ?_;refine ox hn ?_
   cases cn
   ·exact fi
   refine ox h5 ?_;refine ox hx ?_
   cases cx
   ·exact fi
   refine ob h0 ?_;refine ob h1 ?_;refine ob h5 ?_;refine ob h2 ?_;refine ob h3 ?_;refine ob h4 ?_;exact fi
  ·refine co [11,15,20,30,31,35,41,46] [] (x:=.of Tryz.f153 fA du) ?_;refine ox h2 ?_;refine ox hn ?_
   cases cn
   ·exact fi
   refine ox h5 ?_;refine ob h0 ?_;refine ob h1 ?_;refine ob h5 ?_;refine ox hx0 ?_
   cases x0
   ·refine ox hx2 ?_
    cases x2 <;>
    ·exact fi
   exact fi
  ·refine co [11,15,20,24,30,31,35,49,76,80,84] [] (x:=.of Tryz.f153 fA du) ?_;refine ox h2 ?_;refine ox hn ?_
   cases cn
   ·exact fi
   refine ox h5 ?_;refine ox hx ?_
   cases cx
   ·exact fi
   refine ob h0 ?_;refine ob h1 ?_;refine ob h5 ?_;refine ob h2 ?_;refine ob h3 ?_;refine ob h4 ?_;refine ob h6 ?_;exact fi
  refine co [11,15,20,24,30,31,35,49,76,80,84] [] (x:=.of Tryz.f153 fA du) ?_;refine ox h2 ?_;refine ox hn ?_
  cases cn
  ·exact fi
  refine ox h5 ?_;refine ox hx ?_
  cases cx
  ·exact fi
  refine ob h0 ?_;refine ob h1 ?_;refine ob h5 ?_;refine ob h2 ?_;refine ob h3 ?_;refine ob h4 ?_;refine ob h6 ?_;exact fi
 have hcl2:=hcl t r rfl;have z0:e0=false:=he0.symm;subst z0;have g0:=oF (l:=t::r) (i:=0) rfl;clear hcl hnil he0;obtain⟨tk,tn,tix,ta⟩:=t
 rcases ta with _|⟨y,ta⟩ <;>
 ·rcases hk with⟨rfl,rfl,rfl,rfl,rfl,rfl,rfl⟩|⟨rfl,rfl,rfl,rfl,rfl,rfl,rfl⟩|⟨rfl,rfl,rfl,rfl,rfl,rfl,rfl⟩|⟨rfl,rfl,rfl,rfl,rfl,rfl,rfl⟩|⟨rfl,rfl,rfl,rfl,rfl,rfl,rfl⟩|⟨rfl,rfl,rfl,rfl,rfl,rfl,rfl⟩|⟨rfl,rfl,rfl,rfl,rfl,rfl,rfl⟩|⟨rfl,rfl,rfl,rfl,rfl,rfl,rfl⟩
  ·refine co [11,15,20,24,30] [] (x:=.of Tryz.f153 fA du) ?_;refine ox h2 ?_;refine ox hn ?_
   cases cn
   ·exact fi
   refine ox h5 ?_;refine ox hx ?_
   cases cx
   ·exact fi
   refine ob h0 ?_;exact fi
  ·refine co [11,15,20,24,30,31] [] (x:=.of Tryz.f153 fA du) ?_;refine ox h2 ?_;refine ox hn ?_
   cases cn
   ·exact fi
   refine ox h5 ?_;refine ox hx ?_
   cases cx
   ·exact fi
   refine ob h0 ?_;refine ob h1 ?_;exact fi
  ·refine co [11,20,24,30,31,35,49,61] [] (x:=.of Tryz.f153 fA du) ?_;refine ox h2 ?_;refine ox h5 ?_;refine ox hx ?_
   cases cx
   ·exact fi
   refine ob h0 ?_;refine ob h1 ?_;refine ob h5 ?_;refine ob h2 ?_;refine on hi ?_
   cases ci
   ·exact fi
   refine on hr ?_
   cases cr
   ·refine ob hl6 ?_
    cases l6
    ·refine lo hl0 ?_;rintro ex s (⟨rfl,rfl,rfl⟩|⟨rfl,rfl,rfl⟩)
     ·refine⟨_,rfl,?_⟩;refine lo hl1 ?_;rintro ex s (⟨rfl,rfl,rfl⟩|⟨rfl,rfl,rfl⟩) <;>
      ·refine⟨_,rfl,?_⟩;exact fi
     refine⟨_,rfl,?_⟩;exact fi
    exact fi
   exact fi
  ·refine co [11,15,20,24,30,31,35,49,76,78] [] (x:=.of Tryz.f153 fA du) ?_;refine ox h2 ?_;refine ox hn ?_
   cases cn
   ·exact fi
   refine ox h5 ?_;refine ox hx ?_
   cases cx
   ·exact fi
   refine ob h0 ?_;refine ob h1 ?_;refine ob h5 ?_;refine ob h2 ?_;refine ob h3 ?_;refine ob hl6 ?_
   cases l6
   ·refine lo hl1 ?_;rintro ex s (⟨rfl,rfl,rfl⟩|⟨rfl,rfl,rfl⟩) <;>
    ·refine⟨_,rfl,?_⟩;exact fi
   exact fi
  ·refine co [11,15,20,24,30,31,35,49,76,80,82] [] (x:=.of Tryz.f153 fA du) ?_;refine ox h2 ?_;refine ox hn ?_
   cases cn
   ·exact fi
   refine ox h5 ?_;refine ox hx ?_
   cases cx
   ·exact fi
   refine ob h0 ?_;refine ob h1 ?_;refine ob h5 ?_;refine ob h2 ?_;refine ob h3 ?_;refine ob h4 ?_;refine ob hl2 ?_
   cases l2
   ·refine lo hl1 ?_;rintro ex s (⟨rfl,rfl,rfl⟩|⟨rfl,rfl,rfl⟩) <;>
    ·refine⟨_,rfl,?_⟩;exact fi
   exact fi
  ·refine co [11,15,20,30,31,35] [] (x:=.of Tryz.f153 fA du) ?_;refine ox h2 ?_;refine ox hn ?_
   cases cn
   ·exact fi
   refine ox h5 ?_;refine ob h0 ?_;refine ob h1 ?_;refine ob h5 ?_;exact fi
  ·refine co [11,15,20,24,30,31,35,49,76,80,84,86] [90] (x:=.of Tryz.f153 fA du) ?_;refine ox h2 ?_;refine ox hn ?_
   cases cn
   ·exact fi
   refine ox h5 ?_;refine ox hx ?_
   cases cx
   ·exact fi
   refine ob h0 ?_;refine ob h1 ?_;refine ob h5 ?_;refine ob h2 ?_;refine ob h3 ?_;refine ob h4 ?_;refine ob h6 ?_;refine ox he2 ?_
   cases e2
   ·exact fi
   refine oo g0 ?_;refine on hcl2 ?_
   cases fc
   ·exact fi
   refine lo hl1 ?_;rintro ex s (⟨rfl,rfl,rfl⟩|⟨rfl,rfl,rfl⟩) <;>
   ·refine⟨_,rfl,?_⟩;exact fi
  refine co [11,15,20,24,30,31,35,49,76,80,84] [] (x:=.of Tryz.f153 fA du) ?_;refine ox h2 ?_;refine ox hn ?_
  cases cn
  ·exact fi
  refine ox h5 ?_;refine ox hx ?_
  cases cx
  ·exact fi
  refine ob h0 ?_;refine ob h1 ?_;refine ob h5 ?_;refine ob h2 ?_;refine ob h3 ?_;refine ob h4 ?_;refine ob h6 ?_;exact fi
theorem I9 {l:List Ty} {i:Nat} {t:Ty} (h:l[i]?=some t):oC (l.drop i)=(!t.valid||oC (l.drop (i+1))):=by rw[ku h,oC]
mutual
theorem N4:∀t:Ty,t.gO->ae 153 [.dat t.enc] (bv t.valid)
 | .mk k nm ix l,h=>by
  obtain⟨h1,h2⟩:=h;simp only[Ty.size] at h1;simp only[Ty.gJ] at h2;have ih:=JA l (by omega) h2.2;have ihp:=yJ l (by omega) h2.2;have hlen:=gf l;have hcl:∀t r,l=t::r->ae 108 [.dat t.enc] (bv (gU l)):=by
   rintro t r rfl;simp only[aT] at h1;simp only[eO] at h2;exact BD ⟨by omega,h2.2.1⟩
  rw[Ty.valid];refine VA (cp:=gE l) (xf nm) (aah nm) rfl (by rintro rfl;rw[oC]) hcl ?_ ?_
  ·refine cH (St:=fun i=>(Rr 4 (jT 1 k nm ix (sl (ax l))) (ax l).length (Int.ofNat i)).an Tryz.f153.ntmps) (fun i=>gE l=gE (l.drop i)) (ax l).length ?_ ?_ (i:=0) (Nat.zero_le _) rfl
   ·intro i hi hI;obtain⟨t,ht,hm⟩:=get_mem hi;have hd:=AA ht;rw[←hI] at hd;have hsl:=nb hi;have hw:ap .i64 (Int.ofNat i+1)=Int.ofNat (i+1):=ba (by rw[aJ] at hi;omega);have hc:=ihp t hm;rw[hsl];generalize t.plain=c at hc hd;refine Lj hi ht hc ?_ ?_
    ·rintro rfl;rw[hw];exact⟨rfl,hd⟩
    rintro rfl;exact .inr ⟨rfl,hd,rfl⟩
   intro hI;refine Nz (.inl ⟨rfl,?_,rfl⟩);rw[hI,aJ,List.drop_length,gE]
  refine cH (St:=fun i=>(Rr 5 (jT 1 k nm ix (sl (ax l))) (ax l).length (Int.ofNat i)).an Tryz.f153.ntmps) (fun i=>oC l=oC (l.drop i)) (ax l).length ?_ ?_ (i:=0) (Nat.zero_le _) rfl
  ·intro i hi hI;obtain⟨t,ht,hm⟩:=get_mem hi;have hd:=I9 ht;rw[←hI] at hd;have hsl:=nb hi;have hw:ap .i64 (Int.ofNat i+1)=Int.ofNat (i+1):=ba (by rw[aJ] at hi;omega);have hc:=ih t hm;rw[hsl];generalize t.valid=c at hc hd;refine Li hi ht hc ?_ ?_
   ·rintro rfl;rw[hw];exact⟨rfl,hd⟩
   rintro rfl;exact .inr ⟨rfl,hd,rfl⟩
  intro hI;refine Ny (.inl ⟨rfl,?_,rfl⟩);rw[hI,aJ,List.drop_length,oC]
theorem JA:∀l:List Ty,aT l < 100000000->eO l->∀t∈l,ae 153 [.dat t.enc] (bv t.valid)
 | [],_,_,t,ht=>by simp at ht
 | u::r,h,hx,t,ht=>by
  simp only[aT] at h;simp only[eO] at hx
  rcases List.mem_cons.1 ht with h1|ht
  ·rw[h1];exact N4 u ⟨by omega,hx.1⟩
  exact JA r (by omega) hx.2 t ht
end
def GM (cn cm c:Bool):Int:=match cn||cm with|true=>4|false=>(match c with|true=>0|false=>2)
theorem RG (t:Ty):t.validate=GM (aH 200 (Int.ofNat t.size)) (aH 12 (Int.ofNat t.depth)) t.valid:=by
 unfold Ty.validate GM
 cases (aH 200 (Int.ofNat t.size)||aH 12 (Int.ofNat t.depth)) <;> cases t.valid <;> rfl
theorem ZN {k ix:Int} {nm:List UInt8} {l:List al} {n m:Int} {cn cm c:Bool} (h1:ae 151 [.dat (.agg [i64 k,sb nm,i64 ix,sl l])] (iv n)) (hn:aH 200 n=cn) (h2:ae 152 [.dat (.agg [i64 k,sb nm,i64 ix,sl l])] (iv m)) (hm:aH 12 m=cm)
  (h3:ae 153 [.dat (.agg [i64 k,sb nm,i64 ix,sl l])] (bv c)):ae 107 [.dat (.agg [i64 k,sb nm,i64 ix,sl l])] (iv (GM cn cm c)):=by
 rcases l with _|⟨x,l⟩ <;>
 ·refine co [6,10] [] (x:=.of Tryz.f107 HX Km) ?_;refine on h1 ?_;refine ob hn ?_
  cases cn
  ·refine on h2 ?_;refine ob hm ?_
   cases cm
   ·refine on h3 ?_
    cases c <;>
    ·exact fi
   exact fi
  exact fi
theorem Hs {t:Ty} (h:t.gO):ae 107 [.dat t.enc] (iv t.validate):=by
 have h1:=N5 t (by have:=h.1;omega);have h2:=JF t (by have:=h.1;omega);have h3:=N4 t h;rw[RG];obtain⟨k,nm,ix,l⟩:=t;exact ZN h1 rfl h2 rfl h3
theorem iX {p1 n sl:Int} {d1 d2:al} (g1:cV d1) (g2:cV d2):ae 105 [.dat (aP p1 sl d1 d2),iv n] (bv (dS n sl)):=by
 have q1:=aS (p:=p1) (s:=sl) g1 g2;unfold dS;generalize h1:aH n 0=c1;generalize h2:aH n sl=c2;refine co [6,11] [2] (x:=.of Tryz.f105 HY Kn) ?_;refine oo q1 ?_;refine ox h1 ?_
 cases c1
 ·refine ob h2 ?_
  cases c2 <;>
  ·exact fi
 exact fi
noncomputable def UU:Hints:=⟨bS,yY,bg,rowsOf bg 109⟩
def KW (k i:Int) (s:List UInt8) (j:Int):ab:=⟨[(3,iv j),(1,.ptr (.loc 1) 0)],JZ k i s,[],0⟩
def M8 (q:Nat) (k i:Int) (s:List UInt8):ab:=⟨[(q,bv false),(3,iv (Int.ofNat s.length)),(1,.ptr (.loc 1) 0)],JZ k i s,[],0⟩
def M9:ab:=⟨[(2,bv false)],[],[],0⟩
theorem Ho {k i:Int} {s:List UInt8} {j:Nat} {c:UInt8} {b1 b2:Bool} {T:Exit->aa->Prop} (h1:aH (Int.ofNat j) (Int.ofNat s.length)=true) (h2:pV (env ak.aC) 9 [.dat (sb s),.dat (.flat (.int .i64 (Int.ofNat j)))]=some ⟨Fx c.toNat,.keep⟩)
  (h3:aH (Int.ofNat c.toNat) 32=b1) (h4:aH 126 (Int.ofNat c.toNat)=b2) (e1:(!b1&&!b2)=true->T .normal ((KW k i s (ap .i64 (Int.ofNat j+1))).an Tryz.f109.ntmps)) (e2:(!b1&&!b2)=false->T .ret (M9.an Tryz.f109.ntmps)) :
  KD (roundOf Tryz.f109 0) T ((KW k i s (Int.ofNat j)).an Tryz.f109.ntmps):=by
 refine ay [37,44,50] [43,49] (H:=UU) (live:=sW) (by kernel_rfl) ?_;refine ob h1 ?_;refine oo h2 ?_;refine ob h3 ?_
 cases b1
 ·refine oo h2 ?_;refine ob h4 ?_
  cases b2
  ·exact oe (e1 rfl)
  exact oe (e2 rfl)
 exact oe (e2 rfl)
theorem Lp {k i:Int} {s:List UInt8} {T:Exit->aa->Prop} (e1:T (.exit 0) ((M8 37 k i s).an Tryz.f109.ntmps)) :
  KD (roundOf Tryz.f109 0) T ((KW k i s (Int.ofNat s.length)).an Tryz.f109.ntmps):=by
 have h1:=bW (i:=s.length) (L:=s.length) (by omega);refine ay [37] [] (H:=UU) (live:=sW) (by kernel_rfl) ?_;refine ob h1 ?_;exact oe e1
theorem Lo {k i:Int} {s:List UInt8} (hn:s.length < 1000000000) :
  KD (.loop (roundOf Tryz.f109 0)) (fun e q=>(e=.exit 0/\s.all (fun c=>ey c.toNat)=true/\q=(M8 37 k i s).an Tryz.f109.ntmps)∨(e=.ret/\s.all (fun c=>ey c.toNat)=false/\q=M9.an Tryz.f109.ntmps)) ((KW k i s (Int.ofNat 0)).an Tryz.f109.ntmps):=by
 refine cH (St:=fun j=>(KW k i s (Int.ofNat j)).an Tryz.f109.ntmps) (fun j=>s.all (fun c=>ey c.toNat)=(s.drop j).all (fun c=>ey c.toNat)) s.length ?_ ?_ (i:=0) (Nat.zero_le _) rfl
 ·intro j hj hI;have hg:s[j]?=some s[j]:=List.getElem?_eq_getElem hj;have hd:(s.drop j).all (fun c=>ey c.toNat)=(ey s[j].toNat&&(s.drop (j+1)).all (fun c=>ey c.toNat)):=by rw[List.drop_eq_getElem_cons hj];rfl
  have hw:ap .i64 (Int.ofNat j+1)=Int.ofNat (j+1):=ba (by omega);generalize s[j]=c at hg hd;have hp:ey c.toNat=(!aH (Int.ofNat c.toNat) 32&&!aH 126 (Int.ofNat c.toNat)):=rfl;rw[←hI,hp] at hd;refine Ho (bc hj) (mW hg) rfl rfl ?_ ?_
  ·intro h;rw[h] at hd;rw[hw];exact⟨rfl,hd⟩
  intro h;rw[h] at hd;exact .inr ⟨rfl,hd,rfl⟩
 intro hI;have h1:s.all (fun c=>ey c.toNat)=true:=by rw[hI,List.drop_length];rfl
 exact Lp (.inl ⟨rfl,h1,rfl⟩)
theorem NU {k i:Int} {s:List UInt8} {c0 c1 c2 c3 c4 c5 c6 c7 d:Bool} (h0:aB k 0=c0) (h1:aB k 1=c1) (h2:aB k 2=c2) (h3:aB k 3=c3) (h4:aB i 0=c4) (h5:aB i 1=c5) (h6:ju s []=c6) (h7:aH 2000 (Int.ofNat s.length)=c7)
  (hl:KD (.loop (roundOf Tryz.f109 0)) (fun e q=>(e=.exit 0/\d=true/\q=(M8 37 k i s).an Tryz.f109.ntmps)∨(e=.ret/\d=false/\q=M9.an Tryz.f109.ntmps)) ((KW k i s (Int.ofNat 0)).an Tryz.f109.ntmps)) :
  ae 109 [.dat (lf k i s)] (bv (if (!c3&&!c6)=true then false else if (!c1&&(!c2&&!c4))=true then false else if d=false then false else if (c0||c1)=true then true else if c2=true then c4||c5 else if c3=true then !c7 else false)):=by
 cases c6
 ·refine co [11,21,55,56,25,58,61,65,30,68,72,15] [] (x:=.of Tryz.f109 yY sW) ?_;refine ox h3 ?_
  cases c3
  ·refine ox h6 ?_;exact fi
  refine ox h1 ?_
  cases c1
  ·refine ox h2 ?_
   cases c2
   ·refine ox h4 ?_
    cases c4
    ·exact fi
    refine lo hl ?_;rintro ex s (⟨rfl,rfl,rfl⟩|⟨rfl,rfl,rfl⟩)
    ·refine⟨_,rfl,?_⟩;refine ob h0 ?_
     cases c0
     ·refine ob h1 ?_;refine ob h2 ?_;refine ob h3 ?_;refine ox h7 ?_
      cases c7 <;>
      ·exact fi
     exact fi
    refine⟨_,rfl,?_⟩;exact fi
   refine lo hl ?_;rintro ex s (⟨rfl,rfl,rfl⟩|⟨rfl,rfl,rfl⟩)
   ·refine⟨_,rfl,?_⟩;refine ob h0 ?_
    cases c0
    ·refine ob h1 ?_;refine ob h2 ?_;refine ob h4 ?_
     cases c4
     ·refine ob h5 ?_
      cases c5 <;>
      ·exact fi
     exact fi
    exact fi
   refine⟨_,rfl,?_⟩;exact fi
  refine lo hl ?_;rintro ex s (⟨rfl,rfl,rfl⟩|⟨rfl,rfl,rfl⟩)
  ·refine⟨_,rfl,?_⟩;refine ob h0 ?_
   cases c0
   ·refine ob h1 ?_;exact fi
   exact fi
  refine⟨_,rfl,?_⟩;exact fi
 refine co [11,21,55,56,25,58,61,65,30,68,72,15] [] (x:=.of Tryz.f109 yY sW) ?_;refine ox h3 ?_
 cases c3
 ·refine ox h6 ?_;refine ox h1 ?_
  cases c1
  ·refine ox h2 ?_
   cases c2
   ·refine ox h4 ?_
    cases c4
    ·exact fi
    refine lo hl ?_;rintro ex s (⟨rfl,rfl,rfl⟩|⟨rfl,rfl,rfl⟩)
    ·refine⟨_,rfl,?_⟩;refine ob h0 ?_
     cases c0
     ·refine ob h1 ?_;refine ob h2 ?_;refine ob h3 ?_;exact fi
     exact fi
    refine⟨_,rfl,?_⟩;exact fi
   refine lo hl ?_;rintro ex s (⟨rfl,rfl,rfl⟩|⟨rfl,rfl,rfl⟩)
   ·refine⟨_,rfl,?_⟩;refine ob h0 ?_
    cases c0
    ·refine ob h1 ?_;refine ob h2 ?_;refine ob h4 ?_
     cases c4
     ·refine ob h5 ?_
      cases c5 <;>
      ·exact fi
     exact fi
    exact fi
   refine⟨_,rfl,?_⟩;exact fi
  refine lo hl ?_;rintro ex s (⟨rfl,rfl,rfl⟩|⟨rfl,rfl,rfl⟩)
  ·refine⟨_,rfl,?_⟩;refine ob h0 ?_
   cases c0
   ·refine ob h1 ?_;exact fi
   exact fi
  refine⟨_,rfl,?_⟩;exact fi
 refine ox h1 ?_
 cases c1
 ·refine ox h2 ?_
  cases c2
  ·refine ox h4 ?_
   cases c4
   ·exact fi
   refine lo hl ?_;rintro ex s (⟨rfl,rfl,rfl⟩|⟨rfl,rfl,rfl⟩)
   ·refine⟨_,rfl,?_⟩;refine ob h0 ?_
    cases c0
    ·refine ob h1 ?_;refine ob h2 ?_;refine ob h3 ?_;refine ox h7 ?_
     cases c7 <;>
     ·exact fi
    exact fi
   refine⟨_,rfl,?_⟩;exact fi
  refine lo hl ?_;rintro ex s (⟨rfl,rfl,rfl⟩|⟨rfl,rfl,rfl⟩)
  ·refine⟨_,rfl,?_⟩;refine ob h0 ?_
   cases c0
   ·refine ob h1 ?_;refine ob h2 ?_;refine ob h4 ?_
    cases c4
    ·refine ob h5 ?_
     cases c5 <;>
     ·exact fi
    exact fi
   exact fi
  refine⟨_,rfl,?_⟩;exact fi
 refine lo hl ?_;rintro ex s (⟨rfl,rfl,rfl⟩|⟨rfl,rfl,rfl⟩)
 ·refine⟨_,rfl,?_⟩;refine ob h0 ?_
  cases c0
  ·refine ob h1 ?_;exact fi
  exact fi
 refine⟨_,rfl,?_⟩;exact fi
theorem CS {k i:Int} {s:List UInt8} (hn:s.length < 1000000000):ae 109 [.dat (lf k i s)] (bv (rM k i s)):=NU rfl rfl rfl rfl rfl rfl rfl rfl (Lo hn)
noncomputable def hVE:Hints:=⟨bS,JN,bg,rowsOf bg 87⟩
def aar (k i:Int) (s:List UInt8):Heap:=[(.loc 3,.cells [iv 0,iv 0,.dat (sb []),.dat nl]),(.loc 2,.cells [iv k,iv i,.dat (sb s),.dat nl])]
def RS (k i:Int) (s:List UInt8):ab:=⟨[(5,iv 0),(3,.ptr (.loc 3) 0),(2,.ptr (.loc 2) 0)],aar k i s,[],0⟩
def M6 (q:Nat) (k i:Int) (s:List UInt8):ab:=⟨[(q,bv false),(5,iv 0),(3,.ptr (.loc 3) 0),(2,.ptr (.loc 2) 0)],aar k i s,[],0⟩
theorem RE {k i:Int} {s:List UInt8} {T:Exit->aa->Prop} (e1:T (.exit 0) ((M6 38 k i s).an Tryz.f87.ntmps)) :
  KD (roundOf Tryz.f87 0) T ((RS k i s).an Tryz.f87.ntmps):=by
 refine ay [] [] (H:=hVE) (live:=Ih) (by kernel_rfl) ?_;exact oe e1
theorem RD {k i:Int} {s:List UInt8} :
  KD (.loop (roundOf Tryz.f87 0)) (fun e q=>e=.exit 0/\q=(M6 38 k i s).an Tryz.f87.ntmps) ((RS k i s).an Tryz.f87.ntmps):=by
 refine aZ (St:=fun _=>(RS k i s).an Tryz.f87.ntmps) 0 (fun i hi=>absurd hi (by omega)) ?_ (i:=0) (Nat.le_refl _);exact RE ⟨rfl,rfl⟩
theorem U6 {k i:Int} {s:List UInt8} {c1 c2 c3:Bool} (h1:aB k 0=c1) (h2:aB i 0=c2) (h3:ju s []=c3)
  (hl:KD (.loop (roundOf Tryz.f87 0)) (fun e q=>e=.exit 0/\q=(M6 38 k i s).an Tryz.f87.ntmps) ((RS k i s).an Tryz.f87.ntmps)) :
  ae 87 [.dat (lf k i s),.dat (lf 0 0 [])] (bv (c1&&(c2&&c3))):=by
 refine co [10,16,23] [] (x:=.of Tryz.f87 JN Ih) ?_;refine ox h1 ?_
 cases c1
 ·exact fi
 refine ox h2 ?_
 cases c2
 ·exact fi
 refine ox h3 ?_
 cases c3
 ·exact fi
 refine lo hl ?_;rintro ex s ⟨rfl,rfl⟩;refine⟨_,rfl,?_⟩;exact fi
theorem uF {k i:Int} {s:List UInt8}:ae 87 [.dat (lf k i s),.dat (lf 0 0 [])] (bv (A8 k i s)):=U6 rfl rfl rfl RD
def cU (s:ke):List ac:=[bv s.dst,bv s.a,bv s.b,bv s.im,bv s.nm,bv s.ar,bv s.ty,bv s.con]
noncomputable def hRV:Hints:=⟨bS,cq,bg,rowsOf bg 70⟩
def aat (c2 c3 c5:List ac):Heap:=[(.loc 5,.cells c5),(.loc 3,.cells c3),(.loc 2,.cells c2)]
def AM (c2 c3 c5:List ac) (i:Int):ab:=⟨[(6,iv i),(5,.ptr (.loc 5) 0),(3,.ptr (.loc 3) 0),(2,.ptr (.loc 2) 0)],aat c2 c3 c5,[],0⟩
def Bp (c2 c3 c5:List ac) (i:Int):ab:=⟨[(142,bv false),(6,iv i),(5,.ptr (.loc 5) 0),(3,.ptr (.loc 3) 0),(2,.ptr (.loc 2) 0)],aat c2 c3 c5,[],0⟩
def M7:ab:=⟨[(4,bv false)],[],[],0⟩
theorem NA {ar:List Int} {t p sl op:Int} {d1 d2:al} (g1:cV d1) (g2:cV d2) {dst a b im:Int} {nm:List UInt8} {k:Int} {tn:List UInt8} {ix:Int} {dt:al} {ck ci:Int} {cs:List UInt8} {s:ke} {c:Bool} {i:Nat} {T:Exit->aa->Prop} (hi:i < (ar.map iN).length) (ht:ar[i]?=some t)
  (hc:ae 105 [.dat (aP p sl d1 d2),iv t] (bv c))
  (e1:c=true->T .normal ((AM (cC p sl d1 d2) (cX op dst a b im nm (.slice (ar.map iN)) k tn ix dt ck ci cs) (cU s) (ap .i64 (Int.ofNat i+1))).an Tryz.f70.ntmps)) (e2:c=false->T .ret (M7.an Tryz.f70.ntmps)) :
  KD (roundOf Tryz.f70 0) T ((AM (cC p sl d1 d2) (cX op dst a b im nm (.slice (ar.map iN)) k tn ix dt ck ci cs) (cU s) (Int.ofNat i)).an Tryz.f70.ntmps):=by
 have h1:=bc hi;have h2:=uY ht;have q3:=aN false 2 (p:=p) (s:=sl) g1 g2;generalize ar.map iN=es at *;clear ht hi g1 g2;refine ay [142] [145,149] (H:=hRV) (live:=bp) (by kernel_rfl) ?_;refine ob h1 ?_;refine oo q3 ?_;refine oo h2 ?_;refine on hc ?_
 cases c
 ·exact oe (e2 rfl)
 exact oe (e1 rfl)
theorem RZ {es:List al} {p sl op:Int} {d1 d2:al} {dst a b im:Int} {nm:List UInt8} {k:Int} {tn:List UInt8} {ix:Int} {dt:al} {ck ci:Int} {cs:List UInt8} {s:ke} {T:Exit->aa->Prop}
  (e1:T (.exit 0) ((Bp (cC p sl d1 d2) (cX op dst a b im nm (.slice es) k tn ix dt ck ci cs) (cU s) (Int.ofNat es.length)).an Tryz.f70.ntmps)) :
  KD (roundOf Tryz.f70 0) T ((AM (cC p sl d1 d2) (cX op dst a b im nm (.slice es) k tn ix dt ck ci cs) (cU s) (Int.ofNat es.length)).an Tryz.f70.ntmps):=by
 have h1:=bW (i:=es.length) (L:=es.length) (by omega);refine ay [142] [] (H:=hRV) (live:=bp) (by kernel_rfl) ?_;refine ob h1 ?_;exact oe e1
theorem ND {p sl op:Int} {d1 d2:al} {dst a b im:Int} {nm:List UInt8} {k:Int} {tn:List UInt8} {ix:Int} {dt:al} {ck ci:Int} {cs:List UInt8} {s:ke} {T:Exit->aa->Prop}
  (e1:T (.exit 0) ((Bp (cC p sl d1 d2) (cX op dst a b im nm nl k tn ix dt ck ci cs) (cU s) 0).an Tryz.f70.ntmps)) :
  KD (roundOf Tryz.f70 0) T ((AM (cC p sl d1 d2) (cX op dst a b im nm nl k tn ix dt ck ci cs) (cU s) 0).an Tryz.f70.ntmps):=by
 refine ay [] [] (H:=hRV) (live:=bp) (by kernel_rfl) ?_;exact oe e1
theorem Jv {ar:List Int} (hn:ar.length < 1000000000) {p sl op:Int} {d1 d2:al} (g1:cV d1) (g2:cV d2) {dst a b im:Int} {nm:List UInt8} {k:Int} {tn:List UInt8} {ix:Int} {dt:al} {ck ci:Int} {cs:List UInt8} {s:ke} :
  KD (.loop (roundOf Tryz.f70 0)) (fun e q=>(e=.exit 0/\ar.all (fun n=>dS n sl)=true/\q=(Bp (cC p sl d1 d2) (cX op dst a b im nm (.slice (ar.map iN)) k tn ix dt ck ci cs) (cU s) (Int.ofNat (ar.map iN).length)).an Tryz.f70.ntmps)∨(e=.ret/\ar.all (fun n=>dS n sl)=false/\q=M7.an Tryz.f70.ntmps))
   ((AM (cC p sl d1 d2) (cX op dst a b im nm (.slice (ar.map iN)) k tn ix dt ck ci cs) (cU s) 0).an Tryz.f70.ntmps):=by
 refine cH (St:=fun i=>(AM (cC p sl d1 d2) (cX op dst a b im nm (.slice (ar.map iN)) k tn ix dt ck ci cs) (cU s) (Int.ofNat i)).an Tryz.f70.ntmps) (fun i=>ar.all (fun n=>dS n sl)=(ar.drop i).all (fun n=>dS n sl)) (ar.map iN).length ?_ ?_ (i:=0) (Nat.zero_le _) rfl
 ·intro i hi hI;have hi2:i < ar.length:=by simpa using hi
  have ht:ar[i]?=some (ar[i]):=List.getElem?_eq_getElem hi2;have ha:(ar.drop i).all (fun n=>dS n sl)=(dS ar[i] sl&&(ar.drop (i+1)).all (fun n=>dS n sl)):=by rw[List.drop_eq_getElem_cons hi2];rfl
  generalize ar[i]=t at ht ha;rw[←hI] at ha;have hc:=@iX p t sl _ _ g1 g2;generalize dS t sl=c at hc ha;have hw:ap .i64 (Int.ofNat i+1)=Int.ofNat (i+1):=ba (by omega);refine NA g1 g2 hi ht hc ?_ ?_
  ·rintro rfl;rw[hw];exact⟨rfl,ha⟩
  rintro rfl;exact .inr ⟨rfl,ha,rfl⟩
 intro hI;have h1:ar.all (fun n=>dS n sl)=true:=by
  rw[hI,List.length_map,List.drop_length];rfl
 exact RZ (.inl ⟨rfl,h1,rfl⟩)
theorem NC {p sl op:Int} {d1 d2:al} {dst a b im:Int} {nm:List UInt8} {k:Int} {tn:List UInt8} {ix:Int} {dt:al} {ck ci:Int} {cs:List UInt8} {s:ke} :
  KD (.loop (roundOf Tryz.f70 0)) (fun e q=>e=.exit 0/\q=(Bp (cC p sl d1 d2) (cX op dst a b im nm nl k tn ix dt ck ci cs) (cU s) 0).an Tryz.f70.ntmps)
   ((AM (cC p sl d1 d2) (cX op dst a b im nm nl k tn ix dt ck ci cs) (cU s) 0).an Tryz.f70.ntmps):=by
 refine aZ (St:=fun _=>(AM (cC p sl d1 d2) (cX op dst a b im nm nl k tn ix dt ck ci cs) (cU s) 0).an Tryz.f70.ntmps) 0 (fun i hi=>absurd hi (by omega)) ?_ (i:=0) (Nat.le_refl _);exact ND ⟨rfl,rfl⟩
def rvF (s:ke) (op:Int) (z1 z2 z3 z4 z5 z6 z7 z8 z9 t1 t2 t3 d w1 w5 w3 w4 i0 i1 i2 i3 i4 i5 i6:Bool):Bool:=
 ((s.dst||z1)&&((s.a||z2)&&((s.b||z3)&&((s.im||z4)&&((s.nm||z5)&&((s.ar||!z6)&&((s.ty||z7)&&(s.con||z8)))))))) &&
 (((!(s.dst&&!t1)&&(!(s.a&&!t2)&&(!(s.b&&!t3)&&!z9)))&&d)&&(((!s.nm||w1)&&((!s.ty||(w5&&w3))&&(!s.con||w4))) &&
 (if (aB op 12||aB op 13)=true then !i0&&i5 else if aB op 3=true then !i1&&(!i2&&(!i4||z3)) else if aB op 8=true then !i0&&i3 else if aB op 17=true then !i0&&i6 else if (aB op 20||aB op 22)=true then !i1 else true)))
def AJ (n:Nat):Prop:=∀{p sl:Int} {is:List al} {d2:al} (_:cV d2) {es:List al} {dst a b im:Int} {nm:List UInt8} {k:Int} {tn:List UInt8} {ix:Int} {dt:al} {ck ci:Int} {cs:List UInt8} (_:cV dt) {z1 z2 z3 z4 z5 z6 z7 z8 z9 t1 t2 t3 d w1 w5 w3 w4 i0 i1 i2 i3 i4 i5 i6:Bool} {w2:Int},
  aB dst 0=z1->aB a 0=z2->aB b 0=z3->aB im 0=z4->ju nm []=z5->aH 0 (Int.ofNat es.length)=z6->aH 6 (Int.ofNat es.length)=z9->ae 104 [] (.dat (Ty.mk 0 [] 0 []).enc)->ae 86 [.dat (.agg [i64 k,sb tn,i64 ix,dt]),.dat (Ty.mk 0 [] 0 []).enc] (bv z7)->ae 87 [.dat (lf ck ci cs),.dat (lf 0 0 [])] (bv z8)->
  ae 105 [.dat (aP p sl (.slice is) d2),iv dst] (bv t1)->ae 105 [.dat (aP p sl (.slice is) d2),iv a] (bv t2)->ae 105 [.dat (aP p sl (.slice is) d2),iv b] (bv t3)->
  ae 106 [.dat (sb nm)] (bv w1)->ae 107 [.dat (.agg [i64 k,sb tn,i64 ix,dt])] (iv w2)->aB w2 0=w5->ae 108 [.dat (.agg [i64 k,sb tn,i64 ix,dt])] (bv w3)->ae 109 [.dat (lf ck ci cs)] (bv w4)->
  aH im 0=i0->aH im 1=i1->aH 7 im=i2->aH im 6=i3->aB im 5=i4->aH im (Int.ofNat is.length)=i5->(∀ed,d2=.slice ed->aH im (Int.ofNat ed.length)=i6)->(d2=nl->i6=i0)->
  KD (.loop (roundOf Tryz.f70 0)) (fun e q=>(e=.exit 0/\d=true/\q=(Bp (cC p sl (.slice is) d2) (cX (Int.ofNat n) dst a b im nm (.slice es) k tn ix dt ck ci cs) (cU (jM (jL n))) (Int.ofNat es.length)).an Tryz.f70.ntmps)∨(e=.ret/\d=false/\q=M7.an Tryz.f70.ntmps)) ((AM (cC p sl (.slice is) d2) (cX (Int.ofNat n) dst a b im nm (.slice es) k tn ix dt ck ci cs) (cU (jM (jL n))) 0).an Tryz.f70.ntmps)->
  ae 70 [.dat (aP p sl (.slice is) d2),.dat (eb (Int.ofNat n) dst a b im nm (.slice es) k tn ix dt ck ci cs)] (bv (rvF (jM (jL n)) (Int.ofNat n) z1 z2 z3 z4 z5 z6 z7 z8 z9 t1 t2 t3 d w1 w5 w3 w4 i0 i1 i2 i3 i4 i5 i6))
def AK (n:Nat):Prop:=∀{p sl:Int} {is:List al} {d2:al} (_:cV d2) {dst a b im:Int} {nm:List UInt8} {k:Int} {tn:List UInt8} {ix:Int} {dt:al} {ck ci:Int} {cs:List UInt8} (_:cV dt) {z1 z2 z3 z4 z5 z6 z7 z8 z9 t1 t2 t3 d w1 w5 w3 w4 i0 i1 i2 i3 i4 i5 i6:Bool} {w2:Int},
  aB dst 0=z1->aB a 0=z2->aB b 0=z3->aB im 0=z4->ju nm []=z5->z6=false->z9=false->d=true->ae 104 [] (.dat (Ty.mk 0 [] 0 []).enc)->ae 86 [.dat (.agg [i64 k,sb tn,i64 ix,dt]),.dat (Ty.mk 0 [] 0 []).enc] (bv z7)->ae 87 [.dat (lf ck ci cs),.dat (lf 0 0 [])] (bv z8)->
  ae 105 [.dat (aP p sl (.slice is) d2),iv dst] (bv t1)->ae 105 [.dat (aP p sl (.slice is) d2),iv a] (bv t2)->ae 105 [.dat (aP p sl (.slice is) d2),iv b] (bv t3)->
  ae 106 [.dat (sb nm)] (bv w1)->ae 107 [.dat (.agg [i64 k,sb tn,i64 ix,dt])] (iv w2)->aB w2 0=w5->ae 108 [.dat (.agg [i64 k,sb tn,i64 ix,dt])] (bv w3)->ae 109 [.dat (lf ck ci cs)] (bv w4)->
  aH im 0=i0->aH im 1=i1->aH 7 im=i2->aH im 6=i3->aB im 5=i4->aH im (Int.ofNat is.length)=i5->(∀ed,d2=.slice ed->aH im (Int.ofNat ed.length)=i6)->(d2=nl->i6=i0)->
  KD (.loop (roundOf Tryz.f70 0)) (fun e q=>e=.exit 0/\q=(Bp (cC p sl (.slice is) d2) (cX (Int.ofNat n) dst a b im nm nl k tn ix dt ck ci cs) (cU (jM (jL n))) 0).an Tryz.f70.ntmps) ((AM (cC p sl (.slice is) d2) (cX (Int.ofNat n) dst a b im nm nl k tn ix dt ck ci cs) (cU (jM (jL n))) 0).an Tryz.f70.ntmps)->
  ae 70 [.dat (aP p sl (.slice is) d2),.dat (eb (Int.ofNat n) dst a b im nm nl k tn ix dt ck ci cs)] (bv (rvF (jM (jL n)) (Int.ofNat n) z1 z2 z3 z4 z5 z6 z7 z8 z9 t1 t2 t3 d w1 w5 w3 w4 i0 i1 i2 i3 i4 i5 i6))
theorem NB {p sl op:Int} {d1 d2:al} (g1:cV d1) (g2:cV d2) {dst a b im:Int} {nm:List UInt8} {dx:al} {k:Int} {tn:List UInt8} {ix:Int} {dt:al} {ck ci:Int} {cs:List UInt8} (g3:cV dx) (g4:cV dt) {c1 c2:Bool} (h1:aH op 1=c1) (h2:aH 22 op=c2) (hc:c1=false->c2=true) (hu:ae 62 [iv op] (.dat ke.zero.use)) :
  ae 70 [.dat (aP p sl d1 d2),.dat (eb op dst a b im nm dx k tn ix dt ck ci cs)] (bv false):=by
 have q1:=aS (p:=p) (s:=sl) g1 g2;have q2:=@br op dst a b im nm dx k tn ix _ ck ci cs g3 g4;clear g1 g2 g3 g4
 cases c1
 ·obtain rfl:=hc rfl;clear hc;refine co [12,16] [2,3] (x:=.of Tryz.f70 cq bp) ?_;refine oo q1 ?_;refine oo q2 ?_;refine on hu ?_;refine ob h1 ?_;refine ob h2 ?_;exact fi
 clear hc;refine co [12] [2,3] (x:=.of Tryz.f70 cq bp) ?_;refine oo q1 ?_;refine oo q2 ?_;refine on hu ?_;refine ob h1 ?_;exact fi
theorem Z4:AJ 1:=by
 intro p sl is d2 g2 es dst a b im nm k tn ix dt ck ci cs g4 z1 z2 z3 z4 z5 z6 z7 z8 z9 t1 t2 t3 d w1 w5 w3 w4 i0 i1 i2 i3 i4 i5 i6 w2 u1 u2 u3 u4 u5 u6 u9 ua u7 u8 v1 v2 v3 x1 x2 x5 x3 x4 y0 y1 y2 y3 y4 y5 y6 y7 hl;have hu:=eJ 1 (by decide) (by decide);clear y6 y7;have q1:=@aS p sl (.slice is) _ (.inr ⟨_,rfl⟩) g2;have q2:=@br (Int.ofNat 1) dst a b im nm (.slice es) k tn ix _ ck ci cs (.inr ⟨_,rfl⟩) g4;have q3:=@aN false 2 p sl (.slice is) _ (.inr ⟨_,rfl⟩) g2;have q5:=@bD false 3 (Int.ofNat 1) dst a b im nm (.slice es) k tn ix dt ck ci cs (.inr ⟨_,rfl⟩) g4;have q6:=@bd false 3 (Int.ofNat 1) dst a b im nm (.slice es) k tn ix dt ck ci cs (.inr ⟨_,rfl⟩) g4;clear g2 g4;refine co [33,43,53,63,74,136] [2,3,83,104,182] (x:=.of Tryz.f70 cq bp) ?_;refine oo q1 ?_;refine oo q2 ?_;refine on hu ?_;refine ox u2 ?_
 cases z2
 ·exact fi
 refine ox u3 ?_
 cases z3
 ·exact fi
 refine ox u4 ?_
 cases z4
 ·exact fi
 refine ox u5 ?_
 cases z5
 ·exact fi
 refine ob u6 ?_
 cases z6
 ·refine oo q5 ?_;refine on ua ?_;refine on u7 ?_
  cases z7
  ·exact fi
  refine oo q3 ?_;refine on v1 ?_
  cases t1
  ·exact fi
  refine ob u9 ?_
  cases z9
  ·refine lo hl ?_;rintro ex s (⟨rfl,rfl,rfl⟩|⟨rfl,rfl,rfl⟩)
   ·refine⟨_,rfl,?_⟩;refine oo q6 ?_;refine on x4 ?_
    cases w4 <;>
    ·exact fi
   refine⟨_,rfl,?_⟩;exact fi
  exact fi
 exact fi
theorem Z5:AK 1:=by
 intro p sl is d2 g2 dst a b im nm k tn ix dt ck ci cs g4 z1 z2 z3 z4 z5 z6 z7 z8 z9 t1 t2 t3 d w1 w5 w3 w4 i0 i1 i2 i3 i4 i5 i6 w2 u1 u2 u3 u4 u5 u6 u9 ud ua u7 u8 v1 v2 v3 x1 x2 x5 x3 x4 y0 y1 y2 y3 y4 y5 y6 y7 hl;subst u6 u9 ud;have hu:=eJ 1 (by decide) (by decide);clear y6 y7;have q1:=@aS p sl (.slice is) _ (.inr ⟨_,rfl⟩) g2;have q2:=@br (Int.ofNat 1) dst a b im nm nl k tn ix _ ck ci cs (.inl rfl) g4;have q3:=@aN false 2 p sl (.slice is) _ (.inr ⟨_,rfl⟩) g2;have q5:=@bD false 3 (Int.ofNat 1) dst a b im nm nl k tn ix dt ck ci cs (.inl rfl) g4;have q6:=@bd false 3 (Int.ofNat 1) dst a b im nm nl k tn ix dt ck ci cs (.inl rfl) g4;clear g2 g4;refine co [33,43,53,63] [2,3,83,104,182] (x:=.of Tryz.f70 cq bp) ?_;refine oo q1 ?_;refine oo q2 ?_;refine on hu ?_;refine ox u2 ?_
 cases z2
 ·exact fi
 refine ox u3 ?_
 cases z3
 ·exact fi
 refine ox u4 ?_
 cases z4
 ·exact fi
 refine ox u5 ?_
 cases z5
 ·exact fi
 refine oo q5 ?_;refine on ua ?_;refine on u7 ?_
 cases z7
 ·exact fi
 refine oo q3 ?_;refine on v1 ?_
 cases t1
 ·exact fi
 refine lo hl ?_;rintro ex s ⟨rfl,rfl⟩;refine⟨_,rfl,?_⟩;refine oo q6 ?_;refine on x4 ?_
 cases w4 <;>
 ·exact fi
theorem Z2:AJ 2:=by
 intro p sl is d2 g2 es dst a b im nm k tn ix dt ck ci cs g4 z1 z2 z3 z4 z5 z6 z7 z8 z9 t1 t2 t3 d w1 w5 w3 w4 i0 i1 i2 i3 i4 i5 i6 w2 u1 u2 u3 u4 u5 u6 u9 ua u7 u8 v1 v2 v3 x1 x2 x5 x3 x4 y0 y1 y2 y3 y4 y5 y6 y7 hl;have hu:=eJ 2 (by decide) (by decide);clear y6 y7;have q1:=@aS p sl (.slice is) _ (.inr ⟨_,rfl⟩) g2;have q2:=@br (Int.ofNat 2) dst a b im nm (.slice es) k tn ix _ ck ci cs (.inr ⟨_,rfl⟩) g4;have q3:=@aN false 2 p sl (.slice is) _ (.inr ⟨_,rfl⟩) g2;have q5:=@bD false 3 (Int.ofNat 2) dst a b im nm (.slice es) k tn ix dt ck ci cs (.inr ⟨_,rfl⟩) g4;have q6:=@bd false 3 (Int.ofNat 2) dst a b im nm (.slice es) k tn ix dt ck ci cs (.inr ⟨_,rfl⟩) g4;clear g2 g4;refine co [43,53,63,74,136] [2,3,83,95,104,114] (x:=.of Tryz.f70 cq bp) ?_;refine oo q1 ?_;refine oo q2 ?_;refine on hu ?_;refine ox u3 ?_
 cases z3
 ·exact fi
 refine ox u4 ?_
 cases z4
 ·exact fi
 refine ox u5 ?_
 cases z5
 ·exact fi
 refine ob u6 ?_
 cases z6
 ·refine oo q5 ?_;refine on ua ?_;refine on u7 ?_
  cases z7
  ·exact fi
  refine oo q6 ?_;refine on u8 ?_
  cases z8
  ·exact fi
  refine oo q3 ?_;refine on v1 ?_
  cases t1
  ·exact fi
  refine oo q3 ?_;refine on v2 ?_
  cases t2
  ·exact fi
  refine ob u9 ?_
  cases z9
  ·refine lo hl ?_;rintro ex s (⟨rfl,rfl,rfl⟩|⟨rfl,rfl,rfl⟩) <;>
   ·refine⟨_,rfl,?_⟩;exact fi
  exact fi
 exact fi
theorem Z3:AK 2:=by
 intro p sl is d2 g2 dst a b im nm k tn ix dt ck ci cs g4 z1 z2 z3 z4 z5 z6 z7 z8 z9 t1 t2 t3 d w1 w5 w3 w4 i0 i1 i2 i3 i4 i5 i6 w2 u1 u2 u3 u4 u5 u6 u9 ud ua u7 u8 v1 v2 v3 x1 x2 x5 x3 x4 y0 y1 y2 y3 y4 y5 y6 y7 hl;subst u6 u9 ud;have hu:=eJ 2 (by decide) (by decide);clear y6 y7;have q1:=@aS p sl (.slice is) _ (.inr ⟨_,rfl⟩) g2;have q2:=@br (Int.ofNat 2) dst a b im nm nl k tn ix _ ck ci cs (.inl rfl) g4;have q3:=@aN false 2 p sl (.slice is) _ (.inr ⟨_,rfl⟩) g2;have q5:=@bD false 3 (Int.ofNat 2) dst a b im nm nl k tn ix dt ck ci cs (.inl rfl) g4;have q6:=@bd false 3 (Int.ofNat 2) dst a b im nm nl k tn ix dt ck ci cs (.inl rfl) g4;clear g2 g4;refine co [43,53,63] [2,3,83,95,104,114] (x:=.of Tryz.f70 cq bp) ?_;refine oo q1 ?_;refine oo q2 ?_;refine on hu ?_;refine ox u3 ?_
 cases z3
 ·exact fi
 refine ox u4 ?_
 cases z4
 ·exact fi
 refine ox u5 ?_
 cases z5
 ·exact fi
 refine oo q5 ?_;refine on ua ?_;refine on u7 ?_
 cases z7
 ·exact fi
 refine oo q6 ?_;refine on u8 ?_
 cases z8
 ·exact fi
 refine oo q3 ?_;refine on v1 ?_
 cases t1
 ·exact fi
 refine oo q3 ?_;refine on v2 ?_
 cases t2
 ·exact fi
 refine lo hl ?_;rintro ex s ⟨rfl,rfl⟩;refine⟨_,rfl,?_⟩;exact fi
theorem Z0:AJ 3:=by
 intro p sl is d2 g2 es dst a b im nm k tn ix dt ck ci cs g4 z1 z2 z3 z4 z5 z6 z7 z8 z9 t1 t2 t3 d w1 w5 w3 w4 i0 i1 i2 i3 i4 i5 i6 w2 u1 u2 u3 u4 u5 u6 u9 ua u7 u8 v1 v2 v3 x1 x2 x5 x3 x4 y0 y1 y2 y3 y4 y5 y6 y7 hl;have hu:=eJ 3 (by decide) (by decide);clear y6 y7;have q1:=@aS p sl (.slice is) _ (.inr ⟨_,rfl⟩) g2;have q2:=@br (Int.ofNat 3) dst a b im nm (.slice es) k tn ix _ ck ci cs (.inr ⟨_,rfl⟩) g4;have q3:=@aN false 2 p sl (.slice is) _ (.inr ⟨_,rfl⟩) g2;have q5:=@bD false 3 (Int.ofNat 3) dst a b im nm (.slice es) k tn ix dt ck ci cs (.inr ⟨_,rfl⟩) g4;have q6:=@bd false 3 (Int.ofNat 3) dst a b im nm (.slice es) k tn ix dt ck ci cs (.inr ⟨_,rfl⟩) g4;clear g2 g4;refine co [63,74,136,207,211,216,220] [2,3,83,95,104,114,125] (x:=.of Tryz.f70 cq bp) ?_;refine oo q1 ?_;refine oo q2 ?_;refine on hu ?_;refine ox u5 ?_
 cases z5
 ·exact fi
 refine ob u6 ?_
 cases z6
 ·refine oo q5 ?_;refine on ua ?_;refine on u7 ?_
  cases z7
  ·exact fi
  refine oo q6 ?_;refine on u8 ?_
  cases z8
  ·exact fi
  refine oo q3 ?_;refine on v1 ?_
  cases t1
  ·exact fi
  refine oo q3 ?_;refine on v2 ?_
  cases t2
  ·exact fi
  refine oo q3 ?_;refine on v3 ?_
  cases t3
  ·exact fi
  refine ob u9 ?_
  cases z9
  ·refine lo hl ?_;rintro ex s (⟨rfl,rfl,rfl⟩|⟨rfl,rfl,rfl⟩)
   ·refine⟨_,rfl,?_⟩;refine ox y1 ?_
    cases i1
    ·refine ox y2 ?_
     cases i2
     ·refine ox y4 ?_
      cases i4
      ·exact fi
      refine ob u3 ?_
      cases z3 <;>
      ·exact fi
     exact fi
    exact fi
   refine⟨_,rfl,?_⟩;exact fi
  exact fi
 exact fi
theorem Z1:AK 3:=by
 intro p sl is d2 g2 dst a b im nm k tn ix dt ck ci cs g4 z1 z2 z3 z4 z5 z6 z7 z8 z9 t1 t2 t3 d w1 w5 w3 w4 i0 i1 i2 i3 i4 i5 i6 w2 u1 u2 u3 u4 u5 u6 u9 ud ua u7 u8 v1 v2 v3 x1 x2 x5 x3 x4 y0 y1 y2 y3 y4 y5 y6 y7 hl;subst u6 u9 ud;have hu:=eJ 3 (by decide) (by decide);clear y6 y7;have q1:=@aS p sl (.slice is) _ (.inr ⟨_,rfl⟩) g2;have q2:=@br (Int.ofNat 3) dst a b im nm nl k tn ix _ ck ci cs (.inl rfl) g4;have q3:=@aN false 2 p sl (.slice is) _ (.inr ⟨_,rfl⟩) g2;have q5:=@bD false 3 (Int.ofNat 3) dst a b im nm nl k tn ix dt ck ci cs (.inl rfl) g4;have q6:=@bd false 3 (Int.ofNat 3) dst a b im nm nl k tn ix dt ck ci cs (.inl rfl) g4;clear g2 g4;refine co [63,207,211,216,220] [2,3,83,95,104,114,125] (x:=.of Tryz.f70 cq bp) ?_;refine oo q1 ?_;refine oo q2 ?_;refine on hu ?_;refine ox u5 ?_
 cases z5
 ·exact fi
 refine oo q5 ?_;refine on ua ?_;refine on u7 ?_
 cases z7
 ·exact fi
 refine oo q6 ?_;refine on u8 ?_
 cases z8
 ·exact fi
 refine oo q3 ?_;refine on v1 ?_
 cases t1
 ·exact fi
 refine oo q3 ?_;refine on v2 ?_
 cases t2
 ·exact fi
 refine oo q3 ?_;refine on v3 ?_
 cases t3
 ·exact fi
 refine lo hl ?_;rintro ex s ⟨rfl,rfl⟩;refine⟨_,rfl,?_⟩;refine ox y1 ?_
 cases i1
 ·refine ox y2 ?_
  cases i2
  ·refine ox y4 ?_
   cases i4
   ·exact fi
   refine ob u3 ?_
   cases z3 <;>
   ·exact fi
  exact fi
 exact fi
theorem ZY:AJ 4:=by
 intro p sl is d2 g2 es dst a b im nm k tn ix dt ck ci cs g4 z1 z2 z3 z4 z5 z6 z7 z8 z9 t1 t2 t3 d w1 w5 w3 w4 i0 i1 i2 i3 i4 i5 i6 w2 u1 u2 u3 u4 u5 u6 u9 ua u7 u8 v1 v2 v3 x1 x2 x5 x3 x4 y0 y1 y2 y3 y4 y5 y6 y7 hl;have hu:=eJ 4 (by decide) (by decide);clear y6 y7;have q1:=@aS p sl (.slice is) _ (.inr ⟨_,rfl⟩) g2;have q2:=@br (Int.ofNat 4) dst a b im nm (.slice es) k tn ix _ ck ci cs (.inr ⟨_,rfl⟩) g4;have q3:=@aN false 2 p sl (.slice is) _ (.inr ⟨_,rfl⟩) g2;have q5:=@bD false 3 (Int.ofNat 4) dst a b im nm (.slice es) k tn ix dt ck ci cs (.inr ⟨_,rfl⟩) g4;have q6:=@bd false 3 (Int.ofNat 4) dst a b im nm (.slice es) k tn ix dt ck ci cs (.inr ⟨_,rfl⟩) g4;clear g2 g4;refine co [33,43,53,63,136,168] [2,3,95,104,166,171] (x:=.of Tryz.f70 cq bp) ?_;refine oo q1 ?_;refine oo q2 ?_;refine on hu ?_;refine ox u2 ?_
 cases z2
 ·exact fi
 refine ox u3 ?_
 cases z3
 ·exact fi
 refine ox u4 ?_
 cases z4
 ·exact fi
 refine ox u5 ?_
 cases z5
 ·exact fi
 refine oo q6 ?_;refine on u8 ?_
 cases z8
 ·exact fi
 refine oo q3 ?_;refine on v1 ?_
 cases t1
 ·exact fi
 refine ob u9 ?_
 cases z9
 ·refine lo hl ?_;rintro ex s (⟨rfl,rfl,rfl⟩|⟨rfl,rfl,rfl⟩)
  ·refine⟨_,rfl,?_⟩;refine oo q5 ?_;refine on x2 ?_;refine ox x5 ?_
   cases w5
   ·exact fi
   refine oo q5 ?_;refine on x3 ?_
   cases w3 <;>
   ·exact fi
  refine⟨_,rfl,?_⟩;exact fi
 exact fi
theorem ZZ:AK 4:=by
 intro p sl is d2 g2 dst a b im nm k tn ix dt ck ci cs g4 z1 z2 z3 z4 z5 z6 z7 z8 z9 t1 t2 t3 d w1 w5 w3 w4 i0 i1 i2 i3 i4 i5 i6 w2 u1 u2 u3 u4 u5 u6 u9 ud ua u7 u8 v1 v2 v3 x1 x2 x5 x3 x4 y0 y1 y2 y3 y4 y5 y6 y7 hl;subst u6 u9 ud;have hu:=eJ 4 (by decide) (by decide);clear y6 y7;have q1:=@aS p sl (.slice is) _ (.inr ⟨_,rfl⟩) g2;have q2:=@br (Int.ofNat 4) dst a b im nm nl k tn ix _ ck ci cs (.inl rfl) g4;have q3:=@aN false 2 p sl (.slice is) _ (.inr ⟨_,rfl⟩) g2;have q5:=@bD false 3 (Int.ofNat 4) dst a b im nm nl k tn ix dt ck ci cs (.inl rfl) g4;have q6:=@bd false 3 (Int.ofNat 4) dst a b im nm nl k tn ix dt ck ci cs (.inl rfl) g4;clear g2 g4;refine co [33,43,53,63,168] [2,3,95,104,166,171] (x:=.of Tryz.f70 cq bp) ?_;refine oo q1 ?_;refine oo q2 ?_;refine on hu ?_;refine ox u2 ?_
 cases z2
 ·exact fi
 refine ox u3 ?_
 cases z3
 ·exact fi
 refine ox u4 ?_
 cases z4
 ·exact fi
 refine ox u5 ?_
 cases z5
 ·exact fi
 refine oo q6 ?_;refine on u8 ?_
 cases z8
 ·exact fi
 refine oo q3 ?_;refine on v1 ?_
 cases t1
 ·exact fi
 refine lo hl ?_;rintro ex s ⟨rfl,rfl⟩;refine⟨_,rfl,?_⟩;refine oo q5 ?_;refine on x2 ?_;refine ox x5 ?_
 cases w5
 ·exact fi
 refine oo q5 ?_;refine on x3 ?_
 cases w3 <;>
 ·exact fi
theorem ZW:AJ 5:=by
 intro p sl is d2 g2 es dst a b im nm k tn ix dt ck ci cs g4 z1 z2 z3 z4 z5 z6 z7 z8 z9 t1 t2 t3 d w1 w5 w3 w4 i0 i1 i2 i3 i4 i5 i6 w2 u1 u2 u3 u4 u5 u6 u9 ua u7 u8 v1 v2 v3 x1 x2 x5 x3 x4 y0 y1 y2 y3 y4 y5 y6 y7 hl;have hu:=eJ 5 (by decide) (by decide);clear y6 y7;have q1:=@aS p sl (.slice is) _ (.inr ⟨_,rfl⟩) g2;have q2:=@br (Int.ofNat 5) dst a b im nm (.slice es) k tn ix _ ck ci cs (.inr ⟨_,rfl⟩) g4;have q3:=@aN false 2 p sl (.slice is) _ (.inr ⟨_,rfl⟩) g2;have q5:=@bD false 3 (Int.ofNat 5) dst a b im nm (.slice es) k tn ix dt ck ci cs (.inr ⟨_,rfl⟩) g4;have q6:=@bd false 3 (Int.ofNat 5) dst a b im nm (.slice es) k tn ix dt ck ci cs (.inr ⟨_,rfl⟩) g4;clear g2 g4;refine co [43,53,74,136] [2,3,83,95,104,114] (x:=.of Tryz.f70 cq bp) ?_;refine oo q1 ?_;refine oo q2 ?_;refine on hu ?_;refine ox u3 ?_
 cases z3
 ·exact fi
 refine ox u4 ?_
 cases z4
 ·exact fi
 refine ob u6 ?_
 cases z6
 ·refine oo q5 ?_;refine on ua ?_;refine on u7 ?_
  cases z7
  ·exact fi
  refine oo q6 ?_;refine on u8 ?_
  cases z8
  ·exact fi
  refine oo q3 ?_;refine on v1 ?_
  cases t1
  ·exact fi
  refine oo q3 ?_;refine on v2 ?_
  cases t2
  ·exact fi
  refine ob u9 ?_
  cases z9
  ·refine lo hl ?_;rintro ex s (⟨rfl,rfl,rfl⟩|⟨rfl,rfl,rfl⟩)
   ·refine⟨_,rfl,?_⟩;refine on x1 ?_
    cases w1 <;>
    ·exact fi
   refine⟨_,rfl,?_⟩;exact fi
  exact fi
 exact fi
theorem ZX:AK 5:=by
 intro p sl is d2 g2 dst a b im nm k tn ix dt ck ci cs g4 z1 z2 z3 z4 z5 z6 z7 z8 z9 t1 t2 t3 d w1 w5 w3 w4 i0 i1 i2 i3 i4 i5 i6 w2 u1 u2 u3 u4 u5 u6 u9 ud ua u7 u8 v1 v2 v3 x1 x2 x5 x3 x4 y0 y1 y2 y3 y4 y5 y6 y7 hl;subst u6 u9 ud;have hu:=eJ 5 (by decide) (by decide);clear y6 y7;have q1:=@aS p sl (.slice is) _ (.inr ⟨_,rfl⟩) g2;have q2:=@br (Int.ofNat 5) dst a b im nm nl k tn ix _ ck ci cs (.inl rfl) g4;have q3:=@aN false 2 p sl (.slice is) _ (.inr ⟨_,rfl⟩) g2;have q5:=@bD false 3 (Int.ofNat 5) dst a b im nm nl k tn ix dt ck ci cs (.inl rfl) g4;have q6:=@bd false 3 (Int.ofNat 5) dst a b im nm nl k tn ix dt ck ci cs (.inl rfl) g4;clear g2 g4;refine co [43,53] [2,3,83,95,104,114] (x:=.of Tryz.f70 cq bp) ?_;refine oo q1 ?_;refine oo q2 ?_;refine on hu ?_;refine ox u3 ?_
 cases z3
 ·exact fi
 refine ox u4 ?_
 cases z4
 ·exact fi
 refine oo q5 ?_;refine on ua ?_;refine on u7 ?_
 cases z7
 ·exact fi
 refine oo q6 ?_;refine on u8 ?_
 cases z8
 ·exact fi
 refine oo q3 ?_;refine on v1 ?_
 cases t1
 ·exact fi
 refine oo q3 ?_;refine on v2 ?_
 cases t2
 ·exact fi
 refine lo hl ?_;rintro ex s ⟨rfl,rfl⟩;refine⟨_,rfl,?_⟩;refine on x1 ?_
 cases w1 <;>
 ·exact fi
theorem ZU:AJ 6:=by
 intro p sl is d2 g2 es dst a b im nm k tn ix dt ck ci cs g4 z1 z2 z3 z4 z5 z6 z7 z8 z9 t1 t2 t3 d w1 w5 w3 w4 i0 i1 i2 i3 i4 i5 i6 w2 u1 u2 u3 u4 u5 u6 u9 ua u7 u8 v1 v2 v3 x1 x2 x5 x3 x4 y0 y1 y2 y3 y4 y5 y6 y7 hl;have hu:=eJ 6 (by decide) (by decide);clear y6 y7;have q1:=@aS p sl (.slice is) _ (.inr ⟨_,rfl⟩) g2;have q2:=@br (Int.ofNat 6) dst a b im nm (.slice es) k tn ix _ ck ci cs (.inr ⟨_,rfl⟩) g4;have q3:=@aN false 2 p sl (.slice is) _ (.inr ⟨_,rfl⟩) g2;have q5:=@bD false 3 (Int.ofNat 6) dst a b im nm (.slice es) k tn ix dt ck ci cs (.inr ⟨_,rfl⟩) g4;have q6:=@bd false 3 (Int.ofNat 6) dst a b im nm (.slice es) k tn ix dt ck ci cs (.inr ⟨_,rfl⟩) g4;clear g2 g4;refine co [24,53,74,136] [2,3,83,95,114,125] (x:=.of Tryz.f70 cq bp) ?_;refine oo q1 ?_;refine oo q2 ?_;refine on hu ?_;refine ox u1 ?_
 cases z1
 ·exact fi
 refine ox u4 ?_
 cases z4
 ·exact fi
 refine ob u6 ?_
 cases z6
 ·refine oo q5 ?_;refine on ua ?_;refine on u7 ?_
  cases z7
  ·exact fi
  refine oo q6 ?_;refine on u8 ?_
  cases z8
  ·exact fi
  refine oo q3 ?_;refine on v2 ?_
  cases t2
  ·exact fi
  refine oo q3 ?_;refine on v3 ?_
  cases t3
  ·exact fi
  refine ob u9 ?_
  cases z9
  ·refine lo hl ?_;rintro ex s (⟨rfl,rfl,rfl⟩|⟨rfl,rfl,rfl⟩)
   ·refine⟨_,rfl,?_⟩;refine on x1 ?_
    cases w1 <;>
    ·exact fi
   refine⟨_,rfl,?_⟩;exact fi
  exact fi
 exact fi
theorem ZV:AK 6:=by
 intro p sl is d2 g2 dst a b im nm k tn ix dt ck ci cs g4 z1 z2 z3 z4 z5 z6 z7 z8 z9 t1 t2 t3 d w1 w5 w3 w4 i0 i1 i2 i3 i4 i5 i6 w2 u1 u2 u3 u4 u5 u6 u9 ud ua u7 u8 v1 v2 v3 x1 x2 x5 x3 x4 y0 y1 y2 y3 y4 y5 y6 y7 hl;subst u6 u9 ud;have hu:=eJ 6 (by decide) (by decide);clear y6 y7;have q1:=@aS p sl (.slice is) _ (.inr ⟨_,rfl⟩) g2;have q2:=@br (Int.ofNat 6) dst a b im nm nl k tn ix _ ck ci cs (.inl rfl) g4;have q3:=@aN false 2 p sl (.slice is) _ (.inr ⟨_,rfl⟩) g2;have q5:=@bD false 3 (Int.ofNat 6) dst a b im nm nl k tn ix dt ck ci cs (.inl rfl) g4;have q6:=@bd false 3 (Int.ofNat 6) dst a b im nm nl k tn ix dt ck ci cs (.inl rfl) g4;clear g2 g4;refine co [24,53] [2,3,83,95,114,125] (x:=.of Tryz.f70 cq bp) ?_;refine oo q1 ?_;refine oo q2 ?_;refine on hu ?_;refine ox u1 ?_
 cases z1
 ·exact fi
 refine ox u4 ?_
 cases z4
 ·exact fi
 refine oo q5 ?_;refine on ua ?_;refine on u7 ?_
 cases z7
 ·exact fi
 refine oo q6 ?_;refine on u8 ?_
 cases z8
 ·exact fi
 refine oo q3 ?_;refine on v2 ?_
 cases t2
 ·exact fi
 refine oo q3 ?_;refine on v3 ?_
 cases t3
 ·exact fi
 refine lo hl ?_;rintro ex s ⟨rfl,rfl⟩;refine⟨_,rfl,?_⟩;refine on x1 ?_
 cases w1 <;>
 ·exact fi
theorem ZS:AJ 7:=by
 intro p sl is d2 g2 es dst a b im nm k tn ix dt ck ci cs g4 z1 z2 z3 z4 z5 z6 z7 z8 z9 t1 t2 t3 d w1 w5 w3 w4 i0 i1 i2 i3 i4 i5 i6 w2 u1 u2 u3 u4 u5 u6 u9 ua u7 u8 v1 v2 v3 x1 x2 x5 x3 x4 y0 y1 y2 y3 y4 y5 y6 y7 hl;have hu:=eJ 7 (by decide) (by decide);clear y6 y7;have q1:=@aS p sl (.slice is) _ (.inr ⟨_,rfl⟩) g2;have q2:=@br (Int.ofNat 7) dst a b im nm (.slice es) k tn ix _ ck ci cs (.inr ⟨_,rfl⟩) g4;have q3:=@aN false 2 p sl (.slice is) _ (.inr ⟨_,rfl⟩) g2;have q5:=@bD false 3 (Int.ofNat 7) dst a b im nm (.slice es) k tn ix dt ck ci cs (.inr ⟨_,rfl⟩) g4;have q6:=@bd false 3 (Int.ofNat 7) dst a b im nm (.slice es) k tn ix dt ck ci cs (.inr ⟨_,rfl⟩) g4;clear g2 g4;refine co [33,43,53,63,136] [2,3,83,95,104] (x:=.of Tryz.f70 cq bp) ?_;refine oo q1 ?_;refine oo q2 ?_;refine on hu ?_;refine ox u2 ?_
 cases z2
 ·exact fi
 refine ox u3 ?_
 cases z3
 ·exact fi
 refine ox u4 ?_
 cases z4
 ·exact fi
 refine ox u5 ?_
 cases z5
 ·exact fi
 refine oo q5 ?_;refine on ua ?_;refine on u7 ?_
 cases z7
 ·exact fi
 refine oo q6 ?_;refine on u8 ?_
 cases z8
 ·exact fi
 refine oo q3 ?_;refine on v1 ?_
 cases t1
 ·exact fi
 refine ob u9 ?_
 cases z9
 ·refine lo hl ?_;rintro ex s (⟨rfl,rfl,rfl⟩|⟨rfl,rfl,rfl⟩) <;>
  ·refine⟨_,rfl,?_⟩;exact fi
 exact fi
theorem ZT:AK 7:=by
 intro p sl is d2 g2 dst a b im nm k tn ix dt ck ci cs g4 z1 z2 z3 z4 z5 z6 z7 z8 z9 t1 t2 t3 d w1 w5 w3 w4 i0 i1 i2 i3 i4 i5 i6 w2 u1 u2 u3 u4 u5 u6 u9 ud ua u7 u8 v1 v2 v3 x1 x2 x5 x3 x4 y0 y1 y2 y3 y4 y5 y6 y7 hl;subst u6 u9 ud;have hu:=eJ 7 (by decide) (by decide);clear y6 y7;have q1:=@aS p sl (.slice is) _ (.inr ⟨_,rfl⟩) g2;have q2:=@br (Int.ofNat 7) dst a b im nm nl k tn ix _ ck ci cs (.inl rfl) g4;have q3:=@aN false 2 p sl (.slice is) _ (.inr ⟨_,rfl⟩) g2;have q5:=@bD false 3 (Int.ofNat 7) dst a b im nm nl k tn ix dt ck ci cs (.inl rfl) g4;have q6:=@bd false 3 (Int.ofNat 7) dst a b im nm nl k tn ix dt ck ci cs (.inl rfl) g4;clear g2 g4;refine co [33,43,53,63] [2,3,83,95,104] (x:=.of Tryz.f70 cq bp) ?_;refine oo q1 ?_;refine oo q2 ?_;refine on hu ?_;refine ox u2 ?_
 cases z2
 ·exact fi
 refine ox u3 ?_
 cases z3
 ·exact fi
 refine ox u4 ?_
 cases z4
 ·exact fi
 refine ox u5 ?_
 cases z5
 ·exact fi
 refine oo q5 ?_;refine on ua ?_;refine on u7 ?_
 cases z7
 ·exact fi
 refine oo q6 ?_;refine on u8 ?_
 cases z8
 ·exact fi
 refine oo q3 ?_;refine on v1 ?_
 cases t1
 ·exact fi
 refine lo hl ?_;rintro ex s ⟨rfl,rfl⟩;refine⟨_,rfl,?_⟩;exact fi
theorem ZQ:AJ 8:=by
 intro p sl is d2 g2 es dst a b im nm k tn ix dt ck ci cs g4 z1 z2 z3 z4 z5 z6 z7 z8 z9 t1 t2 t3 d w1 w5 w3 w4 i0 i1 i2 i3 i4 i5 i6 w2 u1 u2 u3 u4 u5 u6 u9 ua u7 u8 v1 v2 v3 x1 x2 x5 x3 x4 y0 y1 y2 y3 y4 y5 y6 y7 hl;have hu:=eJ 8 (by decide) (by decide);clear y6 y7;have q1:=@aS p sl (.slice is) _ (.inr ⟨_,rfl⟩) g2;have q2:=@br (Int.ofNat 8) dst a b im nm (.slice es) k tn ix _ ck ci cs (.inr ⟨_,rfl⟩) g4;have q3:=@aN false 2 p sl (.slice is) _ (.inr ⟨_,rfl⟩) g2;have q5:=@bD false 3 (Int.ofNat 8) dst a b im nm (.slice es) k tn ix dt ck ci cs (.inr ⟨_,rfl⟩) g4;have q6:=@bd false 3 (Int.ofNat 8) dst a b im nm (.slice es) k tn ix dt ck ci cs (.inr ⟨_,rfl⟩) g4;clear g2 g4;refine co [43,63,74,136,227,231] [2,3,83,95,104,114] (x:=.of Tryz.f70 cq bp) ?_;refine oo q1 ?_;refine oo q2 ?_;refine on hu ?_;refine ox u3 ?_
 cases z3
 ·exact fi
 refine ox u5 ?_
 cases z5
 ·exact fi
 refine ob u6 ?_
 cases z6
 ·refine oo q5 ?_;refine on ua ?_;refine on u7 ?_
  cases z7
  ·exact fi
  refine oo q6 ?_;refine on u8 ?_
  cases z8
  ·exact fi
  refine oo q3 ?_;refine on v1 ?_
  cases t1
  ·exact fi
  refine oo q3 ?_;refine on v2 ?_
  cases t2
  ·exact fi
  refine ob u9 ?_
  cases z9
  ·refine lo hl ?_;rintro ex s (⟨rfl,rfl,rfl⟩|⟨rfl,rfl,rfl⟩)
   ·refine⟨_,rfl,?_⟩;refine ox y0 ?_
    cases i0
    ·refine ob y3 ?_
     cases i3 <;>
     ·exact fi
    exact fi
   refine⟨_,rfl,?_⟩;exact fi
  exact fi
 exact fi
theorem ZR:AK 8:=by
 intro p sl is d2 g2 dst a b im nm k tn ix dt ck ci cs g4 z1 z2 z3 z4 z5 z6 z7 z8 z9 t1 t2 t3 d w1 w5 w3 w4 i0 i1 i2 i3 i4 i5 i6 w2 u1 u2 u3 u4 u5 u6 u9 ud ua u7 u8 v1 v2 v3 x1 x2 x5 x3 x4 y0 y1 y2 y3 y4 y5 y6 y7 hl;subst u6 u9 ud;have hu:=eJ 8 (by decide) (by decide);clear y6 y7;have q1:=@aS p sl (.slice is) _ (.inr ⟨_,rfl⟩) g2;have q2:=@br (Int.ofNat 8) dst a b im nm nl k tn ix _ ck ci cs (.inl rfl) g4;have q3:=@aN false 2 p sl (.slice is) _ (.inr ⟨_,rfl⟩) g2;have q5:=@bD false 3 (Int.ofNat 8) dst a b im nm nl k tn ix dt ck ci cs (.inl rfl) g4;have q6:=@bd false 3 (Int.ofNat 8) dst a b im nm nl k tn ix dt ck ci cs (.inl rfl) g4;clear g2 g4;refine co [43,63,227,231] [2,3,83,95,104,114] (x:=.of Tryz.f70 cq bp) ?_;refine oo q1 ?_;refine oo q2 ?_;refine on hu ?_;refine ox u3 ?_
 cases z3
 ·exact fi
 refine ox u5 ?_
 cases z5
 ·exact fi
 refine oo q5 ?_;refine on ua ?_;refine on u7 ?_
 cases z7
 ·exact fi
 refine oo q6 ?_;refine on u8 ?_
 cases z8
 ·exact fi
 refine oo q3 ?_;refine on v1 ?_
 cases t1
 ·exact fi
 refine oo q3 ?_;refine on v2 ?_
 cases t2
 ·exact fi
 refine lo hl ?_;rintro ex s ⟨rfl,rfl⟩;refine⟨_,rfl,?_⟩;refine ox y0 ?_
 cases i0
 ·refine ob y3 ?_
  cases i3 <;>
  ·exact fi
 exact fi
theorem ZO:AJ 9:=by
 intro p sl is d2 g2 es dst a b im nm k tn ix dt ck ci cs g4 z1 z2 z3 z4 z5 z6 z7 z8 z9 t1 t2 t3 d w1 w5 w3 w4 i0 i1 i2 i3 i4 i5 i6 w2 u1 u2 u3 u4 u5 u6 u9 ua u7 u8 v1 v2 v3 x1 x2 x5 x3 x4 y0 y1 y2 y3 y4 y5 y6 y7 hl;have hu:=eJ 9 (by decide) (by decide);clear y6 y7;have q1:=@aS p sl (.slice is) _ (.inr ⟨_,rfl⟩) g2;have q2:=@br (Int.ofNat 9) dst a b im nm (.slice es) k tn ix _ ck ci cs (.inr ⟨_,rfl⟩) g4;have q3:=@aN false 2 p sl (.slice is) _ (.inr ⟨_,rfl⟩) g2;have q5:=@bD false 3 (Int.ofNat 9) dst a b im nm (.slice es) k tn ix dt ck ci cs (.inr ⟨_,rfl⟩) g4;have q6:=@bd false 3 (Int.ofNat 9) dst a b im nm (.slice es) k tn ix dt ck ci cs (.inr ⟨_,rfl⟩) g4;clear g2 g4;refine co [43,53,63,74,136,168] [2,3,95,104,114,166,171] (x:=.of Tryz.f70 cq bp) ?_;refine oo q1 ?_;refine oo q2 ?_;refine on hu ?_;refine ox u3 ?_
 cases z3
 ·exact fi
 refine ox u4 ?_
 cases z4
 ·exact fi
 refine ox u5 ?_
 cases z5
 ·exact fi
 refine ob u6 ?_
 cases z6
 ·refine oo q6 ?_;refine on u8 ?_
  cases z8
  ·exact fi
  refine oo q3 ?_;refine on v1 ?_
  cases t1
  ·exact fi
  refine oo q3 ?_;refine on v2 ?_
  cases t2
  ·exact fi
  refine ob u9 ?_
  cases z9
  ·refine lo hl ?_;rintro ex s (⟨rfl,rfl,rfl⟩|⟨rfl,rfl,rfl⟩)
   ·refine⟨_,rfl,?_⟩;refine oo q5 ?_;refine on x2 ?_;refine ox x5 ?_
    cases w5
    ·exact fi
    refine oo q5 ?_;refine on x3 ?_
    cases w3 <;>
    ·exact fi
   refine⟨_,rfl,?_⟩;exact fi
  exact fi
 exact fi
theorem ZP:AK 9:=by
 intro p sl is d2 g2 dst a b im nm k tn ix dt ck ci cs g4 z1 z2 z3 z4 z5 z6 z7 z8 z9 t1 t2 t3 d w1 w5 w3 w4 i0 i1 i2 i3 i4 i5 i6 w2 u1 u2 u3 u4 u5 u6 u9 ud ua u7 u8 v1 v2 v3 x1 x2 x5 x3 x4 y0 y1 y2 y3 y4 y5 y6 y7 hl;subst u6 u9 ud;have hu:=eJ 9 (by decide) (by decide);clear y6 y7;have q1:=@aS p sl (.slice is) _ (.inr ⟨_,rfl⟩) g2;have q2:=@br (Int.ofNat 9) dst a b im nm nl k tn ix _ ck ci cs (.inl rfl) g4;have q3:=@aN false 2 p sl (.slice is) _ (.inr ⟨_,rfl⟩) g2;have q5:=@bD false 3 (Int.ofNat 9) dst a b im nm nl k tn ix dt ck ci cs (.inl rfl) g4;have q6:=@bd false 3 (Int.ofNat 9) dst a b im nm nl k tn ix dt ck ci cs (.inl rfl) g4;clear g2 g4;refine co [43,53,63,168] [2,3,95,104,114,166,171] (x:=.of Tryz.f70 cq bp) ?_;refine oo q1 ?_;refine oo q2 ?_;refine on hu ?_;refine ox u3 ?_
 cases z3
 ·exact fi
 refine ox u4 ?_
 cases z4
 ·exact fi
 refine ox u5 ?_
 cases z5
 ·exact fi
 refine oo q6 ?_;refine on u8 ?_
 cases z8
 ·exact fi
 refine oo q3 ?_;refine on v1 ?_
 cases t1
 ·exact fi
 refine oo q3 ?_;refine on v2 ?_
 cases t2
 ·exact fi
 refine lo hl ?_;rintro ex s ⟨rfl,rfl⟩;refine⟨_,rfl,?_⟩;refine oo q5 ?_;refine on x2 ?_;refine ox x5 ?_
 cases w5
 ·exact fi
 refine oo q5 ?_;refine on x3 ?_
 cases w3 <;>
 ·exact fi
theorem VZ:AJ 10:=by
 intro p sl is d2 g2 es dst a b im nm k tn ix dt ck ci cs g4 z1 z2 z3 z4 z5 z6 z7 z8 z9 t1 t2 t3 d w1 w5 w3 w4 i0 i1 i2 i3 i4 i5 i6 w2 u1 u2 u3 u4 u5 u6 u9 ua u7 u8 v1 v2 v3 x1 x2 x5 x3 x4 y0 y1 y2 y3 y4 y5 y6 y7 hl;have hu:=eJ 10 (by decide) (by decide);clear y6 y7;have q1:=@aS p sl (.slice is) _ (.inr ⟨_,rfl⟩) g2;have q2:=@br (Int.ofNat 10) dst a b im nm (.slice es) k tn ix _ ck ci cs (.inr ⟨_,rfl⟩) g4;have q3:=@aN false 2 p sl (.slice is) _ (.inr ⟨_,rfl⟩) g2;have q5:=@bD false 3 (Int.ofNat 10) dst a b im nm (.slice es) k tn ix dt ck ci cs (.inr ⟨_,rfl⟩) g4;have q6:=@bd false 3 (Int.ofNat 10) dst a b im nm (.slice es) k tn ix dt ck ci cs (.inr ⟨_,rfl⟩) g4;clear g2 g4;refine co [33,43,53,136] [2,3,83,95,104] (x:=.of Tryz.f70 cq bp) ?_;refine oo q1 ?_;refine oo q2 ?_;refine on hu ?_;refine ox u2 ?_
 cases z2
 ·exact fi
 refine ox u3 ?_
 cases z3
 ·exact fi
 refine ox u4 ?_
 cases z4
 ·exact fi
 refine oo q5 ?_;refine on ua ?_;refine on u7 ?_
 cases z7
 ·exact fi
 refine oo q6 ?_;refine on u8 ?_
 cases z8
 ·exact fi
 refine oo q3 ?_;refine on v1 ?_
 cases t1
 ·exact fi
 refine ob u9 ?_
 cases z9
 ·refine lo hl ?_;rintro ex s (⟨rfl,rfl,rfl⟩|⟨rfl,rfl,rfl⟩)
  ·refine⟨_,rfl,?_⟩;refine on x1 ?_
   cases w1 <;>
   ·exact fi
  refine⟨_,rfl,?_⟩;exact fi
 exact fi
theorem V0:AK 10:=by
 intro p sl is d2 g2 dst a b im nm k tn ix dt ck ci cs g4 z1 z2 z3 z4 z5 z6 z7 z8 z9 t1 t2 t3 d w1 w5 w3 w4 i0 i1 i2 i3 i4 i5 i6 w2 u1 u2 u3 u4 u5 u6 u9 ud ua u7 u8 v1 v2 v3 x1 x2 x5 x3 x4 y0 y1 y2 y3 y4 y5 y6 y7 hl;subst u6 u9 ud;have hu:=eJ 10 (by decide) (by decide);clear y6 y7;have q1:=@aS p sl (.slice is) _ (.inr ⟨_,rfl⟩) g2;have q2:=@br (Int.ofNat 10) dst a b im nm nl k tn ix _ ck ci cs (.inl rfl) g4;have q3:=@aN false 2 p sl (.slice is) _ (.inr ⟨_,rfl⟩) g2;have q5:=@bD false 3 (Int.ofNat 10) dst a b im nm nl k tn ix dt ck ci cs (.inl rfl) g4;have q6:=@bd false 3 (Int.ofNat 10) dst a b im nm nl k tn ix dt ck ci cs (.inl rfl) g4;clear g2 g4;refine co [33,43,53] [2,3,83,95,104] (x:=.of Tryz.f70 cq bp) ?_;refine oo q1 ?_;refine oo q2 ?_;refine on hu ?_;refine ox u2 ?_
 cases z2
 ·exact fi
 refine ox u3 ?_
 cases z3
 ·exact fi
 refine ox u4 ?_
 cases z4
 ·exact fi
 refine oo q5 ?_;refine on ua ?_;refine on u7 ?_
 cases z7
 ·exact fi
 refine oo q6 ?_;refine on u8 ?_
 cases z8
 ·exact fi
 refine oo q3 ?_;refine on v1 ?_
 cases t1
 ·exact fi
 refine lo hl ?_;rintro ex s ⟨rfl,rfl⟩;refine⟨_,rfl,?_⟩;refine on x1 ?_
 cases w1 <;>
 ·exact fi
theorem VX:AJ 11:=by
 intro p sl is d2 g2 es dst a b im nm k tn ix dt ck ci cs g4 z1 z2 z3 z4 z5 z6 z7 z8 z9 t1 t2 t3 d w1 w5 w3 w4 i0 i1 i2 i3 i4 i5 i6 w2 u1 u2 u3 u4 u5 u6 u9 ua u7 u8 v1 v2 v3 x1 x2 x5 x3 x4 y0 y1 y2 y3 y4 y5 y6 y7 hl;have hu:=eJ 11 (by decide) (by decide);clear y6 y7;have q1:=@aS p sl (.slice is) _ (.inr ⟨_,rfl⟩) g2;have q2:=@br (Int.ofNat 11) dst a b im nm (.slice es) k tn ix _ ck ci cs (.inr ⟨_,rfl⟩) g4;have q3:=@aN false 2 p sl (.slice is) _ (.inr ⟨_,rfl⟩) g2;have q5:=@bD false 3 (Int.ofNat 11) dst a b im nm (.slice es) k tn ix dt ck ci cs (.inr ⟨_,rfl⟩) g4;have q6:=@bd false 3 (Int.ofNat 11) dst a b im nm (.slice es) k tn ix dt ck ci cs (.inr ⟨_,rfl⟩) g4;clear g2 g4;refine co [33,43,53,136] [2,3,83,95,104] (x:=.of Tryz.f70 cq bp) ?_;refine oo q1 ?_;refine oo q2 ?_;refine on hu ?_;refine ox u2 ?_
 cases z2
 ·exact fi
 refine ox u3 ?_
 cases z3
 ·exact fi
 refine ox u4 ?_
 cases z4
 ·exact fi
 refine oo q5 ?_;refine on ua ?_;refine on u7 ?_
 cases z7
 ·exact fi
 refine oo q6 ?_;refine on u8 ?_
 cases z8
 ·exact fi
 refine oo q3 ?_;refine on v1 ?_
 cases t1
 ·exact fi
 refine ob u9 ?_
 cases z9
 ·refine lo hl ?_;rintro ex s (⟨rfl,rfl,rfl⟩|⟨rfl,rfl,rfl⟩)
  ·refine⟨_,rfl,?_⟩;refine on x1 ?_
   cases w1 <;>
   ·exact fi
  refine⟨_,rfl,?_⟩;exact fi
 exact fi
theorem VY:AK 11:=by
 intro p sl is d2 g2 dst a b im nm k tn ix dt ck ci cs g4 z1 z2 z3 z4 z5 z6 z7 z8 z9 t1 t2 t3 d w1 w5 w3 w4 i0 i1 i2 i3 i4 i5 i6 w2 u1 u2 u3 u4 u5 u6 u9 ud ua u7 u8 v1 v2 v3 x1 x2 x5 x3 x4 y0 y1 y2 y3 y4 y5 y6 y7 hl;subst u6 u9 ud;have hu:=eJ 11 (by decide) (by decide);clear y6 y7;have q1:=@aS p sl (.slice is) _ (.inr ⟨_,rfl⟩) g2;have q2:=@br (Int.ofNat 11) dst a b im nm nl k tn ix _ ck ci cs (.inl rfl) g4;have q3:=@aN false 2 p sl (.slice is) _ (.inr ⟨_,rfl⟩) g2;have q5:=@bD false 3 (Int.ofNat 11) dst a b im nm nl k tn ix dt ck ci cs (.inl rfl) g4;have q6:=@bd false 3 (Int.ofNat 11) dst a b im nm nl k tn ix dt ck ci cs (.inl rfl) g4;clear g2 g4;refine co [33,43,53] [2,3,83,95,104] (x:=.of Tryz.f70 cq bp) ?_;refine oo q1 ?_;refine oo q2 ?_;refine on hu ?_;refine ox u2 ?_
 cases z2
 ·exact fi
 refine ox u3 ?_
 cases z3
 ·exact fi
 refine ox u4 ?_
 cases z4
 ·exact fi
 refine oo q5 ?_;refine on ua ?_;refine on u7 ?_
 cases z7
 ·exact fi
 refine oo q6 ?_;refine on u8 ?_
 cases z8
 ·exact fi
 refine oo q3 ?_;refine on v1 ?_
 cases t1
 ·exact fi
 refine lo hl ?_;rintro ex s ⟨rfl,rfl⟩;refine⟨_,rfl,?_⟩;refine on x1 ?_
 cases w1 <;>
 ·exact fi
theorem VV:AJ 12:=by
 intro p sl is d2 g2 es dst a b im nm k tn ix dt ck ci cs g4 z1 z2 z3 z4 z5 z6 z7 z8 z9 t1 t2 t3 d w1 w5 w3 w4 i0 i1 i2 i3 i4 i5 i6 w2 u1 u2 u3 u4 u5 u6 u9 ua u7 u8 v1 v2 v3 x1 x2 x5 x3 x4 y0 y1 y2 y3 y4 y5 y6 y7 hl;have hu:=eJ 12 (by decide) (by decide);clear y6 y7;have q1:=@aS p sl (.slice is) _ (.inr ⟨_,rfl⟩) g2;have q2:=@br (Int.ofNat 12) dst a b im nm (.slice es) k tn ix _ ck ci cs (.inr ⟨_,rfl⟩) g4;have q3:=@aN false 2 p sl (.slice is) _ (.inr ⟨_,rfl⟩) g2;have q5:=@bD false 3 (Int.ofNat 12) dst a b im nm (.slice es) k tn ix dt ck ci cs (.inr ⟨_,rfl⟩) g4;have q6:=@bd false 3 (Int.ofNat 12) dst a b im nm (.slice es) k tn ix dt ck ci cs (.inr ⟨_,rfl⟩) g4;clear g2 g4;refine co [24,33,43,63,74,136,194,201] [2,3,83,95] (x:=.of Tryz.f70 cq bp) ?_;refine oo q1 ?_;refine oo q2 ?_;refine on hu ?_;refine ox u1 ?_
 cases z1
 ·exact fi
 refine ox u2 ?_
 cases z2
 ·exact fi
 refine ox u3 ?_
 cases z3
 ·exact fi
 refine ox u5 ?_
 cases z5
 ·exact fi
 refine ob u6 ?_
 cases z6
 ·refine oo q5 ?_;refine on ua ?_;refine on u7 ?_
  cases z7
  ·exact fi
  refine oo q6 ?_;refine on u8 ?_
  cases z8
  ·exact fi
  refine ob u9 ?_
  cases z9
  ·refine lo hl ?_;rintro ex s (⟨rfl,rfl,rfl⟩|⟨rfl,rfl,rfl⟩)
   ·refine⟨_,rfl,?_⟩;refine ox y0 ?_
    cases i0
    ·refine ob y5 ?_
     cases i5 <;>
     ·exact fi
    exact fi
   refine⟨_,rfl,?_⟩;exact fi
  exact fi
 exact fi
theorem VW:AK 12:=by
 intro p sl is d2 g2 dst a b im nm k tn ix dt ck ci cs g4 z1 z2 z3 z4 z5 z6 z7 z8 z9 t1 t2 t3 d w1 w5 w3 w4 i0 i1 i2 i3 i4 i5 i6 w2 u1 u2 u3 u4 u5 u6 u9 ud ua u7 u8 v1 v2 v3 x1 x2 x5 x3 x4 y0 y1 y2 y3 y4 y5 y6 y7 hl;subst u6 u9 ud;have hu:=eJ 12 (by decide) (by decide);clear y6 y7;have q1:=@aS p sl (.slice is) _ (.inr ⟨_,rfl⟩) g2;have q2:=@br (Int.ofNat 12) dst a b im nm nl k tn ix _ ck ci cs (.inl rfl) g4;have q3:=@aN false 2 p sl (.slice is) _ (.inr ⟨_,rfl⟩) g2;have q5:=@bD false 3 (Int.ofNat 12) dst a b im nm nl k tn ix dt ck ci cs (.inl rfl) g4;have q6:=@bd false 3 (Int.ofNat 12) dst a b im nm nl k tn ix dt ck ci cs (.inl rfl) g4;clear g2 g4;refine co [24,33,43,63,194,201] [2,3,83,95] (x:=.of Tryz.f70 cq bp) ?_;refine oo q1 ?_;refine oo q2 ?_;refine on hu ?_;refine ox u1 ?_
 cases z1
 ·exact fi
 refine ox u2 ?_
 cases z2
 ·exact fi
 refine ox u3 ?_
 cases z3
 ·exact fi
 refine ox u5 ?_
 cases z5
 ·exact fi
 refine oo q5 ?_;refine on ua ?_;refine on u7 ?_
 cases z7
 ·exact fi
 refine oo q6 ?_;refine on u8 ?_
 cases z8
 ·exact fi
 refine lo hl ?_;rintro ex s ⟨rfl,rfl⟩;refine⟨_,rfl,?_⟩;refine ox y0 ?_
 cases i0
 ·refine ob y5 ?_
  cases i5 <;>
  ·exact fi
 exact fi
theorem VT:AJ 13:=by
 intro p sl is d2 g2 es dst a b im nm k tn ix dt ck ci cs g4 z1 z2 z3 z4 z5 z6 z7 z8 z9 t1 t2 t3 d w1 w5 w3 w4 i0 i1 i2 i3 i4 i5 i6 w2 u1 u2 u3 u4 u5 u6 u9 ua u7 u8 v1 v2 v3 x1 x2 x5 x3 x4 y0 y1 y2 y3 y4 y5 y6 y7 hl;have hu:=eJ 13 (by decide) (by decide);clear y6 y7;have q1:=@aS p sl (.slice is) _ (.inr ⟨_,rfl⟩) g2;have q2:=@br (Int.ofNat 13) dst a b im nm (.slice es) k tn ix _ ck ci cs (.inr ⟨_,rfl⟩) g4;have q3:=@aN false 2 p sl (.slice is) _ (.inr ⟨_,rfl⟩) g2;have q5:=@bD false 3 (Int.ofNat 13) dst a b im nm (.slice es) k tn ix dt ck ci cs (.inr ⟨_,rfl⟩) g4;have q6:=@bd false 3 (Int.ofNat 13) dst a b im nm (.slice es) k tn ix dt ck ci cs (.inr ⟨_,rfl⟩) g4;clear g2 g4;refine co [24,43,63,74,136,194,201] [2,3,83,95,114] (x:=.of Tryz.f70 cq bp) ?_;refine oo q1 ?_;refine oo q2 ?_;refine on hu ?_;refine ox u1 ?_
 cases z1
 ·exact fi
 refine ox u3 ?_
 cases z3
 ·exact fi
 refine ox u5 ?_
 cases z5
 ·exact fi
 refine ob u6 ?_
 cases z6
 ·refine oo q5 ?_;refine on ua ?_;refine on u7 ?_
  cases z7
  ·exact fi
  refine oo q6 ?_;refine on u8 ?_
  cases z8
  ·exact fi
  refine oo q3 ?_;refine on v2 ?_
  cases t2
  ·exact fi
  refine ob u9 ?_
  cases z9
  ·refine lo hl ?_;rintro ex s (⟨rfl,rfl,rfl⟩|⟨rfl,rfl,rfl⟩)
   ·refine⟨_,rfl,?_⟩;refine ox y0 ?_
    cases i0
    ·refine ob y5 ?_
     cases i5 <;>
     ·exact fi
    exact fi
   refine⟨_,rfl,?_⟩;exact fi
  exact fi
 exact fi
theorem VU:AK 13:=by
 intro p sl is d2 g2 dst a b im nm k tn ix dt ck ci cs g4 z1 z2 z3 z4 z5 z6 z7 z8 z9 t1 t2 t3 d w1 w5 w3 w4 i0 i1 i2 i3 i4 i5 i6 w2 u1 u2 u3 u4 u5 u6 u9 ud ua u7 u8 v1 v2 v3 x1 x2 x5 x3 x4 y0 y1 y2 y3 y4 y5 y6 y7 hl;subst u6 u9 ud;have hu:=eJ 13 (by decide) (by decide);clear y6 y7;have q1:=@aS p sl (.slice is) _ (.inr ⟨_,rfl⟩) g2;have q2:=@br (Int.ofNat 13) dst a b im nm nl k tn ix _ ck ci cs (.inl rfl) g4;have q3:=@aN false 2 p sl (.slice is) _ (.inr ⟨_,rfl⟩) g2;have q5:=@bD false 3 (Int.ofNat 13) dst a b im nm nl k tn ix dt ck ci cs (.inl rfl) g4;have q6:=@bd false 3 (Int.ofNat 13) dst a b im nm nl k tn ix dt ck ci cs (.inl rfl) g4;clear g2 g4;refine co [24,43,63,194,201] [2,3,83,95,114] (x:=.of Tryz.f70 cq bp) ?_;refine oo q1 ?_;refine oo q2 ?_;refine on hu ?_;refine ox u1 ?_
 cases z1
 ·exact fi
 refine ox u3 ?_
 cases z3
 ·exact fi
 refine ox u5 ?_
 cases z5
 ·exact fi
 refine oo q5 ?_;refine on ua ?_;refine on u7 ?_
 cases z7
 ·exact fi
 refine oo q6 ?_;refine on u8 ?_
 cases z8
 ·exact fi
 refine oo q3 ?_;refine on v2 ?_
 cases t2
 ·exact fi
 refine lo hl ?_;rintro ex s ⟨rfl,rfl⟩;refine⟨_,rfl,?_⟩;refine ox y0 ?_
 cases i0
 ·refine ob y5 ?_
  cases i5 <;>
  ·exact fi
 exact fi
theorem VR:AJ 14:=by
 intro p sl is d2 g2 es dst a b im nm k tn ix dt ck ci cs g4 z1 z2 z3 z4 z5 z6 z7 z8 z9 t1 t2 t3 d w1 w5 w3 w4 i0 i1 i2 i3 i4 i5 i6 w2 u1 u2 u3 u4 u5 u6 u9 ua u7 u8 v1 v2 v3 x1 x2 x5 x3 x4 y0 y1 y2 y3 y4 y5 y6 y7 hl;have hu:=eJ 14 (by decide) (by decide);clear y6 y7;have q1:=@aS p sl (.slice is) _ (.inr ⟨_,rfl⟩) g2;have q2:=@br (Int.ofNat 14) dst a b im nm (.slice es) k tn ix _ ck ci cs (.inr ⟨_,rfl⟩) g4;have q3:=@aN false 2 p sl (.slice is) _ (.inr ⟨_,rfl⟩) g2;have q5:=@bD false 3 (Int.ofNat 14) dst a b im nm (.slice es) k tn ix dt ck ci cs (.inr ⟨_,rfl⟩) g4;have q6:=@bd false 3 (Int.ofNat 14) dst a b im nm (.slice es) k tn ix dt ck ci cs (.inr ⟨_,rfl⟩) g4;clear g2 g4;refine co [24,33,43,53,63,74,136] [2,3,83,95] (x:=.of Tryz.f70 cq bp) ?_;refine oo q1 ?_;refine oo q2 ?_;refine on hu ?_;refine ox u1 ?_
 cases z1
 ·exact fi
 refine ox u2 ?_
 cases z2
 ·exact fi
 refine ox u3 ?_
 cases z3
 ·exact fi
 refine ox u4 ?_
 cases z4
 ·exact fi
 refine ox u5 ?_
 cases z5
 ·exact fi
 refine ob u6 ?_
 cases z6
 ·refine oo q5 ?_;refine on ua ?_;refine on u7 ?_
  cases z7
  ·exact fi
  refine oo q6 ?_;refine on u8 ?_
  cases z8
  ·exact fi
  refine ob u9 ?_
  cases z9
  ·refine lo hl ?_;rintro ex s (⟨rfl,rfl,rfl⟩|⟨rfl,rfl,rfl⟩) <;>
   ·refine⟨_,rfl,?_⟩;exact fi
  exact fi
 exact fi
theorem VS:AK 14:=by
 intro p sl is d2 g2 dst a b im nm k tn ix dt ck ci cs g4 z1 z2 z3 z4 z5 z6 z7 z8 z9 t1 t2 t3 d w1 w5 w3 w4 i0 i1 i2 i3 i4 i5 i6 w2 u1 u2 u3 u4 u5 u6 u9 ud ua u7 u8 v1 v2 v3 x1 x2 x5 x3 x4 y0 y1 y2 y3 y4 y5 y6 y7 hl;subst u6 u9 ud;have hu:=eJ 14 (by decide) (by decide);clear y6 y7;have q1:=@aS p sl (.slice is) _ (.inr ⟨_,rfl⟩) g2;have q2:=@br (Int.ofNat 14) dst a b im nm nl k tn ix _ ck ci cs (.inl rfl) g4;have q3:=@aN false 2 p sl (.slice is) _ (.inr ⟨_,rfl⟩) g2;have q5:=@bD false 3 (Int.ofNat 14) dst a b im nm nl k tn ix dt ck ci cs (.inl rfl) g4;have q6:=@bd false 3 (Int.ofNat 14) dst a b im nm nl k tn ix dt ck ci cs (.inl rfl) g4;clear g2 g4;refine co [24,33,43,53,63] [2,3,83,95] (x:=.of Tryz.f70 cq bp) ?_;refine oo q1 ?_;refine oo q2 ?_;refine on hu ?_;refine ox u1 ?_
 cases z1
 ·exact fi
 refine ox u2 ?_
 cases z2
 ·exact fi
 refine ox u3 ?_
 cases z3
 ·exact fi
 refine ox u4 ?_
 cases z4
 ·exact fi
 refine ox u5 ?_
 cases z5
 ·exact fi
 refine oo q5 ?_;refine on ua ?_;refine on u7 ?_
 cases z7
 ·exact fi
 refine oo q6 ?_;refine on u8 ?_
 cases z8
 ·exact fi
 refine lo hl ?_;rintro ex s ⟨rfl,rfl⟩;refine⟨_,rfl,?_⟩;exact fi
theorem VP:AJ 15:=by
 intro p sl is d2 g2 es dst a b im nm k tn ix dt ck ci cs g4 z1 z2 z3 z4 z5 z6 z7 z8 z9 t1 t2 t3 d w1 w5 w3 w4 i0 i1 i2 i3 i4 i5 i6 w2 u1 u2 u3 u4 u5 u6 u9 ua u7 u8 v1 v2 v3 x1 x2 x5 x3 x4 y0 y1 y2 y3 y4 y5 y6 y7 hl;have hu:=eJ 15 (by decide) (by decide);clear y6 y7;have q1:=@aS p sl (.slice is) _ (.inr ⟨_,rfl⟩) g2;have q2:=@br (Int.ofNat 15) dst a b im nm (.slice es) k tn ix _ ck ci cs (.inr ⟨_,rfl⟩) g4;have q3:=@aN false 2 p sl (.slice is) _ (.inr ⟨_,rfl⟩) g2;have q5:=@bD false 3 (Int.ofNat 15) dst a b im nm (.slice es) k tn ix dt ck ci cs (.inr ⟨_,rfl⟩) g4;have q6:=@bd false 3 (Int.ofNat 15) dst a b im nm (.slice es) k tn ix dt ck ci cs (.inr ⟨_,rfl⟩) g4;clear g2 g4;refine co [24,43,53,63,74,136] [2,3,83,95,114] (x:=.of Tryz.f70 cq bp) ?_;refine oo q1 ?_;refine oo q2 ?_;refine on hu ?_;refine ox u1 ?_
 cases z1
 ·exact fi
 refine ox u3 ?_
 cases z3
 ·exact fi
 refine ox u4 ?_
 cases z4
 ·exact fi
 refine ox u5 ?_
 cases z5
 ·exact fi
 refine ob u6 ?_
 cases z6
 ·refine oo q5 ?_;refine on ua ?_;refine on u7 ?_
  cases z7
  ·exact fi
  refine oo q6 ?_;refine on u8 ?_
  cases z8
  ·exact fi
  refine oo q3 ?_;refine on v2 ?_
  cases t2
  ·exact fi
  refine ob u9 ?_
  cases z9
  ·refine lo hl ?_;rintro ex s (⟨rfl,rfl,rfl⟩|⟨rfl,rfl,rfl⟩) <;>
   ·refine⟨_,rfl,?_⟩;exact fi
  exact fi
 exact fi
theorem VQ:AK 15:=by
 intro p sl is d2 g2 dst a b im nm k tn ix dt ck ci cs g4 z1 z2 z3 z4 z5 z6 z7 z8 z9 t1 t2 t3 d w1 w5 w3 w4 i0 i1 i2 i3 i4 i5 i6 w2 u1 u2 u3 u4 u5 u6 u9 ud ua u7 u8 v1 v2 v3 x1 x2 x5 x3 x4 y0 y1 y2 y3 y4 y5 y6 y7 hl;subst u6 u9 ud;have hu:=eJ 15 (by decide) (by decide);clear y6 y7;have q1:=@aS p sl (.slice is) _ (.inr ⟨_,rfl⟩) g2;have q2:=@br (Int.ofNat 15) dst a b im nm nl k tn ix _ ck ci cs (.inl rfl) g4;have q3:=@aN false 2 p sl (.slice is) _ (.inr ⟨_,rfl⟩) g2;have q5:=@bD false 3 (Int.ofNat 15) dst a b im nm nl k tn ix dt ck ci cs (.inl rfl) g4;have q6:=@bd false 3 (Int.ofNat 15) dst a b im nm nl k tn ix dt ck ci cs (.inl rfl) g4;clear g2 g4;refine co [24,43,53,63] [2,3,83,95,114] (x:=.of Tryz.f70 cq bp) ?_;refine oo q1 ?_;refine oo q2 ?_;refine on hu ?_;refine ox u1 ?_
 cases z1
 ·exact fi
 refine ox u3 ?_
 cases z3
 ·exact fi
 refine ox u4 ?_
 cases z4
 ·exact fi
 refine ox u5 ?_
 cases z5
 ·exact fi
 refine oo q5 ?_;refine on ua ?_;refine on u7 ?_
 cases z7
 ·exact fi
 refine oo q6 ?_;refine on u8 ?_
 cases z8
 ·exact fi
 refine oo q3 ?_;refine on v2 ?_
 cases t2
 ·exact fi
 refine lo hl ?_;rintro ex s ⟨rfl,rfl⟩;refine⟨_,rfl,?_⟩;exact fi
theorem VN:AJ 16:=by
 intro p sl is d2 g2 es dst a b im nm k tn ix dt ck ci cs g4 z1 z2 z3 z4 z5 z6 z7 z8 z9 t1 t2 t3 d w1 w5 w3 w4 i0 i1 i2 i3 i4 i5 i6 w2 u1 u2 u3 u4 u5 u6 u9 ua u7 u8 v1 v2 v3 x1 x2 x5 x3 x4 y0 y1 y2 y3 y4 y5 y6 y7 hl;have hu:=eJ 16 (by decide) (by decide);clear y6 y7;have q1:=@aS p sl (.slice is) _ (.inr ⟨_,rfl⟩) g2;have q2:=@br (Int.ofNat 16) dst a b im nm (.slice es) k tn ix _ ck ci cs (.inr ⟨_,rfl⟩) g4;have q3:=@aN false 2 p sl (.slice is) _ (.inr ⟨_,rfl⟩) g2;have q5:=@bD false 3 (Int.ofNat 16) dst a b im nm (.slice es) k tn ix dt ck ci cs (.inr ⟨_,rfl⟩) g4;have q6:=@bd false 3 (Int.ofNat 16) dst a b im nm (.slice es) k tn ix dt ck ci cs (.inr ⟨_,rfl⟩) g4;clear g2 g4;refine co [24,43,53,63,74,136] [2,3,83,95,114] (x:=.of Tryz.f70 cq bp) ?_;refine oo q1 ?_;refine oo q2 ?_;refine on hu ?_;refine ox u1 ?_
 cases z1
 ·exact fi
 refine ox u3 ?_
 cases z3
 ·exact fi
 refine ox u4 ?_
 cases z4
 ·exact fi
 refine ox u5 ?_
 cases z5
 ·exact fi
 refine ob u6 ?_
 cases z6
 ·refine oo q5 ?_;refine on ua ?_;refine on u7 ?_
  cases z7
  ·exact fi
  refine oo q6 ?_;refine on u8 ?_
  cases z8
  ·exact fi
  refine oo q3 ?_;refine on v2 ?_
  cases t2
  ·exact fi
  refine ob u9 ?_
  cases z9
  ·refine lo hl ?_;rintro ex s (⟨rfl,rfl,rfl⟩|⟨rfl,rfl,rfl⟩) <;>
   ·refine⟨_,rfl,?_⟩;exact fi
  exact fi
 exact fi
theorem VO:AK 16:=by
 intro p sl is d2 g2 dst a b im nm k tn ix dt ck ci cs g4 z1 z2 z3 z4 z5 z6 z7 z8 z9 t1 t2 t3 d w1 w5 w3 w4 i0 i1 i2 i3 i4 i5 i6 w2 u1 u2 u3 u4 u5 u6 u9 ud ua u7 u8 v1 v2 v3 x1 x2 x5 x3 x4 y0 y1 y2 y3 y4 y5 y6 y7 hl;subst u6 u9 ud;have hu:=eJ 16 (by decide) (by decide);clear y6 y7;have q1:=@aS p sl (.slice is) _ (.inr ⟨_,rfl⟩) g2;have q2:=@br (Int.ofNat 16) dst a b im nm nl k tn ix _ ck ci cs (.inl rfl) g4;have q3:=@aN false 2 p sl (.slice is) _ (.inr ⟨_,rfl⟩) g2;have q5:=@bD false 3 (Int.ofNat 16) dst a b im nm nl k tn ix dt ck ci cs (.inl rfl) g4;have q6:=@bd false 3 (Int.ofNat 16) dst a b im nm nl k tn ix dt ck ci cs (.inl rfl) g4;clear g2 g4;refine co [24,43,53,63] [2,3,83,95,114] (x:=.of Tryz.f70 cq bp) ?_;refine oo q1 ?_;refine oo q2 ?_;refine on hu ?_;refine ox u1 ?_
 cases z1
 ·exact fi
 refine ox u3 ?_
 cases z3
 ·exact fi
 refine ox u4 ?_
 cases z4
 ·exact fi
 refine ox u5 ?_
 cases z5
 ·exact fi
 refine oo q5 ?_;refine on ua ?_;refine on u7 ?_
 cases z7
 ·exact fi
 refine oo q6 ?_;refine on u8 ?_
 cases z8
 ·exact fi
 refine oo q3 ?_;refine on v2 ?_
 cases t2
 ·exact fi
 refine lo hl ?_;rintro ex s ⟨rfl,rfl⟩;refine⟨_,rfl,?_⟩;exact fi
theorem VL:AJ 17:=by
 intro p sl is d2 g2 es dst a b im nm k tn ix dt ck ci cs g4 z1 z2 z3 z4 z5 z6 z7 z8 z9 t1 t2 t3 d w1 w5 w3 w4 i0 i1 i2 i3 i4 i5 i6 w2 u1 u2 u3 u4 u5 u6 u9 ua u7 u8 v1 v2 v3 x1 x2 x5 x3 x4 y0 y1 y2 y3 y4 y5 y6 y7 hl;have hu:=eJ 17 (by decide) (by decide)
 rcases g2 with rfl|⟨ed,rfl⟩
 ·obtain rfl:=y7 rfl;clear y6 y7;have q1:=@aS p sl (.slice is) nl (.inr ⟨_,rfl⟩) (.inl rfl);have q2:=@br (Int.ofNat 17) dst a b im nm (.slice es) k tn ix _ ck ci cs (.inr ⟨_,rfl⟩) g4;have q3:=@aN false 2 p sl (.slice is) nl (.inr ⟨_,rfl⟩) (.inl rfl);have q5:=@bD false 3 (Int.ofNat 17) dst a b im nm (.slice es) k tn ix dt ck ci cs (.inr ⟨_,rfl⟩) g4;have q6:=@bd false 3 (Int.ofNat 17) dst a b im nm (.slice es) k tn ix dt ck ci cs (.inr ⟨_,rfl⟩) g4;clear g4;refine co [24,33,43,63,74,136,237,244] [2,3,83,95] (x:=.of Tryz.f70 cq bp) ?_;refine oo q1 ?_;refine oo q2 ?_;refine on hu ?_;refine ox u1 ?_
  cases z1
  ·exact fi
  refine ox u2 ?_
  cases z2
  ·exact fi
  refine ox u3 ?_
  cases z3
  ·exact fi
  refine ox u5 ?_
  cases z5
  ·exact fi
  refine ob u6 ?_
  cases z6
  ·refine oo q5 ?_;refine on ua ?_;refine on u7 ?_
   cases z7
   ·exact fi
   refine oo q6 ?_;refine on u8 ?_
   cases z8
   ·exact fi
   refine ob u9 ?_
   cases z9
   ·refine lo hl ?_;rintro ex s (⟨rfl,rfl,rfl⟩|⟨rfl,rfl,rfl⟩)
    ·refine⟨_,rfl,?_⟩;refine ox y0 ?_
     cases i6
     ·refine ob y0 ?_;exact fi
     exact fi
    refine⟨_,rfl,?_⟩;exact fi
   exact fi
  exact fi
 have y8:=y6 ed rfl;clear y6 y7;have q1:=@aS p sl (.slice is) (.slice ed) (.inr ⟨_,rfl⟩) (.inr ⟨_,rfl⟩);have q2:=@br (Int.ofNat 17) dst a b im nm (.slice es) k tn ix _ ck ci cs (.inr ⟨_,rfl⟩) g4;have q3:=@aN false 2 p sl (.slice is) (.slice ed) (.inr ⟨_,rfl⟩) (.inr ⟨_,rfl⟩);have q5:=@bD false 3 (Int.ofNat 17) dst a b im nm (.slice es) k tn ix dt ck ci cs (.inr ⟨_,rfl⟩) g4;have q6:=@bd false 3 (Int.ofNat 17) dst a b im nm (.slice es) k tn ix dt ck ci cs (.inr ⟨_,rfl⟩) g4;clear g4;refine co [24,33,43,63,74,136,237,244] [2,3,83,95] (x:=.of Tryz.f70 cq bp) ?_;refine oo q1 ?_;refine oo q2 ?_;refine on hu ?_;refine ox u1 ?_
 cases z1
 ·exact fi
 refine ox u2 ?_
 cases z2
 ·exact fi
 refine ox u3 ?_
 cases z3
 ·exact fi
 refine ox u5 ?_
 cases z5
 ·exact fi
 refine ob u6 ?_
 cases z6
 ·refine oo q5 ?_;refine on ua ?_;refine on u7 ?_
  cases z7
  ·exact fi
  refine oo q6 ?_;refine on u8 ?_
  cases z8
  ·exact fi
  refine ob u9 ?_
  cases z9
  ·refine lo hl ?_;rintro ex s (⟨rfl,rfl,rfl⟩|⟨rfl,rfl,rfl⟩)
   ·refine⟨_,rfl,?_⟩;refine ox y0 ?_
    cases i0
    ·refine ob y8 ?_
     cases i6 <;>
     ·exact fi
    exact fi
   refine⟨_,rfl,?_⟩;exact fi
  exact fi
 exact fi
theorem VM:AK 17:=by
 intro p sl is d2 g2 dst a b im nm k tn ix dt ck ci cs g4 z1 z2 z3 z4 z5 z6 z7 z8 z9 t1 t2 t3 d w1 w5 w3 w4 i0 i1 i2 i3 i4 i5 i6 w2 u1 u2 u3 u4 u5 u6 u9 ud ua u7 u8 v1 v2 v3 x1 x2 x5 x3 x4 y0 y1 y2 y3 y4 y5 y6 y7 hl;subst u6 u9 ud;have hu:=eJ 17 (by decide) (by decide)
 rcases g2 with rfl|⟨ed,rfl⟩
 ·obtain rfl:=y7 rfl;clear y6 y7;have q1:=@aS p sl (.slice is) nl (.inr ⟨_,rfl⟩) (.inl rfl);have q2:=@br (Int.ofNat 17) dst a b im nm nl k tn ix _ ck ci cs (.inl rfl) g4;have q3:=@aN false 2 p sl (.slice is) nl (.inr ⟨_,rfl⟩) (.inl rfl);have q5:=@bD false 3 (Int.ofNat 17) dst a b im nm nl k tn ix dt ck ci cs (.inl rfl) g4;have q6:=@bd false 3 (Int.ofNat 17) dst a b im nm nl k tn ix dt ck ci cs (.inl rfl) g4;clear g4;refine co [24,33,43,63,237,244] [2,3,83,95] (x:=.of Tryz.f70 cq bp) ?_;refine oo q1 ?_;refine oo q2 ?_;refine on hu ?_;refine ox u1 ?_
  cases z1
  ·exact fi
  refine ox u2 ?_
  cases z2
  ·exact fi
  refine ox u3 ?_
  cases z3
  ·exact fi
  refine ox u5 ?_
  cases z5
  ·exact fi
  refine oo q5 ?_;refine on ua ?_;refine on u7 ?_
  cases z7
  ·exact fi
  refine oo q6 ?_;refine on u8 ?_
  cases z8
  ·exact fi
  refine lo hl ?_;rintro ex s ⟨rfl,rfl⟩;refine⟨_,rfl,?_⟩;refine ox y0 ?_
  cases i6
  ·refine ob y0 ?_;exact fi
  exact fi
 have y8:=y6 ed rfl;clear y6 y7;have q1:=@aS p sl (.slice is) (.slice ed) (.inr ⟨_,rfl⟩) (.inr ⟨_,rfl⟩);have q2:=@br (Int.ofNat 17) dst a b im nm nl k tn ix _ ck ci cs (.inl rfl) g4;have q3:=@aN false 2 p sl (.slice is) (.slice ed) (.inr ⟨_,rfl⟩) (.inr ⟨_,rfl⟩);have q5:=@bD false 3 (Int.ofNat 17) dst a b im nm nl k tn ix dt ck ci cs (.inl rfl) g4;have q6:=@bd false 3 (Int.ofNat 17) dst a b im nm nl k tn ix dt ck ci cs (.inl rfl) g4;clear g4;refine co [24,33,43,63,237,244] [2,3,83,95] (x:=.of Tryz.f70 cq bp) ?_;refine oo q1 ?_;refine oo q2 ?_;refine on hu ?_;refine ox u1 ?_
 cases z1
 ·exact fi
 refine ox u2 ?_
 cases z2
 ·exact fi
 refine ox u3 ?_
 cases z3
 ·exact fi
 refine ox u5 ?_
 cases z5
 ·exact fi
 refine oo q5 ?_;refine on ua ?_;refine on u7 ?_
 cases z7
 ·exact fi
 refine oo q6 ?_;refine on u8 ?_
 cases z8
 ·exact fi
 refine lo hl ?_;rintro ex s ⟨rfl,rfl⟩;refine⟨_,rfl,?_⟩;refine ox y0 ?_
 cases i0
 ·refine ob y8 ?_
  cases i6 <;>
  ·exact fi
 exact fi
theorem VJ:AJ 18:=by
 intro p sl is d2 g2 es dst a b im nm k tn ix dt ck ci cs g4 z1 z2 z3 z4 z5 z6 z7 z8 z9 t1 t2 t3 d w1 w5 w3 w4 i0 i1 i2 i3 i4 i5 i6 w2 u1 u2 u3 u4 u5 u6 u9 ua u7 u8 v1 v2 v3 x1 x2 x5 x3 x4 y0 y1 y2 y3 y4 y5 y6 y7 hl;have hu:=eJ 18 (by decide) (by decide);clear y6 y7;have q1:=@aS p sl (.slice is) _ (.inr ⟨_,rfl⟩) g2;have q2:=@br (Int.ofNat 18) dst a b im nm (.slice es) k tn ix _ ck ci cs (.inr ⟨_,rfl⟩) g4;have q3:=@aN false 2 p sl (.slice is) _ (.inr ⟨_,rfl⟩) g2;have q5:=@bD false 3 (Int.ofNat 18) dst a b im nm (.slice es) k tn ix dt ck ci cs (.inr ⟨_,rfl⟩) g4;have q6:=@bd false 3 (Int.ofNat 18) dst a b im nm (.slice es) k tn ix dt ck ci cs (.inr ⟨_,rfl⟩) g4;clear g2 g4;refine co [24,33,43,53,63,74,136] [2,3,83,95] (x:=.of Tryz.f70 cq bp) ?_;refine oo q1 ?_;refine oo q2 ?_;refine on hu ?_;refine ox u1 ?_
 cases z1
 ·exact fi
 refine ox u2 ?_
 cases z2
 ·exact fi
 refine ox u3 ?_
 cases z3
 ·exact fi
 refine ox u4 ?_
 cases z4
 ·exact fi
 refine ox u5 ?_
 cases z5
 ·exact fi
 refine ob u6 ?_
 cases z6
 ·refine oo q5 ?_;refine on ua ?_;refine on u7 ?_
  cases z7
  ·exact fi
  refine oo q6 ?_;refine on u8 ?_
  cases z8
  ·exact fi
  refine ob u9 ?_
  cases z9
  ·refine lo hl ?_;rintro ex s (⟨rfl,rfl,rfl⟩|⟨rfl,rfl,rfl⟩) <;>
   ·refine⟨_,rfl,?_⟩;exact fi
  exact fi
 exact fi
theorem VK:AK 18:=by
 intro p sl is d2 g2 dst a b im nm k tn ix dt ck ci cs g4 z1 z2 z3 z4 z5 z6 z7 z8 z9 t1 t2 t3 d w1 w5 w3 w4 i0 i1 i2 i3 i4 i5 i6 w2 u1 u2 u3 u4 u5 u6 u9 ud ua u7 u8 v1 v2 v3 x1 x2 x5 x3 x4 y0 y1 y2 y3 y4 y5 y6 y7 hl;subst u6 u9 ud;have hu:=eJ 18 (by decide) (by decide);clear y6 y7;have q1:=@aS p sl (.slice is) _ (.inr ⟨_,rfl⟩) g2;have q2:=@br (Int.ofNat 18) dst a b im nm nl k tn ix _ ck ci cs (.inl rfl) g4;have q3:=@aN false 2 p sl (.slice is) _ (.inr ⟨_,rfl⟩) g2;have q5:=@bD false 3 (Int.ofNat 18) dst a b im nm nl k tn ix dt ck ci cs (.inl rfl) g4;have q6:=@bd false 3 (Int.ofNat 18) dst a b im nm nl k tn ix dt ck ci cs (.inl rfl) g4;clear g2 g4;refine co [24,33,43,53,63] [2,3,83,95] (x:=.of Tryz.f70 cq bp) ?_;refine oo q1 ?_;refine oo q2 ?_;refine on hu ?_;refine ox u1 ?_
 cases z1
 ·exact fi
 refine ox u2 ?_
 cases z2
 ·exact fi
 refine ox u3 ?_
 cases z3
 ·exact fi
 refine ox u4 ?_
 cases z4
 ·exact fi
 refine ox u5 ?_
 cases z5
 ·exact fi
 refine oo q5 ?_;refine on ua ?_;refine on u7 ?_
 cases z7
 ·exact fi
 refine oo q6 ?_;refine on u8 ?_
 cases z8
 ·exact fi
 refine lo hl ?_;rintro ex s ⟨rfl,rfl⟩;refine⟨_,rfl,?_⟩;exact fi
theorem VH:AJ 19:=by
 intro p sl is d2 g2 es dst a b im nm k tn ix dt ck ci cs g4 z1 z2 z3 z4 z5 z6 z7 z8 z9 t1 t2 t3 d w1 w5 w3 w4 i0 i1 i2 i3 i4 i5 i6 w2 u1 u2 u3 u4 u5 u6 u9 ua u7 u8 v1 v2 v3 x1 x2 x5 x3 x4 y0 y1 y2 y3 y4 y5 y6 y7 hl;have hu:=eJ 19 (by decide) (by decide);clear y6 y7;have q1:=@aS p sl (.slice is) _ (.inr ⟨_,rfl⟩) g2;have q2:=@br (Int.ofNat 19) dst a b im nm (.slice es) k tn ix _ ck ci cs (.inr ⟨_,rfl⟩) g4;have q3:=@aN false 2 p sl (.slice is) _ (.inr ⟨_,rfl⟩) g2;have q5:=@bD false 3 (Int.ofNat 19) dst a b im nm (.slice es) k tn ix dt ck ci cs (.inr ⟨_,rfl⟩) g4;have q6:=@bd false 3 (Int.ofNat 19) dst a b im nm (.slice es) k tn ix dt ck ci cs (.inr ⟨_,rfl⟩) g4;clear g2 g4;refine co [24,43,53,63,74,136] [2,3,83,95,114] (x:=.of Tryz.f70 cq bp) ?_;refine oo q1 ?_;refine oo q2 ?_;refine on hu ?_;refine ox u1 ?_
 cases z1
 ·exact fi
 refine ox u3 ?_
 cases z3
 ·exact fi
 refine ox u4 ?_
 cases z4
 ·exact fi
 refine ox u5 ?_
 cases z5
 ·exact fi
 refine ob u6 ?_
 cases z6
 ·refine oo q5 ?_;refine on ua ?_;refine on u7 ?_
  cases z7
  ·exact fi
  refine oo q6 ?_;refine on u8 ?_
  cases z8
  ·exact fi
  refine oo q3 ?_;refine on v2 ?_
  cases t2
  ·exact fi
  refine ob u9 ?_
  cases z9
  ·refine lo hl ?_;rintro ex s (⟨rfl,rfl,rfl⟩|⟨rfl,rfl,rfl⟩) <;>
   ·refine⟨_,rfl,?_⟩;exact fi
  exact fi
 exact fi
theorem VI:AK 19:=by
 intro p sl is d2 g2 dst a b im nm k tn ix dt ck ci cs g4 z1 z2 z3 z4 z5 z6 z7 z8 z9 t1 t2 t3 d w1 w5 w3 w4 i0 i1 i2 i3 i4 i5 i6 w2 u1 u2 u3 u4 u5 u6 u9 ud ua u7 u8 v1 v2 v3 x1 x2 x5 x3 x4 y0 y1 y2 y3 y4 y5 y6 y7 hl;subst u6 u9 ud;have hu:=eJ 19 (by decide) (by decide);clear y6 y7;have q1:=@aS p sl (.slice is) _ (.inr ⟨_,rfl⟩) g2;have q2:=@br (Int.ofNat 19) dst a b im nm nl k tn ix _ ck ci cs (.inl rfl) g4;have q3:=@aN false 2 p sl (.slice is) _ (.inr ⟨_,rfl⟩) g2;have q5:=@bD false 3 (Int.ofNat 19) dst a b im nm nl k tn ix dt ck ci cs (.inl rfl) g4;have q6:=@bd false 3 (Int.ofNat 19) dst a b im nm nl k tn ix dt ck ci cs (.inl rfl) g4;clear g2 g4;refine co [24,43,53,63] [2,3,83,95,114] (x:=.of Tryz.f70 cq bp) ?_;refine oo q1 ?_;refine oo q2 ?_;refine on hu ?_;refine ox u1 ?_
 cases z1
 ·exact fi
 refine ox u3 ?_
 cases z3
 ·exact fi
 refine ox u4 ?_
 cases z4
 ·exact fi
 refine ox u5 ?_
 cases z5
 ·exact fi
 refine oo q5 ?_;refine on ua ?_;refine on u7 ?_
 cases z7
 ·exact fi
 refine oo q6 ?_;refine on u8 ?_
 cases z8
 ·exact fi
 refine oo q3 ?_;refine on v2 ?_
 cases t2
 ·exact fi
 refine lo hl ?_;rintro ex s ⟨rfl,rfl⟩;refine⟨_,rfl,?_⟩;exact fi
theorem VF:AJ 20:=by
 intro p sl is d2 g2 es dst a b im nm k tn ix dt ck ci cs g4 z1 z2 z3 z4 z5 z6 z7 z8 z9 t1 t2 t3 d w1 w5 w3 w4 i0 i1 i2 i3 i4 i5 i6 w2 u1 u2 u3 u4 u5 u6 u9 ua u7 u8 v1 v2 v3 x1 x2 x5 x3 x4 y0 y1 y2 y3 y4 y5 y6 y7 hl;have hu:=eJ 20 (by decide) (by decide);clear y6 y7;have q1:=@aS p sl (.slice is) _ (.inr ⟨_,rfl⟩) g2;have q2:=@br (Int.ofNat 20) dst a b im nm (.slice es) k tn ix _ ck ci cs (.inr ⟨_,rfl⟩) g4;have q3:=@aN false 2 p sl (.slice is) _ (.inr ⟨_,rfl⟩) g2;have q5:=@bD false 3 (Int.ofNat 20) dst a b im nm (.slice es) k tn ix dt ck ci cs (.inr ⟨_,rfl⟩) g4;have q6:=@bd false 3 (Int.ofNat 20) dst a b im nm (.slice es) k tn ix dt ck ci cs (.inr ⟨_,rfl⟩) g4;clear g2 g4;refine co [24,33,43,63,74,136,251] [2,3,83,95] (x:=.of Tryz.f70 cq bp) ?_;refine oo q1 ?_;refine oo q2 ?_;refine on hu ?_;refine ox u1 ?_
 cases z1
 ·exact fi
 refine ox u2 ?_
 cases z2
 ·exact fi
 refine ox u3 ?_
 cases z3
 ·exact fi
 refine ox u5 ?_
 cases z5
 ·exact fi
 refine ob u6 ?_
 cases z6
 ·refine oo q5 ?_;refine on ua ?_;refine on u7 ?_
  cases z7
  ·exact fi
  refine oo q6 ?_;refine on u8 ?_
  cases z8
  ·exact fi
  refine ob u9 ?_
  cases z9
  ·refine lo hl ?_;rintro ex s (⟨rfl,rfl,rfl⟩|⟨rfl,rfl,rfl⟩)
   ·refine⟨_,rfl,?_⟩;refine ox y1 ?_
    cases i1 <;>
    ·exact fi
   refine⟨_,rfl,?_⟩;exact fi
  exact fi
 exact fi
theorem VG:AK 20:=by
 intro p sl is d2 g2 dst a b im nm k tn ix dt ck ci cs g4 z1 z2 z3 z4 z5 z6 z7 z8 z9 t1 t2 t3 d w1 w5 w3 w4 i0 i1 i2 i3 i4 i5 i6 w2 u1 u2 u3 u4 u5 u6 u9 ud ua u7 u8 v1 v2 v3 x1 x2 x5 x3 x4 y0 y1 y2 y3 y4 y5 y6 y7 hl;subst u6 u9 ud;have hu:=eJ 20 (by decide) (by decide);clear y6 y7;have q1:=@aS p sl (.slice is) _ (.inr ⟨_,rfl⟩) g2;have q2:=@br (Int.ofNat 20) dst a b im nm nl k tn ix _ ck ci cs (.inl rfl) g4;have q3:=@aN false 2 p sl (.slice is) _ (.inr ⟨_,rfl⟩) g2;have q5:=@bD false 3 (Int.ofNat 20) dst a b im nm nl k tn ix dt ck ci cs (.inl rfl) g4;have q6:=@bd false 3 (Int.ofNat 20) dst a b im nm nl k tn ix dt ck ci cs (.inl rfl) g4;clear g2 g4;refine co [24,33,43,63,251] [2,3,83,95] (x:=.of Tryz.f70 cq bp) ?_;refine oo q1 ?_;refine oo q2 ?_;refine on hu ?_;refine ox u1 ?_
 cases z1
 ·exact fi
 refine ox u2 ?_
 cases z2
 ·exact fi
 refine ox u3 ?_
 cases z3
 ·exact fi
 refine ox u5 ?_
 cases z5
 ·exact fi
 refine oo q5 ?_;refine on ua ?_;refine on u7 ?_
 cases z7
 ·exact fi
 refine oo q6 ?_;refine on u8 ?_
 cases z8
 ·exact fi
 refine lo hl ?_;rintro ex s ⟨rfl,rfl⟩;refine⟨_,rfl,?_⟩;refine ox y1 ?_
 cases i1 <;>
 ·exact fi
theorem VD:AJ 21:=by
 intro p sl is d2 g2 es dst a b im nm k tn ix dt ck ci cs g4 z1 z2 z3 z4 z5 z6 z7 z8 z9 t1 t2 t3 d w1 w5 w3 w4 i0 i1 i2 i3 i4 i5 i6 w2 u1 u2 u3 u4 u5 u6 u9 ua u7 u8 v1 v2 v3 x1 x2 x5 x3 x4 y0 y1 y2 y3 y4 y5 y6 y7 hl;have hu:=eJ 21 (by decide) (by decide);clear y6 y7;have q1:=@aS p sl (.slice is) _ (.inr ⟨_,rfl⟩) g2;have q2:=@br (Int.ofNat 21) dst a b im nm (.slice es) k tn ix _ ck ci cs (.inr ⟨_,rfl⟩) g4;have q3:=@aN false 2 p sl (.slice is) _ (.inr ⟨_,rfl⟩) g2;have q5:=@bD false 3 (Int.ofNat 21) dst a b im nm (.slice es) k tn ix dt ck ci cs (.inr ⟨_,rfl⟩) g4;have q6:=@bd false 3 (Int.ofNat 21) dst a b im nm (.slice es) k tn ix dt ck ci cs (.inr ⟨_,rfl⟩) g4;clear g2 g4;refine co [24,33,43,53,63,74,136] [2,3,83,95] (x:=.of Tryz.f70 cq bp) ?_;refine oo q1 ?_;refine oo q2 ?_;refine on hu ?_;refine ox u1 ?_
 cases z1
 ·exact fi
 refine ox u2 ?_
 cases z2
 ·exact fi
 refine ox u3 ?_
 cases z3
 ·exact fi
 refine ox u4 ?_
 cases z4
 ·exact fi
 refine ox u5 ?_
 cases z5
 ·exact fi
 refine ob u6 ?_
 cases z6
 ·refine oo q5 ?_;refine on ua ?_;refine on u7 ?_
  cases z7
  ·exact fi
  refine oo q6 ?_;refine on u8 ?_
  cases z8
  ·exact fi
  refine ob u9 ?_
  cases z9
  ·refine lo hl ?_;rintro ex s (⟨rfl,rfl,rfl⟩|⟨rfl,rfl,rfl⟩) <;>
   ·refine⟨_,rfl,?_⟩;exact fi
  exact fi
 exact fi
theorem VE:AK 21:=by
 intro p sl is d2 g2 dst a b im nm k tn ix dt ck ci cs g4 z1 z2 z3 z4 z5 z6 z7 z8 z9 t1 t2 t3 d w1 w5 w3 w4 i0 i1 i2 i3 i4 i5 i6 w2 u1 u2 u3 u4 u5 u6 u9 ud ua u7 u8 v1 v2 v3 x1 x2 x5 x3 x4 y0 y1 y2 y3 y4 y5 y6 y7 hl;subst u6 u9 ud;have hu:=eJ 21 (by decide) (by decide);clear y6 y7;have q1:=@aS p sl (.slice is) _ (.inr ⟨_,rfl⟩) g2;have q2:=@br (Int.ofNat 21) dst a b im nm nl k tn ix _ ck ci cs (.inl rfl) g4;have q3:=@aN false 2 p sl (.slice is) _ (.inr ⟨_,rfl⟩) g2;have q5:=@bD false 3 (Int.ofNat 21) dst a b im nm nl k tn ix dt ck ci cs (.inl rfl) g4;have q6:=@bd false 3 (Int.ofNat 21) dst a b im nm nl k tn ix dt ck ci cs (.inl rfl) g4;clear g2 g4;refine co [24,33,43,53,63] [2,3,83,95] (x:=.of Tryz.f70 cq bp) ?_;refine oo q1 ?_;refine oo q2 ?_;refine on hu ?_;refine ox u1 ?_
 cases z1
 ·exact fi
 refine ox u2 ?_
 cases z2
 ·exact fi
 refine ox u3 ?_
 cases z3
 ·exact fi
 refine ox u4 ?_
 cases z4
 ·exact fi
 refine ox u5 ?_
 cases z5
 ·exact fi
 refine oo q5 ?_;refine on ua ?_;refine on u7 ?_
 cases z7
 ·exact fi
 refine oo q6 ?_;refine on u8 ?_
 cases z8
 ·exact fi
 refine lo hl ?_;rintro ex s ⟨rfl,rfl⟩;refine⟨_,rfl,?_⟩;exact fi
theorem VB:AJ 22:=by
 intro p sl is d2 g2 es dst a b im nm k tn ix dt ck ci cs g4 z1 z2 z3 z4 z5 z6 z7 z8 z9 t1 t2 t3 d w1 w5 w3 w4 i0 i1 i2 i3 i4 i5 i6 w2 u1 u2 u3 u4 u5 u6 u9 ua u7 u8 v1 v2 v3 x1 x2 x5 x3 x4 y0 y1 y2 y3 y4 y5 y6 y7 hl;have hu:=eJ 22 (by decide) (by decide);clear y6 y7;have q1:=@aS p sl (.slice is) _ (.inr ⟨_,rfl⟩) g2;have q2:=@br (Int.ofNat 22) dst a b im nm (.slice es) k tn ix _ ck ci cs (.inr ⟨_,rfl⟩) g4;have q3:=@aN false 2 p sl (.slice is) _ (.inr ⟨_,rfl⟩) g2;have q5:=@bD false 3 (Int.ofNat 22) dst a b im nm (.slice es) k tn ix dt ck ci cs (.inr ⟨_,rfl⟩) g4;have q6:=@bd false 3 (Int.ofNat 22) dst a b im nm (.slice es) k tn ix dt ck ci cs (.inr ⟨_,rfl⟩) g4;clear g2 g4;refine co [33,43,63,136,251] [2,3,83,95,104] (x:=.of Tryz.f70 cq bp) ?_;refine oo q1 ?_;refine oo q2 ?_;refine on hu ?_;refine ox u2 ?_
 cases z2
 ·exact fi
 refine ox u3 ?_
 cases z3
 ·exact fi
 refine ox u5 ?_
 cases z5
 ·exact fi
 refine oo q5 ?_;refine on ua ?_;refine on u7 ?_
 cases z7
 ·exact fi
 refine oo q6 ?_;refine on u8 ?_
 cases z8
 ·exact fi
 refine oo q3 ?_;refine on v1 ?_
 cases t1
 ·exact fi
 refine ob u9 ?_
 cases z9
 ·refine lo hl ?_;rintro ex s (⟨rfl,rfl,rfl⟩|⟨rfl,rfl,rfl⟩)
  ·refine⟨_,rfl,?_⟩;refine ox y1 ?_
   cases i1 <;>
   ·exact fi
  refine⟨_,rfl,?_⟩;exact fi
 exact fi
theorem VC:AK 22:=by
 intro p sl is d2 g2 dst a b im nm k tn ix dt ck ci cs g4 z1 z2 z3 z4 z5 z6 z7 z8 z9 t1 t2 t3 d w1 w5 w3 w4 i0 i1 i2 i3 i4 i5 i6 w2 u1 u2 u3 u4 u5 u6 u9 ud ua u7 u8 v1 v2 v3 x1 x2 x5 x3 x4 y0 y1 y2 y3 y4 y5 y6 y7 hl;subst u6 u9 ud;have hu:=eJ 22 (by decide) (by decide);clear y6 y7;have q1:=@aS p sl (.slice is) _ (.inr ⟨_,rfl⟩) g2;have q2:=@br (Int.ofNat 22) dst a b im nm nl k tn ix _ ck ci cs (.inl rfl) g4;have q3:=@aN false 2 p sl (.slice is) _ (.inr ⟨_,rfl⟩) g2;have q5:=@bD false 3 (Int.ofNat 22) dst a b im nm nl k tn ix dt ck ci cs (.inl rfl) g4;have q6:=@bd false 3 (Int.ofNat 22) dst a b im nm nl k tn ix dt ck ci cs (.inl rfl) g4;clear g2 g4;refine co [33,43,63,251] [2,3,83,95,104] (x:=.of Tryz.f70 cq bp) ?_;refine oo q1 ?_;refine oo q2 ?_;refine on hu ?_;refine ox u2 ?_
 cases z2
 ·exact fi
 refine ox u3 ?_
 cases z3
 ·exact fi
 refine ox u5 ?_
 cases z5
 ·exact fi
 refine oo q5 ?_;refine on ua ?_;refine on u7 ?_
 cases z7
 ·exact fi
 refine oo q6 ?_;refine on u8 ?_
 cases z8
 ·exact fi
 refine oo q3 ?_;refine on v1 ?_
 cases t1
 ·exact fi
 refine lo hl ?_;rintro ex s ⟨rfl,rfl⟩;refine⟨_,rfl,?_⟩;refine ox y1 ?_
 cases i1 <;>
 ·exact fi
theorem ZM:∀n:Nat,1<=n->n<=22->AJ n
 | 0,h,_=>absurd h (by omega)
 | 1,_,_=>Z4
 | 2,_,_=>Z2
 | 3,_,_=>Z0
 | 4,_,_=>ZY
 | 5,_,_=>ZW
 | 6,_,_=>ZU
 | 7,_,_=>ZS
 | 8,_,_=>ZQ
 | 9,_,_=>ZO
 | 10,_,_=>VZ
 | 11,_,_=>VX
 | 12,_,_=>VV
 | 13,_,_=>VT
 | 14,_,_=>VR
 | 15,_,_=>VP
 | 16,_,_=>VN
 | 17,_,_=>VL
 | 18,_,_=>VJ
 | 19,_,_=>VH
 | 20,_,_=>VF
 | 21,_,_=>VD
 | 22,_,_=>VB
 | n+23,_,h=>absurd h (by omega)
theorem acG:∀n:Nat,1<=n->n<=22->AK n
 | 0,h,_=>absurd h (by omega)
 | 1,_,_=>Z5
 | 2,_,_=>Z3
 | 3,_,_=>Z1
 | 4,_,_=>ZZ
 | 5,_,_=>ZX
 | 6,_,_=>ZV
 | 7,_,_=>ZT
 | 8,_,_=>ZR
 | 9,_,_=>ZP
 | 10,_,_=>V0
 | 11,_,_=>VY
 | 12,_,_=>VW
 | 13,_,_=>VU
 | 14,_,_=>VS
 | 15,_,_=>VQ
 | 16,_,_=>VO
 | 17,_,_=>VM
 | 18,_,_=>VK
 | 19,_,_=>VI
 | 20,_,_=>VG
 | 21,_,_=>VE
 | 22,_,_=>VC
 | n+23,_,h=>absurd h (by omega)
theorem Ob:ae 104 [] (.dat (Ty.mk 0 [] 0 []).enc):=by
 refine co [] [] (x:=.of Tryz.f104 C8 Dh) ?_;exact fi
theorem CR {p sl:Int} {es ed:List al} (z:Bool) {x:Ins} (h:x.gO) :
  ae 70 [.dat (aP p sl (.slice es) (sx z ed)),.dat x.enc] (bv (Dl (Int.ofNat es.length) (Int.ofNat ed.length) sl x)):=by
 obtain⟨ht,ha,hs⟩:=h;have hty:=N9 x.ty (.mk 0 [] 0 []) (by have:=ht.1;omega);have hval:=Hs ht;have hcl:=ES (t:=x.ty) ht.1 ht.2;obtain⟨op,dst,a,b,im,nm,az,ar,⟨k,tn,ix,la⟩,ck,ci,cs⟩:=x;have hd:=dH z ed;have i6:∀ed2,sx z ed=.slice ed2->aH im (Int.ofNat ed2.length)=aH im (Int.ofNat ed.length):=by
  intro ed2 h
  cases ed with
  | nil=>
   cases z
   ·simp[sx,nl] at h
   cases h;rfl
  | cons y r=>cases h;rfl
 have i7:sx z ed=nl->aH im (Int.ofNat ed.length)=aH im 0:=by
  intro h
  cases ed with
  | nil=>rfl
  | cons y r=>simp[sx,nl] at h
 cases h1:aH op 1 with
 | true=>
  have e:Dl (Int.ofNat es.length) (Int.ofNat ed.length) sl ⟨op,dst,a,b,im,nm,az,ar,⟨k,tn,ix,la⟩,ck,ci,cs⟩=false:=by
   unfold Dl;rw[CI h1]
  rw[e];exact NB (.inr ⟨_,rfl⟩) hd (dH az (ar.map iN)) (dz (ax la)) h1 rfl (fun h=>by simp at h) (Jf (.inl h1))
 | false=>
  cases h2:aH op 23 with
  | false=>
   have e:Dl (Int.ofNat es.length) (Int.ofNat ed.length) sl ⟨op,dst,a,b,im,nm,az,ar,⟨k,tn,ix,la⟩,ck,ci,cs⟩=false:=by
    unfold Dl;rw[CJ h2]
   rw[e];refine NB (.inr ⟨_,rfl⟩) hd (dH az (ar.map iN)) (dz (ax la)) h1 (c2:=true) ?_ (fun _=>rfl) (Jf (.inr h2));rw[cW] at h2 ⊢;simp only[decide_eq_false_iff_not,decide_eq_true_eq] at h2 ⊢;omega
  | true=>
   obtain⟨n,rfl,hn1,hn2⟩:=yk h1 h2;have hsh:dI (Int.ofNat n)=some (jM (jL n)):=by
    show jL n=_
    cases hq:jL n with
    | some s=>rfl
    | none=>
     exfalso
     have:∀n:Nat,1<=n->n<=22->jL n≠none:=by
      intro n
      match n with
      | 0=>intro h;omega
      | 1|2|3|4|5|6|7|8|9|10|11|12|13|14|15|16|17|18|19|20|21|22=>intro _ _ h;simp[jL] at h
      | n+23=>intro _ h;omega
     exact this n hn1 hn2 hq
   have e:Dl (Int.ofNat es.length) (Int.ofNat ed.length) sl ⟨Int.ofNat n,dst,a,b,im,nm,az,ar,⟨k,tn,ix,la⟩,ck,ci,cs⟩=rvF (jM (jL n)) (Int.ofNat n) (aB dst 0) (aB a 0) (aB b 0) (aB im 0) (ju nm []) (aH 0 (Int.ofNat ar.length)) (MC (.mk k tn ix la) (.mk 0 [] 0 [])) (A8 ck ci cs) (aH 6 (Int.ofNat ar.length)) (dS dst sl) (dS a sl) (dS b sl) (ar.all (fun n=>dS n sl)) (isIdent nm) (aB (Ty.mk k tn ix la).validate 0) (Ks (Ty.mk k tn ix la).fv) (rM ck ci cs) (aH im 0) (aH im 1) (aH 7 im) (aH im 6) (aB im 5) (aH im (Int.ofNat es.length)) (aH im (Int.ofNat ed.length)):=by
    unfold Dl;rw[hsh];rfl
   rw[e]
   cases ar with
   | nil=>
    cases az
    ·have hl:=@NC p sl (Int.ofNat n) (.slice es) (sx z ed) dst a b im nm k tn ix (Go.Proofs.YtmpmgmmcaghacaaGreatDoor.sl (ax la)) ck ci cs (jM (jL n));exact acG n hn1 hn2 hd (dz (ax la)) rfl rfl rfl rfl rfl rfl rfl rfl Ob hty uF (iX (.inr ⟨_,rfl⟩) hd) (iX (.inr ⟨_,rfl⟩) hd) (iX (.inr ⟨_,rfl⟩) hd) (xf nm) hval rfl hcl (CS hs) rfl rfl rfl rfl rfl rfl i6 i7 hl
    have hl:=@Jv [] (by decide) p sl (Int.ofNat n) (.slice es) (sx z ed) (.inr ⟨_,rfl⟩) hd dst a b im nm k tn ix (Go.Proofs.YtmpmgmmcaghacaaGreatDoor.sl (ax la)) ck ci cs (jM (jL n));exact ZM n hn1 hn2 hd (dz (ax la)) (es:=[]) rfl rfl rfl rfl rfl rfl rfl Ob hty uF (iX (.inr ⟨_,rfl⟩) hd) (iX (.inr ⟨_,rfl⟩) hd) (iX (.inr ⟨_,rfl⟩) hd) (xf nm) hval rfl hcl (CS hs) rfl rfl rfl rfl rfl rfl i6 i7 hl
   | cons y r=>
    have hl:=@Jv (y::r) ha p sl (Int.ofNat n) (.slice es) (sx z ed) (.inr ⟨_,rfl⟩) hd dst a b im nm k tn ix (Go.Proofs.YtmpmgmmcaghacaaGreatDoor.sl (ax la)) ck ci cs (jM (jL n));have hlen:((y::r).map iN).length=(y::r).length:=List.length_map _;exact ZM n hn1 hn2 hd (dz (ax la)) (es:=(y::r).map iN) rfl rfl rfl rfl rfl (by rw[hlen]) (by rw[hlen]) Ob hty uF (iX (.inr ⟨_,rfl⟩) hd) (iX (.inr ⟨_,rfl⟩) hd) (iX (.inr ⟨_,rfl⟩) hd) (xf nm) hval rfl hcl (CS hs) rfl rfl rfl rfl rfl rfl i6 i7 hl
theorem AT {p sl:Int} {es ed:List al} (z:Bool) {x:Ins} (h:x.gO) :
  ae 70 [.dat (aP p sl (.slice es) (sx z ed)),.dat x.enc] (bv (ig (Int.ofNat es.length) (Int.ofNat ed.length) sl x)):=by
 rw[WI];exact CR z h
noncomputable def hFC:Hints:=⟨bS,JP,bg,rowsOf bg 68⟩
def oL (m:Nat) (c1 K ss:List ac) (len:Nat) (start n:Int) (N:Nat):ab:=⟨[(18,iv start),(17,iv n),(5,.win (.out m) 2 0 len),(3,.win (.out 0) 1 0 N),(1,.ptr (.loc 1) 0)],[(.loc 1,.cells c1)],[(.out m,.cells K),(.out 0,.cells ss)],m+1⟩
def Eo (m:Nat) (c1 K ss:List ac) (start n:Int) (N:Nat):ab:=⟨[(26,bv false),(18,iv start),(17,iv n),(5,.win (.out m) 2 0 0),(3,.win (.out 0) 1 0 N),(1,.ptr (.loc 1) 0)],[(.loc 1,.cells c1)],[(.out m,.cells K),(.out 0,.cells ss)],m+1⟩
def Bs (m:Nat) (c1 K ss:List ac) (len:Nat) (start n:Int) (N:Nat) (to:Int):ab:=⟨[(128,bv false),(10,iv to),(18,iv start),(17,iv n),(5,.win (.out m) 2 0 len),(3,.win (.out 0) 1 0 N),(1,.ptr (.loc 1) 0)],[(.loc 1,.cells c1)],[(.out m,.cells K),(.out 0,.cells ss)],m+1⟩
def Ni (K ss:List ac):ab:=⟨[(2,bv true)],[],[(.out 1,.cells K),(.out 0,.cells ss)],2⟩
theorem Qo {p sl:Int} {es:List al} {d2:al} {K ss:List ac} {start n:Int} {N:Nat} {T:Exit->aa->Prop} (e:T (.exit 2) ((Eo 1 (cC p sl (.slice es) d2) K ss start n N).an Tryz.f68.ntmps)) :
  KD (roundOf Tryz.f68 1) T ((oL 1 (cC p sl (.slice es) d2) K ss 0 start n N).an Tryz.f68.ntmps):=by
 refine ay [] [] (H:=hFC) (live:=rH) (by kernel_rfl) ?_;exact oe e
theorem F4 {p sl:Int} {es:List al} {d2:al} (g2:cV d2) {K K2 K3 ss s1 s2 s3:List ac} {k o vo tof N:Nat} {start n vi ev sv ll to tv:Int} {els:List al} {s:ke} {ok ce c2 cl t1 t2:Bool} {op dst a b im:Int} {nm:List UInt8} {dx:al} {xk:Int} {tn:List UInt8} {ix:Int} {dt:al} {ck ci:Int} {cs:List UInt8} {T:Exit->aa->Prop}
  (f1:jB (env ak.aC) 146 [.win (.out 1) 2 0 (k+1)] none=some ⟨iv (Int.ofNat (k+1)),.keep⟩) (f2:aH 0 (Int.ofNat (k+1))=true)
  (f3:aq (env ak.aC) 146 [.win (.out 1) 2 0 (k+1),iv (ap .i64 (Int.ofNat (k+1) - 1))]=some ⟨.ptr (.out 1) o,.keep⟩)
  (f4:er (env ak.aC) false 3 [.ptr (.out 1) o] (some (.cells K))=some ⟨iv vi,.keep⟩)
  (f5:aq (env ak.aC) 23 [.dat (.slice es),iv vi]=some ⟨.ref [i64 op,i64 dst,i64 a,i64 b,i64 im,sb nm,dx,i64 xk,sb tn,i64 ix,dt,i64 ck,i64 ci,sb cs,nl],.keep⟩)
  (f6:ae 58 [iv op] (.tup [.dat s.enc,bv ok]))
  (f7:er (env ak.aC) false 3 [.ptr (.out 1) (o+1)] (some (.cells K))=some ⟨iv ev,.keep⟩) (f8:aB ev 0=ce)
  (f9:aq (env ak.aC) 22 [.win (.out 0) 1 0 N,iv vi]=some ⟨.ptr (.out 0) vo,.keep⟩)
  (f10:er (env ak.aC) false 3 [.ptr (.out 0) vo] (some (.cells ss))=some ⟨iv sv,.keep⟩) (f11:aB sv 2=c2)
  (f12:dR (env ak.aC) 3 [.ptr (.out 0) vo,iv 2] (some (.cells ss))=some ⟨.undef,.set (.cells s2)⟩)
  (f13:eU (env ak.aC) 146 none (some (.tmp 73)) none [.win (.out 1) 2 0 (k+1),iv (ap .i64 (Int.ofNat (k+1) - 1))]=some ⟨.win (.out 1) 2 0 k,.keep⟩)
  (f14:eU (env ak.aC) 146 none (some (.tmp 103)) none [.win (.out 1) 2 0 (k+1),iv (ap .i64 (Int.ofNat (k+1) - 1))]=some ⟨.win (.out 1) 2 0 k,.keep⟩)
  (f15:dR (env ak.aC) 3 [.ptr (.out 0) vo,iv 1] (some (.cells ss))=some ⟨.undef,.set (.cells s1)⟩)
  (f16:ae 40 [.dat (aP p sl (.slice es) d2),iv vi] (.dat (.slice els)))
  (f17:jB (env ak.aC) 22 [.dat (.slice els)] none=some ⟨iv ll,.keep⟩) (f18:aB ev ll=cl)
  (f19:dR (env ak.aC) 3 [.ptr (.out 0) vo,iv 2] (some (.cells s1))=some ⟨.undef,.set (.cells s3)⟩)
  (f20:cl=false->aq (env ak.aC) 22 [.dat (.slice els),iv ev]=some ⟨.ref [iN to],.keep⟩)
  (f21:dR (env ak.aC) 3 [.ptr (.out 1) (o+1),iv (ap .i64 (ev+1))] (some (.cells K))=some ⟨.undef,.set (.cells K2)⟩)
  (f22:cl=false->aq (env ak.aC) 22 [.win (.out 0) 1 0 N,iv to]=some ⟨.ptr (.out 0) tof,.keep⟩)
  (f23:cl=false->er (env ak.aC) false 3 [.ptr (.out 0) tof] (some (.cells s1))=some ⟨iv tv,.keep⟩) (f24:aB tv 1=t1) (f25:aB tv 2=t2)
  (f26:cl=false->bU (env ak.aC) true 146 [.win (.out 1) 2 0 (k+1),.dat (.slice [.agg [iN to,iN 0]])] (some (.cells K2))=some ⟨.undef,.grow (.cells K3) 2 (k+2)⟩) (f27:cl=false->bC (.cells K3)=true)
  (n1:bC (.cells s1)=true) (n2:bC (.cells s2)=true) (n3:bC (.cells s3)=true) (n4:bC (.cells K2)=true)
  (e1:(ce&&(c2||s.call))=true->T .normal ((oL 1 (cC p sl (.slice es) d2) K s2 k start n N).an Tryz.f68.ntmps))
  (e2:(ce&&(c2||s.call))=false->cl=true->T .normal ((oL 1 (cC p sl (.slice es) d2) K s3 k start n N).an Tryz.f68.ntmps))
  (e3:(ce&&(c2||s.call))=false->cl=false->t1=true->T .ret ((Ni K2 s1).an Tryz.f68.ntmps))
  (e4:(ce&&(c2||s.call))=false->cl=false->t1=false->t2=true->T .normal ((Bs 1 (cC p sl (.slice es) d2) K2 s1 (k+1) start n N to).an Tryz.f68.ntmps))
  (e5:(ce&&(c2||s.call))=false->cl=false->t1=false->t2=false->T .normal ((oL 2 (cC p sl (.slice es) d2) K3 s1 (k+2) start n N).an Tryz.f68.ntmps)) :
  KD (roundOf Tryz.f68 1) T ((oL 1 (cC p sl (.slice es) d2) K ss (k+1) start n N).an Tryz.f68.ntmps):=by
 have q3:=@aN false 1 p sl (.slice es) _ (.inr ⟨_,rfl⟩) g2;clear g2;obtain⟨w,y1,y2,y3,y4,y5,y6,y7,y8,y9,y10,y11⟩:=s;refine ay [49,58,600069,600080,93,600099,600118,123,128,500133] [25,29,31,38,39,48,55,56,57,68,69,100069,72,74,79,80,100080,81,85,90,92,98,99,100099,102,104,109,110,115,100118,121,122,126,127,133] (H:=hFC) (live:=rH) (by kernel_rfl) ?_;refine oo f1 ?_;refine oo f1 ?_;refine oo f3 ?_;refine oo f4 ?_;refine oo f5 ?_;refine on f6 ?_;refine oo f7 ?_;refine ob f8 ?_
 cases ce
 ·refine oo f4 ?_;refine oo f9 ?_;refine oo f15 ?_;refine ob n1 ?_;refine oo q3 ?_;refine oo f4 ?_;refine on f16 ?_;refine oo f7 ?_;refine oo f17 ?_;refine ob f18 ?_
  cases cl
  ·refine oo f7 ?_;refine oo (f20 rfl) ?_;refine oo f7 ?_;refine oo f21 ?_;refine ob n4 ?_;refine oo (f22 rfl) ?_;refine oo (f23 rfl) ?_;refine ob f24 ?_
   cases t1
   ·refine oo (f22 rfl) ?_;refine oo (f23 rfl) ?_;refine ox f25 ?_
    cases t2
    ·refine oo (f26 rfl) ?_;refine ob (f27 rfl) ?_;exact oe (e5 rfl rfl rfl rfl)
    exact oe (e4 rfl rfl rfl rfl)
   exact oe (e3 rfl rfl rfl)
  refine oo f4 ?_;refine oo f9 ?_;refine oo f19 ?_;refine ob n3 ?_;refine oo f1 ?_;refine oo f13 ?_;exact oe (e2 rfl rfl)
 refine oo f4 ?_;refine oo f9 ?_;refine oo f10 ?_;refine ob f11 ?_
 cases c2
 ·cases y9
  ·refine oo f4 ?_;refine oo f9 ?_;refine oo f15 ?_;refine ob n1 ?_;refine oo q3 ?_;refine oo f4 ?_;refine on f16 ?_;refine oo f7 ?_;refine oo f17 ?_;refine ob f18 ?_
   cases cl
   ·refine oo f7 ?_;refine oo (f20 rfl) ?_;refine oo f7 ?_;refine oo f21 ?_;refine ob n4 ?_;refine oo (f22 rfl) ?_;refine oo (f23 rfl) ?_;refine ob f24 ?_
    cases t1
    ·refine oo (f22 rfl) ?_;refine oo (f23 rfl) ?_;refine ox f25 ?_
     cases t2
     ·refine oo (f26 rfl) ?_;refine ob (f27 rfl) ?_;exact oe (e5 rfl rfl rfl rfl)
     exact oe (e4 rfl rfl rfl rfl)
    exact oe (e3 rfl rfl rfl)
   refine oo f4 ?_;refine oo f9 ?_;refine oo f19 ?_;refine ob n3 ?_;refine oo f1 ?_;refine oo f13 ?_;exact oe (e2 rfl rfl)
  refine oo f4 ?_;refine oo f9 ?_;refine oo f12 ?_;refine ob n2 ?_;refine oo f1 ?_;refine oo f13 ?_;exact oe (e1 rfl)
 refine oo f4 ?_;refine oo f9 ?_;refine oo f12 ?_;refine ob n2 ?_;refine oo f1 ?_;refine oo f13 ?_;exact oe (e1 rfl)
theorem L6 {p sl:Int} {es:List al} {d2:al} (g2:cV d2) {K ss s1 s2 s3:List ac} {k o vo N:Nat} {start n vi sv:Int} {s:ke} {ok c2:Bool} {op dst a b im:Int} {nm:List UInt8} {dx:al} {xk:Int} {tn:List UInt8} {ix:Int} {dt:al} {ck ci:Int} {cs:List UInt8} {T:Exit->aa->Prop}
  (f1:jB (env ak.aC) 146 [.win (.out 1) 2 0 (k+1)] none=some ⟨iv (Int.ofNat (k+1)),.keep⟩) (f2:aH 0 (Int.ofNat (k+1))=true)
  (f3:aq (env ak.aC) 146 [.win (.out 1) 2 0 (k+1),iv (ap .i64 (Int.ofNat (k+1) - 1))]=some ⟨.ptr (.out 1) o,.keep⟩)
  (f4:er (env ak.aC) false 3 [.ptr (.out 1) o] (some (.cells K))=some ⟨iv vi,.keep⟩)
  (f5:aq (env ak.aC) 23 [.dat (.slice es),iv vi]=some ⟨.ref [i64 op,i64 dst,i64 a,i64 b,i64 im,sb nm,dx,i64 xk,sb tn,i64 ix,dt,i64 ck,i64 ci,sb cs,nl],.keep⟩)
  (f6:ae 58 [iv op] (.tup [.dat s.enc,bv ok]))
  (f7:er (env ak.aC) false 3 [.ptr (.out 1) (o+1)] (some (.cells K))=some ⟨iv 0,.keep⟩)
  (f9:aq (env ak.aC) 22 [.win (.out 0) 1 0 N,iv vi]=some ⟨.ptr (.out 0) vo,.keep⟩)
  (f10:er (env ak.aC) false 3 [.ptr (.out 0) vo] (some (.cells ss))=some ⟨iv sv,.keep⟩) (f11:aB sv 2=c2)
  (f12:dR (env ak.aC) 3 [.ptr (.out 0) vo,iv 2] (some (.cells ss))=some ⟨.undef,.set (.cells s2)⟩)
  (f13:eU (env ak.aC) 146 none (some (.tmp 73)) none [.win (.out 1) 2 0 (k+1),iv (ap .i64 (Int.ofNat (k+1) - 1))]=some ⟨.win (.out 1) 2 0 k,.keep⟩)
  (f14:eU (env ak.aC) 146 none (some (.tmp 103)) none [.win (.out 1) 2 0 (k+1),iv (ap .i64 (Int.ofNat (k+1) - 1))]=some ⟨.win (.out 1) 2 0 k,.keep⟩)
  (f15:dR (env ak.aC) 3 [.ptr (.out 0) vo,iv 1] (some (.cells ss))=some ⟨.undef,.set (.cells s1)⟩)
  (f16:ae 40 [.dat (aP p sl (.slice es) d2),iv vi] (.dat nl))
  (f19:dR (env ak.aC) 3 [.ptr (.out 0) vo,iv 2] (some (.cells s1))=some ⟨.undef,.set (.cells s3)⟩)
  (n1:bC (.cells s1)=true) (n2:bC (.cells s2)=true) (n3:bC (.cells s3)=true) 
  (e1:(c2||s.call)=true->T .normal ((oL 1 (cC p sl (.slice es) d2) K s2 k start n N).an Tryz.f68.ntmps))
  (e2:(c2||s.call)=false->T .normal ((oL 1 (cC p sl (.slice es) d2) K s3 k start n N).an Tryz.f68.ntmps)) :
  KD (roundOf Tryz.f68 1) T ((oL 1 (cC p sl (.slice es) d2) K ss (k+1) start n N).an Tryz.f68.ntmps):=by
 have q3:=@aN false 1 p sl (.slice es) _ (.inr ⟨_,rfl⟩) g2;clear g2;obtain⟨w,y1,y2,y3,y4,y5,y6,y7,y8,y9,y10,y11⟩:=s;refine ay [58,600069,600080,600099] [25,29,31,38,39,48,55,56,57,68,69,100069,72,74,79,80,100080,81,85,90,98,99,100099,102,104] (H:=hFC) (live:=rH) (by kernel_rfl) ?_;refine oo f1 ?_;refine oo f1 ?_;refine oo f3 ?_;refine oo f4 ?_;refine oo f5 ?_;refine on f6 ?_;refine oo f7 ?_;refine oo f4 ?_;refine oo f9 ?_;refine oo f10 ?_;refine ob f11 ?_
 cases c2
 ·cases y9
  ·refine oo f4 ?_;refine oo f9 ?_;refine oo f15 ?_;refine ob n1 ?_;refine oo q3 ?_;refine oo f4 ?_;refine on f16 ?_;refine oo f7 ?_;refine oo f4 ?_;refine oo f9 ?_;refine oo f19 ?_;refine ob n3 ?_;refine oo f1 ?_;refine oo f13 ?_;exact oe (e2 rfl)
  refine oo f4 ?_;refine oo f9 ?_;refine oo f12 ?_;refine ob n2 ?_;refine oo f1 ?_;refine oo f13 ?_;exact oe (e1 rfl)
 refine oo f4 ?_;refine oo f9 ?_;refine oo f12 ?_;refine ob n2 ?_;refine oo f1 ?_;refine oo f13 ?_;exact oe (e1 rfl)
noncomputable def UW:Hints:=⟨bS,E6,bg,rowsOf bg 61⟩
theorem rJ {es:List al} {x y:Int} {i:Nat} {c1 c2:Bool} (h1:aH (Int.ofNat i) (Int.ofNat es.length)=c1) (h2:c1=true->aq (env ak.aC) 22 [.dat (.slice es),.dat (.flat (.int .i64 (Int.ofNat i)))]=some ⟨.ref [iN y],.keep⟩) (h3:aH y x=c2) {T:Exit->aa->Prop}
  (e1:(c1&&c2)=true->T .normal ((Rs es x (ap .i64 (Int.ofNat i+1))).an Tryz.f61.ntmps)) (e2:(c1&&c2)=false->T (.exit 0) ((KY es x (Int.ofNat i)).an Tryz.f61.ntmps)) :
  KD (roundOf Tryz.f61 0) T ((Rs es x (Int.ofNat i)).an Tryz.f61.ntmps):=by
 refine ay [9,16] [13] (H:=UW) (live:=zm) (by kernel_rfl) ?_;refine ob h1 ?_
 cases c1
 ·exact oe (e2 rfl)
 refine oo (h2 rfl) ?_;refine ob h3 ?_
 cases c2
 ·exact oe (e2 rfl)
 exact oe (e1 rfl)
theorem Fz {x:Int} {T:Exit->aa->Prop} (e2:T (.exit 0) ((Jr x (Int.ofNat 0)).an Tryz.f61.ntmps)) :
  KD (roundOf Tryz.f61 0) T ((KX x (Int.ofNat 0)).an Tryz.f61.ntmps):=by
 refine ay [] [] (H:=UW) (live:=zm) (by kernel_rfl) ?_;exact oe e2
theorem FA {x:Int} (a2:bU (env ak.aC) false 22 [.own [],.dat (.slice [iN x])] none=some ⟨.own [iN x],.keep⟩):ae 61 [.dat nl,iv x] (.own [iN x]):=by
 have hl:KD (.loop (roundOf Tryz.f61 0)) (fun e s=>e=.exit 0/\s=(Jr x (Int.ofNat 0)).an Tryz.f61.ntmps) ((KX x (Int.ofNat 0)).an Tryz.f61.ntmps):=
  aZ (St:=fun _=>(KX x (Int.ofNat 0)).an Tryz.f61.ntmps) 0 (fun i hi=>absurd hi (Nat.not_lt_zero i)) (Fz ⟨rfl,rfl⟩) (i:=0) (Nat.le_refl _)
 refine co [] [40,44] (x:=.of Tryz.f61 E6 zm) ?_;refine lo hl ?_;rintro ex s ⟨rfl,rfl⟩;refine⟨_,rfl,?_⟩;refine oo a2 ?_;refine oo a2 ?_;exact fi
theorem FB {e0:al} {es p q:List al} {x y:Int} {i:Nat} {c1 c2:Bool} (h1:aH (Int.ofNat i) (Int.ofNat (e0::es).length)=c1) (h2:c1=true->aq (env ak.aC) 22 [.dat (.slice (e0::es)),.dat (.flat (.int .i64 (Int.ofNat i)))]=some ⟨.ref [iN y],.keep⟩) (h3:aB y x=c2)
  (hl:KD (.loop (roundOf Tryz.f61 0)) (fun e s=>e=.exit 0/\s=(KY (e0::es) x (Int.ofNat i)).an Tryz.f61.ntmps) ((Rs (e0::es) x (Int.ofNat 0)).an Tryz.f61.ntmps))
  (s1:eU (env ak.aC) 22 none (some (.tmp 35)) none [.dat (.slice (e0::es)),iv (Int.ofNat i)]=some ⟨.dat (.slice p),.keep⟩)
  (s2:eU (env ak.aC) 22 (some (.tmp 42)) none none [.dat (.slice (e0::es)),iv (Int.ofNat i)]=some ⟨.dat (.slice q),.keep⟩)
  (a1:bU (env ak.aC) false 22 [.own [],.dat (.slice p)] none=some ⟨.own p,.keep⟩)
  (a2:bU (env ak.aC) false 22 [.own p,.dat (.slice [iN x])] none=some ⟨.own (p++[iN x]),.keep⟩)
  (a3:bU (env ak.aC) false 22 [.own (p++[iN x]),.dat (.slice q)] none=some ⟨.own (p++[iN x]++q),.keep⟩) :
  ae 61 [.dat (.slice (e0::es)),iv x] (match c1&&c2 with|true=>.dat (.slice (e0::es))|false=>.own (p++[iN x]++q)):=by
 refine co [23,30] [27,36,43,37,40,44] (x:=.of Tryz.f61 E6 zm) ?_;refine lo hl ?_;rintro ex s ⟨rfl,rfl⟩;refine⟨_,rfl,?_⟩;refine ob h1 ?_
 cases c1
 ·refine oo s1 ?_;refine oo s2 ?_;refine oo a1 ?_;refine oo a2 ?_;refine oo a3 ?_;exact fi
 refine oo (h2 rfl) ?_;refine ob h3 ?_
 cases c2
 ·refine oo s1 ?_;refine oo s2 ?_;refine oo a1 ?_;refine oo a2 ?_;refine oo a3 ?_;exact fi
 exact fi
theorem Wi {l:List Int} {x:Int} (hn:l.length < 100000000):ae 61 [.dat (sl (l.map iN)),iv x] (.dat (sl ((Dm l x).map iN))):=by
 cases l with
 | nil=>exact jR (FA (gD (a:=[]) (b:=[x]) (by simp)))
 | cons y0 r=>
  obtain⟨l,hl⟩:∃l,l=y0::r:=⟨_,rfl⟩;have hnl:(l.map iN)=iN y0::r.map iN:=by rw[hl];rfl
  have hne:sl (l.map iN)=.slice (l.map iN):=by rw[hnl];rfl
  rw[←hl] at hn ⊢;have hle:=PV (l:=l) (x:=x);have hloop:KD (.loop (roundOf Tryz.f61 0)) (fun e s=>e=.exit 0/\s=(KY (l.map iN) x (Int.ofNat (kW l x))).an Tryz.f61.ntmps) ((Rs (l.map iN) x (Int.ofNat 0)).an Tryz.f61.ntmps):=by
   refine aZ (St:=fun i=>(Rs (l.map iN) x (Int.ofNat i)).an Tryz.f61.ntmps) (kW l x) ?_ ?_ (i:=0) (Nat.zero_le _)
   ·intro i hi;have hil:i < l.length:=by omega
    have hg:l[i]?=some l[i]:=List.getElem?_eq_getElem hil;refine @rJ _ _ (l[i]) _ true true (bc (by simpa using hil)) (fun _=>uY hg) (PU hi hg) _ (fun _=>?_) (fun h=>by simp at h);rw[ba (by omega)];rfl
   cases hg:l[kW l x]? with
   | none=>
    have:l.length<=kW l x:=by simpa using hg
    exact @rJ _ _ 0 _ false (aH 0 x) (bW (by simp;omega)) (fun h=>by simp at h) rfl _ (fun h=>by simp at h) (fun _=>⟨rfl,rfl⟩)
   | some y=>
    have hil:=(List.getElem?_eq_some_iff.1 hg).1;exact @rJ _ _ y _ true false (bc (by simpa using hil)) (fun _=>uY hg) (PW hg) _ (fun h=>by simp at h) (fun _=>⟨rfl,rfl⟩)
  have s1:=Ew (l:=l) hle (.tmp 35);have s2:=yg (l:=l) hle (.tmp 42);have a1:=gD (a:=[]) (b:=l.take (kW l x)) (by simp;omega);have a2:=gD (a:=l.take (kW l x)) (b:=[x]) (by simp;omega);have a3:=gD (a:=l.take (kW l x)++[x]) (b:=l.drop (kW l x)) (by simp;omega);rw[List.map_append] at a3;have hins:sl ((eY l (kW l x) x).map iN)=.slice ((l.take (kW l x)).map iN++[x].map iN++(l.drop (kW l x)).map iN):=by
   have:(eY l (kW l x) x).map iN=(l.take (kW l x)).map iN++[x].map iN++(l.drop (kW l x)).map iN:=by simp[eY]
   rw[←this]
   cases h:(eY l (kW l x) x).map iN with
   | nil=>simp[eY] at h
   | cons _ _=>rfl
  rw[hnl] at s1 s2 hloop hne;rw[hnl,hne];unfold Dm
  cases hg:l[kW l x]? with
  | none=>
   have:l.length<=kW l x:=by simpa using hg
   have h:=@FB _ _ _ _ _ 0 _ false (aB 0 x) (bW (by rw[←hnl];simp;omega)) (fun h=>by simp at h) rfl hloop s1 s2 a1 a2 a3;dsimp only;rw[hins];exact jR h
  | some y=>
   have hil:=(List.getElem?_eq_some_iff.1 hg).1;have h:=@FB _ _ _ _ _ y _ true (aB y x) (bc (by rw[←hnl];simpa using hil)) (fun _=>by rw[←hnl];exact uY hg) rfl hloop s1 s2 a1 a2 a3;dsimp only;generalize aB y x=c at h
   cases c
   ·dsimp only;rw[hins];exact jR h
   dsimp only;rw[hnl];exact h
def csD (c12 c16 c19 c13 cl:Bool) (im j:Int) (l2:List al):al:=
 if c12=true then .slice [iN im] else if (c16||c19)=true then nl else if c13=true then (if cl=true then .slice l2 else .slice [iN im]) else if cl=true then .slice [iN j] else nl
theorem Yo {p s:Int} {es:List al} {d2:al} {i:Int} (g2:cV d2) {op dst a b im:Int} {nm:List UInt8} {dx:al} {k:Int} {tn:List UInt8} {ix:Int} {dt:al} {ck ci:Int} {cs:List UInt8} (g3:cV dx) (g4:cV dt)
  (h0:aH i 0=false) (h1:aH i (Int.ofNat es.length)=true)
  (hi:aq (env ak.aC) 23 [.dat (.slice es),.dat (.flat (.int .i64 i))]=some ⟨.ref [i64 op,i64 dst,i64 a,i64 b,i64 im,sb nm,dx,i64 k,sb tn,i64 ix,dt,i64 ck,i64 ci,sb cs,nl],.keep⟩)
  {c12 c16 c19 c13 cl:Bool} (e12:aB op 12=c12) (e16:aB op 16=c16) (e19:aB op 19=c19) (e13:aB op 13=c13) (hl:aH (ap .i64 (i+1)) (Int.ofNat es.length)=cl) {l2:List al}
  (k1:ae 61 [.dat nl,iv im] (.dat (.slice [iN im]))) (k2:ae 61 [.dat nl,iv (ap .i64 (i+1))] (.dat (.slice [iN (ap .i64 (i+1))]))) (k3:ae 61 [.dat (.slice [iN im]),iv (ap .i64 (i+1))] (.dat (.slice l2))) :
  ae 29 [.dat (aP p s (.slice es) d2),iv i] (match c12 with|true=>.own [iN im]|false=>.dat (csD c12 c16 c19 c13 cl im (ap .i64 (i+1)) l2)):=by
 have q1:=@aS p s (.slice es) _ (.inr ⟨_,rfl⟩) g2;have q2:=@xq false op dst a b im nm _ k tn ix _ ck ci cs g3 g4;have q3:=@G3 6 op dst a b im nm _ k tn ix _ ck ci cs g3 g4;clear g2 g3 g4;refine co [8,14,24,29,30,32,42] [2,19,20,100006] (x:=.of Tryz.f29 OG PH) ?_;refine oo q1 ?_;refine ob h0 ?_;refine ox h1 ?_;refine oo hi ?_;refine oo q2 ?_;refine oo q3 ?_;refine ob e12 ?_
 cases c12
 ·refine ob e16 ?_
  cases c16
  ·refine ob e19 ?_
   cases c19
   ·refine ob e13 ?_
    cases c13
    ·refine ob hl ?_
     cases cl
     ·exact fi
     refine on k2 ?_;exact fi
    refine on k1 ?_;refine ob hl ?_
    cases cl
    ·exact fi
    refine on k3 ?_;exact fi
   exact fi
  exact fi
 exact fi
theorem Ju {op:Int} (h1:op≠12) (h2:op≠16) (h3:op≠19):(jM (dI op)).fin=false:=by
 cases hq:dI op with
 | none=>rfl
 | some s=>
  obtain⟨n,rfl,h4,h5,h6⟩:=oP hq;have hc:n=1∨n=2∨n=3∨n=4∨n=5∨n=6∨n=7∨n=8∨n=9∨n=10∨n=11∨n=12∨n=13∨n=14∨n=15∨n=16∨n=17∨n=18∨n=19∨n=20∨n=21∨n=22:=by omega
  rcases hc with rfl|rfl|rfl|rfl|rfl|rfl|rfl|rfl|rfl|rfl|rfl|rfl|rfl|rfl|rfl|rfl|rfl|rfl|rfl|rfl|rfl|rfl <;> first
   |(cases h6;rfl)
   |exact absurd rfl h1
   |exact absurd rfl h2
   |exact absurd rfl h3
theorem Ez {op:Int} (h1:op≠13):(jM (dI op)).cond=false:=by
 cases hq:dI op with
 | none=>rfl
 | some s=>
  obtain⟨n,rfl,h4,h5,h6⟩:=oP hq;have hc:n=1∨n=2∨n=3∨n=4∨n=5∨n=6∨n=7∨n=8∨n=9∨n=10∨n=11∨n=12∨n=13∨n=14∨n=15∨n=16∨n=17∨n=18∨n=19∨n=20∨n=21∨n=22:=by omega
  rcases hc with rfl|rfl|rfl|rfl|rfl|rfl|rfl|rfl|rfl|rfl|rfl|rfl|rfl|rfl|rfl|rfl|rfl|rfl|rfl|rfl|rfl|rfl <;> first
   |(cases h6;rfl)
   |exact absurd rfl h1
theorem P0 (a x:Int):Dm [a] x=qx x a:=by
 unfold Dm qx
 by_cases h:a < x
 ·rw[if_pos h];have e:kW [a] x=1:=by simp[kW,cW,h]
  rw[e];rfl
 rw[if_neg h];have e:kW [a] x=0:=by simp[kW,cW,h]
 rw[e];show (match aB a x with|true=>[a]|false=>eY [a] 0 x)=_
 by_cases h2:x=a
 ·subst h2;rw[eB,if_pos rfl]
 rw[if_neg h2]
 have:aB a x=false:=by rw[ct];simpa using fun e=>h2 e.symm
 rw[this];rfl
theorem Wh {p s:Int} {ins:List Ins} {d2:al} {i:Nat} {x:Ins} (g2:cV d2) (hx:ins[i]?=some x) (hn:ins.length < 1000000000) :
  ae 29 [.dat (aP p s (.slice (encI ins)) d2),iv (Int.ofNat i)] (.dat (sl ((gV ins.length x.op x.im i).map iN))):=by
 have hi:=tm hx;obtain⟨op,dst,a,b,im,nm,az,ar,⟨k,tn,ix,la⟩,ck,ci,cs⟩:=x;have hil:i < ins.length:=(List.getElem?_eq_some_iff.1 hx).1;have hw:ap .i64 (Int.ofNat i+1)=Int.ofNat (i+1):=ba (by omega);have hlt:aH (ap .i64 (Int.ofNat i+1)) (Int.ofNat (encI ins).length)=decide (i+1 < ins.length):=by
  rw[hw,bP,gI]
 have k1:=fun y=>jR (FA (x:=y) (gD (a:=[]) (b:=[y]) (by simp)))
 have k3:ae 61 [.dat (.slice [iN im]),iv (ap .i64 (Int.ofNat i+1))] (.dat (.slice ((qx (Int.ofNat (i+1)) im).map iN))):=by
  have h:=Wi (l:=[im]) (x:=ap .i64 (Int.ofNat i+1)) (by simp);rw[P0,hw] at h
  have:=sc (Int.ofNat (i+1)) im
  rw[hw];generalize qx (Int.ofNat (i+1)) im=l at *
  cases l with
  | nil=>exact absurd rfl this
  | cons a r=>exact h
 have h:=Yo (p:=p) (s:=s) (es:=encI ins) (i:=Int.ofNat i) g2 (dH az (ar.map iN)) (dz (ax la)) (by rw[cW];simp) (by rw[bP,gI,decide_eq_true hil]) hi (op:=op) rfl rfl rfl rfl hlt (k1 im) (k1 _) k3;rw[hw] at h;show ae 29 _ (.dat (sl ((gV ins.length op im i).map iN)))
 by_cases h12:op=12
 ·subst h12;exact jR h
 rw[dj h12] at h;refine Eq.mp (congrArg (fun d=>ae 29 _ (.dat d)) ?_) h
 by_cases h16:op=16
 ·subst h16;rfl
 by_cases h19:op=19
 ·subst h19;rfl
 rw[dj h16,dj h19];unfold gV csD;rw[Ju h12 h16 h19,dj h12]
 by_cases h13:op=13
 ·subst h13;have e1:(jM (dI 13)).cond=true:=rfl;have e2:aB 13 13=true:=rfl;rw[e1,e2]
  cases decide (i+1 < ins.length) with
  | true=>
   simp only[Bool.false_eq_true,if_false,Bool.or_self,if_true,Bool.not_false,Bool.true_and,Bool.or_false]
   have:=sc (Int.ofNat (i+1)) im
   generalize qx (Int.ofNat (i+1)) im=l at *
   cases l with
   | nil=>exact absurd rfl this
   | cons a r=>rfl
  | false=>rfl
 rw[Ez h13,dj h13]
 cases decide (i+1 < ins.length) <;> rfl
def fO (ins:List Ins) (i:Nat):List Nat:=((match ins[i]? with|some x=>gV ins.length x.op x.im i|none=>[]).map Int.toNat).filter (fun j=>decide (j < ins.length))
def Am (ins:List Ins) (i:Nat):Bool:=match ins[i]? with|some x=>(jM (dI x.op)).call|none=>false
def bJ (ins:List Ins):Gr:=⟨ins.length,fO ins,Am ins,fun i _ j hj=>by
 unfold fO at hj
 have:=(List.mem_filter.1 hj).2
 simpa using this⟩
def oZ (ins:List Ins):Prop:=∀(i:Nat) (x:Ins),ins[i]?=some x->∀j∈gV ins.length x.op x.im i,0<=j/\j < Int.ofNat ins.length
theorem rY {ins:List Ins} (h:oZ ins) {i:Nat} {x:Ins} (hx:ins[i]?=some x):(fO ins i).map Int.ofNat=gV ins.length x.op x.im i:=by
 have h1:=h i x hx;unfold fO;rw[hx];dsimp only;generalize gV ins.length x.op x.im i=l at h1
 induction l with
 | nil=>rfl
 | cons a r ih=>
  have ha:=h1 a List.mem_cons_self;have ih:=ih (fun j hj=>h1 j (List.mem_cons_of_mem _ hj));have hl:a.toNat < ins.length:=by have:=ha.2;simp only[Int.ofNat_eq_natCast] at this;omega
  rw[List.map_cons,List.filter_cons,if_pos (by simpa using hl),List.map_cons,ih]
  have:Int.ofNat a.toNat=a:=Int.toNat_of_nonneg ha.1
  rw[this]
theorem KV (n:Nat) (op im:Int) (i:Nat):(gV n op im i).length<=2:=by
 unfold gV
 split
 ·unfold qx;split
  ·simp
  split <;> simp
 ·simp
 ·simp
 simp
theorem kh (ins:List Ins) (i:Nat):(fO ins i).length<=2:=by
 unfold fO;refine Nat.le_trans (List.length_filter_le _ _) ?_;rw[List.length_map]
 split
 ·exact KV _ _ _ _
 simp
theorem zd {ne sl:Int} {ins:List Ins} (h:ins.all (fun x=>ig (Int.ofNat ins.length) ne sl x)=true):oZ ins:=by
 intro i x hx j hj;have hm:x∈ins:=List.mem_of_getElem? hx;have hi:=(List.getElem?_eq_some_iff.1 hx).1;have hv:=List.all_eq_true.1 h x hm;have him:(x.op=12∨x.op=13)->0<=x.im/\x.im < Int.ofNat ins.length:=by
  intro ho;unfold ig at hv
  split at hv
  ·simp at hv
  simp only[Bool.and_eq_true] at hv;have h2:=hv.2.1;unfold FE at h2
  have:(aB x.op 12||aB x.op 13)=true:=by
   rcases ho with h|h <;> rw[h] <;> rfl
  rw[if_pos this] at h2;simp only[Bool.and_eq_true,Bool.not_eq_true',cW,decide_eq_false_iff_not,decide_eq_true_eq] at h2;omega
 have hc:(jM (dI x.op)).cond=true∨aB x.op 12=true->x.op=12∨x.op=13:=by
  rintro (h|h)
  ·by_cases h13:x.op=13
   ·exact .inr h13
   exfalso
   rw[Ez h13] at h;simp at h
  rw[ct] at h;exact .inl (by simpa using h)
 have hsm:∀{a b j:Int},j∈qx a b->j=a∨j=b:=by
  intro a b j h;unfold qx at h
  split at h
  ·simp at h;rcases h with h|h
   ·exact .inr h
   exact .inl h
  split at h
  ·simp at h;exact .inl h
  simp at h;exact h
 unfold gV at hj
 split at hj
 ·rename_i h1 h2;simp only[Bool.and_eq_true,decide_eq_true_eq] at h1;simp only[Bool.or_eq_true] at h2;have h3:=him (hc h2)
  rcases hsm hj with h|h
  ·subst h;simp only[Int.ofNat_eq_natCast];omega
  subst h;exact h3
 ·rename_i h1 h2;simp only[Bool.and_eq_true,decide_eq_true_eq] at h1;simp at hj;subst hj;simp only[Int.ofNat_eq_natCast];omega
 ·rename_i h1 h2;simp only[Bool.or_eq_true] at h2;simp at hj;subst hj;exact him (hc h2)
 simp at hj
open Classical in
noncomputable def lm (ins:List Ins):Bool:=decide (bJ ins).xK
theorem xJ {ins:List Ins} (h:(bJ ins).xK):lm ins=true:=by unfold lm;simpa using h
theorem D3 {ins:List Ins} (h:(bJ ins).cover):lm ins=false:=by unfold lm;simpa using Gr.IT h
theorem wk (ins:List Ins) (st:List Nat):∀k,fresh (bJ ins) st k<=8*k
 | 0=>Nat.le_refl _
 | k+1=>by
  have ih:=wk ins st k;have h:((bJ ins).succ k).length<=2:=kh ins k;simp only[fresh]
  split <;> omega
theorem G1 (G:Gr) (st:List Nat) (stk:List (Nat×Nat)):stk.length<=qz G st stk:=by
 unfold qz
 have:stk.length<=(stk.map (fun x=>KL x.2 (G.succ x.1).length)).sum:=by
  induction stk with
  | nil=>simp
  | cons a r ih=>
   simp only[List.map_cons,List.sum_cons,List.length_cons]
   have:1<=KL a.2 (G.succ a.1).length:=by unfold KL;split <;> omega
   omega
 omega
theorem Ib (ins:List Ins) (st:List Nat) (i:Nat):qz (bJ ins) st [(i,0)]<=8*ins.length+1:=by
 have:=wk ins st ins.length
 show fresh (bJ ins) st ins.length+_<=_;simp only[List.map_cons,List.map_nil,List.sum_cons,List.sum_nil,KL,if_true];omega
noncomputable def MR:TI:=match Go.Tp.elemOf (env ak.aC) 146 with|some t=>t|none=>default
theorem Vr:Go.Tp.elemOf (env ak.aC) 146=some MR:=by kernel_rfl
theorem xL:MR.size=2:=by kernel_rfl
theorem WE {m:Name} {n:Nat} (h:n < 1000000000):jB (env ak.aC) 146 [.win m 2 0 n] none=some ⟨iv (Int.ofNat n),.keep⟩:=by
 have e:jB (env ak.aC) 146 [.win m 2 0 n] none=if Nat.ble n lim=true then some ⟨iv (Int.ofNat n),.keep⟩ else none:=by kernel_rfl
 rw[e,if_pos];rw[Nat.ble_eq];simp only[lim];omega
theorem aaB {m:Name} {n k:Nat} (h:k < n):aq (env ak.aC) 146 [.win m 2 0 n,iv (Int.ofNat k)]=some ⟨.ptr m (k*2),.keep⟩:=by
 have:=Go.Tp.xu (m:=m) (off:=0) (s:=2) Vr xL.symm h
 rw[Nat.zero_add] at this;exact this
theorem Ut {m:Name} {k:Nat} (x:Operand):eU (env ak.aC) 146 none (some x) none [.win m 2 0 (k+1),iv (Int.ofNat k)]=some ⟨.win m 2 0 k,.keep⟩:=by
 have e:eU (env ak.aC) 146 none (some x) none [.win m 2 0 (k+1),iv (Int.ofNat k)]=if (Nat.ble 0 k&&Nat.ble k (k+1)&&Nat.beq 2 MR.size)=true then some ⟨.win m 2 0 k,.keep⟩ else none:=by kernel_rfl
 have h1:Nat.ble k (k+1)=true:=by rw[Nat.ble_eq];omega
 rw[e,h1,xL];simp
theorem uh:∀(l:List Int) (k:Nat),ff k (bB l)=bB (l.take k)
 | l,0=>by simp[ff,bB]
 | [],k+1=>by simp[ff,bB]
 | a::r,k+1=>by
  have:=uh r k
  simp only[bB,List.map_cons,ff,List.take_succ_cons] at this ⊢;rw[this]
theorem acg {m:Name} {l:List Int} {k:Nat} (x:Int) (h1:k < 100000000) (h2:2*k<=l.length) :
  bU (env ak.aC) true 146 [.win m 2 0 k,.dat (.slice [.agg [iN x,iN 0]])] (some (.cells (bB l)))=some ⟨.undef,.grow (.cells (bB (l.take (2*k)++[x,0]))) 2 (k+1)⟩:=by
 have e:bU (env ak.aC) true 146 [.win m 2 0 k,.dat (.slice [.agg [iN x,iN 0]])] (some (.cells (bB l))) =
   if (Nat.ble ((k+1)*MR.bytes) 140737488355328&&Nat.ble (k+1) lim&&Nat.ble (k*MR.size) (bB l).length&&!cy (ff (k*MR.size) (bB l)++[iv x,iv 0]))=true
   then some ⟨.undef,.grow (.cells (ff (k*MR.size) (bB l)++[iv x,iv 0])) MR.size (k+1)⟩ else none:=by kernel_rfl
 have e2:ff (k*2) (bB l)++[iv x,iv 0]=bB (l.take (2*k)++[x,0]):=by
  rw[uh,Nat.mul_comm];simp[bB]
 rw[e,xL,e2,qt];have hb:MR.bytes<=1000:=fM (by kernel_rfl);have h3:Nat.ble ((k+1)*MR.bytes) 140737488355328=true:=by
  rw[Nat.ble_eq]
  calc (k+1)*MR.bytes<=100000000*1000:=Nat.mul_le_mul (by omega) hb
   _<=140737488355328:=by decide
 have h4:Nat.ble (k+1) lim=true:=by rw[Nat.ble_eq];simp only[lim];omega
 have h5:Nat.ble (k*2) (bB l).length=true:=by rw[Nat.ble_eq,show (bB l).length=l.length from List.length_map _];omega
 rw[h3,h4,h5];rfl
theorem zS (a b:Nat):aB (Int.ofNat a) (Int.ofNat b)=decide (a=b):=by
 rw[ct]
 by_cases h:a=b
 ·subst h;simp
 rw[decide_eq_false h,beq_eq_false_iff_ne];intro e;exact h (Int.ofNat.inj e)
theorem G2 {st:List Nat} {i:Nat} (m:Name) (v:Nat) (h:i < st.length):dR (env ak.aC) 3 [.ptr m i,iv (Int.ofNat v)] (some (.cells (bB (st.map Int.ofNat))))=some ⟨.undef,.set (.cells (bB ((st.set i v).map Int.ofNat)))⟩:=by
 rw[List.map_set];exact M3 m _ (by simpa using h)
theorem Rc {st:List Nat} {i:Nat} (h:i < st.length):(st.map Int.ofNat)[i]?=some (Int.ofNat (fS st i)):=by
 rw[List.getElem?_map,List.getElem?_eq_getElem h];unfold fS;rw[List.getD_eq_getElem?_getD,List.getElem?_eq_getElem h];rfl
def rZ (stk:List (Nat×Nat)):List Int:=stk.reverse.flatMap (fun x=>[Int.ofNat x.1,Int.ofNat x.2])
theorem mC (i e:Nat) (r:List (Nat×Nat)):rZ ((i,e)::r)=rZ r++[Int.ofNat i,Int.ofNat e]:=by simp[rZ]
theorem lq:∀stk:List (Nat×Nat),(rZ stk).length=2*stk.length
 | []=>rfl
 |(i,e)::r=>by rw[mC,List.length_append,lq r];simp;omega
theorem Jg {ks:List Int} {i e:Nat} {r:List (Nat×Nat)} (h:ks.take (2*(r.length+1))=rZ ((i,e)::r)):ks[r.length*2]?=some (Int.ofNat i)/\ks[r.length*2+1]?=some (Int.ofNat e)/\ks.take (2*r.length)=rZ r/\2*(r.length+1)<=ks.length:=by
 rw[mC] at h;have hl:=lq r;have hlen:2*(r.length+1)<=ks.length:=by
  have:=congrArg List.length h
  rw[List.length_take,List.length_append,hl] at this;simp only[List.length_cons,List.length_nil] at this;omega
 have h1:∀j,j < 2*(r.length+1)->ks[j]?=(rZ r++[Int.ofNat i,Int.ofNat e])[j]?:=by
  intro j hj;rw[←h,List.getElem?_take,if_pos hj]
 refine⟨?_,?_,?_,hlen⟩
 ·rw[h1 _ (by omega),List.getElem?_append_right (by omega),hl,show r.length*2 - 2*r.length=0 by omega];rfl
 ·rw[h1 _ (by omega),List.getElem?_append_right (by omega),hl,show r.length*2+1 - 2*r.length=1 by omega];rfl
 have:=congrArg (List.take (2*r.length)) h
 rw[List.take_take,show min (2*r.length) (2*(r.length+1))=2*r.length by omega] at this;rw[this,←hl,List.take_left]
theorem RL {ks:List Int} {i e:Nat} {r:List (Nat×Nat)} (h:ks.take (2*(r.length+1))=rZ ((i,e)::r)):(ks.set (r.length*2+1) (Int.ofNat (e+1))).take (2*(r.length+1))=rZ ((i,e+1)::r):=by
 have hl:=lq r;rw[List.take_set,h,mC,mC,List.set_append_right _ _ (by omega),hl,show r.length*2+1 - 2*r.length=1 by omega];rfl
noncomputable abbrev ME (p sl:Int) (ins:List Ins) (d2:al) (m:Nat) (ks:List Int) (st:List Nat) (len:Nat) (start:Nat):aa:=(oL m (cC p sl (.slice (encI ins)) d2) (bB ks) (bB (st.map Int.ofNat)) len (Int.ofNat start) (Int.ofNat ins.length) ins.length).an Tryz.f68.ntmps
theorem LY {c1:List ac} {p sl:Int} {d1 d2:al} (hc:c1=cC p sl d1 d2) {K ss:List ac} {len N:Nat} {start n to:Int}:fw bZ ((Bs 1 c1 K ss len start n N to).an Tryz.f68.ntmps) ((oL 1 c1 K ss len start n N).an Tryz.f68.ntmps):=by
 have h:=jq (G:=bZ) (n:=Tryz.f68.ntmps) (Bs 1 c1 K ss len start n N to) (2 ^ 18+2 ^ 17+2 ^ 5+2 ^ 3+2 ^ 1);have e:((gN (Bs 1 c1 K ss len start n N to) (fun l=>dP l (2 ^ 18+2 ^ 17+2 ^ 5+2 ^ 3+2 ^ 1))).an Tryz.f68.ntmps)=((oL 1 c1 K ss len start n N).an Tryz.f68.ntmps):=by kernel_rfl
 rw[e] at h;exact h
theorem TH {p sl:Int} {ins:List Ins} {d2:al} (g2:cV d2) (hv:oZ ins) (hn:ins.length < 1000000) {st:List Nat} {i e start:Nat} {r:List (Nat×Nat)} {ks:List Int} (hI:(bJ ins).Inv st ((i,e)::r)) (hk:ks.take (2*(r.length+1))=rZ ((i,e)::r)) (hb:r.length+1 < 10000000) {Q:Exit->aa->Prop}
  (q1:(fS st i=2∨(bJ ins).call i=true∨e=((bJ ins).succ i).length)->Q .normal (ME p sl ins d2 1 ks (st.set i 2) r.length start))
  (q2:∀j,((bJ ins).succ i)[e]?=some j->fS (st.set i 1) j=1->(e=0->fS st i≠2)->(e=0->(bJ ins).call i=false)->∀ks2,Q .ret ((Ni (bB ks2) (bB ((st.set i 1).map Int.ofNat))).an Tryz.f68.ntmps))
  (q3:∀j ks2,((bJ ins).succ i)[e]?=some j->fS (st.set i 1) j=2->(e=0->fS st i≠2)->(e=0->(bJ ins).call i=false)->ks2.take (2*(r.length+1))=rZ ((i,e+1)::r)->Q .normal (ME p sl ins d2 1 ks2 (st.set i 1) (r.length+1) start))
  (q4:∀j ks3,((bJ ins).succ i)[e]?=some j->fS (st.set i 1) j≠1->fS (st.set i 1) j≠2->(e=0->fS st i≠2)->(e=0->(bJ ins).call i=false)->ks3.take (2*(r.length+2))=rZ ((j,0)::(i,e+1)::r)->Q .normal (ME p sl ins d2 2 ks3 (st.set i 1) (r.length+2) start)) :
  KD (roundOf Tryz.f68 1) Q (ME p sl ins d2 1 ks st (r.length+1) start):=by
 obtain⟨k1,k2,k3,k4⟩:=Jg hk;obtain⟨t1,t2,t3,t4,t5,t6⟩:=hI.top;have t1':i < ins.length:=t1;have hst:st.length=ins.length:=hI.len;have hx:ins[i]?=some ins[i]:=List.getElem?_eq_getElem t1';generalize ins[i]=x at hx;have hcall:(bJ ins).call i=(jM (dI x.op)).call:=by show Am ins i=_;unfold Am;rw[hx]
 have hsucc:=rY hv hx;have hsl:((bJ ins).succ i).length=(gV ins.length x.op x.im i).length:=by rw[←hsucc,List.length_map];rfl
 have hw:ap .i64 (Int.ofNat (r.length+1) - 1)=Int.ofNat r.length:=by
  rw[cF,show Int.ofNat (r.length+1) - 1=Int.ofNat r.length by simp];exact wrap_i64 (by show _<=(r.length:Int);omega) (by show (r.length:Int)<=_;omega)
 have f1:=WE (m:=.out 1) (n:=r.length+1) (by omega);have f2:aH 0 (Int.ofNat (r.length+1))=true:=bc (i:=0) (L:=r.length+1) (by omega);have f3:=@aaB (.out 1) (r.length+1) r.length (by omega);rw[←hw] at f3;have f4:=zq (.out 1) k1;have f5:=tm hx;have f6:=tL x.op;have f7:=zq (.out 1) k2;have f9:=zx (m:=.out 0) (n:=ins.length) t1';have f10:=zq (.out 0) (Rc (st:=st) (i:=i) (by omega));have f12:=G2 (st:=st) (i:=i) (.out 0) 2 (by omega);have f15:=G2 (st:=st) (i:=i) (.out 0) 1 (by omega);have f19:=G2 (st:=st.set i 1) (i:=i) (.out 0) 2 (by rw[List.length_set];omega);rw[List.set_set] at f19;have f13:=Ut (m:=.out 1) (k:=r.length) (.tmp 73);have f14:=Ut (m:=.out 1) (k:=r.length) (.tmp 103);rw[←hw] at f13 f14;have f16:=IZ (p:=p) (sl:=sl) g2 hx (by omega);have hce:aB (Int.ofNat e) 0=decide (e=0):=zS e 0;have hc2:aB (Int.ofNat (fS st i)) 2=decide (fS st i=2):=zS (fS st i) 2
 -- what the two first tests say
 have hno:(decide (e=0)&&(decide (fS st i=2)||(jM (dI x.op)).call))=false->(e=0->fS st i≠2)/\(e=0->(bJ ins).call i=false):=by
  intro h;rw[hcall]
  constructor
  ·intro h0 h2;rw[decide_eq_true h0,decide_eq_true h2] at h;simp at h
  intro h0;rw[decide_eq_true h0] at h;simp only[Bool.true_and,Bool.or_eq_false_iff] at h;exact h.2
 have hyes:(decide (e=0)&&(decide (fS st i=2)||(jM (dI x.op)).call))=true->fS st i=2∨(bJ ins).call i=true∨e=((bJ ins).succ i).length:=by
  intro h;simp only[Bool.and_eq_true,Bool.or_eq_true,decide_eq_true_eq] at h;rw[hcall]
  rcases h.2 with h|h
  ·exact .inl h
  exact .inr (.inl h)
 rw[←hsucc] at f16;generalize hl:(bJ ins).succ i=l at *;have hl':fO ins i=l:=hl;rw[hl'] at f16 hsucc;obtain⟨op,dst,a,b,im,nm,az,ar,⟨xk,tn,ix,la⟩,ck,ci,cs⟩:=x
 cases l with
 | nil=>
  have he:e=0:=by simp at t2;exact t2
  subst he;refine L6 (K:=bB ks) (ss:=bB (st.map Int.ofNat)) g2 f1 f2 f3 f4 f5 f6 f7 f9 f10 hc2 f12 f13 f14 f15 f16 f19 (dw _) (dw _) (dw _) ?_ ?_
  ·intro h;exact q1 (hyes (by simpa using h))
  intro h;exact q1 (.inr (.inr rfl))
 | cons j0 l0=>
  generalize hll:j0::l0=l at *;have hdl:Go.Proofs.YtmpmgmmcaghacaaGreatDoor.sl ((l.map Int.ofNat).map iN)=.slice ((l.map Int.ofNat).map iN):=by rw[←hll];rfl
  rw[hdl] at f16;have f17:jB (env ak.aC) 22 [.dat (.slice ((l.map Int.ofNat).map iN))] none=some ⟨iv (Int.ofNat l.length),.keep⟩:=by
   have:jB (env ak.aC) 22 [.dat (.slice ((l.map Int.ofNat).map iN))] none=some ⟨iv (Int.ofNat ((l.map Int.ofNat).map iN).length),.keep⟩:=by kernel_rfl
   rw[this,List.length_map,List.length_map]
  have f18:aB (Int.ofNat e) (Int.ofNat l.length)=decide (e=l.length):=zS _ _;have hw2:ap .i64 (Int.ofNat e+1)=Int.ofNat (e+1):=ba (by
   have:l.length<=2:=by rw[←hl'];exact kh ins i
   omega)
  have f21:=M3 (l:=ks) (i:=r.length*2+1) (.out 1) (Int.ofNat (e+1)) (by omega);rw[←hw2] at f21
  by_cases hlt:e < l.length
  ·have hg:l[e]?=some l[e]:=List.getElem?_eq_getElem hlt;generalize l[e]=j at hg;have hjn:j < ins.length:=by
    have hm:j∈fO ins i:=by rw[hl'];exact List.mem_of_getElem? hg
    exact (bJ ins).lt i t1 j hm
   have hg2:(l.map Int.ofNat)[e]?=some (Int.ofNat j):=by rw[List.getElem?_map,hg];rfl
   have f20:=uY hg2;have f22:=zx (m:=.out 0) (n:=ins.length) hjn;have f23:=zq (.out 0) (Rc (st:=st.set i 1) (i:=j) (by rw[List.length_set];omega));have f24:aB (Int.ofNat (fS (st.set i 1) j)) 1=decide (fS (st.set i 1) j=1):=zS _ 1;have f25:aB (Int.ofNat (fS (st.set i 1) j)) 2=decide (fS (st.set i 1) j=2):=zS _ 2;have f26:=@acg (.out 1) (ks.set (r.length*2+1) (ap .i64 (Int.ofNat e+1))) (r.length+1) (Int.ofNat j) (by omega) (by rw[List.length_set];omega);have hts:=RL hk;rw[←hw2] at hts;have hk3:((ks.set (r.length*2+1) (ap .i64 (Int.ofNat e+1))).take (2*(r.length+1))++[Int.ofNat j,0]).take (2*(r.length+2))=rZ ((j,0)::(i,e+1)::r):=by
    rw[hts,mC j 0,List.take_of_length_le]
    ·rfl
    have:=lq ((i,e+1)::r)
    rw[List.length_append,this];simp;omega
   have key:∀Q0:Exit->aa->Prop,(∀ex s,Q ex s->Q0 ex s)->((decide (e=0)&&(decide (fS st i=2)||(jM (dI op)).call))=false->decide (fS (st.set i 1) j=1)=false->decide (fS (st.set i 1) j=2)=true->Q0 .normal ((Bs 1 (cC p sl (.slice (encI ins)) d2) (bB (ks.set (r.length*2+1) (ap .i64 (Int.ofNat e+1)))) (bB ((st.set i 1).map Int.ofNat)) (r.length+1) (Int.ofNat start) (Int.ofNat ins.length) ins.length (Int.ofNat j)).an Tryz.f68.ntmps))->
     KD (roundOf Tryz.f68 1) Q0 (ME p sl ins d2 1 ks st (r.length+1) start):=by
    intro Q0 hQ h4;refine F4 (K:=bB ks) (ss:=bB (st.map Int.ofNat)) (cl:=false) g2 f1 f2 f3 f4 f5 f6 f7 hce f9 f10 hc2 f12 f13 f14 f15 f16 f17 (f18.trans (decide_eq_false (by omega))) f19 (fun _=>f20) f21 (fun _=>f22) (fun _=>f23) f24 f25 (fun _=>f26) (fun _=>dw _) (dw _) (dw _) (dw _) (dw _) ?_ ?_ ?_ ?_ ?_
    ·intro h;exact hQ _ _ (q1 (hyes h))
    ·intro _ h;simp at h
    ·intro h _ h1;obtain⟨a1,a2⟩:=hno h;exact hQ _ _ (q2 j hg (of_decide_eq_true h1) a1 a2 _)
    ·intro h _ h1 h2;exact h4 h h1 h2
    intro h _ h1 h2;obtain⟨a1,a2⟩:=hno h;exact hQ _ _ (q4 j _ hg (of_decide_eq_false h1) (of_decide_eq_false h2) a1 a2 hk3)
   refine gw (key (fun ex s=>Q ex s∨(ex=.normal/\Q .normal (ME p sl ins d2 1 (ks.set (r.length*2+1) (ap .i64 (Int.ofNat e+1))) (st.set i 1) (r.length+1) start)/\s=((Bs 1 (cC p sl (.slice (encI ins)) d2) (bB (ks.set (r.length*2+1) (ap .i64 (Int.ofNat e+1)))) (bB ((st.set i 1).map Int.ofNat)) (r.length+1) (Int.ofNat start) (Int.ofNat ins.length) ins.length (Int.ofNat j)).an Tryz.f68.ntmps))) (fun _ _ h=>.inl h) ?_) ?_
   ·intro h h1 h2;obtain⟨a1,a2⟩:=hno h;exact .inr ⟨rfl,q3 j _ hg (of_decide_eq_true h2) a1 a2 hts,rfl⟩
   rintro ex s1 (h|⟨rfl,h,rfl⟩)
   ·exact⟨s1,fw.refl _ _,h⟩
   exact⟨_,LY rfl,h⟩
  have he:e=l.length:=by omega
  refine F4 (K:=bB ks) (K3:=[]) (ss:=bB (st.map Int.ofNat)) (cl:=true) (to:=0) (tv:=0) (tof:=0) g2 f1 f2 f3 f4 f5 f6 f7 hce f9 f10 hc2 f12 f13 f14 f15 f16 f17 (f18.trans (decide_eq_true he)) f19 (fun h=>by simp at h) f21 (fun h=>by simp at h) (fun h=>by simp at h) rfl rfl (fun h=>by simp at h) (fun h=>by simp at h) (dw _) (dw _) (dw _) (dw _) ?_ ?_ ?_ ?_ ?_
  ·intro h;exact q1 (hyes h)
  ·intro h _;exact q1 (.inr (.inr he))
  ·intro _ h;simp at h
  ·intro _ h;simp at h
  intro _ h;simp at h
theorem xv (k:Nat):∀l:List Int,tZ k (bB l)=false
 | []=>rfl
 | a::r=>by show (P5 k (iv a)||tZ k (bB r))=_;rw[xv k r];rfl
def En (x y:Nat) (c1:List ac) (len:Nat) (start n:Int) (N:Nat):ab:=⟨[(18,iv start),(17,iv n),(5,.win (.out x) 2 0 len),(3,.win (.out y) 1 0 N),(1,.ptr (.loc 1) 0)],[(.loc 1,.cells c1)],[],0⟩
def Hc (x y:Nat) (c1:List ac) (start n:Int) (N:Nat):ab:=⟨[(26,bv false),(18,iv start),(17,iv n),(5,.win (.out x) 2 0 0),(3,.win (.out y) 1 0 N),(1,.ptr (.loc 1) 0)],[(.loc 1,.cells c1)],[],0⟩
theorem Jw {p sl:Int} {d1 d2:al} {a m:Nat} {ρ:Nat->Nat} (h0:ρ 0=0) (ha:ρ a=m) {ks ss:List Int} {len N:Nat} {start n:Int} :
  Hk ρ (m+1) ((oL a (cC p sl d1 d2) (bB ks) (bB ss) len start n N).an Tryz.f68.ntmps)=(oL m (cC p sl d1 d2) (bB ks) (bB ss) len start n N).an Tryz.f68.ntmps:=by
 have e1:gx ρ ((En a 0 (cC p sl d1 d2) len start n N).an Tryz.f68.ntmps).tmps=((En (ρ a) (ρ 0) (cC p sl d1 d2) len start n N).an Tryz.f68.ntmps).tmps:=by kernel_rfl
 rw[h0,ha] at e1;have e2:gS ρ [(.loc 1,.cells (cC p sl d1 d2))]=[(.loc 1,.cells (cC p sl d1 d2))]:=by kernel_rfl
 have e3:gS ρ [(.out a,.cells (bB ks)),(.out 0,.cells (bB ss))]=[(.out m,.cells (bB ks)),(.out 0,.cells (bB ss))]:=by simp only[gS,tY,oE,eL,h0,ha]
 show (⟨gx ρ ((En a 0 (cC p sl d1 d2) len start n N).an Tryz.f68.ntmps).tmps,gS ρ [(.loc 1,.cells (cC p sl d1 d2))],gS ρ [(.out a,.cells (bB ks)),(.out 0,.cells (bB ss))],m+1⟩:aa)=_;rw[e1,e2,e3];rfl
theorem V8 {p sl:Int} {d1 d2:al} {a m:Nat} {ρ:Nat->Nat} (h0:ρ 0=0) (ha:ρ a=m) {ks ss:List Int} {N:Nat} {start n:Int} :
  Hk ρ (m+1) ((Eo a (cC p sl d1 d2) (bB ks) (bB ss) start n N).an Tryz.f68.ntmps)=(Eo m (cC p sl d1 d2) (bB ks) (bB ss) start n N).an Tryz.f68.ntmps:=by
 have e1:gx ρ ((Hc a 0 (cC p sl d1 d2) start n N).an Tryz.f68.ntmps).tmps=((Hc (ρ a) (ρ 0) (cC p sl d1 d2) start n N).an Tryz.f68.ntmps).tmps:=by kernel_rfl
 rw[h0,ha] at e1;have e2:gS ρ [(.loc 1,.cells (cC p sl d1 d2))]=[(.loc 1,.cells (cC p sl d1 d2))]:=by kernel_rfl
 have e3:gS ρ [(.out a,.cells (bB ks)),(.out 0,.cells (bB ss))]=[(.out m,.cells (bB ks)),(.out 0,.cells (bB ss))]:=by simp only[gS,tY,oE,eL,h0,ha]
 show (⟨gx ρ ((Hc a 0 (cC p sl d1 d2) start n N).an Tryz.f68.ntmps).tmps,gS ρ [(.loc 1,.cells (cC p sl d1 d2))],gS ρ [(.out a,.cells (bB ks)),(.out 0,.cells (bB ss))],m+1⟩:aa)=_;rw[e1,e2,e3];rfl
def kA (m:Nat):ab:=⟨[(2,bv true)],[],[],m⟩
theorem V9 {a m:Nat} {ρ:Nat->Nat} {K ss:List ac} {h:Heap}:∃H,Hk ρ m ((Ni K ss).an Tryz.f68.ntmps)=⟨((kA m).an Tryz.f68.ntmps).tmps,[],H,m⟩:=by
 have e1:gx ρ ((kA m).an Tryz.f68.ntmps).tmps=((kA m).an Tryz.f68.ntmps).tmps:=by kernel_rfl
 refine⟨gS ρ [(.out 1,.cells K),(.out 0,.cells ss)],?_⟩;show (⟨gx ρ ((kA m).an Tryz.f68.ntmps).tmps,[],gS ρ [(.out 1,.cells K),(.out 0,.cells ss)],m⟩:aa)=_;rw[e1]
theorem Yf {p sl:Int} {d1 d2:al} {ks ss:List Int} {len N:Nat} {start n:Int}:Qn ((oL 1 (cC p sl d1 d2) (bB ks) (bB ss) len start n N).an Tryz.f68.ntmps)=true:=by
 have e1:tZ 2 ((En 1 0 (cC p sl d1 d2) len start n N).an Tryz.f68.ntmps).tmps=false:=by kernel_rfl
 have e2:uZ 2 [(.loc 1,.cells (cC p sl d1 d2))]=false:=by kernel_rfl
 have e3:uZ 2 [(.out 1,.cells (bB ks)),(.out 0,.cells (bB ss))]=false:=by
  simp only[uZ,UR,xv];rfl
 show (!tZ 2 ((En 1 0 (cC p sl d1 d2) len start n N).an Tryz.f68.ntmps).tmps&&(!uZ 2 [(.loc 1,.cells (cC p sl d1 d2))]&&(!uZ 2 [(.out 1,.cells (bB ks)),(.out 0,.cells (bB ss))]&&jz [(.out 1,.cells (bB ks)),(.out 0,.cells (bB ss))] 2)))=true;rw[e1,e2,e3];rfl
theorem TK {p sl:Int} {d1 d2:al} {ks ss:List Int} {len N:Nat} {start n:Int} {m:Nat} {T:Exit->aa->Prop}
  (h:KD (roundOf Tryz.f68 1) (fun e s=>T e (Hk (gd (so [0,m]) 2 (m+1)) (m+1+(s.next - 2)) s)) ((oL 1 (cC p sl d1 d2) (bB ks) (bB ss) len start n N).an Tryz.f68.ntmps)) :
  KD (roundOf Tryz.f68 1) T ((oL m (cC p sl d1 d2) (bB ks) (bB ss) len start n N).an Tryz.f68.ntmps):=by
 have h2:=cD.rn h (so [0,m]) (m+1) Yf;rw[Jw (m:=m) rfl rfl] at h2;refine h2.mono ?_;rintro e s ⟨s1,hq,rfl⟩;exact hq
def Up (m:Nat) (c1 ss:List ac) (start n:Int) (N:Nat):ab:=⟨[(26,bv false),(18,iv start),(17,iv n),(5,.win (.out m) 2 0 0),(3,.win (.out 0) 1 0 N),(1,.ptr (.loc 1) 0)],[(.loc 1,.cells c1)],[(.out 0,.cells ss)],m+1⟩
theorem TJ {p sl:Int} {ins:List Ins} {d2:al} (g2:cV d2) (hv:oZ ins) (hn:ins.length < 1000000) {st:List Nat} {start:Nat} (hs:start < ins.length) (hI:(bJ ins).Inv st []) (hd:∀j,j < start->fS st j=2) :
  KD (.loop (roundOf Tryz.f68 1)) (fun e s=>(e=.exit 2/\∃m st2,(bJ ins).Inv st2 []/\(∀j,j < start+1->fS st2 j=2)/\s=(Up m (cC p sl (.slice (encI ins)) d2) (bB (st2.map Int.ofNat)) (Int.ofNat start) (Int.ofNat ins.length) ins.length).an Tryz.f68.ntmps)∨(e=.ret/\(bJ ins).xK/\∃m,s=(kA m).an Tryz.f68.ntmps))
   (ME p sl ins d2 1 [Int.ofNat start,0] st 1 start):=by
 have key:KD (.loop (roundOf Tryz.f68 1)) (fun e s=>(e=.exit 2/\∃m st2 ks,(bJ ins).Inv st2 []/\(∀j,j < start+1->fS st2 j=2)/\s=(Eo m (cC p sl (.slice (encI ins)) d2) (bB ks) (bB (st2.map Int.ofNat)) (Int.ofNat start) (Int.ofNat ins.length) ins.length).an Tryz.f68.ntmps)∨(e=.ret/\(bJ ins).xK/\∃m H,s=⟨((kA m).an Tryz.f68.ntmps).tmps,[],H,m⟩))
   (ME p sl ins d2 1 [Int.ofNat start,0] st 1 start):=by
  refine zi (I:=fun μ s=>∃m stA stk ks,(bJ ins).Inv stA stk/\(∀j,j < start->fS stA j=2)/\(fS stA start=2∨start∈stk.map Prod.fst)/\ks.take (2*stk.length)=rZ stk/\qz (bJ ins) stA stk=μ/\μ<=8*ins.length+1/\s=ME p sl ins d2 m ks stA stk.length start) ?_ (m:=qz (bJ ins) st [(start,0)]) ⟨1,st,[(start,0)],[Int.ofNat start,0],hI.start hs,hd,.inr (by simp),rfl,rfl,Ib ins st start,rfl⟩;rintro μ s ⟨m,stA,stk,ks,hA,hdA,hsA,hk,hμ,hμb,rfl⟩;have hlen:=G1 (bJ ins) stA stk;refine TK ?_
  cases stk with
  | nil=>
   refine Qo ?_;rw[show m+1+(((Eo 1 (cC p sl (.slice (encI ins)) d2) (bB ks) (bB (stA.map Int.ofNat)) (Int.ofNat start) (Int.ofNat ins.length) ins.length).an Tryz.f68.ntmps).next - 2)=m+1 from rfl,V8 (m:=m) rfl rfl];refine .inl ⟨rfl,m,stA,ks,hA,?_,rfl⟩;intro j hj
   by_cases h:j < start
   ·exact hdA j h
   have:j=start:=by omega
   subst this
   rcases hsA with h|h
   ·exact h
   simp at h
  | cons t r=>
   obtain⟨i,e⟩:=t;obtain⟨t1,t2,t3,t4,t5,t6⟩:=hA.top;have hil:i < stA.length:=by rw[hA.len];exact t1
   have hlen':r.length+1<=qz (bJ ins) stA ((i,e)::r):=hlen
   -- what is done stays so
   have hkeep:∀v,(∀j,fS stA j=2->j=i->v=2)->(∀j,j < start->fS (stA.set i v) j=2):=by
    intro v hv2 j hj;rw[dO hil]
    split
    ·rename_i h;exact hv2 j (hdA j hj) h
    exact hdA j hj
   have hne:(e=0->fS stA i≠2)->∀j,fS stA j=2->j≠i:=by
    intro h j hj hji;subst hji
    by_cases h0:e=0
    ·exact h h0 hj
    have:=(t3 (by omega)).1;omega
   refine TH g2 hv hn hA hk (by omega) ?_ ?_ ?_ ?_
   ·intro hd1;show ∃μ',μ' < μ/\_;rw[show m+1+((ME p sl ins d2 1 ks (stA.set i 2) r.length start).next - 2)=m+1 from rfl,Jw (m:=m) rfl rfl];refine⟨_,?_,m,stA.set i 2,r,ks,hA.pop hd1,hkeep 2 (fun _ _ _=>rfl),?_,(Jg hk).2.2.1,rfl,?_,rfl⟩
    ·rw[←hμ];exact Fl hil (by decide)
    ·rw[dO hil]
     rcases hsA with h|h
     ·left;split
      ·rfl
      exact h
     rw[List.map_cons,List.mem_cons] at h
     rcases h with h|h
     ·left;rw[if_pos h]
     exact .inr h
    have:=Fl (G:=bJ ins) (e:=e) (r:=r) hil (v:=2) (by decide)
    omega
   ·intro j hj h1 h2 h3 ks2;refine .inr ⟨rfl,hA.xK h2 h3 hj h1,m+1+(2 - 2),?_⟩;exact V9 (a:=0) (h:=[])
   ·intro j ks2 hj h1 h2 h3 hk2;have hlt:e < ((bJ ins).succ i).length:=(List.getElem?_eq_some_iff.1 hj).1;show ∃μ',μ' < μ/\_;rw[show m+1+((ME p sl ins d2 1 ks2 (stA.set i 1) (r.length+1) start).next - 2)=m+1 from rfl,Jw (m:=m) rfl rfl];have hm:=BR hA h2 hlt (.inl rfl:([]:List (Nat×Nat))=[]∨_);refine⟨_,?_,m,stA.set i 1,(i,e+1)::r,ks2,hA.skip h2 h3 hj h1,hkeep 1 (fun q hq hqi=>absurd hqi (hne h2 q hq)),?_,hk2,rfl,?_,rfl⟩
    ·rw[←hμ];exact hm
    ·rcases hsA with h|h
     ·left;rw[dO hil,if_neg (hne h2 _ h)];exact h
     right;simpa using h
    have hm':qz (bJ ins) (stA.set i 1) ((i,e+1)::r) < qz (bJ ins) stA ((i,e)::r):=hm;omega
   intro j ks3 hj h1 h1' h2 h3 hk3;have hlt:e < ((bJ ins).succ i).length:=(List.getElem?_eq_some_iff.1 hj).1;show ∃μ',μ' < μ/\_;rw[show m+1+((ME p sl ins d2 2 ks3 (stA.set i 1) (r.length+2) start).next - 2)=m+1+1 from rfl,@Jw _ _ _ _ 2 (m+1) (gd (so [0,m]) 2 (m+1)) rfl rfl];have hm:=BR hA h2 hlt (.inr ⟨j,rfl⟩);refine⟨_,?_,m+1,stA.set i 1,(j,0)::(i,e+1)::r,ks3,hA.push h2 h3 hj h1 h1',hkeep 1 (fun q hq hqi=>absurd hqi (hne h2 q hq)),?_,hk3,rfl,?_,rfl⟩
   ·rw[←hμ];exact hm
   ·rcases hsA with h|h
    ·left;rw[dO hil,if_neg (hne h2 _ h)];exact h
    right;rw[List.map_cons,List.mem_cons] at h;simp only[List.map_cons,List.mem_cons]
    rcases h with h|h
    ·exact .inr (.inl h)
    exact .inr (.inr h)
   have hm':qz (bJ ins) (stA.set i 1) ((j,0)::(i,e+1)::r) < qz (bJ ins) stA ((i,e)::r):=hm;omega
 refine key.UM ?_;rintro e s (⟨rfl,m,st2,ks,h1,h2,rfl⟩|⟨rfl,h1,m,H,rfl⟩)
 ·exact⟨[(.out 0,.cells (bB (st2.map Int.ofNat)))],[(.out m,.cells (bB ks))],List.Perm.swap _ _ _,.inl ⟨rfl,m,st2,h1,h2,rfl⟩⟩
 exact⟨[],H,List.Perm.refl _,.inr ⟨rfl,h1,m,rfl⟩⟩
end Go.Proofs.YtmpmgmmcaghacaaGreatDoor
