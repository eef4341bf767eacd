/- IrLive returns true and changes nothing, for arguments of bulk at most 1048576 (the card of the second form; conditions: those of the given row). Names are shortened by a program, for the claim's bound. -/
import Derived.Test.YtmpmgmmcaghacaaGreatDoorCards
import Derived.Test.YtmpmgmmcaghacaaGreatDoorTie
import Derived.WalkKit
import Derived.ProofKit
import Derived.OpenShut
import Derived.Deep.DeepHandedRow
import Derived.Deep.DeepWitnessRowRef
import Derived.Test.YtmpmgmmcaghacaaGreatDoorQ09
set_option linter.unusedVariables false
set_option linter.unusedSimpArgs false
open Int (ofNat)
set_option maxRecDepth 100000
set_option maxHeartbeats 4000000
namespace Go.Proofs.YtmpmgmmcaghacaaGreatDoor
open Go.Tp
noncomputable abbrev tS:=Tryz.f36.ntmps
noncomputable abbrev pE:=Tryz.f9.ntmps
noncomputable abbrev tT:=Tryz.f33.ntmps
noncomputable abbrev cO:=Tryz.f38.ntmps
noncomputable abbrev dy:=Tryz.f20.ntmps
noncomputable abbrev cK:=Tryz.f39.ntmps
theorem Wx {c:Int} {p q d e h:Bool} (a:aB c 14=p) (b:aB c 10=q) (f:aB c 11=d) (g:aB c 22=e) (G:aB c 20=h):ae 110 [iv c] (bv (p||(q||(d||(e||h))))):=by
 refine co [4,7,11,15,19] [] (x:=.of Tryz.f110 P8 QH) ?_;refine ob a ?_
 cases p
 ·refine ob b ?_
  cases q
  ·refine ob f ?_
   cases d
   ·refine ob g ?_
    cases e
    ·refine ob G ?_
     cases h <;>
     ·exact fi
    exact fi
   exact fi
  exact fi
 exact fi
theorem Ow (c:Int):(lU (eO c)).call=(aB c 14||(aB c 10||(aB c 11||(aB c 22||aB c 20)))):=by
 cases l:eO c with
 | none=>
  have h:∀k:Nat,1<=k->k<=22->aB c (ofNat k)=false:=by
   intro k a b;refine dL ?_;rintro rfl
   have:∀n:Nat,1<=n->n<=22->amR n≠none:=by
    intro n
    match n with
    | 0=>intro h;omega
    | 1|2|3|4|5|6|7|8|9|10|11|12|13|14|15|16|17|18|19|20|21|22=>intro _ _ h;simp[amR] at h
    | n+23=>intro _ h;omega
   exact this k a b l
  have f:aB c 14=false:=h 14 (by decide) (by decide);have d:aB c 10=false:=h 10 (by decide) (by decide);have e:aB c 11=false:=h 11 (by decide) (by decide);have j:aB c 22=false:=h 22 (by decide) (by decide);have i:aB c 20=false:=h 20 (by decide) (by decide);rw[f,d,e,j,i];rfl
 | some s=>
  obtain⟨n,rfl,g,G,m⟩:=pT l;have o:n=1∨n=2∨n=3∨n=4∨n=5∨n=6∨n=7∨n=8∨n=9∨n=10∨n=11∨n=12∨n=13∨n=14∨n=15∨n=16∨n=17∨n=18∨n=19∨n=20∨n=21∨n=22:=by omega
  rcases o with rfl|rfl|rfl|rfl|rfl|rfl|rfl|rfl|rfl|rfl|rfl|rfl|rfl|rfl|rfl|rfl|rfl|rfl|rfl|rfl|rfl|rfl <;> (cases m;rfl)
theorem Tm (a:Int):ae 110 [iv a] (bv (lU (eO a)).call):=by
 simp_all[Ow,Wx]
section
abbrev cI (p s:Int) (a:List Ins) (b:ak):List ac:=cC p s (.slice (encI a)) b
theorem Ry {p s:Int} {a:List Ins} {h:ak} (V:tR a) (N:a.length < 1000000) {f:List Bool} (x:f.length=a.length) {g:Bool} {i:Nat} {l:List Nat} (t:∀j∈l,j < a.length) (u:l.length<=2) (v:l≠[]) :
  KD (.loop (roundOf Tryz.f71 2)) (fun e q=>e=.exit 4/\q=(vr (cI p s a h) (pG f) a.length g (ofNat i) (l.all (fun j=>f.getD j false)) (.slice ((l.map ofNat).map iN)) (ofNat l.length)).al bO)
   ((rS (cI p s a h) (pG f) a.length g (ofNat i) true (.slice ((l.map ofNat).map iN)) 0).al bO):=by
 have c:((l.map ofNat).map iN).length=l.length:=by rw[List.length_map,List.length_map]
 refine cA (St:=fun k=>(rS (cI p s a h) (pG f) a.length g (ofNat i) ((l.take k).all (fun j=>f.getD j false)) (.slice ((l.map ofNat).map iN)) (ofNat k)).al bO) l.length ?_ ?_ (i:=0) (Nat.zero_le _)
 ·intro k d;have J:l[k]?=some l[k]:=List.getElem?_eq_getElem d;have r:=t _ (List.getElem_mem d);have b:(l.take (k+1)).all (fun j=>f.getD j false)=((l.take k).all (fun j=>f.getD j false)&&f.getD l[k] false):=by
   rw[List.take_succ_eq_append_getElem d,List.all_append];simp
  generalize l[k]=j at J r b;have m:(l.map ofNat)[k]?=some (ofNat j):=by rw[List.getElem?_map,J];rfl
  have w:an .i64 (ofNat k+1)=ofNat (k+1):=bb (by omega);have o:f[j]?=some (f.getD j false):=by
   rw[List.getD_eq_getElem?_getD,List.getElem?_eq_getElem (by omega)];rfl
  refine afb (br (by rw[c];exact d)) (wb m) (vV (n:=a.length) r) (Jp (.out 0) o) ?_;rw[w,←b];exact rfl
 refine adx (cj (by rw[c];omega)) ?_;rw[List.take_length];exact⟨rfl,rfl⟩
variable {f:List Bool} {p s:Int}
theorem Rw {a:List Ins} {c:ak} {b:Bool} {i:Int} :
  KD (.loop (roundOf Tryz.f71 2)) (fun e q=>e=.exit 4/\q=(vr (cI p s a c) (pG f) a.length b i true nl 0).al bO)
   ((rS (cI p s a c) (pG f) a.length b i true nl 0).al bO):=by
 refine cA (St:=fun _=>(rS (cI p s a c) (pG f) a.length b i true nl 0).al bO) 0 (fun i d=>absurd d (by omega)) ?_ (i:=0) (Nat.le_refl _);exact ady ⟨rfl,rfl⟩
def Bb (a:List Ins) (f:List Bool) (i:Nat):Bool:=(na a i).all (fun j=>f.getD j false)||Bi a i
theorem RA {d:List Ins} {k:ak} (v:dj k) (V:tR d) (N:d.length < 1000000) (O:f.length=d.length) {r:Bool} {i:Nat} (z:i < d.length) {T:ej}
  (E:(Bb d f i&&!f.getD i false)=true->T .normal ((lT (cI p s d k) (pG (f.set i true)) d.length true (an .i64 (ofNat i - 1))).al bO))
  (F:(Bb d f i&&!f.getD i false)=false->T .normal ((lT (cI p s d k) (pG f) d.length r (an .i64 (ofNat i - 1))).al bO)) :
  KD (roundOf Tryz.f71 1) T ((lT (cI p s d k) (pG f) d.length r (ofNat i)).al bO):=by
 have q:d[i]?=some d[i]:=List.getElem?_eq_getElem z;generalize d[i]=x at q;have h:=Fj V q;have e:Bi d i=(lU (eO x.op)).call:=by unfold Bi;rw[q]
 have o:aF (ofNat i) 0=false:=by rw[dA];simp
 have w:=Xx (p:=p) (s:=s) v q (by omega);have H:=xn q;have J:=Tm x.op;have g:=vV (m:=.out 0) (n:=d.length) z;have y:f[i]?=some (f.getD i false):=by
  rw[List.getD_eq_getElem?_getD,List.getElem?_eq_getElem (by omega)];rfl
 have G:=Jp (.out 0) y;have K:=WD (l:=f) (i:=i) (.out 0) true (by omega);rw[←h] at w;have D:Bb d f i=((na d i).all (fun j=>f.getD j false)||(lU (eO x.op)).call):=by unfold Bb;rw[e]
 rw[D] at E F;have B:∀j∈na d i,j < d.length:=(eh d).lt i z;have A:=vm d i;generalize na d i=l at *;obtain⟨Z,L,a,b,Q,Y,P,u,⟨xk,t,R,W⟩,C,I,c⟩:=x
 cases l with
 | nil=>exact adA v o w Rw H J g G K (qZ _) E F
 | cons S U=>
  have M:=@Ry p s _ k V N _ O r i _ B A (by simp);exact afc v o w M H J g G K (qZ _) E F
def Ts (j:Nat):Int:=match j with|0=>-1|i+1=>ofNat i
theorem CK {j:Nat} (h:j < 1000000):an .i64 (ofNat j - 1)=Ts j:=by
 rw[cQ]
 cases j with
 | zero=>rfl
 | succ i=>
  rw[show ofNat (i+1) - 1=ofNat i by simp];exact wrap_i64 (by grind) (by grind)
def pw (f:List Bool):Nat:=f.countP (fun b=>!b)
theorem MN {i:Nat} (a:i < f.length) (h:f.getD i false=false):pw (f.set i true)+1=pw f:=by
 grind[pw]
theorem Rz {c:List Ins} {r:ak} (y:dj r) (V:tR c) (N:c.length < 1000000) (z:f.length=c.length) (hS:(eh c).Sound f) :
  KD (.loop (roundOf Tryz.f71 1)) (fun e q=>e=.exit 2/\∃d g i,d.length=c.length/\(eh c).Sound d/\(g=true->pw d < pw f)/\(g=false->d=f/\(eh c).fp f)/\q=(DL (cI p s c r) (pG d) c.length g i).al bO)
   ((lT (cI p s c r) (pG f) c.length false (an .i64 (ofNat (encI c).length - 1))).al bO):=by
 rw[bH,CK N];refine CS (I:=fun μ q=>∃d g,μ<=c.length/\d.length=c.length/\(eh c).Sound d/\(g=true->pw d < pw f)/\(g=false->d=f/\∀i,μ<=i->i < c.length->Bb c f i=true->f.getD i false=true)/\q=(lT (cI p s c r) (pG d) c.length g (Ts μ)).al bO) ?_ (m:=c.length) ⟨f,false,Nat.le_refl _,z,hS,fun h=>by simp at h,fun _=>⟨rfl,fun i a b=>by omega⟩,rfl⟩;rintro μ q ⟨d,g,hμ,k,o,a,b,rfl⟩
 cases μ with
 | zero=>
  refine adz (by rfl) ?_;refine⟨rfl,d,g,Ts 0,k,o,a,?_,rfl⟩;intro n;obtain⟨C,K⟩:=b n;refine⟨C,?_⟩;intro i u D;refine K i (Nat.zero_le _) u ?_;unfold Bb
  rcases D with D|D
  ·have:Bi c i=true:=D
   rw[this,Bool.or_true]
  have:(na c i).all (fun j=>f.getD j false)=true:=List.all_eq_true.2 D
  rw[this,Bool.true_or]
 | succ i=>
  have u:i < c.length:=hμ;have x:an .i64 (ofNat i - 1)=Ts i:=CK (by omega);refine RA y V N k u ?_ ?_
  ·intro n;simp only[Bool.and_eq_true,Bool.not_eq_true'] at n;rw[x];have l:=MN (by omega:i < d.length) n.2;refine⟨i,Nat.lt_succ_self i,d.set i true,true,by omega,by rw[List.length_set];exact k,?_,?_,fun h=>by simp at h,rfl⟩
   ·refine o.set (by omega) ?_;have D:=n.1;unfold Bb at D;rw[Bool.or_eq_true] at D
    rcases D with D|D
    ·exact .inr (fun j A=>List.all_eq_true.1 D j A)
    exact .inl D
   intro _
   cases g
   ·obtain⟨rfl,_⟩:=b rfl;omega
   have:=a rfl;omega
  intro n;rw[x];refine⟨i,Nat.lt_succ_self i,d,g,by omega,k,o,a,?_,rfl⟩;intro t;obtain⟨rfl,K⟩:=b t;refine⟨rfl,?_⟩;intro j B v D
  by_cases w:j=i
  ·subst w;rw[D,Bool.true_and] at n;simpa using n
  exact K j (by omega) v D
theorem MZ {f:List ac} {b c:ak} {n:Nat} {a:Bool} {i:Int}:gF cM ((vt (cC p s b c) f n a i).al bO) ((Cs (cC p s b c) f n a).al bO):=by
 have h:=me (G:=cM) (n:=bO) (vt (cC p s b c) f n a i) (2 ^ 4+2 ^ 3+2 ^ 1);have e:((iL (vt (cC p s b c) f n a i) (fun l=>eE l (2 ^ 4+2 ^ 3+2 ^ 1))).al bO)=((Cs (cC p s b c) f n a).al bO):=by kernel_rfl
 grind
theorem Rx {ins:List Ins} (N:ins.length < 1000000) (h:f.length=ins.length) :
  KD (.loop (roundOf Tryz.f71 3)) (fun e q=>(∃k,e=.exit 6/\f.any (fun b=>!b)=false/\q=(Im (pG f) ins.length k).al bO)∨(e=.ret/\f.any (fun b=>!b)=true/\q=(Io (pG f)).al bO)) ((Cr (pG f) ins.length 0).al bO):=by
 refine cV (St:=fun k=>(Cr (pG f) ins.length (ofNat k)).al bO) (fun k=>f.any (fun b=>!b)=(f.drop k).any (fun b=>!b)) ins.length ?_ ?_ (i:=0) (Nat.zero_le _) rfl
 ·intro k g d;have c:k < f.length:=by omega
  have J:f[k]?=some f[k]:=List.getElem?_eq_getElem c;have D:(f.drop k).any (fun b=>!b)=(!f[k]||(f.drop (k+1)).any (fun b=>!b)):=by rw[List.drop_eq_getElem_cons c];rfl
  generalize f[k]=y at J D;rw[←d] at D;have j:an .i64 (ofNat k+1)=ofNat (k+1):=bb (by omega);refine afa (AA (by omega)) (br g) (vV g) (Jp (.out 0) J) ?_ ?_
  ·rintro rfl;rw[j];exact⟨rfl,D⟩
  rintro rfl;exact .inr ⟨rfl,D,rfl⟩
 intro d;have a:f.any (fun b=>!b)=false:=by grind
 exact adw (AA (by omega)) (cj (by omega)) (.inl ⟨_,rfl,a,rfl⟩)
theorem O7 {ins:List Ins} {j:ak} (t:dj j) (V:tR ins) (N:ins.length < 1000000):ae 71 [.dat (aN p s (.slice (encI ins)) j)] (bv (lO ins)):=by
 have g:(encI ins).length=ins.length:=bH ins;refine ZC (n:=ins.length) (fs0:=pG (List.replicate ins.length false)) t g.symm (by grind[Qm]) (qZ _) ?_;refine CS (I:=fun μ q=>∃f a,f.length=ins.length/\(eh ins).Sound f/\μ=pw f+(if a=true then 1 else 0)/\(a=false->(eh ins).fp f)/\q=(Cs (cI p s ins j) (pG f) ins.length a).al bO) ?_ (m:=pw (List.replicate ins.length false)+1) ⟨List.replicate ins.length false,true,by simp,Gr.Sound.init,rfl,fun h=>by grind,rfl⟩;rintro μ q ⟨f,a,k,hS,rfl,v,rfl⟩
 cases a with
 | false=>
  refine adB ?_;have o:=v rfl;have d:f.any (fun b=>!b)=lO ins:=by
   cases A:f.any (fun b=>!b) with
   | true=>exact (yM (Gr.Sh k o A)).symm
   | false=>
    cases T:lO ins with
    | false=>rfl
    | true=>
     have:(eh ins).yN:=by grind[lO]
     rw[Gr.NQ k hS this] at A;grind
  have u:=Rx (ins:=ins) N k;rw[d] at u;exact⟨pG f,rfl,rfl,u⟩
 | true=>
  refine iU (Q:=fun e q=>e=.normal/\∃c a i,(c.length=ins.length/\(eh ins).Sound c/\(a=true->pw c < pw f)/\(a=false->c=f/\(eh ins).fp f))/\q=(vt (cI p s ins j) (pG c) ins.length a i).al bO) ?_ ?_
  ·refine afd (Rz t V N k hS) ?_;grind
  rintro e q ⟨rfl,c,a,i,⟨r,K,M,l⟩,rfl⟩;refine⟨_,MZ,?_⟩;refine⟨pw c+(if a=true then 1 else 0),?_,c,a,r,K,rfl,?_,rfl⟩
  all_goals grind
end
def B0 (j:Int) (i:List UInt8) (u o:Int) (p:List UInt8) (a:Int) (g:ak) (n:Bool) (h:ak) (k:List UInt8) (r:Int) (t:List UInt8) (b:Int) (q:ak) (l d c:Int) (e f:ak) (m:List UInt8):ak:=.agg [i64 j,sb i,i64 u,i64 o,sb p,i64 a,g,bl n,h,sb k,i64 r,sb t,i64 b,q,i64 l,i64 d,i64 c,e,f,sb m]
def cE (j:Int) (i:List UInt8) (u o:Int) (p:List UInt8) (a:Int) (g:ak) (n:Bool) (h:ak) (k:List UInt8) (r:Int) (t:List UInt8) (b:Int) (q:ak) (l d c:Int) (e f:ak) (m:List UInt8):List ac:=[.dat (i64 j),.dat (sb i),.dat (i64 u),.dat (i64 o),.dat (sb p),.dat (i64 a),.dat g,.dat (bl n),.dat h,.dat (sb k),.dat (i64 r),.dat (sb t),.dat (i64 b),.dat q,.dat (i64 l),.dat (i64 d),.dat (i64 c),.dat e,.dat f,.dat (sb m)]
theorem QK (t:Bool) {o:Int} {n:List UInt8} {u v:Int} {w:List UInt8} {d:Int} {j:ak} {s:Bool} {k:ak} {p:List UInt8} {x:Int} {y:List UInt8} {e:Int} {l:ak} {q m c:Int} {h i:ak} {r:List UInt8} (a:dj j) (b:dj k) (f:dj l) (g:dj h) (G:dj i):eB ba t 53 [.ref [i64 o,sb n,i64 u,i64 v,sb w,i64 d,j,bl s,k,sb p,i64 x,sb y,i64 e,l,i64 q,i64 m,i64 c,h,i,sb r]] none=some ⟨.dat (B0 o n u v w d j s k p x y e l q m c h i r),.keep⟩:=by
 cases t <;> rcases a with rfl|⟨_,rfl⟩ <;> rcases b with rfl|⟨_,rfl⟩ <;> rcases f with rfl|⟨_,rfl⟩ <;> rcases g with rfl|⟨_,rfl⟩ <;> rcases G with rfl|⟨_,rfl⟩ <;> kernel_rfl
theorem Vo (l:Nat) {p:Int} {o:List UInt8} {u w:Int} {x:List UInt8} {d:Int} {j:ak} {v:Bool} {k:ak} {q:List UInt8} {y:Int} {t:List UInt8} {e:Int} {m:ak} {r n c:Int} {h i:ak} {s:List UInt8} (a:dj j) (b:dj k) (f:dj m) (g:dj h) (G:dj i):cG ba 53 [.ptr (.loc l) 0,.dat (B0 p o u w x d j v k q y t e m r n c h i s)] (some (.cells (cE 0 [] 0 0 [] 0 nl false nl [] 0 [] 0 nl 0 0 0 nl nl [])))=some ⟨.undef,.set (.cells (cE p o u w x d j v k q y t e m r n c h i s))⟩:=by
 rcases a with rfl|⟨_,rfl⟩ <;> rcases b with rfl|⟨_,rfl⟩ <;> rcases f with rfl|⟨_,rfl⟩ <;> rcases g with rfl|⟨_,rfl⟩ <;> rcases G with rfl|⟨_,rfl⟩ <;> kernel_rfl
theorem ab5 (t:Bool) (l:Nat) {p:Int} {o:List UInt8} {u w:Int} {x:List UInt8} {d:Int} {j:ak} {v:Bool} {k:ak} {q:List UInt8} {y:Int} {z:List UInt8} {e:Int} {m:ak} {r n c:Int} {h i:ak} {s:List UInt8} (a:dj j) (b:dj k) (f:dj m) (g:dj h) (G:dj i):eB ba t 53 [.ptr (.loc l) 0] (some (.cells (cE p o u w x d j v k q y z e m r n c h i s)))=some ⟨.dat (B0 p o u w x d j v k q y z e m r n c h i s),.keep⟩:=by
 cases t <;> rcases a with rfl|⟨_,rfl⟩ <;> rcases b with rfl|⟨_,rfl⟩ <;> rcases f with rfl|⟨_,rfl⟩ <;> rcases g with rfl|⟨_,rfl⟩ <;> rcases G with rfl|⟨_,rfl⟩ <;> kernel_rfl
theorem adN {o:Int} {n:List UInt8} {u v:Int} {w:List UInt8} {d:Int} {j:ak} {s:Bool} {k:ak} {p:List UInt8} {x:Int} {t:List UInt8} {e:Int} {l:ak} {q m c:Int} {h i:ak} {r:List UInt8} (a:dj j) (b:dj k) (f:dj l) (g:dj h) (G:dj i):Sj [.dat (B0 o n u v w d j s k p x t e l q m c h i r)]=some ⟨.undef,.new (.cells (cE o n u v w d j s k p x t e l q m c h i r))⟩:=by
 rcases a with rfl|⟨_,rfl⟩ <;> rcases b with rfl|⟨_,rfl⟩ <;> rcases f with rfl|⟨_,rfl⟩ <;> rcases g with rfl|⟨_,rfl⟩ <;> rcases G with rfl|⟨_,rfl⟩ <;> kernel_rfl
theorem QL (t:Bool) (l:Nat) {k:Int} {j:List UInt8} {u q:Int} {r:List UInt8} {d:Int} {h:ak} {p:Bool} {i:ak} {m:List UInt8} {v:Int} {w:List UInt8} {e:Int} {s:ak} {n f c:Int} {a b:ak} {o:List UInt8} (g:dj a) (G:dj b):eB ba t 26 [.ptr (.loc l) 15] (some (.cells (cE k j u q r d h p i m v w e s n f c a b o)))=some ⟨.dat (aN f c a b),.keep⟩:=by
 cases t <;> rcases g with rfl|⟨_,rfl⟩ <;> rcases G with rfl|⟨_,rfl⟩ <;> kernel_rfl
def oC (a:List Ins):Bool:=match a[a.length - 1]? with|some x=>(lU (eO x.op)).fin|none=>false
def nt (p q c d e f g h i b j:Bool) (a:Int):Int:=
 if (p||(q||(c||d)))=true then 4 else if (e||(f||(g||h)))=true then 2 else if i=false then 2 else if (!b||j)=true then 2 else a
noncomputable def C0 (d:Nat) (L sl:Int) (a:List Ins) (c:Nat) (b:Int):Int:=
 nt (aF 40 (ofNat d)) (aF 200 sl) (aF 2000 (ofNat a.length)) (aF 2000 (ofNat c)) (aF L 0) (aF 6 L) (aF sl L) (aB (ofNat a.length) 0)
  (a.all (fun x=>iJ (ofNat a.length) (ofNat c) sl x)) (oC a) (lO a) b
def gM.zero (c:gM):Bool:=aB c.pa 0&&(aB c.sl 0&&(aB (ofNat c.ins.length) 0&&aB (ofNat c.cD.length) 0))
def sc (p q a z:Bool) (v:Int):Int:=if (p||q)=true then 2 else if (!a&&!z)=true then 2 else if a=false then 0 else v
mutual
noncomputable def gM.val:gM->Nat->Int
 | .mk L sl _ a _ b=>fun d=>C0 d L sl a b.length (kB b d)
noncomputable def kB:List (List fG)->Nat->Int
 | []=>fun _=>0
 | l::r=>fun d=>if aB (uP l d) 0=true then kB r d else uP l d
noncomputable def uP:List fG->Nat->Int
 | []=>fun _=>0
 | e::r=>fun d=>if aB (e.val d) 0=true then uP r d else e.val d
noncomputable def fG.val:fG->Nat->Int
 | .mk k _ _ _ _ c _=>fun d=>sc (aF k 1) (aF 5 k) (aB k 2) c.zero (c.val (d+1))
end
abbrev bP (l:List ak) (n K r a:Int):Prop:=KC 32 [cq,iv n] (cW l K) 1 (XQ ⟨iv r,cW l a,1⟩)
variable {C I K L P a b c d e f h i j k m n o p q r s u v x y:Int} {E:ak} {T:ej} {l:List ak} {t:List UInt8} {z:Bool}
theorem ZH (h:bP l 5 K 0 a):KC 66 [cq] (cW l K) 1 (XQ ⟨.dat (lI 0 0 []),cW l a,1⟩):=by
 refine co [] [] (x:=.of Tryz.f66 CO Ay) ?_;exact oh h fi
theorem ZG (h:bP l 5 K 1 c) (b:bP l 2 c a d):KC 66 [cq] (cW l K) 1 (XQ ⟨.dat (lI 2 a []),cW l d,1⟩):=by
 refine co [] [] (x:=.of Tryz.f66 CO Ay) ?_;exact oh h (oh b fi)
theorem ZF {s:List UInt8} (h:bP l 5 K 2 c) (b:bP l 6 c a d) (i:ap ba 70 [.dat (.slice (encS H5)),.dat (.flat (.int .i64 a))]=some ⟨.ref [sb s],.keep⟩) :
  KC 66 [cq] (cW l K) 1 (XQ ⟨.dat (lI 3 0 s),cW l d,1⟩):=by
 refine co [] [20] (x:=.of Tryz.f66 CO Ay) ?_;exact oh h (oh b (oo i fi))
theorem ZE (h:bP l 5 K r c) (e:aB r 0=false) (E:aB r 1=false) (F:aB r 2=false) (b:bP l 7 c a d) :
  KC 66 [cq] (cW l K) 1 (XQ ⟨.dat (lI 1 (an .i64 (a - 3)) []),cW l d,1⟩):=by
 refine co [6,9,14] [] (x:=.of Tryz.f66 CO Ay) ?_;exact oh h (ob e (ob E (ob F (oh b fi))))
structure BG (l:List Int) (k k2:Nat):Prop where
 le:k<=k2
 top:k2<=l.length
theorem wy {α:Type} {l:List Int} {R:Nat->α->Nat->Prop} (step:∀k,k<=l.length->∃a K,BG l k K/\R k a K) {k:Nat} (e:k<=l.length) :
  ∀m:Nat,∃(d:List α) (c:Nat->Nat),d.length=m/\c 0=k/\(∀i,i<=m->BG l k (c i))/\∀i a,d[i]?=some a->R (c i) a (c (i+1))
 | 0=>⟨[],fun _=>k,rfl,rfl,fun _ _=>⟨Nat.le_refl _,e⟩,fun i a h=>by grind⟩
 | m+1=>by
  obtain⟨d,c,n,b,f,g⟩:=wy step e m;have j:=f m (Nat.le_refl _);obtain⟨a,K,A,p⟩:=step (c m) j.top;refine⟨d++[a],fun i=>if i<=m then c i else K,by grind,by grind,?_,?_⟩
  ·intro i o;dsimp only
   split
   ·grind
   exact⟨Nat.le_trans j.le A.le,A.top⟩
  grind
theorem ahV (a:Nat) (h:a < 6):∃s:List UInt8,H5[a]?=some s:=by simp_all[H5]
theorem Uy {l:List Int} {k:Nat} (f:l.length < 1000000000) (j:k<=l.length):∃(C I:Int) (c:List UInt8) (K:Nat),(c∈H5/\(-1000000<=I/\I<=1000000))/\BG l k K/\KC 66 [cq] (cW (l.map iN) (ofNat k)) 1 (XQ ⟨.dat (lI C I c),cW (l.map iN) (ofNat K),1⟩):=by
 obtain⟨r,m,⟨R,i,d,_⟩,e⟩:=aR (n:=5) f j (by omega) (by omega)
 match r,R with
 | 0,_=>exact⟨0,0,[],m,by decide,⟨i,d⟩,ZH e⟩
 | 1,_=>
  obtain⟨a,K,⟨A,g,Q,_⟩,b⟩:=aR (n:=2) f d (by omega) (by omega);exact⟨2,ofNat a,[],K,⟨by decide,by grind⟩,⟨by omega,Q⟩,ZG e b⟩
 | 2,_=>
  obtain⟨a,K,⟨A,g,Q,_⟩,b⟩:=aR (n:=6) f d (by omega) (by omega);obtain⟨s,h⟩:=ahV a A;exact⟨3,0,s,K,⟨List.mem_of_getElem? h,by decide⟩,⟨by omega,Q⟩,ZF e b (uB h)⟩
 | n+3,_=>
  obtain⟨a,K,⟨A,g,Q,_⟩,b⟩:=aR (n:=7) f d (by omega) (by omega);exact⟨1,an .i64 (ofNat a - 3),[],K,⟨by decide,by rw[cQ];simp;rw[wrap_i64 (by omega) (by omega)];omega⟩,⟨by omega,Q⟩,ZE e (dL (by grind)) (dL (by grind)) (dL (by grind)) b⟩
def Xz:List Int->ac
 | []=>.dat nl
 | x::r=>.own ((x::r).map iN)
noncomputable def ace:Hints:=⟨bV,P8,bi,rowsOf bi 36⟩
def Cl (l:List ak) (K n c i:Int) (a:List Int):ab:=⟨[(8,iv i),(7,Xz a),(0,cq),(1,iv n),(2,iv c)],[],cW l K,1⟩
def Ih (l:List ak) (K n c i:Int) (a:List Int):ab:=⟨[(11,bv false),(8,iv i),(7,Xz a),(0,cq),(1,iv n),(2,iv c)],[],cW l K,1⟩
theorem Mm {g:List Int} (o:aF i c=true) (h:bP l n K x j) (w:g.length < 1000000) (e:T .normal ((Cl l j n c (an .i64 (i+1)) (g++[x])).al tS)) :
  KD (roundOf Tryz.f36 0) T ((Cl l K n c i g).al tS):=by
 have f:=fE (a:=g) (b:=[x]) (by grind);rw[←List.map_append] at f;rcases g with _|⟨d,r⟩ <;>
 ·exact aq [11] [19] (H:=ace) (live:=El) (ob o (oh h (oo f (oe e))))
theorem Ot {a:List Int} (o:aF i c=false) (e:T (.exit 0) ((Ih l K n c i a).al tS)) :
  KD (roundOf Tryz.f36 0) T ((Cl l K n c i a).al tS):=by
 rcases a with _|⟨d,r⟩ <;>
 ·exact aq [11] [] (H:=ace) (live:=El) (ob o (oe e))
theorem auE {a:List Int} (f:KD (.loop (roundOf Tryz.f36 0)) (fun e q=>e=.exit 0/\q=(Ih l b n c i a).al tS) ((Cl l K n c 0 []).al tS)) :
  KC 36 [cq,iv n,iv c] (cW l K) 1 (XQ ⟨Xz a,cW l b,1⟩):=by
 rcases a with _|⟨d,r⟩ <;>
 ·refine co [] [] (x:=.of Tryz.f36 P8 El) ?_;refine lo f ?_;rintro g s ⟨rfl,rfl⟩;refine⟨_,rfl,?_⟩;exact fi
theorem LI {l:List Int} {k n c:Nat} (s:l.length < 1000000000) (h:k<=l.length) (N:0 < n) (j:n < 1000000000) (w:c < 1000000):∃(u:List Int) (K:Nat),u.length=c/\BG l k K/\KC 36 [cq,iv (ofNat n),iv (ofNat c)] (cW (l.map iN) (ofNat k)) 1 (XQ ⟨.dat (sl (u.map iN)),cW (l.map iN) (ofNat K),1⟩):=by
 obtain⟨u,m,a,b,f,g⟩:=wy (R:=fun k x K=>bP (l.map iN) (ofNat n) (ofNat k) x (ofNat K)) (fun k h=>by
  obtain⟨r,M,⟨_,o,Q,_⟩,d⟩:=aR (n:=n) s h N j;exact⟨ofNat r,M,⟨o,Q⟩,d⟩) h c
 refine⟨u,m c,a,f c (Nat.le_refl _),?_⟩;have t:KD (.loop (roundOf Tryz.f36 0)) (fun e q=>e=.exit 0/\q=(Ih (l.map iN) (ofNat (m c)) (ofNat n) (ofNat c) (ofNat c) u).al tS) ((Cl (l.map iN) (ofNat k) (ofNat n) (ofNat c) 0 []).al tS):=by
  rw[←b];refine cA (St:=fun i=>(Cl (l.map iN) (ofNat (m i)) (ofNat n) (ofNat c) (ofNat i) (u.take i)).al tS) c ?_ ?_ (i:=0) (Nat.zero_le _)
  ·intro i p;have J:u[i]?=some u[i]:=List.getElem?_eq_getElem (by omega);have v:an .i64 (ofNat i+1)=ofNat (i+1):=bb (by omega);have T:u.take (i+1)=u.take i++[u[i]]:=List.take_succ_eq_append_getElem (by omega);refine Mm (br p) (g i _ J) (by rw[List.length_take];omega) ?_;rw[v,←T];exact rfl
  refine Ot (cj (by omega)) ?_;rw[List.take_of_length_le (by omega)];exact⟨rfl,rfl⟩
 have:=auE t
 cases u with
 | nil=>exact this
 | cons x r=>exact ko this
def Ty.small (t:Ty):Prop:=t.size < 41000000/\t.fY
theorem zk {t:Ty} (h:t.small):t.gN:=⟨by have:=h.1;omega,h.2⟩
theorem Ey {l:List Int} {k:Nat} (e:l.length < 10000000) (c:k<=l.length):∃(t:Ty) (K:Nat),t.small/\BG l k K/\KC 64 [cq,.dat (.slice (lJ mq))] (cW (l.map iN) (ofNat k)) 1 (XQ ⟨.dat t.enc,cW (l.map iN) (ofNat K),1⟩):=by
 have D:=HF;obtain⟨t,K,a,b⟩:=(Us (P:=fun _ _=>True) (ds:=mq) e (by have:=D.len;omega) (fun d f=>by obtain⟨n,a,b⟩:=(D.each d f).ar;grind) (fun _ _=>trivial) trivial (l.length - k) k c (Nat.le_refl _)).2.2 3 0 (by omega) (by omega) (by omega);exact⟨t,K,⟨by have:=a.size;have:=a.top;omega,a.ix⟩,⟨a.le,a.top⟩,SR b⟩
abbrev Vc (l:List ak) (n x K:Int) (b:List ak) (a:Int):Prop:=KC 36 [cq,iv n,iv x] (cW l K) 1 (XQ ⟨.dat (sl b),cW l a,1⟩)
abbrev Sz (l:List ak) (K k:Int) (n:List UInt8) (x:Int) (b:List ak) (a:Int):Prop:=KC 64 [cq,.dat (.slice (lJ mq))] (cW l K) 1 (XQ ⟨.dat (.agg [i64 k,sb n,i64 x,sl b]),cW l a,1⟩)
abbrev tf (l:List ak) (n c e K:Int) (d:ak) (a:Int):Prop:=KC 34 [cq,iv n,iv c,iv e] (cW l K) 1 (XQ ⟨.dat d,cW l a,1⟩)
theorem ae0 (p:bP l 22 K 0 h) (q:bP l n h d i) (f:bP l n i a j) (g:bP l n j b k) {o:List UInt8} (r:KC 66 [cq] (cW l k) 1 (XQ ⟨.dat (lI C I o),cW l m,1⟩)):tf l n c e K (eH 1 d 0 0 0 [] nl 0 [] 0 nl C I o) m:=by
 refine co [] [] (x:=.of Tryz.f34 fU eG) ?_;exact oh p (oh q (oh f (oh g (oh r fi))))
theorem aeZ (m:bP l 22 K 1 h) (o:bP l n h d i) (f:bP l n i a j) (g:bP l n j b k) :tf l n c e K (eH 2 d a 0 0 [] nl 0 [] 0 nl 0 0 []) k:=by
 refine co [] [] (x:=.of Tryz.f34 fU eG) ?_;exact oh m (oh o (oh f (oh g fi)))
theorem acj (p:bP l 22 K 2 i) (q:bP l n i d j) (f:bP l n j a k) (g:bP l n k b m) {h:Bool} (G:bP l 7 m x o) (r:aB (an .i64 (1+x)) 5=h):tf l n c e K (eH 3 d a (match h with|true=>0|false=>b) (an .i64 (1+x)) [] nl 0 [] 0 nl 0 0 []) o:=by
 refine co [53] [] (x:=.of Tryz.f34 fU eG) ?_;refine oh p (oh q (oh f (oh g (oh G (ox r ?_)))))
 cases h <;>
 ·exact fi
theorem aeY (v:bP l 22 K 3 k) (w:bP l n k d m) (f:bP l n m a o) (g:bP l n o b p) {j i:List ak} (T:Sz l p u t h j q) (G:bP l 3 q x r) (y:Vc l n x r i s):tf l n c e K (eH 4 d 0 0 0 [] (sl i) u t h (sl j) 0 0 []) s:=by
 have z:=oK;refine co [] [] (x:=.of Tryz.f34 fU eG) ?_;refine oh v (oh w (oh f (oh g (on z (oh T (oh G (oh y ?_)))))))
 rcases j with _|⟨C,D⟩
 ·rcases i with _|⟨A,B⟩ <;>
  ·exact fi
 rcases i with _|⟨E,F⟩ <;>
 ·exact fi
theorem aeX (p:bP l 22 K 4 h) (q:bP l n h d j) (f:bP l n j a k) (g:bP l n k b m) {s:List UInt8} (G:bP l 6 m x o) (i:ap ba 70 [.dat (.slice (encS JK)),.dat (.flat (.int .i64 x))]=some ⟨.ref [sb s],.keep⟩):tf l n c e K (eH 5 d a 0 0 s nl 0 [] 0 nl 0 0 []) o:=by
 refine co [] [79] (x:=.of Tryz.f34 fU eG) ?_;refine oh p (oh q (oh f (oh g (oh G ?_))));refine bL (by kernel_rfl) ?_ ?_
 ·refine oo i ?_;refine bL (by kernel_rfl) ?_ ?_
  ·exact fi
  refine bL (by kernel_rfl) ?_ ?_
  ·exact fi
  refine bL (by kernel_rfl) ?_ ?_ <;>
  ·exact fi
 refine bL (by kernel_rfl) ?_ ?_
 ·refine oo i ?_;refine bL (by kernel_rfl) ?_ ?_
  ·exact fi
  refine bL (by kernel_rfl) ?_ ?_ <;>
  ·exact fi
 refine bL (by kernel_rfl) ?_ ?_
 ·refine oo i ?_;refine bL (by kernel_rfl) ?_ ?_ <;>
  ·exact fi
 exact oo i fi
theorem aeW (p:bP l 22 K 5 h) (q:bP l n h d j) (f:bP l n j a k) (g:bP l n k b m) {s:List UInt8} (G:bP l 6 m x o) (i:ap ba 70 [.dat (.slice (encS JK)),.dat (.flat (.int .i64 x))]=some ⟨.ref [sb s],.keep⟩):tf l n c e K (eH 6 0 a b 0 s nl 0 [] 0 nl 0 0 []) o:=by
 refine co [] [93] (x:=.of Tryz.f34 fU eG) ?_;refine oh p (oh q (oh f (oh g (oh G ?_))));refine bL (by kernel_rfl) ?_ ?_
 ·refine oo i ?_;refine bL (by kernel_rfl) ?_ ?_
  ·exact fi
  refine bL (by kernel_rfl) ?_ ?_
  ·exact fi
  refine bL (by kernel_rfl) ?_ ?_ <;>
  ·exact fi
 refine bL (by kernel_rfl) ?_ ?_
 ·refine oo i ?_;refine bL (by kernel_rfl) ?_ ?_
  ·exact fi
  refine bL (by kernel_rfl) ?_ ?_ <;>
  ·exact fi
 refine bL (by kernel_rfl) ?_ ?_
 ·refine oo i ?_;refine bL (by kernel_rfl) ?_ ?_ <;>
  ·exact fi
 exact oo i fi
theorem aeV (q:bP l 22 K 6 i) (r:bP l n i d j) (f:bP l n j a k) (g:bP l n k b m) {h:List ak} (G:bP l 4 m x o) (s:Vc l n x o h p):tf l n c e K (eH 7 d 0 0 0 [] (sl h) 0 [] 0 nl 0 0 []) p:=by
 refine co [] [] (x:=.of Tryz.f34 fU eG) ?_;refine oh q (oh r (oh f (oh g (oh G (oh s ?_)))))
 rcases h with _|⟨t,u⟩ <;>
 ·exact fi
theorem aeU (o:bP l 22 K 7 h) (p:bP l n h d i) (f:bP l n i a j) (g:bP l n j b k) (G:bP l 3 k x m):tf l n c e K (eH 8 d a 0 x [] nl 0 [] 0 nl 0 0 []) m:=by
 refine co [] [] (x:=.of Tryz.f34 fU eG) ?_;exact oh o (oh p (oh f (oh g (oh G fi))))
theorem aeT (r:bP l 22 K 8 j) (s:bP l n j d k) (f:bP l n k a m) (g:bP l n m b o) {i:List ak} (T:Sz l o q t h i p):tf l n c e K (eH 9 d a 0 0 [] nl q t h (sl i) 0 0 []) p:=by
 have u:=oK;refine co [] [] (x:=.of Tryz.f34 fU eG) ?_;refine oh r (oh s (oh f (oh g (on u (oh T ?_)))))
 rcases i with _|⟨v,w⟩ <;>
 ·exact fi
theorem acy (v:bP l 22 K 9 m) (w:bP l n m d o) (f:bP l n o a p) (g:bP l n p b q) {t:Int} {s:List UInt8} {h:List ak} (G:bP l 3 q x r) (i:ap ba 70 [.dat (.slice (encS AP)),.dat (.flat (.int .i64 x))]=some ⟨.ref [sb s],.keep⟩) (k:bP l 3 r y t) (j:Vc l n y t h u):tf l n c e K (eH 10 d 0 0 0 s (sl h) 0 [] 0 nl 0 0 []) u:=by
 refine co [] [136] (x:=.of Tryz.f34 fU eG) ?_;refine oh v (oh w (oh f (oh g (oh G ?_))));refine bL (by kernel_rfl) ?_ ?_
 ·refine oo i ?_;refine bL (by kernel_rfl) ?_ ?_
  ·refine oh k (oh j ?_)
   rcases h with _|⟨L,M⟩ <;>
   ·exact fi
  refine oh k ?_;refine bL (by kernel_rfl) ?_ ?_
  ·refine oh j ?_
   rcases h with _|⟨N,O⟩ <;>
   ·exact fi
  refine oh j ?_;refine bL (by kernel_rfl) ?_ ?_
  ·rcases h with _|⟨P,Q⟩ <;>
   ·exact fi
  rcases h with _|⟨R,S⟩ <;>
  ·exact fi
 refine oh k ?_;refine bL (by kernel_rfl) ?_ ?_
 ·refine oo i ?_;refine bL (by kernel_rfl) ?_ ?_
  ·refine oh j ?_
   rcases h with _|⟨T,U⟩ <;>
   ·exact fi
  refine oh j ?_;refine bL (by kernel_rfl) ?_ ?_
  ·rcases h with _|⟨z,A⟩ <;>
   ·exact fi
  rcases h with _|⟨B,C⟩ <;>
  ·exact fi
 refine oh j ?_;refine bL (by kernel_rfl) ?_ ?_
 ·refine oo i ?_;refine bL (by kernel_rfl) ?_ ?_
  ·rcases h with _|⟨D,E⟩ <;>
   ·exact fi
  rcases h with _|⟨F,H⟩ <;>
  ·exact fi
 refine oo i ?_
 rcases h with _|⟨I,J⟩ <;>
 ·exact fi
theorem acx (v:bP l 22 K 10 m) (w:bP l n m d o) (f:bP l n o a p) (g:bP l n p b q) {t:Int} {s:List UInt8} {h:List ak} (G:bP l 3 q x r) (i:ap ba 70 [.dat (.slice (encS AP)),.dat (.flat (.int .i64 x))]=some ⟨.ref [sb s],.keep⟩) (k:bP l 3 r y t) (j:Vc l n y t h u):tf l n c e K (eH 11 d 0 0 0 s (sl h) 0 [] 0 nl 0 0 []) u:=by
 refine co [] [136] (x:=.of Tryz.f34 fU eG) ?_;refine oh v (oh w (oh f (oh g (oh G ?_))));refine bL (by kernel_rfl) ?_ ?_
 ·refine oo i ?_;refine bL (by kernel_rfl) ?_ ?_
  ·refine oh k (oh j ?_)
   rcases h with _|⟨L,M⟩ <;>
   ·exact fi
  refine oh k ?_;refine bL (by kernel_rfl) ?_ ?_
  ·refine oh j ?_
   rcases h with _|⟨N,O⟩ <;>
   ·exact fi
  refine oh j ?_;refine bL (by kernel_rfl) ?_ ?_
  ·rcases h with _|⟨P,Q⟩ <;>
   ·exact fi
  rcases h with _|⟨R,S⟩ <;>
  ·exact fi
 refine oh k ?_;refine bL (by kernel_rfl) ?_ ?_
 ·refine oo i ?_;refine bL (by kernel_rfl) ?_ ?_
  ·refine oh j ?_
   rcases h with _|⟨T,U⟩ <;>
   ·exact fi
  refine oh j ?_;refine bL (by kernel_rfl) ?_ ?_
  ·rcases h with _|⟨z,A⟩ <;>
   ·exact fi
  rcases h with _|⟨B,C⟩ <;>
  ·exact fi
 refine oh j ?_;refine bL (by kernel_rfl) ?_ ?_
 ·refine oo i ?_;refine bL (by kernel_rfl) ?_ ?_
  ·rcases h with _|⟨D,E⟩ <;>
   ·exact fi
  rcases h with _|⟨F,H⟩ <;>
  ·exact fi
 refine oo i ?_
 rcases h with _|⟨I,J⟩ <;>
 ·exact fi
theorem acw (o:bP l 22 K 11 h) (p:bP l n h d i) (f:bP l n i a j) (g:bP l n j b k) (G:bP l c k x m):tf l n c e K (eH 12 0 0 0 x [] nl 0 [] 0 nl 0 0 []) m:=by
 refine co [] [] (x:=.of Tryz.f34 fU eG) ?_;exact oh o (oh p (oh f (oh g (oh G fi))))
theorem acv (o:bP l 22 K 12 h) (p:bP l n h d i) (f:bP l n i a j) (g:bP l n j b k) (G:bP l c k x m):tf l n c e K (eH 13 0 a 0 x [] nl 0 [] 0 nl 0 0 []) m:=by
 refine co [] [] (x:=.of Tryz.f34 fU eG) ?_;exact oh o (oh p (oh f (oh g (oh G fi))))
theorem acu (m:bP l 22 K 13 h) (o:bP l n h d i) (f:bP l n i a j) (g:bP l n j b k) :tf l n c e K (eH 14 0 0 0 0 [] nl 0 [] 0 nl 0 0 []) k:=by
 refine co [] [] (x:=.of Tryz.f34 fU eG) ?_;exact oh m (oh o (oh f (oh g fi)))
theorem acs (m:bP l 22 K 14 h) (o:bP l n h d i) (f:bP l n i a j) (g:bP l n j b k) :tf l n c e K (eH 15 0 a 0 0 [] nl 0 [] 0 nl 0 0 []) k:=by
 refine co [] [] (x:=.of Tryz.f34 fU eG) ?_;exact oh m (oh o (oh f (oh g fi)))
theorem acr (m:bP l 22 K 15 h) (o:bP l n h d i) (f:bP l n i a j) (g:bP l n j b k) :tf l n c e K (eH 16 0 a 0 0 [] nl 0 [] 0 nl 0 0 []) k:=by
 refine co [] [] (x:=.of Tryz.f34 fU eG) ?_;exact oh m (oh o (oh f (oh g fi)))
theorem acq (p:bP l 22 K 16 h) (q:bP l n h d i) (f:bP l n i a j) (g:bP l n j b k) (o:aB e 0=false) (G:bP l e k x m):tf l n c e K (eH 17 0 0 0 x [] nl 0 [] 0 nl 0 0 []) m:=by
 refine co [169] [] (x:=.of Tryz.f34 fU eG) ?_;exact oh p (oh q (oh f (oh g (ob o (oh G fi)))))
theorem acp (m:bP l 22 K 17 h) (o:bP l n h d i) (f:bP l n i a j) (g:bP l n j b k) :tf l n c e K (eH 18 0 0 0 0 [] nl 0 [] 0 nl 0 0 []) k:=by
 refine co [] [] (x:=.of Tryz.f34 fU eG) ?_;exact oh m (oh o (oh f (oh g fi)))
theorem aco (m:bP l 22 K 18 h) (o:bP l n h d i) (f:bP l n i a j) (g:bP l n j b k) :tf l n c e K (eH 19 0 a 0 0 [] nl 0 [] 0 nl 0 0 []) k:=by
 refine co [] [] (x:=.of Tryz.f34 fU eG) ?_;exact oh m (oh o (oh f (oh g fi)))
theorem acn (o:bP l 22 K 19 h) (p:bP l n h d i) (f:bP l n i a j) (g:bP l n j b k) (G:bP l 4 k x m):tf l n c e K (eH 20 0 0 0 (an .i64 (1+x)) [] nl 0 [] 0 nl 0 0 []) m:=by
 refine co [] [] (x:=.of Tryz.f34 fU eG) ?_;exact oh o (oh p (oh f (oh g (oh G fi))))
theorem acm (m:bP l 22 K 20 h) (o:bP l n h d i) (f:bP l n i a j) (g:bP l n j b k) :tf l n c e K (eH 21 0 0 0 0 [] nl 0 [] 0 nl 0 0 []) k:=by
 refine co [] [] (x:=.of Tryz.f34 fU eG) ?_;exact oh m (oh o (oh f (oh g fi)))
theorem ack (r:bP l 22 K 21 i) (s:bP l n i d j) (f:bP l n j a k) (g:bP l n k b m) {h:List ak} (G:bP l 4 m x o) (t:bP l 3 o y p) (u:Vc l n y p h q):tf l n c e K (eH 22 d 0 0 (an .i64 (1+x)) [] (sl h) 0 [] 0 nl 0 0 []) q:=by
 refine co [] [] (x:=.of Tryz.f34 fU eG) ?_;refine oh r (oh s (oh f (oh g (oh G (oh t (oh u ?_))))))
 rcases h with _|⟨v,w⟩ <;>
 ·exact fi
theorem X4 (m:bP l 22 K 16 h) (p:bP l n h d i) (f:bP l n i a j) (g:bP l n j b k) (o:aB e 0=true):tf l n c e K (eH 14 0 0 0 0 [] nl 0 [] 0 nl 0 0 []) k:=by
 refine co [169] [] (x:=.of Tryz.f34 fU eG) ?_;exact oh m (oh p (oh f (oh g (ob o fi))))
theorem yS (l:List ak):sx false l=sl l:=by cases l <;> rfl
theorem Rg (a:Nat) (h:a < 6):∃s,JK[a]?=some s:=by simp_all[JK]
theorem we (a:Nat) (h:a < 3):∃s,AP[a]?=some s:=by simp_all[AP]
theorem cY:(Ty.mk 0 [] 0 []).gN:=⟨by simp[Ty.size,aQ],by simp[Ty.fY,fg,aB]⟩
def Ins.gen (x:Ins):Prop:=x.ty.gN/\x.ar.length < 1000000/\x.sK
theorem aii {x:Nat} (h:x<=1000000):[]∈H5/\((-1000000:Int)<=0/\(0:Int)<=1000000)/\(-1000000<=ofNat x/\ofNat x<=1000000):=⟨by decide,by decide,by grind⟩
theorem ad9:[]∈H5/\((-1000000:Int)<=0/\(0:Int)<=1000000)/\((-1000000:Int)<=0/\(0:Int)<=1000000):=by decide
theorem aih (x:Nat) (h:x<=100):-1000000<=an .i64 (1+ofNat x)/\an .i64 (1+ofNat x)<=1000000:=by
 rw[cQ,wrap_i64 (by grind) (by grind)];grind
theorem CY {x:Ins} (h:x.gen):x.gN:=⟨h.1,by have:=h.2.1;omega,h.2.2⟩
def GIn (l:List Int) (n c e k:Nat):Prop:=∃(x:Ins) (K:Nat),x.gen/\BG l k K/\tf (l.map iN) (ofNat n) (ofNat c) (ofNat e) (ofNat k) x.enc (ofNat K)
theorem eI {l:List Int} {n c e k K:Nat} (x:Ins) (b:x.gen) (h:BG l k K) (a:tf (l.map iN) (ofNat n) (ofNat c) (ofNat e) (ofNat k) x.enc (ofNat K)):GIn l n c e k:=⟨x,K,b,h,a⟩
theorem wa (g d a b m:Int) (n:List UInt8) (u:List Int) (k:Int) (t:List UInt8) (e:Int) (f:List Ty) (C I:Int) (c:List UInt8) :
  eH g d a b m n (sl (u.map iN)) k t e (sl (ax f)) C I c=(Ins.mk g d a b m n false u (.mk k t e f) C I c).enc:=by
 show _=ak.agg ([i64 g,i64 d,i64 a,i64 b,i64 m,sb n,sx false (u.map iN)]++((Ty.mk k t e f).cells++[i64 C,i64 I,sb c,nl]));rfl
theorem Uu {l:List Int} {n c e k:Nat} (hl:l.length < 10000000) (hk:k<=l.length) (N:0 < n) (ag:n < 1000000) (hc:0 < c) (af:c < 1000000) (he:e < 1000000):GIn l n c e k:=by
 have D:l.length < 1000000000:=by omega
 obtain⟨r,k1,⟨R,a1,a2,_⟩,z⟩:=aR (n:=22) D hk (by omega) (by omega);obtain⟨d,K,⟨_,b1,Q,_⟩,A⟩:=aR (n:=n) D a2 N (by omega);obtain⟨a,M,⟨_,p,q,_⟩,f⟩:=aR (n:=n) D Q N (by omega);obtain⟨b,k4,⟨_,d1,B,_⟩,g⟩:=aR (n:=n) D q N (by omega);have O:∀{k:Nat} (m:Nat),k<=l.length->m < 1000000->∃(u:List Int) (K:Nat),u.length=m/\BG l k K/\Vc (l.map iN) (ofNat n) (ofNat m) (ofNat k) (u.map iN) (ofNat K):=fun m hk hm=>LI D hk N (by omega) hm
 match r,R with
 | 0,_=>
  obtain⟨C,I,cs,J,E,F,G⟩:=Uy D B;exact eI ⟨1,(ofNat d),0,0,0,[],false,[],(.mk 0 [] 0 []),C,I,cs⟩ ⟨cY,by simp,⟨E.1,E.2,ad9.2.2⟩⟩ ⟨by have:=F.le;omega,F.top⟩ (ae0 z A f g G)
 | 1,_=>
  exact eI ⟨2,(ofNat d),(ofNat a),0,0,[],false,[],(.mk 0 [] 0 []),0,0,[]⟩ ⟨cY,by simp,ad9⟩ ⟨by omega,B⟩ (aeZ z A f g)
 | 2,_=>
  obtain⟨x,J,⟨i,w,h,_⟩,v⟩:=aR (n:=7) D B (by omega) (by omega)
  cases hu:aB (an .i64 (1+ofNat x)) 5 with
  | true=>exact eI ⟨3,(ofNat d),(ofNat a),0,(an .i64 (1+ofNat x)),[],false,[],(.mk 0 [] 0 []),0,0,[]⟩ ⟨cY,by simp,⟨ad9.1,ad9.2.1,by dsimp only;exact aih x (by omega)⟩⟩ ⟨by omega,h⟩ (acj z A f g v hu)
  | false=>exact eI ⟨3,(ofNat d),(ofNat a),(ofNat b),(an .i64 (1+ofNat x)),[],false,[],(.mk 0 [] 0 []),0,0,[]⟩ ⟨cY,by simp,⟨ad9.1,ad9.2.1,by dsimp only;exact aih x (by omega)⟩⟩ ⟨by omega,h⟩ (acj z A f g v hu)
 | 3,_=>
  obtain⟨t,J,t1,t2,T⟩:=Ey hl B;obtain⟨tk,tn,U,la⟩:=t;obtain⟨x,k6,⟨i,w,h,_⟩,v⟩:=aR (n:=3) D t2.top (by omega) (by omega);obtain⟨u,V,E,F,s⟩:=O x h (by omega);have L:=aeY (c:=ofNat c) (e:=ofNat e) z A f g T v s;rw[wa] at L;exact eI ⟨4,(ofNat d),0,0,0,[],false,u,(.mk tk tn U la),0,0,[]⟩ ⟨zk t1,by show u.length < _;omega,ad9⟩ ⟨by have:=t2.le;have:=F.le;omega,F.top⟩ (L)
 | 4,_=>
  obtain⟨x,J,⟨i,w,h,_⟩,v⟩:=aR (n:=6) D B (by omega) (by omega);obtain⟨S,H⟩:=Rg x i;exact eI ⟨5,(ofNat d),(ofNat a),0,0,S,false,[],(.mk 0 [] 0 []),0,0,[]⟩ ⟨cY,by simp,ad9⟩ ⟨by omega,h⟩ (aeX z A f g v (uB H))
 | 5,_=>
  obtain⟨x,J,⟨i,w,h,_⟩,v⟩:=aR (n:=6) D B (by omega) (by omega);obtain⟨S,H⟩:=Rg x i;exact eI ⟨6,0,(ofNat a),(ofNat b),0,S,false,[],(.mk 0 [] 0 []),0,0,[]⟩ ⟨cY,by simp,ad9⟩ ⟨by omega,h⟩ (aeW z A f g v (uB H))
 | 6,_=>
  obtain⟨x,J,⟨i,w,h,_⟩,v⟩:=aR (n:=4) D B (by omega) (by omega);obtain⟨u,V,E,F,s⟩:=O x h (by omega);have L:=aeV (c:=ofNat c) (e:=ofNat e) z A f g v s;have e0:=wa 7 (ofNat d) 0 0 0 [] u 0 [] 0 [] 0 0 [];have j:tf (l.map iN) (ofNat n) (ofNat c) (ofNat e) (ofNat k) (eH 7 (ofNat d) 0 0 0 [] (sl (u.map iN)) 0 [] 0 (sl (ax [])) 0 0 []) (ofNat V):=L;rw[e0] at j;exact eI ⟨7,(ofNat d),0,0,0,[],false,u,(.mk 0 [] 0 []),0,0,[]⟩ ⟨cY,by show u.length < _;omega,ad9⟩ ⟨by have:=F.le;omega,F.top⟩ (j)
 | 7,_=>
  obtain⟨x,J,⟨i,w,h,_⟩,v⟩:=aR (n:=3) D B (by omega) (by omega);exact eI ⟨8,(ofNat d),(ofNat a),0,(ofNat x),[],false,[],(.mk 0 [] 0 []),0,0,[]⟩ ⟨cY,by simp,aii (x:=x) (by omega)⟩ ⟨by omega,h⟩ (aeU z A f g v)
 | 8,_=>
  obtain⟨t,J,t1,t2,T⟩:=Ey hl B;obtain⟨tk,tn,U,la⟩:=t;have L:=aeT (c:=ofNat c) (e:=ofNat e) z A f g T;have j:tf (l.map iN) (ofNat n) (ofNat c) (ofNat e) (ofNat k) (eH 9 (ofNat d) (ofNat a) 0 0 [] (sl (([]:List Int).map iN)) tk tn U (sl (ax la)) 0 0 []) (ofNat J):=L;rw[wa] at j;exact eI ⟨9,(ofNat d),(ofNat a),0,0,[],false,[],(.mk tk tn U la),0,0,[]⟩ ⟨zk t1,by simp,ad9⟩ ⟨by have:=t2.le;omega,t2.top⟩ (j)
 | 9,_=>
  obtain⟨x,J,⟨i,w,h,_⟩,v⟩:=aR (n:=3) D B (by omega) (by omega);obtain⟨S,H⟩:=we x i;obtain⟨y,k6,⟨Z,Y,P,_⟩,W⟩:=aR (n:=3) D h (by omega) (by omega);obtain⟨u,V,E,F,s⟩:=O y P (by omega);have L:=acy (c:=ofNat c) (e:=ofNat e) z A f g v (uB H) W s;have j:tf (l.map iN) (ofNat n) (ofNat c) (ofNat e) (ofNat k) (eH 10 (ofNat d) 0 0 0 S (sl (u.map iN)) 0 [] 0 (sl (ax [])) 0 0 []) (ofNat V):=L;rw[wa] at j;exact eI ⟨10,(ofNat d),0,0,0,S,false,u,(.mk 0 [] 0 []),0,0,[]⟩ ⟨cY,by show u.length < _;omega,ad9⟩ ⟨by have:=F.le;omega,F.top⟩ (j)
 | 10,_=>
  obtain⟨x,J,⟨i,w,h,_⟩,v⟩:=aR (n:=3) D B (by omega) (by omega);obtain⟨S,H⟩:=we x i;obtain⟨y,k6,⟨Z,Y,P,_⟩,W⟩:=aR (n:=3) D h (by omega) (by omega);obtain⟨u,V,E,F,s⟩:=O y P (by omega);have L:=acx (c:=ofNat c) (e:=ofNat e) z A f g v (uB H) W s;have j:tf (l.map iN) (ofNat n) (ofNat c) (ofNat e) (ofNat k) (eH 11 (ofNat d) 0 0 0 S (sl (u.map iN)) 0 [] 0 (sl (ax [])) 0 0 []) (ofNat V):=L;rw[wa] at j;exact eI ⟨11,(ofNat d),0,0,0,S,false,u,(.mk 0 [] 0 []),0,0,[]⟩ ⟨cY,by show u.length < _;omega,ad9⟩ ⟨by have:=F.le;omega,F.top⟩ (j)
 | 11,_=>
  obtain⟨x,J,⟨i,w,h,_⟩,v⟩:=aR (n:=c) D B (by omega) (by omega);exact eI ⟨12,0,0,0,(ofNat x),[],false,[],(.mk 0 [] 0 []),0,0,[]⟩ ⟨cY,by simp,aii (x:=x) (by omega)⟩ ⟨by omega,h⟩ (acw z A f g v)
 | 12,_=>
  obtain⟨x,J,⟨i,w,h,_⟩,v⟩:=aR (n:=c) D B (by omega) (by omega);exact eI ⟨13,0,(ofNat a),0,(ofNat x),[],false,[],(.mk 0 [] 0 []),0,0,[]⟩ ⟨cY,by simp,aii (x:=x) (by omega)⟩ ⟨by omega,h⟩ (acv z A f g v)
 | 13,_=>
  exact eI ⟨14,0,0,0,0,[],false,[],(.mk 0 [] 0 []),0,0,[]⟩ ⟨cY,by simp,ad9⟩ ⟨by omega,B⟩ (acu z A f g)
 | 14,_=>
  exact eI ⟨15,0,(ofNat a),0,0,[],false,[],(.mk 0 [] 0 []),0,0,[]⟩ ⟨cY,by simp,ad9⟩ ⟨by omega,B⟩ (acs z A f g)
 | 15,_=>
  exact eI ⟨16,0,(ofNat a),0,0,[],false,[],(.mk 0 [] 0 []),0,0,[]⟩ ⟨cY,by simp,ad9⟩ ⟨by omega,B⟩ (acr z A f g)
 | 16,_=>
  by_cases ad:e=0
  ·subst ad;exact eI ⟨14,0,0,0,0,[],false,[],(.mk 0 [] 0 []),0,0,[]⟩ ⟨cY,by simp,ad9⟩ ⟨by omega,B⟩ (X4 z A f g rfl)
  obtain⟨x,J,⟨i,w,h,_⟩,v⟩:=aR (n:=e) D B (by omega) (by omega);have o:aB (ofNat e) 0=false:=dL (by simp;omega);exact eI ⟨17,0,0,0,(ofNat x),[],false,[],(.mk 0 [] 0 []),0,0,[]⟩ ⟨cY,by simp,aii (x:=x) (by omega)⟩ ⟨by omega,h⟩ (acq z A f g o v)
 | 17,_=>
  exact eI ⟨18,0,0,0,0,[],false,[],(.mk 0 [] 0 []),0,0,[]⟩ ⟨cY,by simp,ad9⟩ ⟨by omega,B⟩ (acp z A f g)
 | 18,_=>
  exact eI ⟨19,0,(ofNat a),0,0,[],false,[],(.mk 0 [] 0 []),0,0,[]⟩ ⟨cY,by simp,ad9⟩ ⟨by omega,B⟩ (aco z A f g)
 | 19,_=>
  obtain⟨x,J,⟨i,w,h,_⟩,v⟩:=aR (n:=4) D B (by omega) (by omega);exact eI ⟨20,0,0,0,(an .i64 (1+ofNat x)),[],false,[],(.mk 0 [] 0 []),0,0,[]⟩ ⟨cY,by simp,⟨ad9.1,ad9.2.1,by dsimp only;exact aih x (by omega)⟩⟩ ⟨by omega,h⟩ (acn z A f g v)
 | 20,_=>
  exact eI ⟨21,0,0,0,0,[],false,[],(.mk 0 [] 0 []),0,0,[]⟩ ⟨cY,by simp,ad9⟩ ⟨by omega,B⟩ (acm z A f g)
 | 21,_=>
  obtain⟨x,J,⟨i,w,h,_⟩,v⟩:=aR (n:=4) D B (by omega) (by omega);obtain⟨y,k6,⟨Z,Y,P,_⟩,W⟩:=aR (n:=3) D h (by omega) (by omega);obtain⟨u,V,E,F,s⟩:=O y P (by omega);have L:=ack (c:=ofNat c) (e:=ofNat e) z A f g v W s;have j:tf (l.map iN) (ofNat n) (ofNat c) (ofNat e) (ofNat k) (eH 22 (ofNat d) 0 0 (an .i64 (1+ofNat x)) [] (sl (u.map iN)) 0 [] 0 (sl (ax [])) 0 0 []) (ofNat V):=L;rw[wa] at j;exact eI ⟨22,(ofNat d),0,0,(an .i64 (1+ofNat x)),[],false,u,(.mk 0 [] 0 []),0,0,[]⟩ ⟨cY,by show u.length < _;omega,⟨ad9.1,ad9.2.1,by dsimp only;exact aih x (by omega)⟩⟩ ⟨by have:=F.le;omega,F.top⟩ (j)
 | r+22,R=>exact absurd R (by omega)
def dS:List ak->ac
 | []=>.dat nl
 | x::r=>.own (x::r)
theorem yo (h:l≠[]):dS l=.own l:=by
 cases l with
 | nil=>grind
 | cons a r=>rfl
noncomputable def hGC:Hints:=⟨bV,Tw,bi,rowsOf bi 9⟩
def TH (L s:Int) (A B:ac):Heap:=[(.loc 5,.cells [iv L,iv s,A,B]),(.loc 4,.cells (cC 0 0 nl nl))]
def Mg (l:List ak) (K L s P:Int) (B:ac) (i:Int):ab:=⟨[(6,iv i),(5,.ptr (.loc 5) 0),(4,.ptr (.loc 4) 0),(0,cq),(1,iv P)],TH L s (.dat nl) B,cW l K,1⟩
def Oh (l:List ak) (K L s P:Int) (B:ac) (i:Int):ab:=⟨[(26,bv false),(6,iv i),(5,.ptr (.loc 5) 0),(4,.ptr (.loc 4) 0),(0,cq),(1,iv P)],TH L s (.dat nl) B,cW l K,1⟩
abbrev SA (l:List ak) (P K:Int) (d:ak) (a:Int):Prop:=KC 33 [cq,iv P] (cW l K) 1 (XQ ⟨.dat d,cW l a,1⟩)
theorem Q5 {D:Int} {j h:List ak} {B:Int} {z:List UInt8} {J:Int} {L:List UInt8} {q:ak} {I:Bool} {v:ak} {C:List UInt8} {M:Int} {w:ak} {E:Int} {n p:ak} {F:List UInt8} (o:aF 0 i=true)
  (a:dj q) (b:dj v) (f:dj w) (g:dj n) (G:dj p)
  (N:SA l (an .i64 (P - 1)) K (B0 B z u J L k q I v C M t m w E y c n p F) x)
  (A:bB ba false 24 [.own j,.dat (.slice [.slice [B0 B z u J L k q I v C M t m w E y c n p F]])] none=some ⟨.own h,.keep⟩)
  (e:T .normal ((Mg l x D s P (.own h) (an .i64 (i - 1))).al pE)) :
  KD (roundOf Tryz.f9 0) T ((Mg l K D s P (dS j) i).al pE):=by
 rcases j with _|⟨d,r⟩ <;>
 ·exact aq [26] [37] (H:=hGC) (live:=CV) (ob o (oh N (oo A (oe e))))
theorem Ut {a:List ak} (o:aF 0 i=false) (e:T (.exit 0) ((Oh l K L s P (dS a) i).al pE)) :
  KD (roundOf Tryz.f9 0) T ((Mg l K L s P (dS a) i).al pE):=by
 rcases a with _|⟨d,r⟩ <;>
 ·exact aq [26] [] (H:=hGC) (live:=CV) (ob o (oe e))
def Mf (l:List ak) (K L s:Int) (A B:ac) (a i:Int):ab:=⟨[(8,iv i),(7,iv a),(5,.ptr (.loc 5) 0),(4,.ptr (.loc 4) 0),(0,cq)],TH L s A B,cW l K,1⟩
def Og (l:List ak) (K L s:Int) (A B:ac) (a i:Int):ab:=⟨[(45,bv false),(8,iv i),(7,iv a),(5,.ptr (.loc 5) 0),(4,.ptr (.loc 4) 0),(0,cq)],TH L s A B,cW l K,1⟩
theorem Q7 {p h g:List ak} {z:Int} {n:List UInt8} {v:ak} {w:Int} {u:ak} {c:List UInt8} (o:aF i (an .i64 (f - 1))=true)
  (B:KC 34 [cq,iv s,iv f,iv (ofNat p.length)] (cW l K) 1 (XQ ⟨.dat (eH z j a b m n v k t w u C I c),cW l q,1⟩))
  (A:bB ba false 23 [.own h,.dat (.slice [eH z j a b m n v k t w u C I c])] none=some ⟨.own g,.keep⟩)
  (e:T .normal ((Mf l q L s (.own g) (dS p) f (an .i64 (i+1))).al pE)) :
  KD (roundOf Tryz.f9 1) T ((Mf l K L s (dS h) (dS p) f i).al pE):=by
 rcases h with _|⟨d,r⟩ <;>
 ·rcases p with _|⟨x,y⟩ <;>
  ·exact aq [45] [59] (H:=hGC) (live:=CV) (ob o (oh B (oo A (oe e))))
theorem UB {c b:List ak} (o:aF i (an .i64 (a - 1))=false) (e:T (.exit 2) ((Og l K L s (dS b) (dS c) a i).al pE)) :
  KD (roundOf Tryz.f9 1) T ((Mf l K L s (dS b) (dS c) a i).al pE):=by
 rcases b with _|⟨d,r⟩ <;>
 ·rcases c with _|⟨x,y⟩ <;>
  ·exact aq [45] [] (H:=hGC) (live:=CV) (ob o (oe e))
def mJ (c:Bool):Int:=match c with|true=>16|false=>19
theorem X7 {t B z w J M:Int} {i j h:List ak} {c:Bool}
  (a:bP l 3 K L k) (b:bP l 4 k x n) (f:bP l 3 n y o) (H:Nx ba [iv P,iv 1]=some ⟨iv m,.keep⟩)
  (W:KD (.loop (roundOf Tryz.f9 0)) (fun e q=>e=.exit 0/\q=(Oh l p L (an .i64 (an .i64 (L+1)+x)) P (dS i) J).al pE) ((Mg l o L (an .i64 (an .i64 (L+1)+x)) P (dS []) (an .i64 (y*m))).al pE))
  (g:bP l 9 p z t)
  (F:KD (.loop (roundOf Tryz.f9 1)) (fun e q=>e=.exit 2/\q=(Og l v L (an .i64 (an .i64 (L+1)+x)) (dS j) (dS i) (an .i64 (2+z)) M).al pE) ((Mf l t L (an .i64 (an .i64 (L+1)+x)) (dS []) (dS i) (an .i64 (2+z)) 0).al pE))
  (G:bP l (an .i64 (an .i64 (L+1)+x)) v w B) (E:bP l 4 B u C) (I:aB u 3=c)
  (A:bB ba false 23 [.own j,.dat (.slice [eH (mJ c) 0 w 0 0 [] nl 0 [] 0 nl 0 0 []])] none=some ⟨.own h,.keep⟩) :
  KC 9 [cq,iv P] (cW l K) 1 (XQ ⟨.dat (aN L (an .i64 (an .i64 (L+1)+x)) (.slice h) (sl i)),cW l C,1⟩):=by
 cases c <;>
 ·rcases j with _|⟨d,r⟩ <;>
  ·rcases i with _|⟨x,y⟩ <;>
   ·refine co [68] [23,76] (x:=.of Tryz.f9 Tw CV) ?_;refine oh a (oh b (oh f (oo H ?_)));refine lo W ?_;rintro D s ⟨rfl,rfl⟩;refine⟨_,rfl,?_⟩;refine oh g ?_;refine lo F ?_;rintro D s ⟨rfl,rfl⟩;refine⟨_,rfl,?_⟩;exact oh G (oh E (ob I (oo A fi)))
abbrev NP (k:Int) (n:List UInt8) (x:Int) (a:List ak):ak:=.agg [i64 k,sb n,i64 x,sl a]
theorem aph (x:ak) (l:List ak):ae 63 [.dat (.slice (x::l))] (.dat (.agg [i64 3,sb [],i64 0,.slice (x::l)])):=by
 refine co [] [] (x:=.of Tryz.f63 P8 Qv) ?_;exact fi
abbrev CoT (l:List ak) (P K:Int) (L s:Int) (c b:List ak) (a:Int):Prop:=KC 9 [cq,iv P] (cW l K) 1 (XQ ⟨.dat (aN L s (.slice c) (sl b)),cW l a,1⟩)
theorem ae8 {k p:List UInt8} {m g f:List ak} {n:Bool} (T:Sz l K q t e m h) (r:bP l 6 h 0 i) (b:bP l 8 i a j)
  (v:ap ba 112 [.dat (.slice (lJ mq)),iv a]=some ⟨.ref [sb k,i64 u,i64 o,sb p,i64 c,sl g,bl n,sl f],.keep⟩) :
  SA l P K (B0 1 k u o p c (sl g) n (sl f) [] 0 [] 0 nl 0 0 0 nl nl []) j:=by
 have d:=oK;have s:=aph (NP q t e m) [];refine co [] [21] (x:=.of Tryz.f33 tP ou) ?_;refine on d (oh T (on s (oh r (on d (oh b (oo v ?_))))))
 rcases g with _|⟨z,A⟩
 ·rcases f with _|⟨w,y⟩ <;>
  ·exact fi
 rcases f with _|⟨B,C⟩ <;>
 ·exact fi
theorem ae7 {g:Int} {s:List UInt8} {e:List ak} (T:Sz l K f t c e g) (j:bP l 6 g 1 h) (b:bP l 3 h a i)
  (m:ap ba 70 [.dat (.slice (encS AP)),.dat (.flat (.int .i64 a))]=some ⟨.ref [sb s],.keep⟩) :
  SA l P K (B0 3 [] 0 0 [] 0 nl false nl s 3 [] 0 (.slice [NP f t c e]) 0 0 0 nl nl []) i:=by
 have d:=oK;have k:=aph (NP f t c e) [];refine co [] [31] (x:=.of Tryz.f33 tP ou) ?_;exact on d (oh T (on k (oh j (oh b (oo m fi)))))
theorem ae6 {g:Int} {h:List ak} (T:Sz l K i t c h e) (j:bP l 6 e 2 f) (b:bP l 2 f a g) :
  SA l P K (B0 (an .i64 (4+a)) [] 0 0 [] 0 nl false nl [] 0 [] 0 nl 0 0 0 nl nl [112]) g:=by
 have d:=oK;have k:=aph (NP i t c h) [];refine co [] [] (x:=.of Tryz.f33 tP ou) ?_;exact on d (oh T (on k (oh j (oh b fi))))
theorem adu {g:Int} {n:List UInt8} {f m e:List ak} (T:Sz l K g t c f h) (o:bP l 6 h r i) (v:aB r 0=false) (w:aB r 1=false) (y:aB r 2=false)
  (q:CoT l P i 1 s m e j) (b:bP l 3 j a k) (u:ap ba 70 [.dat (.slice (encS AP)),.dat (.flat (.int .i64 a))]=some ⟨.ref [sb n],.keep⟩) :
  SA l P K (B0 2 [] 0 0 [] 0 nl false nl n 3 [] 0 (.slice [NP g t c f]) 1 1 s (.slice m) (sl e) []) k:=by
 have d:=oK;have p:=aph (NP g t c f) [];refine co [17,25,36] [57] (x:=.of Tryz.f33 tP ou) ?_;refine on d (oh T (on p (oh o (ob v (ob w (ob y (oh q ?_)))))))
 rcases e with _|⟨z,A⟩ <;>
 ·exact oh b (oo u fi)
theorem adt {n:List UInt8} {g p f:List ak} (T:Sz l K h t c g i) (q:bP l 6 i r j) (z:aB r 0=false) (A:aB r 1=false) (B:aB r 2=false)
  (v:CoT l P j e s p f k) (w:aB e 1=false) (V:bP l 5 k 4 m) (b:bP l 3 m a o) (y:ap ba 70 [.dat (.slice (encS AP)),.dat (.flat (.int .i64 a))]=some ⟨.ref [sb n],.keep⟩) :
  SA l P K (B0 2 [] 0 0 [] 0 nl false nl n 3 [] 0 (.slice [NP h t c g]) e e s (.slice p) (sl f) []) o:=by
 have d:=oK;have u:=aph (NP h t c g) [];refine co [17,25,36,46] [57] (x:=.of Tryz.f33 tP ou) ?_;refine on d (oh T (on u (oh q (ob z (ob A (ob B (oh v ?_)))))))
 rcases f with _|⟨C,D⟩ <;>
 ·exact ob w (oh V (oh b (oo y fi)))
noncomputable def hGE:Hints:=⟨bV,tP,bi,rowsOf bi 33⟩
def ab2 (L s:Int) (b:List ak) (a:ak) (A:ac):Heap:=[(.loc 7,.cells [iv 3,.dat (sb []),iv 0,A]),(.loc 6,.cells (cC L s (.slice b) a)),(.loc 4,.cells (cE 0 [] 0 0 [] 0 nl false nl [] 0 [] 0 nl 0 0 0 nl nl []))]
def Me (l:List ak) (K L s:Int) (b:List ak) (a:ak) (A:ac) (i:Int):ab:=⟨[(8,iv i),(7,.ptr (.loc 7) 0),(6,.ptr (.loc 6) 0),(4,.ptr (.loc 4) 0),(0,cq)],ab2 L s b a A,cW l K,1⟩
def Of (l:List ak) (K L s:Int) (b:List ak) (a:ak) (A:ac) (i:Int):ab:=⟨[(68,bv false),(8,iv i),(7,.ptr (.loc 7) 0),(6,.ptr (.loc 6) 0),(4,.ptr (.loc 4) 0),(0,cq)],ab2 L s b a A,cW l K,1⟩
theorem Q3 {h:List ak} {g:ak} {b a:List ak} {j:List ak} (o:aF i L=true) (n:Sz l K k t c j f)
  (A:bB ba false 38 [.own b,.dat (.slice [NP k t c j])] none=some ⟨.own a,.keep⟩)
  (e:T .normal ((Me l f L s h g (.own a) (an .i64 (i+1))).al tT)) :
  KD (roundOf Tryz.f33 0) T ((Me l K L s h g (dS b) i).al tT):=by
 have m:=oK
 rcases b with _|⟨d,r⟩ <;>
 ·exact aq [68] [77] (H:=hGE) (live:=ou) (ob o (on m (oh n (oo A (oe e)))))
theorem Uq {c:List ak} {b:ak} {a:List ak} (o:aF i L=false)
  (e:T (.exit 1) ((Of l K L s c b (dS a) i).al tT)) :
  KD (roundOf Tryz.f33 0) T ((Me l K L s c b (dS a) i).al tT):=by
 rcases a with _|⟨d,r⟩ <;>
 ·exact aq [68] [] (H:=hGE) (live:=ou) (ob o (oe e))
theorem ads {z B g:Int} {n:List UInt8} {A h f j:List ak} (T:Sz l K B t g A k) (C:bP l 6 k r m) (J:aB r 0=false) (L:aB r 1=false) (M:aB r 2=false)
  (F:CoT l P m c s h f o) (w:aB c 1=false) (V:bP l 5 o v p) (i:aB v 4=false)
  (H:KD (.loop (roundOf Tryz.f33 0)) (fun e q=>e=.exit 1/\q=(Of l u c s h (sl f) (dS j) I).al tT) ((Me l p c s h (sl f) (dS []) 0).al tT))
  (b:bP l 3 u a z) (G:ap ba 70 [.dat (.slice (encS AP)),.dat (.flat (.int .i64 a))]=some ⟨.ref [sb n],.keep⟩) :
  SA l P K (B0 2 [] 0 0 [] 0 nl false nl n 3 [] 0 (sl j) c c s (.slice h) (sl f) []) z:=by
 have E:=oK;have D:=aph (NP B t g A) []
 rcases j with _|⟨d,r⟩ <;>
 ·rcases f with _|⟨x,y⟩ <;>
  ·refine co [17,25,36,46,50] [84] (x:=.of Tryz.f33 tP ou) ?_;refine on E (oh T (on D (oh C (ob J (ob L (ob M (oh F (ob w (oh V (ob i ?_))))))))));refine lo H ?_;rintro N s ⟨rfl,rfl⟩;refine⟨_,rfl,?_⟩;exact oh b (oo G fi)
noncomputable def Z6:Hints:=⟨bV,P8,bi,rowsOf bi 38⟩
def yZ (c:List ac) (d:Int) (a:List ak) (i:Int):ab:=⟨[(59,iv i),(58,iv (ofNat a.length)),(57,.dat (.slice a)),(2,.ptr (.loc 2) 0),(1,iv d)],[(.loc 2,.cells c)],[],0⟩
def DJ (c:List ac) (d:Int) (a:List ak) (i:Int):ab:=⟨[(60,bv false),(59,iv i),(58,iv (ofNat a.length)),(57,.dat (.slice a)),(2,.ptr (.loc 2) 0),(1,iv d)],[(.loc 2,.cells c)],[],0⟩
def pf (e:Int):ab:=⟨[(4,iv e)],[],[],0⟩
def rQ (d n:Int) (S:ak) (i:Int):ab:=⟨[(91,iv i),(90,iv n),(89,.dat S),(1,iv d)],[],[],0⟩
def vp (d n:Int) (S:ak) (i:Int):ab:=⟨[(92,bv false),(91,iv i),(90,iv n),(89,.dat S),(1,iv d)],[],[],0⟩
def Ck (d n:Int) (S:ak) (i:Int) (l:List ak) (k:Int):ab:=⟨[(97,iv k),(96,iv (ofNat l.length)),(95,.dat (.slice l)),(91,iv i),(90,iv n),(89,.dat S),(1,iv d)],[],[],0⟩
def Ie (d n:Int) (S:ak) (i:Int) (l:List ak) (k:Int):ab:=⟨[(98,bv false),(97,iv k),(96,iv (ofNat l.length)),(95,.dat (.slice l)),(91,iv i),(90,iv n),(89,.dat S),(1,iv d)],[],[],0⟩
theorem aeo {sl:Int} {f:List ak} {l:ak} (u:dj l) {n:List UInt8} {q:ak} {y:ak} {c:List UInt8} (s:dj q) (g:dj y) {r:Bool} (o:aF i (ofNat f.length)=true)
  (v:ap ba 23 [.dat (.slice f),.dat (.flat (.int .i64 i))]=some ⟨.ref [i64 j,i64 e,i64 a,i64 b,i64 m,sb n,q,i64 k,sb t,i64 h,y,i64 C,i64 I,sb c,nl],.keep⟩) (V:ae 67 [.dat (aN p sl (.slice f) l),.dat (eH j e a b m n q k t h y C I c)] (bv r))
  (E:r=true->T .normal ((yZ (cC p sl (.slice f) l) d f (an .i64 (i+1))).al cO)) (F:r=false->T .ret ((pf 2).al cO)) :
  KD (roundOf Tryz.f38 0) T ((yZ (cC p sl (.slice f) l) d f i).al cO):=by
 have w:=@yv false j e a b m n _ k t h _ C I c s g;have x:=@Ic 6 j e a b m n _ k t h _ C I c s g;have z:=@QJ false 6 j e a b m n q k t h y C I c s g;have A:=@aO false 2 p sl (.slice f) _ (.inr ⟨_,rfl⟩) u;refine aq [60] [61,62,100006,63,64] (H:=Z6) (live:=aeM) (ob o (oo v (oo w (oo x (oo A (oo z (on V ?_)))))))
 cases r
 ·exact oe (F rfl)
 exact oe (E rfl)
theorem aaj {sl:Int} {a:List ak} {b:ak} (o:aF i (ofNat a.length)=false) (e:T (.exit 1) ((DJ (cC p sl (.slice a) b) d a i).al cO)) :
  KD (roundOf Tryz.f38 0) T ((yZ (cC p sl (.slice a) b) d a i).al cO):=by
 exact aq [60] [] (H:=Z6) (live:=aeM) (ob o (oe e))
theorem aep {S:ak} {m:List UInt8} {w:Int} {x:List UInt8} {C:ak} {s:Bool} {D:ak} {p:List UInt8} {I:ak} {A B:ak} {r:List UInt8} (a:dj C) (b:dj D) (f:dj I) (g:dj A) (G:dj B) (J:aF k (ofNat l.length)=true)
  (K:ap ba 54 [.dat (.slice l),.dat (.flat (.int .i64 k))]=some ⟨.ref [i64 o,sb m,i64 u,i64 w,sb x,i64 e,C,bl s,D,sb p,i64 y,sb t,i64 h,I,i64 q,i64 j,i64 c,A,B,sb r],.keep⟩) (V:ae 69 [.dat (B0 o m u w x e C s D p y t h I q j c A B r),iv d] (iv v)) (L:aB v 0=z)
  (E:z=true->T .normal ((Ck d n S i l (an .i64 (k+1))).al cO)) (F:z=false->T .ret ((pf v).al cO)) :
  KD (roundOf Tryz.f38 2) T ((Ck d n S i l k).al cO):=by
 have M:=@QK false o m u w x e _ s _ p y t h _ q j c _ _ r a b f g G;have N:=@Vo 12 o m u w x e _ s _ p y t h _ q j c _ _ r a b f g G;have O:=@ab5 false 12 o m u w x e _ s _ p y t h _ q j c _ _ r a b f g G;refine aq [98,105] [99,100,100012,101] (H:=Z6) (live:=aeM) (ob J (oo K (oo M (oo N (oo O (on V (ox L ?_)))))))
 cases z
 ·exact oe (F rfl)
 exact oe (E rfl)
theorem aak {S:ak} (a:aF k (ofNat l.length)=false) (e:T (.exit 5) ((Ie d n S i l k).al cO)) :
  KD (roundOf Tryz.f38 2) T ((Ck d n S i l k).al cO):=by
 exact aq [98] [] (H:=Z6) (live:=aeM) (ob a (oe e))
theorem aeq {a:List ak} (b:aF i (ofNat a.length)=true)
  (c:ap ba 24 [.dat (.slice a),.dat (.flat (.int .i64 i))]=some ⟨.ref [.slice l],.keep⟩)
  (f:KD (.loop (roundOf Tryz.f38 2)) (fun e q=>(e=.exit 5/\z=true/\∃k,q=(Ie d (ofNat a.length) (.slice a) i l k).al cO)∨(e=.ret/\z=false/\q=(pf v).al cO)) ((Ck d (ofNat a.length) (.slice a) i l 0).al cO))
  (E:z=true->T .normal ((rQ d (ofNat a.length) (.slice a) (an .i64 (i+1))).al cO)) (F:z=false->T .ret ((pf v).al cO)) :
  KD (roundOf Tryz.f38 1) T ((rQ d (ofNat a.length) (.slice a) i).al cO):=by
 refine aq [92] [93] (H:=Z6) (live:=aeM) (ob b (oo c ?_));refine lo f ?_;rintro g s (⟨rfl,rfl,⟨h,rfl⟩⟩|⟨rfl,rfl,rfl⟩)
 ·refine⟨_,rfl,?_⟩;exact oe (E rfl)
 refine⟨_,rfl,?_⟩;exact oe (F rfl)
theorem Ve {S:ak} (a:aF i n=false) (e:T (.exit 3) ((vp d n S i).al cO)) :
  KD (roundOf Tryz.f38 1) T ((rQ d n S i).al cO):=by
 exact aq [92] [] (H:=Z6) (live:=aeM) (ob a (oe e))
theorem aaf {sl:Int} {es dd:List ak} {b f g h j k m a c r n:Bool} {s:kG}
  (D:aF 40 d=b) (K:aF 200 sl=f) (F:aF p 0=j) (G:aF 6 p=k) (H:aF sl p=m) (M:aF 2000 (ofNat es.length)=g) (E:aF 2000 (ofNat dd.length)=h) (I:aB (ofNat es.length) 0=a)
  (l:a=false->KD (.loop (roundOf Tryz.f38 0)) (fun e q=>(e=.exit 1/\c=true/\∃i,q=(DJ (cC p sl (.slice es) (.slice dd)) d es i).al cO)∨(e=.ret/\c=false/\q=(pf 2).al cO)) ((yZ (cC p sl (.slice es) (.slice dd)) d es 0).al cO))
  {t:Int} {J:List ak} (B:a=false->ap ba 23 [.dat (.slice es),.dat (.flat (.int .i64 (an .i64 (ofNat es.length - 1))))]=some ⟨.ref (i64 t::J),.keep⟩)
  (C:ae 58 [iv t] (.tup [.dat s.enc,bv n])) (A:c=true->ae 68 [.dat (aN p sl (.slice es) (.slice dd))] (bv r))
  (y:b=false->KD (.loop (roundOf Tryz.f38 1)) (fun e q=>(e=.exit 3/\z=true/\∃i,q=(vp d (ofNat dd.length) (.slice dd) i).al cO)∨(e=.ret/\z=false/\q=(pf v).al cO)) ((rQ d (ofNat dd.length) (.slice dd) 0).al cO)) :
  ae 38 [.dat (aN p sl (.slice es) (.slice dd)),iv d] (iv (nt b f g h j k m a c s.fin r (if z=true then 0 else v))):=by
 have L:=@aO false 2 p sl (.slice es) (.slice dd) (.inr ⟨_,rfl⟩) (.inr ⟨_,rfl⟩);obtain⟨w,O,P,Q,R,S,T,U,V,W,N,o⟩:=s;refine co [16,20,26,32,37,41,48,54] [75,85] (x:=.of Tryz.f38 P8 aeM) ?_;refine ob D ?_
 cases b
 ·refine ob K ?_
  cases f
  ·refine ob M ?_
   cases g
   ·refine ob E ?_
    cases h
    ·refine ob F ?_
     cases j
     ·refine ob G ?_
      cases k
      ·refine ob H ?_
       cases m
       ·refine ob I ?_
        cases a
        ·refine lo (l rfl) ?_;rintro u s (⟨rfl,rfl,⟨Y,rfl⟩⟩|⟨rfl,rfl,rfl⟩)
         ·refine⟨_,rfl,?_⟩;refine oo (B rfl) (on C ?_)
          cases o
          ·exact fi
          refine oo L (on (A rfl) ?_)
          cases r
          ·refine lo (y rfl) ?_;rintro u s (⟨rfl,rfl,⟨Z,rfl⟩⟩|⟨rfl,rfl,rfl⟩) <;>
           ·refine⟨_,rfl,?_⟩;exact fi
          exact fi
         refine⟨_,rfl,?_⟩;exact fi
        exact fi
       exact fi
      exact fi
     exact fi
    exact fi
   exact fi
  exact fi
 exact fi
theorem aag {p sl d:Int} {a O:List ak} {c g h N j k m b f r z n:Bool} {v:Int} {s:kG}
  (D:aF 40 d=c) (K:aF 200 sl=g) (E:aF p 0=j) (F:aF 6 p=k) (G:aF sl p=m) (M:aF 2000 (ofNat a.length)=h) (H:aB (ofNat a.length) 0=b)
  (l:b=false->KD (.loop (roundOf Tryz.f38 0)) (fun e q=>(e=.exit 1/\f=true/\∃i,q=(DJ (cC p sl (.slice a) nl) d a i).al cO)∨(e=.ret/\f=false/\q=(pf 2).al cO)) ((yZ (cC p sl (.slice a) nl) d a 0).al cO))
  {t:Int} {I:List ak} (B:b=false->ap ba 23 [.dat (.slice a),.dat (.flat (.int .i64 (an .i64 (ofNat a.length - 1))))]=some ⟨.ref (i64 t::I),.keep⟩)
  (C:ae 58 [iv t] (.tup [.dat s.enc,bv n])) (A:f=true->ae 68 [.dat (aN p sl (.slice a) nl)] (bv r))
  (y:c=false->KD (.loop (roundOf Tryz.f38 1)) (fun e q=>(e=.exit 3/\z=true/\∃i,q=(vp d 0 nl i).al cO)∨(e=.ret/\z=false/\q=(pf v).al cO)) ((rQ d 0 nl 0).al cO)) :
  ae 38 [.dat (aN p sl (.slice a) nl),iv d] (iv (nt c g h false j k m b f s.fin r (if z=true then 0 else v))):=by
 have J:=@aO false 2 p sl (.slice a) nl (.inr ⟨_,rfl⟩) (.inl rfl);obtain⟨w,P,Q,R,S,T,U,V,W,Y,L,o⟩:=s;refine co [16,20,26,37,41,48,54] [75,85] (x:=.of Tryz.f38 P8 aeM) ?_;refine ob D ?_
 cases c
 ·refine ob K ?_
  cases g
  ·refine ob M ?_
   cases h
   ·refine ob E ?_
    cases j
    ·refine ob F ?_
     cases k
     ·refine ob G ?_
      cases m
      ·refine ob H ?_
       cases b
       ·refine lo (l rfl) ?_;rintro u s (⟨rfl,rfl,⟨Z,rfl⟩⟩|⟨rfl,rfl,rfl⟩)
        ·refine⟨_,rfl,?_⟩;refine oo (B rfl) (on C ?_)
         cases o
         ·exact fi
         refine oo J (on (A rfl) ?_)
         cases r
         ·refine lo (y rfl) ?_;rintro u s (⟨rfl,rfl,⟨x1,rfl⟩⟩|⟨rfl,rfl,rfl⟩) <;>
          ·refine⟨_,rfl,?_⟩;exact fi
         exact fi
        refine⟨_,rfl,?_⟩;exact fi
       exact fi
      exact fi
     exact fi
    exact fi
   exact fi
  exact fi
 exact fi
theorem aah {p sl d:Int} {r g:List ak} {a q n b c e f o t u z m:Bool} {v:Int} {s:kG}
  (h:aF 40 d=a) (K:aF 200 sl=q) (j:aF p 0=c) (k:aF 6 p=e) (l:aF sl p=f) (i:aF 2000 (ofNat g.length)=b) :
  ae 38 [.dat (aN p sl nl (.slice g)),iv d] (iv (nt a q false b c e f true false false false 0)):=by
 refine co [16,20,32,37,41,48] [] (x:=.of Tryz.f38 P8 aeM) ?_;refine ob h ?_
 cases a
 ·refine ob K ?_
  cases q
  ·refine ob i ?_
   cases b
   ·refine ob j ?_
    cases c
    ·refine ob k ?_
     cases e
     ·refine ob l ?_
      cases f <;>
      ·exact fi
     exact fi
    exact fi
   exact fi
  exact fi
 exact fi
theorem aai {p sl d:Int} {o n:List ak} {a q k l b c e m r t z j:Bool} {v:Int} {s:kG}
  (f:aF 40 d=a) (K:aF 200 sl=q) (g:aF p 0=b) (h:aF 6 p=c) (i:aF sl p=e) :
  ae 38 [.dat (aN p sl nl nl),iv d] (iv (nt a q false false b c e true false false false 0)):=by
 refine co [16,20,37,41,48] [] (x:=.of Tryz.f38 P8 aeM) ?_;refine ob f ?_
 cases a
 ·refine ob K ?_
  cases q
  ·refine ob g ?_
   cases b
   ·refine ob h ?_
    cases c
    ·refine ob i ?_
     cases e <;>
     ·exact fi
    exact fi
   exact fi
  exact fi
 exact fi
theorem aab {p sl:Int} {i h:List ak} {c q d e:Bool} (a:aB p 0=c) (b:aB sl 0=q) (f:aB (ofNat i.length) 0=d) (g:aB (ofNat h.length) 0=e):ae 103 [.dat (aN p sl (.slice i) (.slice h))] (bv (c&&(q&&(d&&e)))):=by
 refine co [5,9,15,21] [] (x:=.of Tryz.f103 P8 QG) ?_;refine ob a ?_
 cases c
 ·exact fi
 refine ob b ?_
 cases q
 ·exact fi
 refine ob f ?_
 cases d
 ·exact fi
 refine ob g ?_
 cases e <;>
 ·exact fi
theorem aac {p sl:Int} {e h:List ak} {c q d g:Bool} (a:aB p 0=c) (b:aB sl 0=q) (f:aB (ofNat e.length) 0=d):ae 103 [.dat (aN p sl (.slice e) nl)] (bv (c&&(q&&(d&&true)))):=by
 refine co [5,9,15] [] (x:=.of Tryz.f103 P8 QG) ?_;refine ob a ?_
 cases c
 ·exact fi
 refine ob b ?_
 cases q
 ·exact fi
 refine ob f ?_
 cases d <;>
 ·exact fi
theorem aad {p sl:Int} {h e:List ak} {c q f d:Bool} (a:aB p 0=c) (b:aB sl 0=q) (g:aB (ofNat e.length) 0=d):ae 103 [.dat (aN p sl nl (.slice e))] (bv (c&&(q&&(true&&d)))):=by
 refine co [5,9,21] [] (x:=.of Tryz.f103 P8 QG) ?_;refine ob a ?_
 cases c
 ·exact fi
 refine ob b ?_
 cases q
 ·exact fi
 refine ob g ?_
 cases d <;>
 ·exact fi
theorem aae {p sl:Int} {g f:List ak} {c q d e:Bool} (a:aB p 0=c) (b:aB sl 0=q):ae 103 [.dat (aN p sl nl nl)] (bv (c&&(q&&(true&&true)))):=by
 refine co [5,9] [] (x:=.of Tryz.f103 P8 QG) ?_;refine ob a ?_
 cases c
 ·exact fi
 refine ob b ?_
 cases q <;>
 ·exact fi
theorem SI {d v:Int} {i:Int} {r:List UInt8} {u B:Int} {C:List UInt8} {e:Int} {n:ak} {A:Bool} {o:ak} {s:List UInt8} {E:Int} {t:List UInt8} {h:Int} {D:ak} {w j c:Int} {k l:ak} {y:List UInt8} (a:dj n) (b:dj o) (f:dj D) (g:dj k) (G:dj l) {p q m z:Bool} (I:aF i 1=p) (K:aF 5 i=q) (M:aB i 2=m) (H:ae 103 [.dat (aN j c k l)] (bv z)) (V:ae 38 [.dat (aN j c k l),iv (an .i64 (d+1))] (iv v)) :
  ae 69 [.dat (B0 i r u B C e n A o s E t h D w j c k l y),iv d] (iv (sc p q m z v)):=by
 have J:=@adN i r u B C e _ A _ s E t h _ w j c _ _ y a b f g G;have F:=@QL false 2 i r u B C e n A o s E t h D w j c _ _ y g G;refine co [8,12,17,27] [2,29,20] (x:=.of Tryz.f69 P8 Qt) ?_;refine oo J (ob I ?_)
 cases p
 ·refine ob K ?_
  cases q
  ·refine ox M ?_
   cases m
   ·refine oo F (on H ?_)
    cases z
    ·exact fi
    exact ox M fi
   exact ox M (oo F (on V fi))
  exact fi
 exact fi
theorem gM.yH (L sl:Int) (e:Bool) (a:List Ins) (c:Bool) (b:List (List fG)) (d:Nat):gM.val (.mk L sl e a c b) d=C0 d L sl a b.length (kB b d):=by rw[gM.val]
theorem fG.yH (k:Int) (a:vh) (f:List UInt8) (e:Ty) (L:Int) (c:gM) (b:List UInt8) (d:Nat):fG.val (.mk k a f e L c b) d=sc (aF k 1) (aF 5 k) (aB k 2) c.zero (c.val (d+1)):=by rw[fG.val]
mutual
def gM.ok:gM->Prop
 | .mk _ _ _ a _ b=>(∀x∈a,x.gN)/\a.length < 1000000/\b.length < 1000000/\nj b
def nj:List (List fG)->Prop
 | []=>True
 | l::r=>l.length < 1000000/\Ss l/\nj r
def Ss:List fG->Prop
 | []=>True
 | e::r=>e.ok/\Ss r
def fG.ok:fG->Prop
 | .mk _ d _ s _ c _=>d.gN/\s.gN/\c.ok
end
theorem Al:∀{l:List (List fG)},nj l->∀x∈l,x.length < 1000000/\Ss x
 | [],_,x,b=>by grind
 | a::r,h,x,b=>by
  rcases List.mem_cons.1 b with rfl|b
  ·exact⟨h.1,h.2.1⟩
  exact Al h.2.2 x b
theorem NI {p sl d:Int} {f:List Ins} {j:Bool} {g:List ak} (z:∀x∈f,x.gN) (N:f.length < 1000000) :
  KD (.loop (roundOf Tryz.f38 0)) (fun e q=>(e=.exit 1/\f.all (fun x=>iJ (ofNat f.length) (ofNat g.length) sl x)=true/\∃i,q=(DJ (cC p sl (.slice (encI f)) (sx j g)) d (encI f) i).al cO)∨(e=.ret/\f.all (fun x=>iJ (ofNat f.length) (ofNat g.length) sl x)=false/\q=(pf 2).al cO))
   ((yZ (cC p sl (.slice (encI f)) (sx j g)) d (encI f) 0).al cO):=by
 have h:(encI f).length=f.length:=bH f;refine cV (St:=fun i=>(yZ (cC p sl (.slice (encI f)) (sx j g)) d (encI f) (ofNat i)).al cO) (fun i=>f.all (fun x=>iJ (ofNat f.length) (ofNat g.length) sl x)=(f.drop i).all (fun x=>iJ (ofNat f.length) (ofNat g.length) sl x)) f.length ?_ ?_ (i:=0) (Nat.zero_le _) rfl
 ·intro i k l;have J:f[i]?=some f[i]:=List.getElem?_eq_getElem k;have r:f[i]∈f:=List.getElem_mem k;have D:(f.drop i).all (fun x=>iJ (ofNat f.length) (ofNat g.length) sl x)=(iJ (ofNat f.length) (ofNat g.length) sl f[i]&&(f.drop (i+1)).all (fun x=>iJ (ofNat f.length) (ofNat g.length) sl x)):=by rw[List.drop_eq_getElem_cons k];rfl
  generalize f[i]=x at J D r;rw[←l] at D;have y:an .i64 (ofNat i+1)=ofNat (i+1):=bb (by omega);have V:=@ER p sl (encI f) g j _ (z x r);rw[h] at V;have o:=xn J;generalize iJ (ofNat f.length) (ofNat g.length) sl x=b at V D;obtain⟨F,v,a,B,m,n,s,u,⟨G,t,E,A⟩,C,I,c⟩:=x;refine aeo (dq j g) (dq s (u.map iN)) (dr (ax A)) (br (by rw[h];exact k)) o V ?_ ?_
  ·rintro rfl;rw[y];exact⟨rfl,D⟩
  rintro rfl;exact .inr ⟨rfl,D,rfl⟩
 intro l;have w:f.all (fun x=>iJ (ofNat f.length) (ofNat g.length) sl x)=true:=by rw[l,List.drop_length];rfl
 exact aaj (cj (by rw[h];omega)) (.inl ⟨rfl,w,_,rfl⟩)
theorem Hi {l:List fG} {k:Nat} {e:fG} {d:Nat} (h:l[k]?=some e):uP (l.drop k) d=if aB (e.val d) 0=true then uP (l.drop (k+1)) d else e.val d:=by
 have a:=(List.getElem?_eq_some_iff.1 h).1;rw[List.drop_eq_getElem_cons a]
 grind[uP]
theorem Db {l:List (List fG)} {k:Nat} {e:List fG} {d:Nat} (h:l[k]?=some e):kB (l.drop k) d=if aB (uP e d) 0=true then kB (l.drop (k+1)) d else uP e d:=by
 have a:=(List.getElem?_eq_some_iff.1 h).1;rw[List.drop_eq_getElem_cons a]
 grind[kB]
theorem NJ {d:Nat} {n:Int} {S:ak} {i:Int} {l:List fG} (N:l.length < 1000000) (V:∀e∈l,ae 69 [.dat e.enc,iv (ofNat d)] (iv (e.val d))) :
  KD (.loop (roundOf Tryz.f38 2)) (fun e q=>(e=.exit 5/\aB (uP l d) 0=true/\∃k,q=(Ie (ofNat d) n S i (ir l) k).al cO)∨(e=.ret/\aB (uP l d) 0=false/\q=(pf (uP l d)).al cO))
   ((Ck (ofNat d) n S i (ir l) 0).al cO):=by
 have f:(ir l).length=l.length:=xB l;refine cV (St:=fun k=>(Ck (ofNat d) n S i (ir l) (ofNat k)).al cO) (fun k=>uP l d=uP (l.drop k) d) l.length ?_ ?_ (i:=0) (Nat.zero_le _) rfl
 ·intro k r b;have J:l[k]?=some l[k]:=List.getElem?_eq_getElem r;have D:l[k]∈l:=List.getElem_mem r;generalize l[k]=e at J D;rw[Hi J] at b;have g:=V e D;have hi2:=VS J;have P:an .i64 (ofNat k+1)=ofNat (k+1):=bb (by omega);generalize e.val d=v at g b;obtain⟨z,⟨y,u,⟨K,L,m,I⟩,H,B⟩,C,⟨O,t,o,M⟩,F,⟨x,c,E,j,A,w⟩,G⟩:=e;have p:ap ba _ [.dat (.slice (ir l)),.dat (.flat (.int .i64 (ofNat k)))]=some ⟨.ref [i64 z,sb y,i64 u,i64 K,sb L,i64 m,sl (ax I),bl H,sl (BZ B),sb C,i64 O,sb t,i64 o,sl (ax M),i64 F,i64 x,i64 c,sx E (encI j),sx A (aG w),sb G],.keep⟩:=hi2;have s:ae 69 [.dat (B0 z y u K L m (sl (ax I)) H (sl (BZ B)) C O t o (sl (ax M)) F x c (sx E (encI j)) (sx A (aG w)) G),iv (ofNat d)] (iv v):=g;refine aep (dr _) (dr _) (dr _) (dq _ _) (dq _ _) (br (by rw[f];exact r)) p s rfl ?_ ?_
  ·intro h;rw[P];refine⟨rfl,?_⟩;rw[b,h];rfl
  intro h;rw[h] at b
  have:uP l d=v:=b
  rw[this];exact .inr ⟨rfl,h,rfl⟩
 intro b;rw[List.drop_length] at b;have a:aB (uP l d) 0=true:=by rw[b,uP];rfl
 exact aak (cj (by rw[f];omega)) (.inl ⟨rfl,a,_,rfl⟩)
theorem NK {d:Nat} {b:List (List fG)} (N:b.length < 1000000) (n:∀l∈b,l.length < 1000000) (V:∀l∈b,∀e∈l,ae 69 [.dat e.enc,iv (ofNat d)] (iv (e.val d))) :
  KD (.loop (roundOf Tryz.f38 1)) (fun e q=>(e=.exit 3/\aB (kB b d) 0=true/\∃i,q=(vp (ofNat d) (ofNat (aG b).length) (.slice (aG b)) i).al cO)∨(e=.ret/\aB (kB b d) 0=false/\q=(pf (kB b d)).al cO))
   ((rQ (ofNat d) (ofNat (aG b).length) (.slice (aG b)) 0).al cO):=by
 have c:(aG b).length=b.length:=dJ b;refine cV (St:=fun k=>(rQ (ofNat d) (ofNat (aG b).length) (.slice (aG b)) (ofNat k)).al cO) (fun k=>kB b d=kB (b.drop k) d) b.length ?_ ?_ (i:=0) (Nat.zero_le _) rfl
 ·intro k g f;have J:b[k]?=some b[k]:=List.getElem?_eq_getElem g;have j:b[k]∈b:=List.getElem_mem g;generalize b[k]=l at J j;rw[Db J] at f;have o:an .i64 (ofNat k+1)=ofNat (k+1):=bb (by omega);have m:=@NJ d (ofNat (aG b).length) (.slice (aG b)) (ofNat k) _ (n l j) (V l j);refine aeq (br (by grind)) (VT J) m ?_ ?_
  ·intro h;rw[o];refine⟨rfl,?_⟩;grind
  intro h;rw[h] at f
  have:kB b d=uP l d:=f
  rw[this];exact .inr ⟨rfl,h,rfl⟩
 intro f;rw[List.drop_length] at f;have a:aB (kB b d) 0=true:=by rw[f,kB];rfl
 exact Ve (cj (by omega)) (.inl ⟨rfl,a,_,rfl⟩)
theorem L1 {d n:Int} {S:ak} (h:aF 0 n=false) :
  KD (.loop (roundOf Tryz.f38 1)) (fun e q=>e=.exit 3/\∃i,q=(vp d n S i).al cO) ((rQ d n S 0).al cO):=by
 refine cA (St:=fun _=>(rQ d n S 0).al cO) 0 (fun i a=>absurd a (by omega)) ?_ (i:=0) (Nat.le_refl _);exact Ve h ⟨rfl,_,rfl⟩
theorem J0 (c:gM):ae 103 [.dat c.enc] (bv c.zero):=by
 obtain⟨L,sl,g,d,f,e⟩:=c;have i:ofNat (encI d).length=ofNat d.length:=by rw[bH]
 have j:ofNat (aG e).length=ofNat e.length:=by rw[dJ]
 have m:=fun (l k:List ak)=>@aab L sl l k _ _ _ _ rfl rfl rfl rfl
 have h:∀(a b:ak),(a=.slice (encI d)∨(a=nl/\d=[]))->(b=.slice (aG e)∨(b=nl/\e=[]))->ae 103 [.dat (aN L sl a b)] (bv (gM.zero (.mk L sl g d f e))):=by
  rintro a b (rfl|⟨rfl,rfl⟩) (rfl|⟨rfl,rfl⟩)
  ·have:=m (encI d) (aG e)
   rw[i,j] at this;exact this
  ·have:=@aac L sl (encI d) [] _ _ _ true rfl rfl rfl
   rw[i] at this;exact this
  ·have:=@aad L sl [] (aG e) _ _ true _ rfl rfl rfl
   rw[j] at this;exact this
  exact @aae L sl [] [] _ _ true true rfl rfl
 refine h (sx g (encI d)) (sx f (aG e)) ?_ ?_
 ·cases d with
  | nil=>cases g <;> grind[encI,sx]
  | cons x r=>grind[encI,sx]
 cases e with
 | nil=>cases f <;> grind[aG,sx]
 | cons x r=>grind[aG,sx]
theorem jG (z:Bool) (l:List ak):sx z l=.slice l∨(sx z l=nl/\l=[]):=by
 cases l with
 | nil=>cases z with
  | true=>exact .inl rfl
  | false=>exact .inr ⟨rfl,rfl⟩
 | cons x r=>exact .inl rfl
theorem Gy {d:Nat} (h:aF 40 (ofNat d)=false):d<=40:=by
 rw[dA] at h;grind
theorem EQ {sl:Int} {O o:Bool} {f:List Ins} {g:List (List fG)} {d:Nat} (hx:∀x∈f,x.gN) (N:f.length < 1000000) (U:g.length < 1000000) (hl:∀l∈g,l.length < 1000000)
  (V:d<=40->∀l∈g,∀e∈l,ae 69 [.dat e.enc,iv (ofNat d)] (iv (e.val d))) :
  ae 38 [.dat (gM.enc (.mk L sl O f o g)),iv (ofNat d)] (iv (gM.val (.mk L sl O f o g) d)):=by
 have k:ofNat (encI f).length=ofNat f.length:=by rw[bH]
 have b:ofNat (aG g).length=ofNat g.length:=by rw[dJ]
 have e0:gM.enc (.mk L sl O f o g)=aN L sl (sx O (encI f)) (sx o (aG g)):=rfl;rw[e0,gM.yH]
 rcases jG O (encI f) with S|⟨S,T⟩
 ·rw[S];have j:=@NI L sl (ofNat d) _ o (aG g) hx N;rw[b] at j;have H:∀P:Bool,aB (ofNat f.length) 0=P->∃(op:Int) (lc:List ak),(P=false->ap ba 23 [.dat (.slice (encI f)),.dat (.flat (.int .i64 (an .i64 (ofNat (encI f).length - 1))))]=some ⟨.ref (i64 op::lc),.keep⟩)/\oC f=(lU (eO op)).fin:=by
   intro P D
   cases P
   ·have w:0 < f.length:=by
     rcases Nat.eq_zero_or_pos f.length with h|h
     ·rw[h] at D;simp[cN] at D
     exact h
    have J:f[f.length - 1]?=some f[f.length - 1]:=List.getElem?_eq_getElem (by omega);have hw:an .i64 (ofNat (encI f).length - 1)=ofNat (f.length - 1):=by
     rw[k,cQ,show ofNat f.length - 1=ofNat (f.length - 1) by simp;omega];exact wrap_i64 (by show _<=((f.length - 1:Nat):Int);omega) (by show ((f.length - 1:Nat):Int)<=_;omega)
    have Z:oC f=(lU (eO f[f.length - 1].op)).fin:=by unfold oC;rw[J]
    generalize f[f.length - 1]=x at J Z;have G:=xn J;rw[←hw] at G;obtain⟨op,ad,a,b',m,n,az,u,⟨xk,t,ix,la⟩,C,I,c⟩:=x;exact⟨op,_,fun _=>G,Z⟩
   have:f=[]:=by
    cases f with
    | nil=>rfl
    | cons a r=>exact absurd D (by simp[cN];omega)
   subst this;exact⟨0,[],fun h=>by simp at h,rfl⟩
  obtain⟨op,lc,M,y⟩:=H _ rfl;have s:∀Y:Bool,f.all (fun x=>iJ (ofNat f.length) (ofNat g.length) sl x)=Y->(Y=true->ae 68 [.dat (aN L sl (.slice (encI f)) (sx o (aG g)))] (bv (lO f))):=by
   intro Y k b;rw[b] at k;exact ZT (dq o (aG g)) (Gk k) N
  have hz:∀v:Int,(if aB v 0=true then (0:Int) else v)=v:=by
   intro v
   split
   ·rename_i h;rw[cN] at h;simpa using (beq_iff_eq.1 h).symm
   rfl
  rcases jG o (aG g) with z|⟨z,A⟩
  ·rw[z] at j s ⊢;have W:=fun D:aF 40 (ofNat d)=false=>NK (d:=d) U hl (V (Gy D))
   have:=aaf (p:=L) (sl:=sl) (d:=ofNat d) (es:=encI f) (dd:=aG g) rfl rfl rfl rfl rfl (by rw[k]) (by rw[b]) (by rw[k]) (fun _=>j) M (uT op) (s _ rfl) W
   rw[hz,←y] at this;exact this
  rw[z] at j s ⊢;have B:g=[]:=by
   cases g with
   | nil=>rfl
   | cons a r=>simp[aG] at A
  subst B;have W:=@L1 (ofNat d) 0 nl rfl;have R:KD (.loop (roundOf Tryz.f38 1)) (fun e q=>(e=.exit 3/\true=true/\∃i,q=(vp (ofNat d) 0 nl i).al cO)∨(e=.ret/\true=false/\q=(pf 0).al cO)) ((rQ (ofNat d) 0 nl 0).al cO):=W.mono (by rintro e q ⟨k,b⟩;exact .inl ⟨k,rfl,b⟩)
  have:=@aag L sl (ofNat d) (encI f) [] _ _ _ true _ _ _ _ _ _ _ _ _ _ rfl rfl rfl rfl rfl (by rw[k]) (by rw[k]) (fun _=>j) _ _ M (uT op) (s _ rfl) (fun _=>R)
  rw[←y] at this;exact this
 rw[S];have K:f=[]:=by
  cases f with
  | nil=>rfl
  | cons a r=>simp[encI] at T
 subst K;have hh:∀Q:Bool,aF 2000 (ofNat g.length)=Q->C0 d L sl [] g.length (kB g d)=nt (aF 40 (ofNat d)) (aF 200 sl) false Q (aF L 0) (aF 6 L) (aF sl L) true false false false 0:=by
  intro Q h;subst h;unfold C0 nt;have E:aB (ofNat ([]:List Ins).length) 0=true:=rfl;have F:aF 2000 (ofNat ([]:List Ins).length)=false:=rfl;rw[E,F];simp only[Bool.or_true,if_true]
 rw[hh _ rfl]
 rcases jG o (aG g) with z|⟨z,A⟩
 ·rw[z]
  have:=@aah L sl (ofNat d) [] (aG g) _ _ true _ _ _ _ true true true true true 0 kG.zero rfl rfl rfl rfl rfl rfl
  rw[b] at this;exact this
 rw[z];have B:g=[]:=by
  cases g with
  | nil=>rfl
  | cons a r=>simp[aG] at A
 subst B;exact @aai L sl (ofNat d) [] [] _ _ true true _ _ _ true true true true true 0 kG.zero rfl rfl rfl rfl rfl
mutual
theorem oW:∀(c:gM) (d:Nat),c.ok->d<=41->ae 38 [.dat c.enc,iv (ofNat d)] (iv (c.val d))
 | .mk L sl A k w m,d,h,D=>by
  obtain⟨G,b,f,g⟩:=h;exact EQ G b f (fun l H=>(Al g l H).1) (fun p=>Hy m d g p)
theorem Hy:∀(l:List (List fG)) (d:Nat),nj l->d<=40->∀x∈l,∀e∈x,ae 69 [.dat e.enc,iv (ofNat d)] (iv (e.val d))
 | [],_,_,_,x,j,_,_=>by grind
 | a::r,d,h,D,x,j,e,i=>by
  rcases List.mem_cons.1 j with j|j
  ·rw[j] at i;exact LU a d h.2.1 D e i
  exact Hy r d h.2.2 D x j e i
theorem LU:∀(l:List fG) (d:Nat),Ss l->d<=40->∀e∈l,ae 69 [.dat e.enc,iv (ofNat d)] (iv (e.val d))
 | [],_,_,_,e,i=>by grind
 | a::r,d,h,D,e,i=>by
  rcases List.mem_cons.1 i with i|i
  ·rw[i];exact Hw a d h.1 D
  exact LU r d h.2 D e i
theorem Hw:∀(e:fG) (d:Nat),e.ok->d<=40->ae 69 [.dat e.enc,iv (ofNat d)] (iv (e.val d))
 | .mk E ⟨C,u,⟨R,S,q,Q⟩,P,I⟩ J ⟨U,t,s,T⟩ N c O,d,h,Y=>by
  simp only[fG.ok] at h;have K:an .i64 (ofNat d+1)=ofNat (d+1):=bb (by omega);have n:=oW c (d+1) h.2.2 (by omega);have y:=J0 c;rw[←K] at n;rw[fG.yH];generalize c.val (d+1)=v at n;generalize c.zero=z at y;obtain⟨V,W,M,o,F,B⟩:=c
  have:=@SI (ofNat d) _ E C u R S q _ P _ J U t s _ N _ _ _ _ O (dr (ax Q)) (dr (BZ I)) (dr (ax T)) (dq M (encI o)) (dq F (aG B)) _ _ _ _ rfl rfl rfl y n
  exact this
end
theorem qo (x:Ins):x.enc.cells.length=15:=sT x
theorem uO (a b:List Ins):encI (a++b)=encI a++encI b:=by simp[gR]
theorem sW (l:List Ins):sizedB 15 (encI l)=true:=kM (fun d D=>by
 grind[gR,qo])
theorem JU (l:List Ins):fy (encI l)=false:=by
 cases l with
 | nil=>rfl
 | cons t r=>rfl
theorem V7 {pre:List Ins} {x:Ins} (l:pre.length < 1000000):bB ba false 23 [.own (encI pre),.dat (.slice [x.enc])] none=some ⟨.own (encI (pre++[x])),.keep⟩:=by
 rw[uO];refine uX (i:=rE) (ds:=[x.enc]) (k:=14) DD rfl kJ ?_ ?_ (by kernel_rfl) ?_ ?_ ?_ (by simp)
 ·exact sW [x]
 ·grind[sW]
 ·have a:rE.bytes<=1000:=fD (by kernel_rfl);rw[bH]
  calc (pre.length+1)*rE.bytes<=1000000000*1000:=Nat.mul_le_mul (by omega) a
   _<=140737488355328:=by decide
 ·rw[bH];simp[lim];omega
 unfold amL;rw[show encI pre++[x.enc]=encI (pre++[x]) by rw[uO];rfl,JU]
theorem wv (a b:List (List fG)):aG (a++b)=aG a++aG b:=by simp[nC]
theorem qA (l:List (List fG)):sizedB 1 (aG l)=true:=kM (fun d D=>by
 rw[nC] at D;obtain⟨t,_,rfl⟩:=List.mem_map.1 D;rfl)
theorem xC (l:List (List fG)):fy (aG l)=false:=by
 cases l with
 | nil=>simp[aG,fy]
 | cons t r=>rfl
theorem Sf {pre:List (List fG)} {x:List fG} (l:pre.length < 1000000):bB ba false 24 [.own (aG pre),.dat (.slice [.slice (ir x)])] none=some ⟨.own (aG (pre++[x])),.keep⟩:=by
 have E:aG [x]=[.slice (ir x)]:=by rw[aG,aG]
 rw[wv,E];refine uX (i:=Fc) (ds:=[.slice (ir x)]) (k:=0) DF rfl qU ?_ ?_ (by kernel_rfl) ?_ ?_ ?_ (by simp)
 ·grind[qA]
 ·grind[qA]
 ·have a:Fc.bytes<=1000:=fD (by kernel_rfl);rw[dJ]
  calc (pre.length+1)*Fc.bytes<=1000000000*1000:=Nat.mul_le_mul (by omega) a
   _<=140737488355328:=by decide
 ·rw[dJ];simp[lim];omega
 unfold amL;rw[show aG pre++[.slice (ir x)]=aG (pre++[x]) by rw[wv,E],xC]
structure aeb (c:gM):Prop where
 ok:c.ok
 ez:c.ez=false
 iz:c.iz=false
 pa:∃n:Nat,c.pa=ofNat n/\n<=2
 len:2<=c.ins.length/\c.ins.length<=10
 elen:c.cD.length<=2
 gen:∀x∈c.ins,x.gen
def GCd (l:List Int) (P:Int):Prop:=∀k,k<=l.length->∃(c:gM) (K:Nat),aeb c/\BG l k K/\KC 9 [cq,iv P] (cW (l.map iN) (ofNat k)) 1 (XQ ⟨.dat c.enc,cW (l.map iN) (ofNat K),1⟩)
def GEd (l:List Int) (P:Int):Prop:=∀k,k<=l.length->∃(e:fG) (K:Nat),e.ok/\BG l k K/\SA (l.map iN) P (ofNat k) e.enc (ofNat K)
def fZ (a:List fG):List (List fG):=a.map (fun e=>[e])
theorem arI:∀{a:List fG},(∀e∈a,e.ok)->nj (fZ a)
 | [],_=>by simp[fZ,nj]
 | e::r,h=>by
  show nj ([e]::fZ r);exact⟨by simp,⟨h e (by simp),trivial⟩,arI (fun x b=>h x (by grind))⟩
theorem AN {l:List Int} {m:Nat} (hl:l.length < 10000000) (ag:m<=1) (hm:Nx ba [iv P,iv 1]=some ⟨iv (ofNat m),.keep⟩) (W:0 < m->GEd l (an .i64 (P - 1))):GCd l P:=by
 intro k hk;have d:l.length < 1000000000:=by omega
 obtain⟨D,k1,⟨bo,a1,a2,_⟩,h1⟩:=aR (n:=3) d hk (by omega) (by omega);obtain⟨x,K,⟨hx,b1,Q,_⟩,b⟩:=aR (n:=4) d a2 (by omega) (by omega);obtain⟨y,M,⟨hy,p,c2,_⟩,f⟩:=aR (n:=3) d Q (by omega) (by omega);have hs:an .i64 (an .i64 (ofNat D+1)+ofNat x)=ofNat (D+1+x):=by
  rw[show an .i64 (ofNat D+1)=ofNat (D+1) from bb (by omega),cQ];exact wrap_i64 (by simp;omega) (by simp;omega)
 have bd:an .i64 (ofNat y*ofNat m)=ofNat (y*m):=by
  rw[cQ,show ofNat y*ofNat m=ofNat (y*m) from rfl]
  have:y*m<=2*1:=Nat.mul_le_mul (by omega) ag
  exact wrap_i64 (by show _<=((y*m:Nat):Int);omega) (by show ((y*m:Nat):Int)<=_;omega)
 obtain⟨B,am⟩:∃B,y*m=B:=⟨_,rfl⟩;have bk:B<=2:=by
  have:y*m<=2*1:=Nat.mul_le_mul (by omega) ag
  omega
 -- the edits
 obtain⟨s,ks,E,F,e3,e4⟩:∃(s:List fG) (ks:Nat->Nat),s.length=B/\ks 0=M/\(∀i,i<=B->BG l M (ks i))/\∀i e,s[i]?=some e->e.ok/\SA (l.map iN) (an .i64 (P - 1)) (ofNat (ks i)) e.enc (ofNat (ks (i+1))):=by
  rcases Nat.eq_zero_or_pos B with o|o
  ·exact⟨[],fun _=>M,by simp[o],rfl,fun i _=>⟨Nat.le_refl _,c2⟩,fun i e h=>by simp at h⟩
  have a8:0 < m:=by
   rcases Nat.eq_zero_or_pos m with h|h
   ·rw[h,Nat.mul_zero] at am;omega
   exact h
  exact wy (R:=fun k (e:fG) K=>e.ok/\SA (l.map iN) (an .i64 (P - 1)) (ofNat k) e.enc (ofNat K)) (fun k hk=>by
   obtain⟨e,K,q1,q2,q3⟩:=W a8 k hk;exact⟨e,K,q2,q1,q3⟩) c2 B
 have a3:KD (.loop (roundOf Tryz.f9 0)) (fun e q=>e=.exit 0/\q=(Oh (l.map iN) (ofNat (ks B)) (ofNat D) (an .i64 (an .i64 (ofNat D+1)+ofNat x)) P (dS (aG (fZ s))) 0).al pE)
   ((Mg (l.map iN) (ofNat M) (ofNat D) (an .i64 (an .i64 (ofNat D+1)+ofNat x)) P (dS []) (an .i64 (ofNat y*ofNat m))).al pE):=by
  rw[bd,am,←F];have e0:(dS []:ac)=dS (aG (fZ (s.take 0))):=by rw[List.take_zero];simp[fZ,aG]
  rw[e0];refine cA (St:=fun j=>(Mg (l.map iN) (ofNat (ks j)) (ofNat D) (an .i64 (an .i64 (ofNat D+1)+ofNat x)) P (dS (aG (fZ (s.take j)))) (ofNat (B - j))).al pE) B ?_ ?_ (i:=0) (Nat.zero_le _)
  ·intro j hj;have J:s[j]?=some s[j]:=List.getElem?_eq_getElem (by omega);have T:s.take (j+1)=s.take j++[s[j]]:=List.take_succ_eq_append_getElem (by omega);generalize s[j]=e at J T;obtain⟨bm,H⟩:=e4 j e J;have hw:an .i64 (ofNat (B - j) - 1)=ofNat (B - (j+1)):=by
    rw[cQ,show ofNat (B - j) - 1=ofNat (B - (j+1)) by simp;omega];exact wrap_i64 (by show _<=((B - (j+1):Nat):Int);omega) (by show ((B - (j+1):Nat):Int)<=_;omega)
   have v:=Sf (pre:=fZ (s.take j)) (x:=[e]) (by rw[fZ,List.length_map,List.length_take];omega);have a0:fZ (s.take (j+1))=fZ (s.take j)++[[e]]:=by rw[T];simp[fZ]
   have O:(ac.own (aG (fZ (s.take j)++[[e]])))=dS (aG (fZ (s.take (j+1)))):=by
    rw[a0,yo];rw[wv];rw[aG];simp
   have o:aF 0 (ofNat (B - j))=true:=br (i:=0) (L:=B - j) (by omega);have E:ir [e]=[e.enc]:=by simp[ir,fG.enc]
   rw[E] at v;clear T a0;obtain⟨ek,⟨dn,ar,⟨sk,sn,bs,sa⟩,sK,fl⟩,fu,⟨tk,t,bt,ta⟩,pb,⟨cp,cs,iz,be,ez,cD⟩,pk⟩:=e;refine Q5 o (dr (ax sa)) (dr (BZ fl)) (dr (ax ta)) (dq iz (encI be)) (dq ez (aG cD)) H v ?_;rw[hw,O];exact rfl
  rw[Nat.sub_self];refine Ut rfl ?_;rw[List.take_of_length_le (by omega)];exact⟨rfl,rfl⟩
 have a6:=(e3 B (Nat.le_refl _)).top;obtain⟨z,k5,⟨hz,f1,f2,_⟩,h4⟩:=aR (n:=9) d a6 (by omega) (by omega);have af:an .i64 (2+ofNat z)=ofNat (2+z):=by
  rw[cQ];exact wrap_i64 (by simp;omega) (by simp;omega)
 have U:an .i64 (ofNat (2+z) - 1)=ofNat (1+z):=by
  rw[cQ,show ofNat (2+z) - 1=ofNat (1+z) by simp;omega];exact wrap_i64 (by simp;omega) (by simp;omega)
 -- the instructions
 obtain⟨V,a9⟩:∃V,D+1+x=V:=⟨_,rfl⟩;rw[a9] at hs;have ad:0 < V/\V < 1000000:=by omega
 obtain⟨A,js,i1,i2,i3,i4⟩:=wy (R:=fun k S K=>Ins.gen S/\tf (l.map iN) (ofNat V) (ofNat (2+z)) (ofNat s.length) (ofNat k) (Ins.enc S) (ofNat K)) (fun k hk=>by
  obtain⟨S,K,q1,q2,q3⟩:=@Uu _ V (2+z) s.length _ hl hk ad.1 ad.2 (by omega) (by omega) (by omega);exact⟨S,K,q2,q1,q3⟩) f2 (1+z)
 have a5:(aG (fZ s)).length=s.length:=by rw[dJ];exact List.length_map _
 have a4:KD (.loop (roundOf Tryz.f9 1)) (fun e q=>e=.exit 2/\q=(Og (l.map iN) (ofNat (js (1+z))) (ofNat D) (an .i64 (an .i64 (ofNat D+1)+ofNat x)) (dS (encI A)) (dS (aG (fZ s))) (an .i64 (2+ofNat z)) (ofNat (1+z))).al pE)
   ((Mf (l.map iN) (ofNat k5) (ofNat D) (an .i64 (an .i64 (ofNat D+1)+ofNat x)) (dS []) (dS (aG (fZ s))) (an .i64 (2+ofNat z)) 0).al pE):=by
  rw[hs,af,←i2];have e0:(dS []:ac)=dS (encI (A.take 0)):=by rw[List.take_zero];rfl
  rw[e0];refine cA (St:=fun j=>(Mf (l.map iN) (ofNat (js j)) (ofNat D) (ofNat V) (dS (encI (A.take j))) (dS (aG (fZ s))) (ofNat (2+z)) (ofNat j)).al pE) (1+z) ?_ ?_ (i:=0) (Nat.zero_le _)
  ·intro j hj;have J:A[j]?=some A[j]:=List.getElem?_eq_getElem (by omega);have T:A.take (j+1)=A.take j++[A[j]]:=List.take_succ_eq_append_getElem (by omega);generalize A[j]=S at J T;obtain⟨_,H⟩:=i4 j S J;have hw:an .i64 (ofNat j+1)=ofNat (j+1):=bb (by omega);have v:=V7 (pre:=A.take j) (x:=S) (by rw[List.length_take];omega);have O:(ac.own (encI (A.take j++[S])))=dS (encI (A.take (j+1))):=by
    rw[T,yo];rw[uO];simp[encI]
   rw[←a5] at H;clear T;obtain⟨op,bf,a,b',im,nm,az,ar,⟨xk,t,ix,la⟩,C,I,cs⟩:=S;refine Q7 (by rw[U];exact br hj) H v ?_;rw[hw,O];exact rfl
  refine UB (by rw[U];exact cj (by omega)) ?_;rw[List.take_of_length_le (by omega)];exact⟨rfl,rfl⟩
 have a7:=(i3 (1+z) (Nat.le_refl _)).top;obtain⟨w,k7,⟨_,g1,g2,_⟩,G⟩:=aR (n:=V) d a7 ad.1 (by omega);obtain⟨u,k8,⟨_,g3,g,_⟩,h6⟩:=aR (n:=4) d g2 (by omega) (by omega);rw[←hs] at G;obtain⟨c,hc⟩:∃c,aB (ofNat u) 3=c:=⟨_,rfl⟩;have Z:eH (mJ c) 0 (ofNat w) 0 0 [] nl 0 [] 0 nl 0 0 []=(Ins.mk (mJ c) 0 (ofNat w) 0 0 [] false [] (.mk 0 [] 0 []) 0 0 []).enc:=rfl;have v:=V7 (pre:=A) (x:=Ins.mk (mJ c) 0 (ofNat w) 0 0 [] false [] (.mk 0 [] 0 []) 0 0 []) (by omega);rw[←Z] at v;have h:=X7 h1 b f hm a3 h4 a4 G h6 hc v;rw[hs] at h;have Y:∀S∈A++[Ins.mk (mJ c) 0 (ofNat w) 0 0 [] false [] (.mk 0 [] 0 []) 0 0 []],S.gen:=by
  intro S N
  rcases List.mem_append.1 N with N|N
  ·obtain⟨j,hj⟩:=List.mem_iff_getElem?.1 N;exact (i4 j S hj).1
  simp at N;subst N;exact⟨cY,by simp,ad9⟩
 refine⟨.mk (ofNat D) (ofNat V) false (A++[Ins.mk (mJ c) 0 (ofNat w) 0 0 [] false [] (.mk 0 [] 0 []) 0 0 []]) false (fZ s),k8,⟨?_,rfl,rfl,⟨D,rfl,by omega⟩,?_,?_,Y⟩,⟨?_,g⟩,?_⟩
 ·simp only[gM.ok];refine⟨fun S N=>CY (Y S N),by rw[List.length_append,i1];simp;omega,by rw[fZ,List.length_map];omega,?_⟩
  ·exact arI (fun e he=>by
    obtain⟨j,hj⟩:=List.mem_iff_getElem?.1 he;exact (e4 j e hj).1)
 ·show 2<=(A++_).length/\(A++_).length<=10;rw[List.length_append,i1];simp;omega
 ·show (fZ s).length<=2;rw[fZ,List.length_map];omega
 ·have q1:=(e3 B (Nat.le_refl _)).le;have q2:=(i3 (1+z) (Nat.le_refl _)).le;omega
 have E:gM.enc (.mk (ofNat D) (ofNat V) false (A++[Ins.mk (mJ c) 0 (ofNat w) 0 0 [] false [] (.mk 0 [] 0 []) 0 0 []]) false (fZ s))=aN (ofNat D) (ofNat V) (.slice (encI (A++[Ins.mk (mJ c) 0 (ofNat w) 0 0 [] false [] (.mk 0 [] 0 []) 0 0 []]))) (sl (aG (fZ s))):=by
  rw[←yS];show aN _ _ (sx false (encI _)) _=_
  have:encI (A++[Ins.mk (mJ c) 0 (ofNat w) 0 0 [] false [] (.mk 0 [] 0 []) 0 0 []])≠[]:=by rw[uO];simp[encI]
  generalize encI (A++[Ins.mk (mJ c) 0 (ofNat w) 0 0 [] false [] (.mk 0 [] 0 []) 0 0 []])=q at this ⊢
  cases q with
  | nil=>exact absurd rfl this
  | cons a r=>rfl
 rw[E];exact h
theorem rz:(⟨[],0,.mk 0 [] 0 [],false,[]⟩:vh).gN:=⟨cY,fun f a=>by grind,by simp⟩
def c0:gM:=.mk 0 0 false [] false []
theorem RY:c0.ok:=by simp[c0,gM.ok,nj]
theorem E7 {l:List Ty} (h:∀t∈l,t.small) (b:l.length<=2):(Ty.mk 3 [] 0 l).gN:=by
 have c:aQ l<=41000000*l.length:=by
  clear b
  induction l with
  | nil=>simp[aQ]
  | cons a r d=>
   have:=(h a (by simp)).1
   grind[aQ]
 refine⟨?_,?_⟩
 ·grind[Ty.size]
 exact⟨by simp[aB],af4 (fun t T=>(h t T).2)⟩
theorem GQ {l:List Int} (hl:l.length < 10000000) (hC:GCd l P):GEd l P:=by
 intro k hk;have G:l.length < 1000000000:=by omega
 obtain⟨t,k1,T,I,w⟩:=Ey hl hk;obtain⟨r,K,⟨hr,b1,Q,_⟩,Z⟩:=aR (n:=6) G I.top (by omega) (by omega);have C:(Ty.mk 3 [] 0 [t]).gN:=E7 (by simpa using T) (by simp);obtain⟨tk,tn,B,la⟩:=t;have w:Sz (l.map iN) (ofNat k) tk tn B (ax la) (ofNat k1):=w
 match r,hr with
 | 0,_=>
  obtain⟨a,M,⟨A,p,c2,_⟩,b⟩:=aR (n:=8) G Q (by omega) (by omega);have J:mq[a]?=some (mq[a]'A):=List.getElem?_eq_getElem A;have af:(mq[a]'A).gN:=(HF.each _ (List.getElem_mem A)).gN;generalize (mq[a]'A)=d at J af;have hi:=VU J;obtain⟨dn,u,⟨sk,sn,a8,sa⟩,sK,fl⟩:=d;refine⟨.mk 1 ⟨dn,u,.mk sk sn a8 sa,sK,fl⟩ [] (.mk 0 [] 0 []) 0 c0 [],M,?_,⟨by have:=I.le;omega,c2⟩,ae8 w Z b hi⟩;simp only[fG.ok];exact⟨af,cY,RY⟩
 | 1,_=>
  obtain⟨a,M,⟨A,p,c2,_⟩,b⟩:=aR (n:=3) G Q (by omega) (by omega);obtain⟨z,y⟩:=we a A;refine⟨.mk 3 ⟨[],0,.mk 0 [] 0 [],false,[]⟩ z (.mk 3 [] 0 [.mk tk tn B la]) 0 c0 [],M,?_,⟨by have:=I.le;omega,c2⟩,ae7 w Z b (uB y)⟩;simp only[fG.ok];exact⟨rz,C,RY⟩
 | 2,_=>
  obtain⟨a,M,⟨A,p,c2,_⟩,b⟩:=aR (n:=2) G Q (by omega) (by omega);refine⟨.mk (an .i64 (4+ofNat a)) ⟨[],0,.mk 0 [] 0 [],false,[]⟩ [] (.mk 0 [] 0 []) 0 c0 [112],M,?_,⟨by have:=I.le;omega,c2⟩,ae6 w Z b⟩;simp only[fG.ok];exact⟨rz,cY,RY⟩
 | r+3,_=>
  have r0:aB (ofNat (r+3)) 0=false:=dL (by simp;omega);have r1:aB (ofNat (r+3)) 1=false:=dL (by simp;omega);have r2:aB (ofNat (r+3)) 2=false:=dL (by simp;omega);obtain⟨c,M,a0,p,hc⟩:=hC K Q;obtain⟨pa,s,iz,g,ez,x⟩:=c;obtain⟨U,O,S,⟨m,W,bd⟩,⟨a2,a9⟩,_⟩:=a0;have O:ez=false:=O;have S:iz=false:=S;have W:pa=ofNat m:=W;subst O S W;have D:encI g≠[]:=by
   intro h
   have:=congrArg List.length h
   rw[bH] at this
   have:g.length=0:=this
   have:2<=g.length:=a2
   omega
  have az:gM.enc (.mk (ofNat m) s false g false x)=aN (ofNat m) s (.slice (encI g)) (sl (aG x)):=by
   show aN _ _ (sx false (encI g)) (sx false (aG x))=_;rw[yS (aG x)];generalize encI g=q at D
   cases q with
   | nil=>exact absurd rfl D
   | cons a r=>rfl
  rw[az] at hc;have hc:CoT (l.map iN) P (ofNat K) (ofNat m) s (encI g) (aG x) (ofNat M):=hc;have N:∀(z:List UInt8) (o:List Ty),B0 2 [] 0 0 [] 0 nl false nl z 3 [] 0 (sl (ax o)) (ofNat m) (ofNat m) s (.slice (encI g)) (sl (aG x)) []=(fG.mk 2 ⟨[],0,.mk 0 [] 0 [],false,[]⟩ z (.mk 3 [] 0 o) (ofNat m) (.mk (ofNat m) s false g false x) []).enc:=by
   intro z o;show ak.agg ([i64 2,sb [],i64 0,i64 0,sb [],i64 0,nl,bl false,nl,sb z,i64 3,sb [],i64 0,sl (ax o),i64 (ofNat m)]++[i64 (ofNat m),i64 s,.slice (encI g),sl (aG x),sb []])=ak.agg ([i64 2,sb [],i64 0,i64 0,sb [],i64 0,nl,bl false,nl,sb z,i64 3,sb [],i64 0,sl (ax o),i64 (ofNat m)]++[i64 (ofNat m),i64 s,sx false (encI g),sx false (aG x),sb []]);rw[yS (aG x)];generalize encI g=q at D
   cases q with
   | nil=>exact absurd rfl D
   | cons a r=>rfl
  have H:sl (ax [Ty.mk tk tn B la])=.slice [NP tk tn B (ax la)]:=rfl
  by_cases a3:m=1
  ·subst a3;obtain⟨a,k4,⟨A,d1,d2,_⟩,b⟩:=aR (n:=3) G p.top (by omega) (by omega);obtain⟨z,y⟩:=we a A;refine⟨.mk 2 ⟨[],0,.mk 0 [] 0 [],false,[]⟩ z (.mk 3 [] 0 [.mk tk tn B la]) (ofNat 1) (.mk (ofNat 1) s false g false x) [],k4,?_,⟨by have:=I.le;have:=p.le;omega,d2⟩,?_⟩
   ·simp only[fG.ok];exact⟨rz,C,U⟩
   rw[←N,H];exact adu w Z r0 r1 r2 hc b (uB y)
  have am:aB (ofNat m) 1=false:=dL (by simp;omega);obtain⟨v,k4,⟨V,d1,d2,_⟩,b⟩:=aR (n:=5) G p.top (by omega) (by omega)
  by_cases a6:v=4
  ·subst a6;obtain⟨a,k5,⟨A,f1,f2,_⟩,f⟩:=aR (n:=3) G d2 (by omega) (by omega);obtain⟨z,y⟩:=we a A;refine⟨.mk 2 ⟨[],0,.mk 0 [] 0 [],false,[]⟩ z (.mk 3 [] 0 [.mk tk tn B la]) (ofNat m) (.mk (ofNat m) s false g false x) [],k5,?_,⟨by have:=I.le;have:=p.le;omega,f2⟩,?_⟩
   ·simp only[fG.ok];exact⟨rz,C,U⟩
   rw[←N,H];exact adt w Z r0 r1 r2 hc am b f (uB y)
  have a7:aB (ofNat v) 4=false:=dL (by simp;omega);obtain⟨o,ks,E,F,e3,e4⟩:=wy (R:=fun k t K=>Ty.small t/\KC _ [cq,.dat (.slice (lJ mq))] (cW (l.map iN) (ofNat k)) 1 (XQ ⟨.dat (Ty.enc t),cW (l.map iN) (ofNat K),1⟩)) (fun k hk=>by
   obtain⟨t,K,q1,q2,q3⟩:=Ey hl hk;exact⟨t,K,q2,q1,q3⟩) d2 m
  have a4:KD (.loop (roundOf Tryz.f33 0)) (fun e q=>e=.exit 1/\q=(Of (l.map iN) (ofNat (ks m)) (ofNat m) s (encI g) (sl (aG x)) (dS (ax o)) (ofNat m)).al tT)
    ((Me (l.map iN) (ofNat k4) (ofNat m) s (encI g) (sl (aG x)) (dS []) 0).al tT):=by
   rw[←F];have e0:(dS []:ac)=dS (ax (o.take 0)):=by rw[List.take_zero];rfl
   rw[e0];refine cA (St:=fun j=>(Me (l.map iN) (ofNat (ks j)) (ofNat m) s (encI g) (sl (aG x)) (dS (ax (o.take j))) (ofNat j)).al tT) m ?_ ?_ (i:=0) (Nat.zero_le _)
   ·intro j hj;have J:o[j]?=some o[j]:=List.getElem?_eq_getElem (by omega);have T:o.take (j+1)=o.take j++[o[j]]:=List.take_succ_eq_append_getElem (by omega);generalize o[j]=tj at J T;obtain⟨_,L⟩:=e4 j tj J;have hw:an .i64 (ofNat j+1)=ofNat (j+1):=bb (by omega);have ad:=U5 (pre:=o.take j) (t:=tj) (by rw[List.length_take];omega);have Y:(ac.own (ax (o.take j++[tj])))=dS (ax (o.take (j+1))):=by
     rw[T,yo];rw[A7];simp[ax]
    clear T;obtain⟨k',n',x',l'⟩:=tj;refine Q3 (br hj) L ad ?_;rw[hw,Y];exact rfl
   refine Uq (cj (by omega)) ?_;rw[List.take_of_length_le (by omega)];exact⟨rfl,rfl⟩
  have ag:=e3 m (Nat.le_refl _);obtain⟨a,k6,⟨A,f1,f2,_⟩,f⟩:=aR (n:=3) G ag.top (by omega) (by omega);obtain⟨z,y⟩:=we a A;have a5:(Ty.mk 3 [] 0 o).gN:=E7 (fun t T=>by
   obtain⟨j,hj⟩:=List.mem_iff_getElem?.1 T;exact (e4 j t hj).1) (by omega)
  refine⟨.mk 2 ⟨[],0,.mk 0 [] 0 [],false,[]⟩ z (.mk 3 [] 0 o) (ofNat m) (.mk (ofNat m) s false g false x) [],k6,?_,⟨by have:=I.le;have:=p.le;have:=ag.le;omega,f2⟩,?_⟩
  ·simp only[fG.ok];exact⟨rz,a5,U⟩
  rw[←N];exact ads w Z r0 r1 r2 hc am b a7 a4 f (uB y)
theorem UA {l:List Int} (a:l.length < 10000000):GCd l 0:=AN (m:=0) a (by omega) rfl (fun h=>absurd h (by omega))
theorem Uv {l:List Int} (a:l.length < 10000000):GEd l 0:=GQ a (UA a)
theorem LL {l:List Int} (a:l.length < 10000000):GCd l 1:=AN (m:=1) a (by omega) rfl (fun _=>Uv a)
noncomputable def V0:Hints:=⟨bV,Ac,bi,rowsOf bi 20⟩
def TJ (c:List ac):Heap:=[(.loc 3,.cells (cC 0 0 nl nl)),(.loc 2,.cells c)]
def pQ (c:List ac):ab:=⟨[(5,iv 0),(3,.ptr (.loc 3) 0),(2,.ptr (.loc 2) 0)],TJ c,[],0⟩
def mB (c:List ac):ab:=⟨[(41,bv false),(5,iv 0),(3,.ptr (.loc 3) 0),(2,.ptr (.loc 2) 0)],TJ c,[],0⟩
def pO (c:List ac):ab:=⟨[(6,iv 0),(3,.ptr (.loc 3) 0),(2,.ptr (.loc 2) 0)],TJ c,[],0⟩
def mA (c:List ac):ab:=⟨[(60,bv false),(6,iv 0),(3,.ptr (.loc 3) 0),(2,.ptr (.loc 2) 0)],TJ c,[],0⟩
theorem ZN {sl:Int} {a b:List ak} (h:aF 0 (ofNat a.length)=false) (e:T (.exit 0) ((mB (cC p sl (.slice a) (.slice b))).al dy)):KD (roundOf Tryz.f20 0) T ((pQ (cC p sl (.slice a) (.slice b))).al dy):=by
 exact aq [41] [] (H:=V0) (live:=jk) (ob h (oe e))
theorem ZJ {sl:Int} {b a:List ak} (h:aF 0 (ofNat a.length)=false) (e:T (.exit 2) ((mA (cC p sl (.slice b) (.slice a))).al dy)):KD (roundOf Tryz.f20 1) T ((pO (cC p sl (.slice b) (.slice a))).al dy):=by
 exact aq [60] [] (H:=V0) (live:=jk) (ob h (oe e))
theorem adD {p sl:Int} {d c:List ak} {j k h i:Bool} (a:aB p 0=j) (b:aB sl 0=k) (f:aB (ofNat d.length) 0=h) (g:aB (ofNat c.length) 0=i) 
  (m:h=true->i=true->KD (.loop (roundOf Tryz.f20 0)) (fun e q=>e=.exit 0/\q=(mB (cC p sl (.slice d) (.slice c))).al dy) ((pQ (cC p sl (.slice d) (.slice c))).al dy))
  (n:h=true->i=true->KD (.loop (roundOf Tryz.f20 1)) (fun e q=>e=.exit 2/\q=(mA (cC p sl (.slice d) (.slice c))).al dy) ((pO (cC p sl (.slice d) (.slice c))).al dy)) :
  ae 20 [.dat (aN p sl (.slice d) (.slice c)),.dat (aN 0 0 nl nl)] (bv (j&&(k&&(h&&i)))):=by
 refine co [11,17,26,35] [] (x:=.of Tryz.f20 Ac jk) ?_;refine ox a ?_
 cases j
 ·exact fi
 refine ox b ?_
 cases k
 ·exact fi
 refine ox f ?_
 cases h
 ·exact fi
 refine ox g ?_
 cases i
 ·exact fi
 refine lo (m rfl rfl) ?_;rintro l s ⟨rfl,rfl⟩;refine⟨_,rfl,?_⟩;refine lo (n rfl rfl) ?_;rintro l s ⟨rfl,rfl⟩;refine⟨_,rfl,?_⟩;exact fi
theorem ZO {sl:Int} {a dd:List ak} (h:aF 0 (ofNat a.length)=false) (e:T (.exit 0) ((mB (cC p sl (.slice a) nl)).al dy)):KD (roundOf Tryz.f20 0) T ((pQ (cC p sl (.slice a) nl)).al dy):=by
 exact aq [41] [] (H:=V0) (live:=jk) (ob h (oe e))
theorem ZK {sl:Int} {a dd:List ak} (e:T (.exit 2) ((mA (cC p sl (.slice a) nl)).al dy)):KD (roundOf Tryz.f20 1) T ((pO (cC p sl (.slice a) nl)).al dy):=by
 refine aq [] [] (H:=V0) (live:=jk) ?_;exact oe e
theorem adE {p sl:Int} {c m:List ak} {g h d l:Bool} (a:aB p 0=g) (b:aB sl 0=h) (f:aB (ofNat c.length) 0=d) 
  (j:d=true->KD (.loop (roundOf Tryz.f20 0)) (fun e q=>e=.exit 0/\q=(mB (cC p sl (.slice c) nl)).al dy) ((pQ (cC p sl (.slice c) nl)).al dy))
  (k:d=true->KD (.loop (roundOf Tryz.f20 1)) (fun e q=>e=.exit 2/\q=(mA (cC p sl (.slice c) nl)).al dy) ((pO (cC p sl (.slice c) nl)).al dy)) :
  ae 20 [.dat (aN p sl (.slice c) nl),.dat (aN 0 0 nl nl)] (bv (g&&(h&&(d&&true)))):=by
 refine co [11,17,26] [] (x:=.of Tryz.f20 Ac jk) ?_;refine ox a ?_
 cases g
 ·exact fi
 refine ox b ?_
 cases h
 ·exact fi
 refine ox f ?_
 cases d
 ·exact fi
 refine lo (j rfl) ?_;rintro i s ⟨rfl,rfl⟩;refine⟨_,rfl,?_⟩;refine lo (k rfl) ?_;rintro i s ⟨rfl,rfl⟩;refine⟨_,rfl,?_⟩;exact fi
theorem ZP {sl:Int} {es a:List ak} (e:T (.exit 0) ((mB (cC p sl nl (.slice a))).al dy)):KD (roundOf Tryz.f20 0) T ((pQ (cC p sl nl (.slice a))).al dy):=by
 refine aq [] [] (H:=V0) (live:=jk) ?_;exact oe e
theorem ZL {sl:Int} {es a:List ak} (h:aF 0 (ofNat a.length)=false) (e:T (.exit 2) ((mA (cC p sl nl (.slice a))).al dy)):KD (roundOf Tryz.f20 1) T ((pO (cC p sl nl (.slice a))).al dy):=by
 exact aq [60] [] (H:=V0) (live:=jk) (ob h (oe e))
theorem adF {p sl:Int} {m c:List ak} {f h l d:Bool} (a:aB p 0=f) (b:aB sl 0=h) (g:aB (ofNat c.length) 0=d) 
  (j:d=true->KD (.loop (roundOf Tryz.f20 0)) (fun e q=>e=.exit 0/\q=(mB (cC p sl nl (.slice c))).al dy) ((pQ (cC p sl nl (.slice c))).al dy))
  (k:d=true->KD (.loop (roundOf Tryz.f20 1)) (fun e q=>e=.exit 2/\q=(mA (cC p sl nl (.slice c))).al dy) ((pO (cC p sl nl (.slice c))).al dy)) :
  ae 20 [.dat (aN p sl nl (.slice c)),.dat (aN 0 0 nl nl)] (bv (f&&(h&&(true&&d)))):=by
 refine co [11,17,35] [] (x:=.of Tryz.f20 Ac jk) ?_;refine ox a ?_
 cases f
 ·exact fi
 refine ox b ?_
 cases h
 ·exact fi
 refine ox g ?_
 cases d
 ·exact fi
 refine lo (j rfl) ?_;rintro i s ⟨rfl,rfl⟩;refine⟨_,rfl,?_⟩;refine lo (k rfl) ?_;rintro i s ⟨rfl,rfl⟩;refine⟨_,rfl,?_⟩;exact fi
theorem ZQ {sl:Int} {es dd:List ak} (e:T (.exit 0) ((mB (cC p sl nl nl)).al dy)):KD (roundOf Tryz.f20 0) T ((pQ (cC p sl nl nl)).al dy):=by
 refine aq [] [] (H:=V0) (live:=jk) ?_;exact oe e
theorem ZM {sl:Int} {es dd:List ak} (e:T (.exit 2) ((mA (cC p sl nl nl)).al dy)):KD (roundOf Tryz.f20 1) T ((pO (cC p sl nl nl)).al dy):=by
 refine aq [] [] (H:=V0) (live:=jk) ?_;exact oe e
theorem adG {p sl:Int} {l k:List ak} {c d i j:Bool} (a:aB p 0=c) (b:aB sl 0=d) 
  (g:KD (.loop (roundOf Tryz.f20 0)) (fun e q=>e=.exit 0/\q=(mB (cC p sl nl nl)).al dy) ((pQ (cC p sl nl nl)).al dy))
  (h:KD (.loop (roundOf Tryz.f20 1)) (fun e q=>e=.exit 2/\q=(mA (cC p sl nl nl)).al dy) ((pO (cC p sl nl nl)).al dy)) :
  ae 20 [.dat (aN p sl nl nl),.dat (aN 0 0 nl nl)] (bv (c&&(d&&(true&&true)))):=by
 refine co [11,17] [] (x:=.of Tryz.f20 Ac jk) ?_;refine ox a ?_
 cases c
 ·exact fi
 refine ox b ?_
 cases d
 ·exact fi
 refine lo g ?_;rintro f s ⟨rfl,rfl⟩;refine⟨_,rfl,?_⟩;refine lo h ?_;rintro f s ⟨rfl,rfl⟩;refine⟨_,rfl,?_⟩;exact fi
theorem th {n:Nat} (h:aB (ofNat n) 0=true):aF 0 (ofNat n)=false:=by
 rw[cN] at h
 have:(n:Int)=0:=by grind
 rw[dA];grind
theorem uS {c:List ac} (h:∀{T:ej},T (.exit 0) ((mB c).al dy)->KD (roundOf Tryz.f20 0) T ((pQ c).al dy)) :
  KD (.loop (roundOf Tryz.f20 0)) (fun e q=>e=.exit 0/\q=(mB c).al dy) ((pQ c).al dy):=by
 refine cA (St:=fun _=>(pQ c).al dy) 0 (fun i a=>absurd a (by omega)) ?_ (i:=0) (Nat.le_refl _);exact h ⟨rfl,rfl⟩
theorem uR {c:List ac} (h:∀{T:ej},T (.exit 2) ((mA c).al dy)->KD (roundOf Tryz.f20 1) T ((pO c).al dy)) :
  KD (.loop (roundOf Tryz.f20 1)) (fun e q=>e=.exit 2/\q=(mA c).al dy) ((pO c).al dy):=by
 refine cA (St:=fun _=>(pO c).al dy) 0 (fun i a=>absurd a (by omega)) ?_ (i:=0) (Nat.le_refl _);exact h ⟨rfl,rfl⟩
noncomputable def JB:Hints:=⟨bV,zY,bi,rowsOf bi 39⟩
def za (c:List ac) (d n i:Int):ab:=⟨[(6,iv i),(5,iv n),(2,.ptr (.loc 2) 0),(1,iv d)],[(.loc 2,.cells c)],[],0⟩
def DK (c:List ac) (d n i:Int):ab:=⟨[(55,bv false),(6,iv i),(5,iv n),(2,.ptr (.loc 2) 0),(1,iv d)],[(.loc 2,.cells c)],[],0⟩
def nf (e:Int):ab:=⟨[(4,iv e)],[],[],0⟩
def rR (c:List ac) (d i:Int):ab:=⟨[(8,iv i),(2,.ptr (.loc 2) 0),(1,iv d)],[(.loc 2,.cells c)],[],0⟩
def vq (c:List ac) (d i:Int):ab:=⟨[(91,bv false),(8,iv i),(2,.ptr (.loc 2) 0),(1,iv d)],[(.loc 2,.cells c)],[],0⟩
def Cm (c:List ac) (d i k:Int):ab:=⟨[(9,iv k),(8,iv i),(2,.ptr (.loc 2) 0),(1,iv d)],[(.loc 2,.cells c)],[],0⟩
def Ii (c:List ac) (d i k:Int):ab:=⟨[(101,bv false),(9,iv k),(8,iv i),(2,.ptr (.loc 2) 0),(1,iv d)],[(.loc 2,.cells c)],[],0⟩
theorem aeJ {sl:Int} {e:List ak} {h:ak} (s:dj h) {n:List UInt8} {k:ak} {l:Int} {y:ak} {c:List UInt8} (u:dj k) (g:dj y) {j:Bool} (o:aF i (ofNat e.length)=true)
  (v:ap ba 23 [.dat (.slice e),.dat (.flat (.int .i64 i))]=some ⟨.ref [i64 q,i64 f,i64 a,i64 b,i64 m,sb n,k,i64 r,sb t,i64 l,y,i64 C,i64 I,sb c,nl],.keep⟩) (V:ae 70 [.dat (aN p sl (.slice e) h),.dat (eH q f a b m n k r t l y C I c)] (bv j))
  (E:j=true->T .normal ((za (cC p sl (.slice e) h) d (ofNat e.length) (an .i64 (i+1))).al cK)) (F:j=false->T .ret ((nf 2).al cK)) :
  KD (roundOf Tryz.f39 0) T ((za (cC p sl (.slice e) h) d (ofNat e.length) i).al cK):=by
 have w:=@yv false q f a b m n _ r t l _ C I c u g;have x:=@aO false 2 p sl (.slice e) _ (.inr ⟨_,rfl⟩) s;refine aq [55] [58,62,63] (H:=JB) (live:=ka) (ob o (oo x (oo v (oo w (on V ?_)))))
 cases j
 ·exact oe (F rfl)
 exact oe (E rfl)
theorem abK {sl:Int} {b:List ak} {a:ak} (o:aF i n=false) (e:T (.exit 0) ((DK (cC p sl (.slice b) a) d n i).al cK)) :
  KD (roundOf Tryz.f39 0) T ((za (cC p sl (.slice b) a) d n i).al cK):=by
 exact aq [55] [] (H:=JB) (live:=ka) (ob o (oe e))
theorem aeK {sl:Int} {L:List ak} {w:List UInt8} {D:List UInt8} {J:ak} {B:Bool} {N:ak} {x:List UInt8} {F:Int} {Q:ak} {r s:ak} {A:List UInt8} (a:dj J) (b:dj N) (f:dj Q) (g:dj r) (G:dj s) {o q n I:Bool} (W:aF k (ofNat l.length)=true)
  (R:ap ba 24 [.dat (.slice L),.dat (.flat (.int .i64 i))]=some ⟨.ref [.slice l],.keep⟩)
  (Y:ap ba 54 [.dat (.slice l),.dat (.flat (.int .i64 k))]=some ⟨.ref [i64 j,sb w,i64 u,i64 C,sb D,i64 e,J,bl B,N,sb x,i64 F,sb t,i64 h,Q,i64 y,i64 m,i64 c,r,s,sb A],.keep⟩)
  (k1:aF j 1=o) (K:aF 5 j=q) (M:aB j 2=n) (Z:ae 20 [.dat (aN m c r s),.dat (aN 0 0 nl nl)] (bv z)) (V:ae 39 [.dat (aN m c r s),iv (an .i64 (d+1))] (iv v)) (O:aB v 0=I)
  (U:(if n=true then I else (!(o||q)&&z))=true->T .normal ((Cm (cC p sl E (.slice L)) d i (an .i64 (k+1))).al cK))
  (t2:n=true->I=false->T .ret ((nf v).al cK)) (P:n=false->(!(o||q)&&z)=false->T .ret ((nf 2).al cK)) :
  KD (roundOf Tryz.f39 2) T ((Cm (cC p sl E (.slice L)) d i k).al cK):=by
 have q2:=@QK false j w u C D e _ B _ x F t h _ y m c _ _ A a b f g G;have q3:=@Vo 10 j w u C D e _ B _ x F t h _ y m c _ _ A a b f g G;have S:=@QL false 10 j w u C D e J B N x F t h Q y m c _ _ A g G;clear a b f g G;refine aq [101,114,121,125,129] [98,107,110,111,100010,116,133] (H:=JB) (live:=ka) (oo R (ob W (oo R (oo Y (oo q2 (oo q3 (ob M ?_)))))))
 cases n
 ·refine ob k1 ?_
  cases o
  ·refine ob K ?_
   cases q
   ·refine oo S (on Z ?_)
    cases z
    ·exact oe (P rfl rfl)
    exact oe (U rfl)
   exact oe (P rfl rfl)
  exact oe (P rfl rfl)
 refine oo S (on V (ox O ?_))
 cases I
 ·exact oe (t2 rfl rfl)
 exact oe (U rfl)
theorem abL {sl:Int} {a:List ak} (b:aF k (ofNat l.length)=false)
  (c:ap ba 24 [.dat (.slice a),.dat (.flat (.int .i64 i))]=some ⟨.ref [.slice l],.keep⟩) (e:T (.exit 4) ((Ii (cC p sl E (.slice a)) d i k).al cK)) :
  KD (roundOf Tryz.f39 2) T ((Cm (cC p sl E (.slice a)) d i k).al cK):=by
 exact aq [101] [98] (H:=JB) (live:=ka) (oo c (ob b (oe e)))
theorem aeL {sl:Int} {a:List ak} (b:aF i (ofNat a.length)=true)
  (l:KD (.loop (roundOf Tryz.f39 2)) (fun e q=>(e=.exit 4/\z=true/\∃k,q=(Ii (cC p sl E (.slice a)) d i k).al cK)∨(e=.ret/\z=false/\q=(nf v).al cK)) ((Cm (cC p sl E (.slice a)) d i 0).al cK))
  (c:z=true->T .normal ((rR (cC p sl E (.slice a)) d (an .i64 (i+1))).al cK)) (f:z=false->T .ret ((nf v).al cK)) :
  KD (roundOf Tryz.f39 1) T ((rR (cC p sl E (.slice a)) d i).al cK):=by
 refine aq [91] [] (H:=JB) (live:=ka) (ob b ?_);refine lo l ?_;rintro g s (⟨rfl,rfl,⟨h,rfl⟩⟩|⟨rfl,rfl,rfl⟩)
 ·refine⟨_,rfl,?_⟩;exact oe (c rfl)
 refine⟨_,rfl,?_⟩;exact oe (f rfl)
theorem abM {sl:Int} {a:List ak} (b:aF i (ofNat a.length)=false) (e:T (.exit 2) ((vq (cC p sl E (.slice a)) d i).al cK)) :
  KD (roundOf Tryz.f39 1) T ((rR (cC p sl E (.slice a)) d i).al cK):=by
 exact aq [91] [] (H:=JB) (live:=ka) (ob b (oe e))
theorem abN {sl:Int} (e:T (.exit 2) ((vq (cC p sl E nl) d 0).al cK)) :
  KD (roundOf Tryz.f39 1) T ((rR (cC p sl E nl) d 0).al cK):=by
 refine aq [] [] (H:=JB) (live:=ka) ?_;exact oe e
theorem abG {sl:Int} {es dd:List ak} {h m n o r t u f j g a b c:Bool}
  (G:aF 40 d=h) (K:aF 200 sl=m) (I:aF p 0=r) (J:aF 6 p=t) (L:aF sl p=u) (M:aF 2000 (ofNat es.length)=n) (H:aF 2000 (ofNat dd.length)=o) (N:aB (ofNat es.length) 0=f)
  (l:f=false->KD (.loop (roundOf Tryz.f39 0)) (fun e q=>(e=.exit 0/\j=true/\∃i,q=(DK (cC p sl (.slice es) (.slice dd)) d (ofNat es.length) i).al cK)∨(e=.ret/\j=false/\q=(nf 2).al cK)) ((za (cC p sl (.slice es) (.slice dd)) d (ofNat es.length) 0).al cK)) {O:List ak} (C:f=false->ap ba 23 [.dat (.slice es),.dat (.flat (.int .i64 (an .i64 (ofNat es.length - 1))))]=some ⟨.ref (i64 k::O),.keep⟩)
  (D:aB k 12=a) (E:aB k 16=b) (F:aB k 19=c) (A:j=true->ae 71 [.dat (aN p sl (.slice es) (.slice dd))] (bv g))
  (y:h=false->KD (.loop (roundOf Tryz.f39 1)) (fun e q=>(e=.exit 2/\z=true/\∃i,q=(vq (cC p sl (.slice es) (.slice dd)) d i).al cK)∨(e=.ret/\z=false/\q=(nf v).al cK)) ((rR (cC p sl (.slice es) (.slice dd)) d 0).al cK)) :
  ae 39 [.dat (aN p sl (.slice es) (.slice dd)),iv d] (iv (nt h m n o r t u f j (a||(b||c)) g (if z=true then 0 else v))):=by
 have B:=@aO false 2 p sl (.slice es) (.slice dd) (.inr ⟨_,rfl⟩) (.inr ⟨_,rfl⟩);refine co [13,17,23,29,36,40,47,51,74,77,81] [70,84] (x:=.of Tryz.f39 zY ka) ?_;refine ob G ?_
 cases h
 ·refine ob K ?_
  cases m
  ·refine ob M ?_
   cases n
   ·refine ob H ?_
    cases o
    ·refine ob I ?_
     cases r
     ·refine ob J ?_
      cases t
      ·refine ob L ?_
       cases u
       ·refine ob N ?_
        cases f
        ·refine lo (l rfl) ?_;rintro w s (⟨rfl,rfl,⟨P,rfl⟩⟩|⟨rfl,rfl,rfl⟩)
         ·refine⟨_,rfl,?_⟩;refine oo (C rfl) (ox D ?_)
          cases a
          ·refine ox E ?_
           cases b
           ·refine ox F ?_
            cases c
            ·exact fi
            refine oo B (on (A rfl) ?_)
            cases g
            ·refine lo (y rfl) ?_;rintro w s (⟨rfl,rfl,⟨S,rfl⟩⟩|⟨rfl,rfl,rfl⟩) <;>
             ·refine⟨_,rfl,?_⟩;exact fi
            exact fi
           refine oo B (on (A rfl) ?_)
           cases g
           ·refine lo (y rfl) ?_;rintro w s (⟨rfl,rfl,⟨R,rfl⟩⟩|⟨rfl,rfl,rfl⟩) <;>
            ·refine⟨_,rfl,?_⟩;exact fi
           exact fi
          refine oo B (on (A rfl) ?_)
          cases g
          ·refine lo (y rfl) ?_;rintro w s (⟨rfl,rfl,⟨Q,rfl⟩⟩|⟨rfl,rfl,rfl⟩) <;>
           ·refine⟨_,rfl,?_⟩;exact fi
          exact fi
         refine⟨_,rfl,?_⟩;exact fi
        exact fi
       exact fi
      exact fi
     exact fi
    exact fi
   exact fi
  exact fi
 exact fi
theorem abH {p sl d:Int} {a P:List ak} {j n o O r t u g k h z b c f:Bool} {v:Int}
  (G:aF 40 d=j) (K:aF 200 sl=n) (H:aF p 0=r) (I:aF 6 p=t) (J:aF sl p=u) (M:aF 2000 (ofNat a.length)=o) (L:aB (ofNat a.length) 0=g)
  (l:g=false->KD (.loop (roundOf Tryz.f39 0)) (fun e q=>(e=.exit 0/\k=true/\∃i,q=(DK (cC p sl (.slice a) nl) d (ofNat a.length) i).al cK)∨(e=.ret/\k=false/\q=(nf 2).al cK)) ((za (cC p sl (.slice a) nl) d (ofNat a.length) 0).al cK))
  {m:Int} {N:List ak} (C:g=false->ap ba 23 [.dat (.slice a),.dat (.flat (.int .i64 (an .i64 (ofNat a.length - 1))))]=some ⟨.ref (i64 m::N),.keep⟩)
  (D:aB m 12=b) (E:aB m 16=c) (F:aB m 19=f) (A:k=true->ae 71 [.dat (aN p sl (.slice a) nl)] (bv h))
  (y:j=false->KD (.loop (roundOf Tryz.f39 1)) (fun e q=>(e=.exit 2/\z=true/\∃i,q=(vq (cC p sl (.slice a) nl) d i).al cK)∨(e=.ret/\z=false/\q=(nf v).al cK)) ((rR (cC p sl (.slice a) nl) d 0).al cK)) :
  ae 39 [.dat (aN p sl (.slice a) nl),iv d] (iv (nt j n o false r t u g k (b||(c||f)) h (if z=true then 0 else v))):=by
 have B:=@aO false 2 p sl (.slice a) nl (.inr ⟨_,rfl⟩) (.inl rfl);refine co [13,17,23,36,40,47,51,74,77,81] [70,84] (x:=.of Tryz.f39 zY ka) ?_;refine ob G ?_
 cases j
 ·refine ob K ?_
  cases n
  ·refine ob M ?_
   cases o
   ·refine ob H ?_
    cases r
    ·refine ob I ?_
     cases t
     ·refine ob J ?_
      cases u
      ·refine ob L ?_
       cases g
       ·refine lo (l rfl) ?_;rintro w s (⟨rfl,rfl,⟨Q,rfl⟩⟩|⟨rfl,rfl,rfl⟩)
        ·refine⟨_,rfl,?_⟩;refine oo (C rfl) (ox D ?_)
         cases b
         ·refine ox E ?_
          cases c
          ·refine ox F ?_
           cases f
           ·exact fi
           refine oo B (on (A rfl) ?_)
           cases h
           ·refine lo (y rfl) ?_;rintro w s (⟨rfl,rfl,⟨T,rfl⟩⟩|⟨rfl,rfl,rfl⟩) <;>
            ·refine⟨_,rfl,?_⟩;exact fi
           exact fi
          refine oo B (on (A rfl) ?_)
          cases h
          ·refine lo (y rfl) ?_;rintro w s (⟨rfl,rfl,⟨S,rfl⟩⟩|⟨rfl,rfl,rfl⟩) <;>
           ·refine⟨_,rfl,?_⟩;exact fi
          exact fi
         refine oo B (on (A rfl) ?_)
         cases h
         ·refine lo (y rfl) ?_;rintro w s (⟨rfl,rfl,⟨R,rfl⟩⟩|⟨rfl,rfl,rfl⟩) <;>
          ·refine⟨_,rfl,?_⟩;exact fi
         exact fi
        refine⟨_,rfl,?_⟩;exact fi
       exact fi
      exact fi
     exact fi
    exact fi
   exact fi
  exact fi
 exact fi
theorem abI {p sl d:Int} {t g:List ak} {a q r b c e f s u w z m n o:Bool} {v:Int}
  (h:aF 40 d=a) (K:aF 200 sl=q) (j:aF p 0=c) (k:aF 6 p=e) (l:aF sl p=f) (i:aF 2000 (ofNat g.length)=b) :
  ae 39 [.dat (aN p sl nl (.slice g)),iv d] (iv (nt a q false b c e f true false false false 0)):=by
 refine co [13,17,29,36,40,47] [] (x:=.of Tryz.f39 zY ka) ?_;refine ob h ?_
 cases a
 ·refine ob K ?_
  cases q
  ·refine ob i ?_
   cases b
   ·refine ob j ?_
    cases c
    ·refine ob k ?_
     cases e
     ·refine ob l ?_
      cases f <;>
      ·exact fi
     exact fi
    exact fi
   exact fi
  exact fi
 exact fi
theorem abJ {p sl d:Int} {s r:List ak} {a q m n b c e o t u z j k l:Bool} {v:Int}
  (f:aF 40 d=a) (K:aF 200 sl=q) (g:aF p 0=b) (h:aF 6 p=c) (i:aF sl p=e) :
  ae 39 [.dat (aN p sl nl nl),iv d] (iv (nt a q false false b c e true false false false 0)):=by
 refine co [13,17,36,40,47] [] (x:=.of Tryz.f39 zY ka) ?_;refine ob f ?_
 cases a
 ·refine ob K ?_
  cases q
  ·refine ob g ?_
   cases b
   ·refine ob h ?_
    cases c
    ·refine ob i ?_
     cases e <;>
     ·exact fi
    exact fi
   exact fi
  exact fi
 exact fi
theorem Iz (c:gM):ae 20 [.dat c.enc,.dat (aN 0 0 nl nl)] (bv c.zero):=by
 obtain⟨L,sl,k,d,j,i⟩:=c;have m:ofNat (encI d).length=ofNat d.length:=by rw[bH]
 have n:ofNat (aG i).length=ofNat i.length:=by rw[dJ]
 have l:∀(a b:ak),(a=.slice (encI d)∨(a=nl/\d=[]))->(b=.slice (aG i)∨(b=nl/\i=[]))->ae 20 [.dat (aN L sl a b),.dat (aN 0 0 nl nl)] (bv (gM.zero (.mk L sl k d j i))):=by
  rintro a b (rfl|⟨rfl,rfl⟩) (rfl|⟨rfl,rfl⟩)
  ·have:=@adD L sl (encI d) (aG i) _ _ _ _ rfl rfl rfl rfl (fun f g=>uS (fun e=>ZN (th f) e)) (fun f g=>uR (fun e=>ZJ (th g) e))
   rw[m,n] at this;exact this
  ·have:=@adE L sl (encI d) [] _ _ _ true rfl rfl rfl (fun f=>uS (fun e=>ZO (dd:=[]) (th f) e)) (fun f=>uR (fun e=>ZK (dd:=[]) e))
   rw[m] at this;exact this
  ·have:=@adF L sl [] (aG i) _ _ true _ rfl rfl rfl (fun g=>uS (fun e=>ZP (es:=[]) e)) (fun g=>uR (fun e=>ZL (es:=[]) (th g) e))
   rw[n] at this;exact this
  exact @adG L sl [] [] _ _ true true rfl rfl (uS (fun e=>ZQ (es:=[]) (dd:=[]) e)) (uR (fun e=>ZM (es:=[]) (dd:=[]) e))
 refine l (sx k (encI d)) (sx j (aG i)) ?_ ?_
 ·rcases jG k (encI d) with h|⟨h,o⟩
  ·exact .inl h
  refine .inr ⟨h,?_⟩
  cases d with
  | nil=>rfl
  | cons a r=>simp[encI] at o
 rcases jG j (aG i) with h|⟨h,o⟩
 ·exact .inl h
 refine .inr ⟨h,?_⟩
 cases i with
 | nil=>rfl
 | cons a r=>simp[aG] at o
theorem OY {p sl d:Int} {f:List Ins} {j:Bool} {g:List ak} (z:∀x∈f,x.gN) (N:f.length < 1000000) :
  KD (.loop (roundOf Tryz.f39 0)) (fun e q=>(e=.exit 0/\f.all (fun x=>iJ (ofNat f.length) (ofNat g.length) sl x)=true/\∃i,q=(DK (cC p sl (.slice (encI f)) (sx j g)) d (ofNat (encI f).length) i).al cK)∨(e=.ret/\f.all (fun x=>iJ (ofNat f.length) (ofNat g.length) sl x)=false/\q=(nf 2).al cK))
   ((za (cC p sl (.slice (encI f)) (sx j g)) d (ofNat (encI f).length) 0).al cK):=by
 have h:(encI f).length=f.length:=bH f;refine cV (St:=fun i=>(za (cC p sl (.slice (encI f)) (sx j g)) d (ofNat (encI f).length) (ofNat i)).al cK) (fun i=>f.all (fun x=>iJ (ofNat f.length) (ofNat g.length) sl x)=(f.drop i).all (fun x=>iJ (ofNat f.length) (ofNat g.length) sl x)) f.length ?_ ?_ (i:=0) (Nat.zero_le _) rfl
 ·intro i k l;have J:f[i]?=some f[i]:=List.getElem?_eq_getElem k;have r:f[i]∈f:=List.getElem_mem k;have D:(f.drop i).all (fun x=>iJ (ofNat f.length) (ofNat g.length) sl x)=(iJ (ofNat f.length) (ofNat g.length) sl f[i]&&(f.drop (i+1)).all (fun x=>iJ (ofNat f.length) (ofNat g.length) sl x)):=by rw[List.drop_eq_getElem_cons k];rfl
  generalize f[i]=x at J D r;rw[←l] at D;have y:an .i64 (ofNat i+1)=ofNat (i+1):=bb (by omega);have V:=@BQ p sl (encI f) g j _ (z x r);rw[h] at V;have o:=xn J;generalize iJ (ofNat f.length) (ofNat g.length) sl x=b at V D;obtain⟨F,v,a,B,m,n,s,u,⟨G,t,E,A⟩,C,I,c⟩:=x;refine aeJ (dq j g) (dq s (u.map iN)) (dr (ax A)) (br (by rw[h];exact k)) o V ?_ ?_
  ·rintro rfl;rw[y];exact⟨rfl,D⟩
  rintro rfl;exact .inr ⟨rfl,D,rfl⟩
 intro l;have w:f.all (fun x=>iJ (ofNat f.length) (ofNat g.length) sl x)=true:=by rw[l,List.drop_length];rfl
 exact abK (cj (by rw[h];omega)) (.inl ⟨rfl,w,_,rfl⟩)
def EdR (d:Nat) (e:fG):Prop:=match e with
 | .mk _ _ _ _ _ c _=>∀a:Int,a=an .i64 (ofNat d+1)->ae 39 [.dat c.enc,iv a] (iv (c.val (d+1)))
theorem OZ {p sl:Int} {E:ak} {d:Nat} {s:List (List fG)} {i:Nat} {l:List fG} (N:l.length < 1000000) (hi:s[i]?=some l) (V:∀e∈l,EdR d e) :
  KD (.loop (roundOf Tryz.f39 2)) (fun e q=>(e=.exit 4/\aB (uP l d) 0=true/\∃k,q=(Ii (cC p sl E (.slice (aG s))) (ofNat d) (ofNat i) k).al cK)∨(e=.ret/\aB (uP l d) 0=false/\q=(nf (uP l d)).al cK))
   ((Cm (cC p sl E (.slice (aG s))) (ofNat d) (ofNat i) 0).al cK):=by
 have m:(ir l).length=l.length:=xB l;have o:=VT hi;refine cV (St:=fun k=>(Cm (cC p sl E (.slice (aG s))) (ofNat d) (ofNat i) (ofNat k)).al cK) (fun k=>uP l d=uP (l.drop k) d) l.length ?_ ?_ (i:=0) (Nat.zero_le _) rfl
 ·intro k G j;have J:l[k]?=some l[k]:=List.getElem?_eq_getElem G;have R:l[k]∈l:=List.getElem_mem G;generalize l[k]=e at J R;rw[Hi J] at j;have H:=V e R;have hi2:=VS J;have hw:an .i64 (ofNat k+1)=ofNat (k+1):=bb (by omega);obtain⟨f,⟨U,u,⟨sk,sn,M,sa⟩,sK,Y⟩,Z,⟨tk,t,O,ta⟩,pa,c,pk⟩:=e;have P:ae 39 [.dat c.enc,iv (an .i64 (ofNat d+1))] (iv (c.val (d+1))):=H _ rfl;have S:=Iz c;rw[fG.yH] at j;generalize c.val (d+1)=v at P j;generalize c.zero=z at S j;obtain⟨x,y,L,n,A,w⟩:=c;have F:ap ba _ [.dat (.slice (ir l)),.dat (.flat (.int .i64 (ofNat k)))]=some ⟨.ref [i64 f,sb U,i64 u,i64 sk,sb sn,i64 M,Go.Proofs.YtmpmgmmcaghacaaGreatDoor.sl (ax sa),bl sK,Go.Proofs.YtmpmgmmcaghacaaGreatDoor.sl (BZ Y),sb Z,i64 tk,sb t,i64 O,Go.Proofs.YtmpmgmmcaghacaaGreatDoor.sl (ax ta),i64 pa,i64 x,i64 y,sx L (encI n),sx A (aG w),sb pk],.keep⟩:=hi2;have g:aB f 2=true->aF f 1=false/\aF 5 f=false:=by
   intro h;rw[cN] at h
   have:f=2:=by simpa using h
   subst this;exact⟨rfl,rfl⟩
  have K:ae 20 [.dat (aN x y (sx L (encI n)) (sx A (aG w))),.dat (aN 0 0 nl nl)] (bv z):=S;have I:ae 39 [.dat (aN x y (sx L (encI n)) (sx A (aG w))),iv (an .i64 (ofNat d+1))] (iv v):=P;have W:uP l d=(if aB (sc (aF f 1) (aF 5 f) (aB f 2) z v) 0=true then uP (l.drop (k+1)) d else sc (aF f 1) (aF 5 f) (aB f 2) z v):=j;generalize B:aF f 1=r at W g;generalize C:aF 5 f=Q at W g;generalize D:aB f 2=T at W g;refine aeK (dr _) (dr _) (dr _) (dq _ _) (dq _ _) (br (by rw[m];exact G)) o F B C D K I rfl ?_ ?_ ?_
  ·intro h;rw[hw];refine⟨rfl,?_⟩;rw[W]
   cases T
   ·have h:(!(r||Q)&&z)=true:=h;simp only[Bool.and_eq_true,Bool.not_eq_true',Bool.or_eq_false_iff] at h;obtain⟨⟨rfl,rfl⟩,rfl⟩:=h
    have:sc false false false true v=0:=rfl
    rw[this];exact if_pos rfl
   obtain⟨rfl,rfl⟩:=g rfl;have h:aB v 0=true:=h
   have:sc false false true z v=v:=rfl
   rw[this,if_pos h]
  ·intro h b;subst h;obtain⟨rfl,rfl⟩:=g rfl;have e:sc false false true z v=v:=rfl;rw[e,b] at W
   have:uP l d=v:=W
   rw[this];exact .inr ⟨rfl,b,rfl⟩
  intro h b;subst h;have e:sc r Q false z v=2:=by
   unfold sc
   cases r <;> cases Q <;> cases z <;> simp_all
  rw[e] at W
  have:uP l d=2:=W
  rw[this];exact .inr ⟨rfl,rfl,rfl⟩
 intro j;rw[List.drop_length] at j;have a:aB (uP l d) 0=true:=by rw[j,uP];rfl
 exact abL (cj (by rw[m];omega)) o (.inl ⟨rfl,a,_,rfl⟩)
theorem O0 {p sl:Int} {E:ak} {d:Nat} {b:List (List fG)} (N:b.length < 1000000) (n:∀l∈b,l.length < 1000000) (V:∀l∈b,∀e∈l,EdR d e) :
  KD (.loop (roundOf Tryz.f39 1)) (fun e q=>(e=.exit 2/\aB (kB b d) 0=true/\∃i,q=(vq (cC p sl E (.slice (aG b))) (ofNat d) i).al cK)∨(e=.ret/\aB (kB b d) 0=false/\q=(nf (kB b d)).al cK))
   ((rR (cC p sl E (.slice (aG b))) (ofNat d) 0).al cK):=by
 have c:(aG b).length=b.length:=dJ b;refine cV (St:=fun k=>(rR (cC p sl E (.slice (aG b))) (ofNat d) (ofNat k)).al cK) (fun k=>kB b d=kB (b.drop k) d) b.length ?_ ?_ (i:=0) (Nat.zero_le _) rfl
 ·intro k g f;have J:b[k]?=some b[k]:=List.getElem?_eq_getElem g;have j:b[k]∈b:=List.getElem_mem g;generalize b[k]=l at J j;rw[Db J] at f;have o:an .i64 (ofNat k+1)=ofNat (k+1):=bb (by omega);have m:=@OZ p sl E d _ _ _ (n l j) J (V l j);refine aeL (br (by rw[c];exact g)) m ?_ ?_
  ·intro h;rw[o];refine⟨rfl,?_⟩;rw[f,h];rfl
  intro h;rw[h] at f
  have:kB b d=uP l d:=f
  rw[this];exact .inr ⟨rfl,h,rfl⟩
 intro f;rw[List.drop_length] at f;have a:aB (kB b d) 0=true:=by rw[f,kB];rfl
 exact abM (cj (by rw[c];omega)) (.inl ⟨rfl,a,_,rfl⟩)
theorem Ov (a:Int):(lU (eO a)).fin=(aB a 12||(aB a 16||aB a 19)):=by
 by_cases b:a=12
 ·subst b;rfl
 by_cases c:a=16
 ·subst c;rfl
 by_cases d:a=19
 ·subst d;rfl
 grind[Ks,dL]
theorem DX {sl:Int} {O o:Bool} {f:List Ins} {g:List (List fG)} {d:Nat} (hx:∀x∈f,x.gN) (N:f.length < 1000000) (T:g.length < 1000000) (hl:∀l∈g,l.length < 1000000)
  (V:d<=40->∀l∈g,∀e∈l,EdR d e) :
  ae 39 [.dat (gM.enc (.mk j sl O f o g)),iv (ofNat d)] (iv (gM.val (.mk j sl O f o g) d)):=by
 have y:ofNat (encI f).length=ofNat f.length:=by rw[bH]
 have b:ofNat (aG g).length=ofNat g.length:=by rw[dJ]
 have e0:gM.enc (.mk j sl O f o g)=aN j sl (sx O (encI f)) (sx o (aG g)):=rfl;rw[e0,gM.yH]
 rcases jG O (encI f) with H|⟨H,S⟩
 ·rw[H];have k:=@OY j sl (ofNat d) _ o (aG g) hx N;rw[b] at k;have K:∀P:Bool,aB (ofNat f.length) 0=P->∃(op:Int) (Z:List ak),(P=false->ap ba 23 [.dat (.slice (encI f)),.dat (.flat (.int .i64 (an .i64 (ofNat (encI f).length - 1))))]=some ⟨.ref (i64 op::Z),.keep⟩)/\oC f=(aB op 12||(aB op 16||aB op 19)):=by
   intro P G
   cases P
   ·have w:0 < f.length:=by
     rcases Nat.eq_zero_or_pos f.length with h|h
     ·rw[h] at G;simp[cN] at G
     exact h
    have J:f[f.length - 1]?=some f[f.length - 1]:=List.getElem?_eq_getElem (by omega);have hw:an .i64 (ofNat (encI f).length - 1)=ofNat (f.length - 1):=by
     rw[y,cQ,show ofNat f.length - 1=ofNat (f.length - 1) by simp;omega];exact wrap_i64 (by show _<=((f.length - 1:Nat):Int);omega) (by show ((f.length - 1:Nat):Int)<=_;omega)
    have Y:oC f=(lU (eO f[f.length - 1].op)).fin:=by unfold oC;rw[J]
    generalize f[f.length - 1]=x at J Y;have hi2:=xn J;rw[←hw] at hi2;obtain⟨op,ad,a,b',m,n,az,u,⟨xk,t,ix,la⟩,C,I,c⟩:=x;exact⟨op,_,fun _=>hi2,Y.trans (Ov op)⟩
   have:f=[]:=by
    cases f with
    | nil=>rfl
    | cons a r=>exact absurd G (by simp[cN];omega)
   subst this;exact⟨0,[],fun h=>by simp at h,rfl⟩
  obtain⟨op,Z,M,z⟩:=K _ rfl;have s:∀U:Bool,f.all (fun x=>iJ (ofNat f.length) (ofNat g.length) sl x)=U->(U=true->ae 71 [.dat (aN j sl (.slice (encI f)) (sx o (aG g)))] (bv (lO f))):=by
   intro U y b;rw[b] at y;exact O7 (dq o (aG g)) (Gk y) N
  have hz:∀v:Int,(if aB v 0=true then (0:Int) else v)=v:=by
   intro v
   split
   ·rename_i h;rw[cN] at h;simpa using (beq_iff_eq.1 h).symm
   rfl
  rcases jG o (aG g) with A|⟨A,B⟩
  ·rw[A] at k s ⊢;have W:=fun G:aF 40 (ofNat d)=false=>@O0 j sl (.slice (encI f)) d _ T hl (V (Gy G))
   have:=abG (p:=j) (sl:=sl) (d:=ofNat d) (es:=encI f) (dd:=aG g) rfl rfl rfl rfl rfl (by rw[y]) (by rw[b]) (by rw[y]) (fun _=>k) M rfl rfl rfl (s _ rfl) W
   rw[hz,←z] at this;exact this
  rw[A] at k s ⊢;have D:g=[]:=by
   cases g with
   | nil=>rfl
   | cons a r=>simp[aG] at B
  subst D;have R:KD (.loop (roundOf Tryz.f39 1)) (fun e q=>(e=.exit 2/\true=true/\∃i,q=(vq (cC j sl (.slice (encI f)) nl) (ofNat d) i).al cK)∨(e=.ret/\true=false/\q=(nf 0).al cK)) ((rR (cC j sl (.slice (encI f)) nl) (ofNat d) 0).al cK):=by
   refine cA (St:=fun _=>(rR (cC j sl (.slice (encI f)) nl) (ofNat d) 0).al cK) 0 (fun i H=>absurd H (by omega)) ?_ (i:=0) (Nat.le_refl _);exact abN (.inl ⟨rfl,rfl,_,rfl⟩)
  have:=@abH j sl (ofNat d) (encI f) [] _ _ _ true _ _ _ _ _ _ _ _ _ _ _ rfl rfl rfl rfl rfl (by rw[y]) (by rw[y]) (fun _=>k) _ _ M rfl rfl rfl (s _ rfl) (fun _=>R)
  rw[←z] at this;exact this
 rw[H];have L:f=[]:=by
  cases f with
  | nil=>rfl
  | cons a r=>simp[encI] at S
 subst L;have hh:∀Q:Bool,aF 2000 (ofNat g.length)=Q->C0 d j sl [] g.length (kB g d)=nt (aF 40 (ofNat d)) (aF 200 sl) false Q (aF j 0) (aF 6 j) (aF sl j) true false false false 0:=by
  intro Q h;subst h;unfold C0 nt;have E:aB (ofNat ([]:List Ins).length) 0=true:=rfl;have F:aF 2000 (ofNat ([]:List Ins).length)=false:=rfl;rw[E,F];simp only[Bool.or_true,if_true]
 rw[hh _ rfl]
 rcases jG o (aG g) with A|⟨A,B⟩
 ·rw[A]
  have:=@abI j sl (ofNat d) [] (aG g) _ _ true _ _ _ _ true true true true true true true 0 rfl rfl rfl rfl rfl rfl
  rw[b] at this;exact this
 rw[A];have D:g=[]:=by
  cases g with
  | nil=>rfl
  | cons a r=>simp[aG] at B
 subst D;exact @abJ j sl (ofNat d) [] [] _ _ true true _ _ _ true true true true true true true 0 rfl rfl rfl rfl rfl
mutual
theorem nW:∀(c:gM) (d:Nat),c.ok->d<=41->ae 39 [.dat c.enc,iv (ofNat d)] (iv (c.val d))
 | .mk t sl A s y n,d,h,D=>by
  obtain⟨o,b,f,g⟩:=h;exact DX o b f (fun l p=>(Al g l p).1) (fun m=>FW n d g m)
theorem FW:∀(l:List (List fG)) (d:Nat),nj l->d<=40->∀x∈l,∀e∈x,EdR d e
 | [],_,_,_,x,j,_,_=>by grind
 | a::r,d,h,D,x,j,e,i=>by
  rcases List.mem_cons.1 j with j|j
  ·rw[j] at i;exact KF a d h.2.1 D e i
  exact FW r d h.2.2 D x j e i
theorem KF:∀(l:List fG) (d:Nat),Ss l->d<=40->∀e∈l,EdR d e
 | [],_,_,_,e,i=>by grind
 | a::r,d,h,D,e,i=>by
  rcases List.mem_cons.1 i with i|i
  ·rw[i];exact Tq a d h.1 D
  exact KF r d h.2 D e i
theorem Tq:∀(e:fG) (d:Nat),e.ok->d<=40->EdR d e
 | .mk w v z C t c B,d,h,D=>by
  intro u k;have q:an .i64 (ofNat d+1)=ofNat (d+1):=bb (by omega);rw[k,q];exact nW c (d+1) h.2.2 (by omega)
end
theorem aw3 {a b:ak} (c:dj a) (d:dj b) (h:ae 38 [.dat (aN p s a b),iv 1] (iv v)):ae 13 [.dat (aN p s a b)] (iv v):=by
 have e:=aS (p:=p) (s:=s) c d;have f:=aO false 1 (p:=p) (s:=s) c d;refine co [] [1,3] (x:=.of Tryz.f13 P8 QG) ?_;exact oo e (oo f (on h fi))
theorem awe {a b:ak} (c:dj a) (d:dj b) (h:ae 39 [.dat (aN p s a b),iv 1] (iv v)):ae 14 [.dat (aN p s a b)] (iv v):=by
 have e:=aS (p:=p) (s:=s) c d;have f:=aO false 1 (p:=p) (s:=s) c d;refine co [] [1,3] (x:=.of Tryz.f14 P8 QG) ?_;exact oo e (oo f (on h fi))
theorem av9 {b:List ak} {c:ak} {e:List ak} (d:dj c) (o:aF i 0=false) (a:aF i (ofNat b.length)=true) (h:ae 40 [.dat (aN p s (.slice b) c),iv i] (.dat (sl e))):ae 16 [.dat (aN p s (.slice b) c),iv i] (.dat (sl e)):=by
 have f:=@aS p s (.slice b) _ (.inr ⟨_,rfl⟩) d;have g:=@aO false 2 p s (.slice b) _ (.inr ⟨_,rfl⟩) d;rcases e with _|⟨x,y⟩ <;>
 ·refine co [6,12] [2,14] (x:=.of Tryz.f16 P8 aua) ?_;exact oo f (ob o (ox a (oo g (on h fi))))
theorem as8:ae 12 [] (bv true):=dE _ _ _ _ _ (by kernel_rfl)
theorem arD {a:List Ins} {b:ak} {i:Nat} {x:Ins} (c:dj b) (d:a[i]?=some x) (N:a.length < 1000000000) :
  ae 16 [.dat (aN p s (.slice (encI a)) b),iv (ofNat i)] (.dat (sl ((afn a.length x.op x.im i).map iN))):=by
 have e:i < a.length:=(List.getElem?_eq_some_iff.1 d).1;exact av9 c (by rw[dA];simp) (br (by grind[bH])) (ZR c d N)
theorem aun {l:List Int} (k:l.length < 1000000000):ae 25 [.dat (.slice (l.map iN)),iv n] (bv (decide (n∈l))):=by
 refine aue ?_;have a:(l.map iN).length=l.length:=List.length_map _;refine cV (St:=fun i=>(asv (.slice (l.map iN)) n (ofNat i)).al aoE) (fun i=>n∉l.take i) l.length ?_ ?_ (i:=0) (Nat.zero_le _) (by simp)
 ·intro i d c;have f:l[i]?=some l[i]:=List.getElem?_eq_getElem d;have g:=List.getElem_mem d;have b:l.take (i+1)=l.take i++[l[i]]:=by rw[List.take_add_one,f];rfl
  generalize l[i]=x at f g b;have j:an .i64 (ofNat i+1)=ofNat (i+1):=bb (by omega);refine axu (br (by rw[a];exact d)) (wb f) rfl ?_ ?_
  ·intro h
   have:x=n:=by rw[cN] at h;simpa using h
   subst this;exact .inr ⟨rfl,decide_eq_true g,rfl⟩
  intro h;rw[j];refine⟨rfl,?_⟩;rw[b];simp only[List.mem_append,List.mem_singleton,not_or];refine⟨c,?_⟩;intro e;subst e;rw[eu] at h;simp at h
 intro c;rw[List.take_length] at c;exact axt (cj (by rw[a];omega)) (.inl ⟨rfl,decide_eq_false c,_,rfl⟩)
theorem auo {l:List Int} (c:l.length < 1000000000):ae 25 [.dat (nlI l),iv n] (bv (decide (n∈l))):=by
 cases l with
 | cons a r=>exact aun c
 | nil=>
  refine aue ?_;refine cA (St:=fun _=>(asv nl n 0).al aoE) 0 (fun i b=>absurd b (by omega)) ?_ (i:=0) (Nat.le_refl _);exact axv (by rfl) (.inl ⟨rfl,rfl,_,rfl⟩)
theorem asi {p q g i c j d k e a f:Bool} (h:nt p q g i c j d k e a f b=0):q=false/\c=false/\d=false/\e=true/\a=true/\f=false:=by
 grind[nt]
theorem as4 (h:((lU (eO a)).cond||aB a 12)=true):a=12∨a=13:=by
 simp at h
 rcases h with h|h
 ·grind[FD]
 rw[cN] at h;grind
theorem atf {a:List Ins} (O:tR a) {i:Nat} (h:i∈na a i) (d:i < a.length):(eh a).yN:=by
 have f:a[i]?=some a[i]:=List.getElem?_eq_getElem d;generalize a[i]=x at f;have g:ofNat i∈afn a.length x.op x.im i:=by
  grind[Fj]
 have b:x.op=12∨x.op=13:=by
  grind[afn,as4]
 refine⟨fun c=>c=i,⟨i,rfl⟩,?_⟩;rintro c rfl;refine⟨d,?_,c,h,rfl⟩;show Bi a c=false;unfold Bi;rw[f];dsimp only
 rcases b with e|e <;> rw[e] <;> rfl
theorem auw (l:List Int):(usC l).length<=l.length:=by
 unfold usC Go.Lib.compactUpTo;rw[List.length_map];refine Nat.le_trans (List.length_filter_le _ _) ?_;rw[List.length_range,iw];grind
theorem aqv {sl:Int} (h:fB n sl true=true):0<=n/\n < sl:=by
 simp[fB,dA] at h;grind
theorem atz {sl:Int} {x:Ins} (h:iJ k j sl x=true):x.ar.length<=6/\∀y∈usP x,0<=y/\y < sl:=by
 unfold iJ at h
 cases i:eO x.op with
 | none=>rw[i] at h;simp at h
 | some s=>
  rw[i] at h;simp only[Bool.and_eq_true] at h;have O:=h.1;unfold Ge at O;simp only[Bool.and_eq_true,Bool.or_eq_true,Bool.not_eq_true'] at O;obtain⟨a,b,f,_,G,e⟩:=O;refine⟨?_,?_⟩
  ·unfold Jo at f;rw[dA] at f;simp only[decide_eq_false_iff_not,Int.ofNat_eq_natCast] at f;omega
  intro y c;unfold usP at c;unfold usB at c;rw[i,show lU (some s)=s from rfl] at c;simp only[List.mem_append] at c
  rcases c with c|c|c
  ·cases A:s.a with
   | false=>rw[A] at c;simp at c
   | true=>
    rw[A] at c G;simp at c;subst c;exact aqv G
  ·unfold Ins.unary at e
   cases d:(s.b&&!(aB x.op 3&&aB x.im 5)) with
   | false=>rw[d] at c;simp at c
   | true=>
    rw[d] at c e;simp at c;subst c;exact aqv e
  have g:s.ar=true:=by
   rcases b with b|b
   ·exact b
   exfalso
   unfold Jo at b;rw[cN] at b;simp at b;rw[b] at c;simp at c
  have:=List.all_eq_true.1 a y c
  rw[g] at this;exact aqv this
theorem aqt {a:Nat->List Int} {b:Nat} (h:∀i,(a i).length<=b):∀n,(aow n a).length<=n*b
 | 0=>by simp[aow]
 | n+1=>by
  have c:=aqt h n
  have:=h n
  unfold aow at c ⊢;have e:[n].flatMap a=a n:=by simp
  rw[List.range_succ,List.flatMap_append,List.length_append,Nat.add_mul,e];omega
theorem at3 {c:List Ins} {sl:Int} (d:c.all (fun x=>iJ (ofNat c.length) p sl x)=true) (g:2<=c.length) (l:c.length<=10) (n:sl<=200) (T:lO c=false):aqX c:=by
 have f:=Gk d;have e:∀i,(usL c i).length<=8/\∀y∈usL c i,0<=y/\y < sl:=by
  intro i;unfold usL
  cases j:c[i]? with
  | none=>exact⟨by simp,by simp⟩
  | some x=>
   dsimp only;obtain⟨a,b⟩:=atz (List.all_eq_true.1 d x (List.mem_of_getElem? j));refine⟨?_,fun y o=>b y (auO.1 o)⟩;refine Nat.le_trans (auw _) ?_;unfold usP;simp only[List.length_append]
   split <;> split <;> simp <;> omega
 refine⟨f,by intro h;subst h;simp at g,by omega,?_,?_,?_,?_⟩
 ·intro x j
  have:=(atz (List.all_eq_true.1 d x j)).1
  omega
 ·intro i k m
  have:=yM (atf f m k)
  rw[T] at this;simp at this
 ·intro x j;obtain⟨i,_,k⟩:=List.mem_flatMap.1 j;obtain⟨a,b⟩:=(e i).2 x k;exact⟨by omega,by omega⟩
 have:=aqt (fun i=>(e i).1) c.length
 omega
theorem asf {outs:List (List Int)} {j:Nat} {m:List Int} (h:outs[j]?=some m):ap ba 55 [.dat (.slice (outs.map nlI)),iv (ofNat j)]=some ⟨.ref [nlI m],.keep⟩:=by
 have a:(nlI m).cells=[nlI m]:=by cases m <;> rfl
 have:=pd (d:=nlI m) (b:=outs.map nlI) (i:=j) asT rfl (by grind) (by grind[ao9]) (by decide)
 grind
theorem as2 (m:List Int):eB ba false 22 [.ref [nlI m]] none=some ⟨.dat (nlI m),.keep⟩:=by
 cases m <;> kernel_rfl
theorem auS {ins:List Ins} {i:Nat} {x:Ins} (c:ins[i]?=some x) (s:Int) :
  decide (s∈(akf ins).getD i [])=(decide (s∈usI x)||(na ins i).any (fun j=>decide (s∈(akf ins).getD j [])&&!((lU (eO x.op)).dst&&aB (dvB (lU (eO x.op)).dst x.dst) s))):=by
 have k:i < ins.length:=(List.getElem?_eq_some_iff.1 c).1;have h:=(aqF (n:=ins.length) (us:=usL ins) (df:=dfL ins) (apN (ins:=ins))).2 i k s;have l:usL ins i=usI x:=by unfold usL;rw[c]
 have D:dfL ins i=dfI x:=by unfold dfL;rw[c]
 have d:(dfI x≠some s)↔(!((lU (eO x.op)).dst&&aB (dvB (lU (eO x.op)).dst x.dst) s))=true:=by
  unfold dfI
  cases g:(lU (eO x.op)).dst with
  | false=>simp
  | true=>
   have:dvB true x.dst=x.dst:=rfl
   rw[this,cN]
   by_cases e:x.dst=s <;> simp[e]
 rw[l,D] at h;rw[Bool.eq_iff_iff];simp only[decide_eq_true_eq,Bool.or_eq_true,List.any_eq_true,Bool.and_eq_true];refine h.trans (or_congr Iff.rfl ⟨?_,?_⟩)
 ·rintro⟨j,a,b,f⟩;exact⟨j,a,b,d.1 f⟩
 rintro⟨j,a,b,f⟩;exact⟨j,a,b,d.2 f⟩
theorem auV {l:List Int} (hl:l.length < 10000000):ae 7 [.dat (.slice (l.map iN))] (bv true):=by
 obtain⟨c,K,J,_,hc⟩:=LL hl 0 (Nat.zero_le _);obtain⟨z,s,iz,ins,ez,g⟩:=c;obtain⟨az,F,M,_,⟨O,u⟩,_⟩:=J;have F:ez=false:=F;have M:iz=false:=M;subst F M;have O:2<=ins.length:=O;have u:ins.length<=10:=u;have hV:=oW _ 1 az (by omega);have hR:=nW _ 1 az (by omega);have a2:gM.enc (.mk z s false ins false g)=aN z s (.slice (encI ins)) (sl (aG g)):=by
  have ar:encI ins≠[]:=by
   intro h
   have:=congrArg List.length h
   rw[bH] at this
   have:ins.length=0:=this
   omega
  show aN _ _ (sx false (encI ins)) (sx false (aG g))=_;rw[yS (aG g)];generalize encI ins=q at ar
  cases q with
  | nil=>exact absurd rfl ar
  | cons a r=>rfl
 rw[a2] at hV hR hc;have C:=dr (aG g);have t:=aw3 (.inr ⟨_,rfl⟩) C hV;have A:=awe (.inr ⟨_,rfl⟩) C hR;rw[gM.yH] at t A
 cases V:aB (C0 1 z s ins g.length (kB g 1)) 0 with
 | false=>exact avL C hc as8 t A (awn (.inr ⟨_,rfl⟩) C t V) V (eu _)
 | true=>
  have a1:C0 1 z s ins g.length (kB g 1)=0:=by rw[cN] at V;simpa using V
  rw[a1] at t A;obtain⟨y,k5,k7,Y,_,a4⟩:=asi a1;rw[dA] at y k5 k7;simp only[decide_eq_false_iff_not] at y k5 k7;have U:=at3 Y O u (by omega) a4;have ag:(encI ins).length=ins.length:=bH ins;have W:(akf ins).length=ins.length:=(aqF (apN (ins:=ins))).1;have v:∀j,j < ins.length->(akf ins)[j]?=some ((akf ins).getD j []):=by
   intro j hj;rw[List.getD_eq_getElem?_getD,List.getElem?_eq_getElem (by omega)];rfl
  have o:∀j,((akf ins).getD j []).length < 1000000000:=by
   intro j;obtain⟨es,hF⟩:=aui (n:=ins.length) (us:=usL ins) (df:=dfL ins) (apN (ins:=ins));have e:akf ins=es.map gO:=aqE hF;have S:=hF.1.aqH j;have b:=U.ulen;rw[e,List.getD_eq_getElem?_getD,List.getElem?_map];rw[List.getD_eq_getElem?_getD] at S
   cases hq:es[j]? with
   | none=>simp
   | some m=>
    rw[hq] at S;show (gO m).length < _;rw[iw];have S:m.length<=_:=S;omega
  obtain⟨L,rfl⟩:∃L:Nat,s=ofNat L:=⟨s.toNat,by simp only[Int.ofNat_eq_natCast];omega⟩;have hL:L<=200:=by simp only[Int.ofNat_eq_natCast] at y;omega
  have Q:((akf ins).map nlI).length=ins.length:=by rw[List.length_map,W]
  refine auU C hc as8 t A (asO C U t) (by rw[Q,ag,eu]) ?_;refine cA (St:=fun i=>(⟨slL (.slice ((akf ins).map nlI)) (ofNat i),amK (cC z (ofNat L) (.slice (encI ins)) (sl (aG g))),cW (l.map iN) (ofNat K),1⟩:ab).al amJ) ins.length ?_ ?_ (i:=0) (Nat.zero_le _)
  ·intro i I;have R:ins[i]?=some ins[i]:=List.getElem?_eq_getElem I;generalize ins[i]=x at R;obtain⟨lc,ki,kl⟩:=as5 R;have hS:=arD (p:=z) (s:=ofNat L) C R (by omega);rw[←Fj U.ok R] at hS;have hu:=aum x (U.args x (List.mem_of_getElem? R));have D:=ave x;have hw:an .i64 (ofNat i+1)=ofNat (i+1):=bb (by omega);have af:=auS R;have a5:(usI x).length < 1000000000:=by
    have S:=arK (us:=usL ins) I;have b:=U.ulen
    have:usL ins i=usI x:=by unfold usL;rw[R]
    rw[this] at S;omega
   have Z:∀j∈na ins i,j < ins.length:=(eh ins).lt i I;have a9:=vm ins i;generalize na ins i=d at *;generalize (lU (eO x.op)).dst=wr at *;generalize dvB wr x.dst=dv at *;generalize usI x=us at *;refine axs (us:=.slice (us.map iN)) (wr:=wr) (dv:=dv) C (br (by rw[Q];exact I)) ki kl hu D hS ?_ ?_
   ·refine cA (St:=fun k=>(⟨slS (.slice ((akf ins).map nlI)) (ofNat i) (.slice (us.map iN)) dv wr (sl ((d.map ofNat).map iN)) (ofNat k),amK (cC z (ofNat L) (.slice (encI ins)) (sl (aG g))),cW (l.map iN) (ofNat K),1⟩:ab).al amJ) L ?_ ?_ (i:=0) (Nat.zero_le _)
    ·intro k hk;have a7:an .i64 (ofNat k+1)=ofNat (k+1):=bb (by omega);refine axq (w:=decide (ofNat k∈us)) (w1:=decide (ofNat k∈(akf ins).getD i [])) (br hk) (aun a5) ?_ (asf (v i I)) (as2 _) (auo (o i)) ?_
     ·have B:=af (ofNat k)
      cases N:d with
      | nil=>
       rw[N] at B;simp only[List.any_nil,Bool.or_false] at B;rw[B];refine cA (St:=fun _=>(⟨slK (.slice ((akf ins).map nlI)) (ofNat i) (.slice (us.map iN)) dv wr nl (ofNat k) (decide (ofNat k∈us)) 0,amK (cC z (ofNat L) (.slice (encI ins)) (sl (aG g))),cW (l.map iN) (ofNat K),1⟩:ab).al amJ) 0 (fun i I=>absurd I (by omega)) ?_ (i:=0) (Nat.le_refl _);exact awG (by rfl) ⟨rfl,_,rfl⟩
      | cons j0 jr=>
       rw[←N];have a3:sl ((d.map ofNat).map iN)=.slice ((d.map ofNat).map iN):=by rw[N];rfl
       have am:((d.map ofNat).map iN).length=d.length:=by simp
       rw[a3];rw[B]
       let P:Nat->Bool:=fun j=>decide (ofNat k∈(akf ins).getD j [])&&!(wr&&aB dv (ofNat k))
       have e0:decide (ofNat k∈us)=(decide (ofNat k∈us)||(d.take 0).any P):=by simp
       have E:=cA (P:=Tryz.prog) (G:=cM) (c:=roundOf Tryz.f7 2) (T:=fun e q=>e=.exit 4/\∃f,q=(⟨(75,bv false)::slK (.slice ((akf ins).map nlI)) (ofNat i) (.slice (us.map iN)) dv wr (.slice ((d.map ofNat).map iN)) (ofNat k) (decide (ofNat k∈us)||d.any P) f,amK (cC z (ofNat L) (.slice (encI ins)) (sl (aG g))),cW (l.map iN) (ofNat K),1⟩:ab).al amJ)
        (fun q=>(⟨slK (.slice ((akf ins).map nlI)) (ofNat i) (.slice (us.map iN)) dv wr (.slice ((d.map ofNat).map iN)) (ofNat k) (decide (ofNat k∈us)||(d.take q).any P) (ofNat q),amK (cC z (ofNat L) (.slice (encI ins)) (sl (aG g))),cW (l.map iN) (ofNat K),1⟩:ab).al amJ) d.length ?_ ?_ (i:=0) (Nat.zero_le _)
       ·rw[←e0] at E;exact E
       ·intro q hq;have H:d[q]?=some d[q]:=List.getElem?_eq_getElem hq;have ad:=List.getElem_mem hq;have a0:d.take (q+1)=d.take q++[d[q]]:=by rw[List.take_add_one,H];rfl
        generalize d[q]=j at H ad a0;have a8:an .i64 (ofNat q+1)=ofNat (q+1):=bb (by omega);refine axr (br (by rw[am];exact hq)) (wb (by rw[List.getElem?_map,H];rfl)) (asf (v j (Z j ad))) (as2 _) (auo (o j)) rfl ?_;intro w' a6;rw[a8]
        have:w'=(decide (ofNat k∈us)||(d.take (q+1)).any P):=by
         rw[a6,a0,List.any_append,Bool.or_assoc];simp[P]
        rw[this];exact rfl
       ·refine awF (cj (by rw[am];omega)) ⟨rfl,ofNat d.length,?_⟩;rw[List.take_length]
     rw[a7];exact rfl
    exact awE (cj (by omega)) ⟨rfl,_,rfl⟩
   rw[hw];exact rfl
  exact awH (cj (by rw[Q];omega)) ⟨rfl,_,rfl⟩
end Go.Proofs.YtmpmgmmcaghacaaGreatDoor
namespace Go.Proofs.YtmpmgmmcaghacaaGreatDoor
open Go.ChangeShapes Go.WideShapes Go.ChangeAt Go.RowKit Go.Tp
open Go.ChangeMaps (open_string shut_string)
theorem own:ownKnob Tryz.prog.godebug=none:=by kernel_rfl
theorem kids:Kids Tryz.prog (· < Tryz.prog.types.size):=kids_rows (by kernel_rfl) (by kernel_rfl)
theorem full:∀t e,t < Tryz.prog.types.size->Tryz.prog.underlying t=some (.slice e)->0 < Tryz.prog.cellsOf e:=slices_full_of Tryz.prog (by kernel_rfl)
theorem MV:Tryz.prog.globalNamed "telpher/typeterm.reserved"=some 8:=by kernel_rfl
theorem GO:Tryz.prog.globalNamed "telpher/ir.primitives"=some 4:=by kernel_rfl
theorem X6:Tryz.prog.globalNamed "telpher/telmake.Funcs"=some 2:=by kernel_rfl
theorem GP:Tryz.prog.globalNamed "telpher/telmake.fieldNames"=some 3:=by kernel_rfl
theorem Q2:Tryz.prog.globalNamed "telpher/telmake.strings"=some 1:=by kernel_rfl
theorem JC:Tryz.prog.globalNamed "telpher/telmake.leafNames"=some 5:=by kernel_rfl
theorem ahO:Tryz.prog.globalNamed "internal/strconv.uint64pow10"=some 6:=by kernel_rfl
theorem Q4 {W:World} (h:laidMetH Tryz.prog Rows.irLiveUptoRow.laid W):∀g cs,cM g=some cs->aed W xl g cs:=by
 have h':laidMet Tryz.prog Rows.irLiveUptoRow.laid W:=h;obtain⟨ps,⟨_,_,_,_,_,_,_,_,_,_,⟨_,_,_,_,_,_,_,_,_,_,⟨g2,t2,cs2,fu2,p2,q2,a2,b2,c2,d2,⟨g3,t3,cs3,fu3,p3,q3,a3,b3,c3,d3,⟨g4,t4,cs4,fu4,p4,q4,a4,b4,c4,d4,⟨g5,t5,cs5,fu5,p5,q5,a5,b5,c5,d5,⟨g6,t6,cs6,fu6,p6,q6,a6,b6,c6,d6,⟨g7,t7,cs7,fu7,p7,q7,a7,b7,c7,d7,⟨g8,t8,cs8,fu8,p8,q8,a8,b8,c8,d8,_,_⟩,_⟩,_⟩,_⟩,_⟩,_⟩,_⟩,_⟩,_⟩,_⟩:=h';intro g cs hg;unfold cM at hg
 split at hg
 ·obtain rfl:=Option.some.inj hg;exact jm (l:=H5) Q2 (by kernel_rfl) Tryz.underlying70 Tryz.underlying9 (by kernel_rfl) (by decide) ⟨g7,t7,cs7,fu7,p7,a7,b7,c7,d7⟩
 ·obtain rfl:=Option.some.inj hg;exact jm (l:=AP) X6 (by kernel_rfl) Tryz.underlying70 Tryz.underlying9 (by kernel_rfl) (by decide) ⟨g5,t5,cs5,fu5,p5,a5,b5,c5,d5⟩
 ·obtain rfl:=Option.some.inj hg;exact jm (l:=JK) GP (by kernel_rfl) Tryz.underlying70 Tryz.underlying9 (by kernel_rfl) (by decide) ⟨g6,t6,cs6,fu6,p6,a6,b6,c6,d6⟩
 ·obtain rfl:=Option.some.inj hg;exact jm (l:=Po) GO (by kernel_rfl) Tryz.underlying70 Tryz.underlying9 (by kernel_rfl) (by decide) ⟨g4,t4,cs4,fu4,p4,a4,b4,c4,d4⟩
 ·obtain rfl:=Option.some.inj hg;exact jm (l:=lq) JC (by kernel_rfl) Tryz.underlying70 Tryz.underlying9 (by kernel_rfl) (by decide) ⟨g8,t8,cs8,fu8,p8,a8,b8,c8,d8⟩
 ·obtain rfl:=Option.some.inj hg;exact jm (l:=tG) MV (by kernel_rfl) Tryz.underlying70 Tryz.underlying9 (by kernel_rfl) (by decide) ⟨g3,t3,cs3,fu3,p3,a3,b3,c3,d3⟩
 ·obtain rfl:=Option.some.inj hg;exact ajP ahO (by kernel_rfl) Tryz.underlying206 Tryz.underlying162 (by kernel_rfl) (by kernel_rfl) (by kernel_rfl) ⟨g2,t2,cs2,fu2,p2,a2,b2,c2,d2⟩
 simp at hg
theorem one_le {H:Type} (d:DataW H):1<=Rows.uptoBulk d:=by
 cases d with
 | lit l=>cases l <;> simp[Rows.uptoBulk]
 | nil=>simp[Rows.uptoBulk]
 | ptr d=>simp[Rows.uptoBulk]
 | slice b c=>simp[Rows.uptoBulk]
 | agg parts=>simp[Rows.uptoBulk]
 | iface t d=>simp[Rows.uptoBulk]
 | map a=>simp[Rows.uptoBulk]
 | held h=>simp[Rows.uptoBulk]
theorem Gx {H:Type}:∀l:List (DataW H),l.length<=Rows.uptoBulkAll l
 | []=>by grind
 | x::r=>by
  have a:=one_le x;have b:=Gx r;grind[Rows.uptoBulkAll]
theorem CL {H:Type} {d:DataW H}:∀{l:List (DataW H)},d∈l->Rows.uptoBulk d<=Rows.uptoBulkAll l
 | [],h=>by grind
 | x::r,h=>by
  simp only[Rows.uptoBulkAll]
  rcases List.mem_cons.1 h with e|h
  ·grind
  have:=CL h;omega
theorem LW {H:Type} {l a rest:List (DataW H)} (b:Rows.uptoSmall H l=true) (c:DataW.slice a rest∈l):a.length<=1048576:=by
 have h:Rows.uptoBulkAll l<=1048576:=of_decide_eq_true b;have d:=CL c;grind[Gx,Rows.uptoBulk]
set_option maxRecDepth 100000 in
theorem RD (H:Type) (enc:TypeId×Value->H) (W:World) (base:Nat) (args:Array Value) (ds gs:List (DataW H)) (before:List MemPlace)
  (hval:∀(j:Nat) t v,Tryz.f7.params[j]?=some t->args[j]?=some v->Value.okWide Tryz.prog W .any base t v)
  (hW:DataW.Whole enc Tryz.prog Tryz.f7.params.toList Rows.irLiveSpec.vars false W args.toList ds gs before) (hL:laidMetH Tryz.prog Rows.irLiveUptoRow.laid W) (hk:Rows.uptoSmall H (ds++gs)=true) :
  Calls Tryz.prog 7 args W fun e W'=>∃v,e=.returned v/\Rows.irLiveSpec.post enc Tryz.prog Tryz.f7 false true false false W args v W':=by
 have hW':=hW;obtain⟨p,q,hA0,hV,rfl,hfz,hnd⟩:=hW;have hA:DataW.TrodAll enc Tryz.prog W 0 (fun _=>true) true Tryz.f7.params.toList args.toList ds p:=hA0;have hAk:=hA;rw[Tryz.params7] at hA hval;obtain⟨v0,vs0,d0,ds0,p0,q0,hargs,rfl,rfl,h0,r0⟩:=trodAll_cons hA;obtain⟨rfl,rfl,rfl⟩:=trodAll_nil r0;obtain rfl:args=#[v0]:=by cases args;simp_all
 obtain⟨rfl,rfl⟩:=trodVars_none hV;obtain⟨a0,len0,cap0,hv0⟩:=okWide_slice Tryz.underlying22 (hval 0 22 v0 rfl rfl);obtain⟨l0,hd0,hi0,hr0⟩:=Dq (outs fun _=>none) Tryz.underlying22 Tryz.underlying3 (by kernel_rfl) (by rw[hv0];rfl) h0;have hb0:l0.length<=1048576:=by
  rcases hd0 with⟨_,e⟩|⟨els,rest,e,e2⟩
  ·rw[e];simp
  rw[←e2];exact LW (rest:=rest) hk (by rw[←e];simp)
 refine (wz W (args:=[v0]) (aD (b1:=[]) (b2:=[]) (hr0 (by unfold lim;omega)) aP) (auV (by omega:l0.length < 10000000)) rfl (Q4 hL)).mono ?_;rintro e W' ⟨rfl,hkp,hB⟩;refine⟨_,rfl,?_⟩;simp only[List.append_nil] at hW' hAk;have hargs:=DataW.TrodAll.respare (spare':=fun b=>decide (b < W.heap.size)) kids full (by rw[Tryz.params7];decide) (yL hB hAk) (fun p hp=>by simpa using hW'.lt p hp);refine⟨_,_,_,[],_,[],hW',?_,hargs,rfl,World.keptBut_mono (fun p hp=>hp.elim) hkp,fun h=>by cases h⟩;exact trodAll_cons_mk (shut_bool Tryz.underlying4 _) trodAll_mk0
def aaT:List Int:=[0,1,28,2,29,14,24,3,30,22,20,15,25,17,4,8,31,27,13,23,21,19,16,7,26,12,18,6,11,5,10,9]
def aaS:List Int:=[0,1,56,2,57,49,28,3,61,58,42,50,38,29,17,4,62,47,59,36,45,43,51,22,53,39,33,30,24,18,12,5,63,55,48,27,60,41,37,16,46,35,44,21,52,32,23,11,54,26,40,15,34,20,31,10,25,14,19,9,13,8,7,6]
def Pp:Nat->Int->List Int
 | 0,_=>[]
 | n+1,k=>k::Pp n (k*10)
noncomputable def vT (e:Os):World:=
 let N:=(World.settled Tryz.prog e).heap.size
 let strs (l:List (List UInt8)):Array Value:=(l.map fun b=>Value.string ⟨⟨b⟩⟩).toArray
 let j:=World.holding Tryz.prog e ⟨#[.cells (strs tG) 9,.cells (strs Po) 9,.cells (strs AP) 9,.cells (strs JK) 9,.cells (strs H5) 9,.cells (strs lq) 9],#[],[]⟩
 let d (h:Array Obj) (g:Nat) (c:Array Value):Array Obj:=h.modify g fun
  | .cells _ t frozen=>.cells c t frozen
  | o=>o
 let ints (k:IntKind) (l:List Int):Array Value:=(l.map fun i=>Value.int k i).toArray
 let a:=d j.heap 8 #[.slice (some ⟨N,0,none⟩) 5 5]
 let m:=d a 4 #[.slice (some ⟨N+1,0,none⟩) 8 8]
 let f:=d m 2 #[.slice (some ⟨N+2,0,none⟩) 3 3]
 let n:=d f 3 #[.slice (some ⟨N+3,0,none⟩) 6 6]
 let G:=d n 1 #[.slice (some ⟨N+4,0,none⟩) 6 6]
 let p:=d G 5 #[.slice (some ⟨N+5,0,none⟩) 4 4]
 let q:=d p 6 (ints .u64 (Pp 20 1))
 let r:=d q 9 (ints .u8 aaT)
 let s:=d r 10 (ints .u8 aaS)
 {j with heap:=s }
theorem QN (b:Os) (a:Array Value):laidMet Tryz.prog Rows.irLiveUptoRow.laid ((vT b).forCall (fun _ _=>0) ⟨#[],a,[]⟩).memory:=
 laidMet_of_run' 16 (by kernel_rfl) (by kernel_rfl)
noncomputable def NG:Array Value:=#[.slice none 0 0]
theorem reads (c:Os) {H:Type} (b:TypeId×Value->H):∃a,DataW.whole b Tryz.prog ((vT c).forCall (fun _ _=>0) ⟨#[],NG,[]⟩).memory Tryz.f7.params.toList Rows.irLiveSpec.vars false NG.toList 8=some ([.nil],[],a):=
 ⟨[],by kernel_rfl⟩
set_option maxRecDepth 100000 in
theorem lifted (os:Os) (started:os.Started) (H:Type) (enc:TypeId×Value->H) (F:Stop.Interp) :
  ReturnsInHanded {} Tryz.checked os 7 .any ((Rows.OpenSpec.upto Rows.irLiveSpec).preRow enc Tryz.prog Tryz.f7 Rows.irLiveUptoRow.domain false Rows.irLiveUptoRow.laid) (((Rows.OpenSpec.upto Rows.irLiveSpec).at F).post enc Tryz.prog Tryz.f7 false true false false):=by
 obtain⟨places,hx⟩:=reads os enc;refine returnsInHanded_of_row (C:=Tryz.checked) (s:=(Rows.OpenSpec.upto Rows.irLiveSpec)) own started (by kernel_rfl) Tryz.func7
  (witness_row_atRef (enc:=enc) (C:=Tryz.checked) false (vT os) NG rfl (by kernel_rfl) (by kernel_rfl) (by kernel_rfl)
   (OpenSpec.preRow_of_cond 8 hx (by kernel_rfl) (fun k hk=>by cases hk;kernel_rfl) (by kernel_rfl) (QN os _))) ?_
 intro W base args ds gs before hval hW _ hcond _ hL _ _;exact RD H enc W base args ds gs before hval hW hL (hcond _ rfl)
end Go.Proofs.YtmpmgmmcaghacaaGreatDoor
namespace Go.Proofs.YtmpmgmmcaghacaaGreatDoor
open Go.ChangeShapes Go.WideShapes Go.ChangeAt Go.RowKit Go.Tp
set_option maxHeartbeats 4000000 in
set_option maxRecDepth 100000 in
theorem said:Rows.IrLiveUptoSaid:=
 OpenClaim.holds_of_cond 7 Tryz.f7 rfl rfl rfl rfl rfl rfl rfl ⟨rfl,rfl,rfl,rfl,rfl⟩ rfl rfl rfl rfl rfl (by as_aux_lemma=>kernel_rfl) Tryz.func7 (by as_aux_lemma=>kernel_rfl)
  (of_decide_eq_true (by as_aux_lemma=>kernel_rfl)) (by unfold Func.isWrapper;first|(rw[if_pos (by decide +kernel)];kernel_rfl)|(rw[if_neg (by decide +kernel)];exact⟨rfl,rfl⟩))
  (fun os started H enc _ F=>by rw[OpenClaim.pre_eq_preRow];exact lifted os started H enc F)
set_option maxRecDepth 100000 in
theorem plain (f:FuncId) (fn:Func) (hf:Tryz.pinned.checked.prog.funcNamed "telpher/tellaw13.IrLive"=some f) (hfn:Tryz.pinned.checked.prog.funcs[f]?=some fn) :
  false=Tryz.pinned.checked.prog.looks []/\∀(j:Nat) t,fn.params[j]?=some t->Tryz.pinned.checked.prog.wantsStandIn t=false:=by
 obtain rfl:f=7:=Option.some.inj ((show Tryz.prog.funcNamed "telpher/tellaw13.IrLive"=some 7 by kernel_rfl).symm.trans hf) |>.symm
 obtain rfl:fn=Tryz.f7:=(Option.some.inj (Tryz.func7.symm.trans hfn)).symm;refine⟨by kernel_rfl,fun j t ht=>?_⟩;rw[Tryz.params7] at ht;have w22:Tryz.prog.wantsStandIn 22=false:=by kernel_rfl
 have hm:=Array.mem_of_getElem? ht;have key:∀x∈([22]:List Nat),x=22:=by decide
 have h3:=key t (by simpa using hm)
 rcases h3 with rfl
 ·exact w22
theorem irLive_card:Rows.IrLiveUptoCardSaid:=
 Claim7.holds_tied_plain_at .later [] _ _ _ _ said (fun _ h=>by cases h) (by kernel_rfl) (fun _ h=>by cases h) irLiveUpto_row_tie rfl ⟨rfl,rfl⟩ (by kernel_rfl) rfl plain (by kernel_rfl)
end Go.Proofs.YtmpmgmmcaghacaaGreatDoor
#print axioms Go.Proofs.YtmpmgmmcaghacaaGreatDoor.irLive_card
