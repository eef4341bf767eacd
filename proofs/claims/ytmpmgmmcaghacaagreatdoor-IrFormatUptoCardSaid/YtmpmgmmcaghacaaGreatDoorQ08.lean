/- Part 8 of what the last text proves. -/
import Derived.Test.YtmpmgmmcaghacaaGreatDoorQ07
set_option linter.unusedVariables false
set_option linter.unusedSimpArgs false
open Int (ofNat)
set_option maxRecDepth 100000
set_option maxHeartbeats 4000000
namespace Go.Proofs.YtmpmgmmcaghacaaGreatDoor
open Go.Tp
noncomputable abbrev afV:=Tryz.f84.ntmps
noncomputable abbrev afZ:=Tryz.f50.ntmps
noncomputable abbrev af0:=Tryz.f48.ntmps
noncomputable abbrev afY:=Tryz.f52.ntmps
noncomputable abbrev afv:=Tryz.f121.ntmps
noncomputable abbrev afX:=Tryz.f53.ntmps
noncomputable abbrev afW:=Tryz.f54.ntmps
noncomputable abbrev dy:=Tryz.f20.ntmps
noncomputable abbrev qg:=Tryz.f94.ntmps
noncomputable abbrev tS:=Tryz.f36.ntmps
noncomputable abbrev pE:=Tryz.f9.ntmps
noncomputable abbrev cT:=Tryz.f37.ntmps
noncomputable abbrev tT:=Tryz.f33.ntmps
noncomputable def gM.fmt (c:gM):List UInt8:=match aB (c.val 1) 0 with|true=>aeg c.pa c.sl++abF 0 c.ins|false=>[]
theorem le_of_lt {n:Nat} {k:Int} (h:aF k (ofNat n)=false):(n:Int)<=k:=by
 rw[dA] at h;grind
theorem agC {d:Nat} {L sl:Int} {c:List Ins} {i:Nat} {e:Int} (h:C0 d L sl c i e=0):sl<=200/\c.length<=2000/\(0<=L/\L<=6/\L<=sl)/\c≠[]/\∀x∈c,iJ (ofNat c.length) (ofNat i) sl x=true:=by
 unfold C0 nt at h
 split at h
 ·grind
 rename_i a
 split at h
 ·grind
 rename_i b
 split at h
 ·grind
 rename_i f;simp only[Bool.not_eq_true,Bool.or_eq_false_iff] at a b;obtain⟨_,j,k,_⟩:=a;obtain⟨r,Q,l,m⟩:=b;have g:=le_of_lt k;simp only[dA,decide_eq_false_iff_not] at j r Q l;refine⟨by omega,by omega,⟨by omega,by omega,by omega⟩,?_,?_⟩
 ·rintro rfl;exact absurd m (by decide)
 grind
section
theorem ahs {L sl:Int} {B:Bool} {d:List Ins} {p:Bool} {j:List (List fG)} (z:(gM.mk L sl B d p j).ok) (K:ae 14 [.dat (aN L sl (sx B (encI d)) (sx p (aG j)))] (iv ((gM.mk L sl B d p j).val 1))) :
  ae 18 [.dat (aN L sl (sx B (encI d)) (sx p (aG j)))] (.dat (sb (gM.mk L sl B d p j).fmt)):=by
 unfold gM.fmt
 cases V:aB ((gM.mk L sl B d p j).val 1) 0 with
 | false=>exact an8 (dq _ _) (dq _ _) K V
 | true=>
  have o:=wq V;rw[o] at K;rw[gM.yH] at o;rw[gM.ok] at z;obtain⟨U,h2,⟨f,g,G⟩,Z,W⟩:=agC o;obtain⟨x0,r0,hc⟩:∃x r,d=x::r:=by cases d with|nil=>exact absurd rfl Z|cons x r=>exact⟨_,_,rfl⟩
  have R:sx B (encI d)=.slice (encI d):=by rw[hc];rfl
  rw[R] at K ⊢;have P:smI L:=⟨by omega,by omega⟩;have Q:smI sl:=⟨by omega,by omega⟩;have lp:=ab8 P;have ls:=ab8 Q;have hP:∀x∈d,PrI x:=fun x v=>(ahI (z.1 x v) (W x v) U).1
  have hH:=agT P Q;refine amB (dq _ _) K (afB P) (afB Q) (aaa (by simp only[List.length_append,List.length_cons,List.length_nil];omega)) (aaa (by simp only[List.length_append,List.length_cons,List.length_nil];omega)) (aaa (by simp only[List.length_append,List.length_cons,List.length_nil];omega)) (aaa (by simp only[List.length_append,List.length_cons,List.length_nil];omega)) ?_;refine bm (St:=fun i=>(aiU (cC L sl (.slice (encI d)) (sx p (aG j))) (aeg L sl++abF 0 (d.take i)) (ofNat i)).al agf) d.length ?_ ?_ (i:=0) (Nat.zero_le _) |> (fun h=>by rwa [show aeg L sl++abF 0 (d.take 0)=aeg L sl from List.append_nil _] at h)
  ·intro i M;have T:d[i]?=some d[i]:=List.getElem?_eq_getElem M;have v:=List.getElem_mem M;generalize d[i]=x at T v;have A:=hP x v;obtain⟨_,n,s,O,F,H,J,D⟩:=ahI (z.1 x v) (W x v) U;have hw:=ahr A O F H J D;have lw:=ags A;have li:=ab8 (ag1 (i:=i) (by omega));have lt:=afF (l:=d.take i) (k:=0) (fun y hy=>hP y (List.mem_of_mem_take hy)) (by rw[List.length_take];omega);rw[List.length_take] at lt;have E:=xn T;have N:aF (ofNat i) (ofNat (encI d).length)=true:=br (by rw[bH];exact M);have e:aeg L sl++abF 0 (d.take (i+1))=aeg L sl++abF 0 (d.take i)++(Go.Lib.itoa (ofNat i)++[32]++x.txt++[10]):=by
    rw[agi T,←List.append_assoc];rfl
   have S:an .i64 (ofNat i+1)=ofNat (i+1):=bb (by omega);clear T v A O F H J D;generalize x.txt=w at *;obtain⟨op,Y,a,b,m,nm,az,u,⟨k,t,ix,la⟩,C,I,c⟩:=x;refine aj5 (dq _ _) (dr (ax la)) N E (afB (ag1 (by omega))) hw (aaa (by simp only[List.length_append,List.length_cons,List.length_nil];omega)) (aaa (by simp only[List.length_append,List.length_cons,List.length_nil];omega)) (aaa (by simp only[List.length_append,List.length_cons,List.length_nil];omega)) (aaa (by simp only[List.length_append,List.length_cons,List.length_nil];omega)) ?_;rw[S];show _=_;rw[e]
  have e:=@akX L sl (encI d) (sx p (aG j)) (aeg L sl++abF 0 d) (xU (fun _=>False) (fun e q=>e=.exit 0/\q=(aiT (cC L sl (.slice (encI d)) (sx p (aG j))) (aeg L sl++abF 0 d) (ofNat (encI d).length)).al agf)) ⟨rfl,rfl⟩;rw[bH] at e;rw[List.take_length];rw[bH];exact e
theorem ahF {L sl:Int} {p:Bool} {d:List Ins} {A:Bool} {z:List (List fG)} (E:(gM.mk L sl p d A z).ok) (F:ae 13 [.dat (aN L sl (sx p (encI d)) (sx A (aG z)))] (iv ((gM.mk L sl p d A z).val 1))) :
  ae 17 [.dat (aN L sl (sx p (encI d)) (sx A (aG z)))] (.dat (sb (gM.mk L sl p d A z).fmt)):=by
 unfold gM.fmt
 cases V:aB ((gM.mk L sl p d A z).val 1) 0 with
 | false=>exact an4 (dq _ _) (dq _ _) F V
 | true=>
  have H:=wq V;rw[H] at F;rw[gM.yH] at H;rw[gM.ok] at E;obtain⟨R,h2,⟨f,g,G⟩,S,U⟩:=agC H;obtain⟨x0,r0,W⟩:∃x r,d=x::r:=by cases d with|nil=>exact absurd rfl S|cons x r=>exact⟨_,_,rfl⟩
  have N:sx p (encI d)=.slice (encI d):=by rw[W];rfl
  rw[N] at F ⊢;have M:smI L:=⟨by omega,by omega⟩;have s:smI sl:=⟨by omega,by omega⟩;have lp:=ab8 M;have ls:=ab8 s;have hP:∀x∈d,PrI x:=fun x B=>(ahI (E.1 x B) (U x B) R).1
  have hH:=agT M s;have hL:=afF (l:=d) (k:=0) hP (by omega);have v:∀{n:Int},smI n->ae 42 [iv n] (.dat (sb (Go.Lib.itoa n))):=fun h=>agp (by have:=h.1;omega) (by have:=h.2;omega)
  have hS:KC 44 [pB 0] (hBx 0 (some (aeg L sl++abF 0 d))) 1 (XQ ⟨.dat (sb (aeg L sl++abF 0 d)),[(.out 0,.cells [.ptr (.out 0) 0,.dat (.slice (oX (aeg L sl++abF 0 d)))])],1⟩):=by
   obtain⟨y,q,P⟩:∃y q,aeg L sl++abF 0 d=y::q:=⟨_,_,rfl⟩;rw[P];exact aj9
  refine amp (dq _ _) F (v M) (v s) (aaa (by simp only[List.length_append,List.length_cons,List.length_nil];omega)) (aaa (by simp only[List.length_append,List.length_cons,List.length_nil];omega)) (aaa (by simp only[List.length_append,List.length_cons,List.length_nil];omega)) (aaa (by simp only[List.length_append,List.length_cons,List.length_nil];omega)) (aof (o:=none) (by show (aeg L sl).length < _;omega)) ?_ hS;refine bm (St:=fun i=>(aiO (encI d) (aeg L sl++abF 0 (d.take i)) (ofNat i)).al agh) d.length ?_ ?_ (i:=0) (Nat.zero_le _) |> (fun h=>by rwa [show aeg L sl++abF 0 (d.take 0)=aeg L sl from List.append_nil _] at h)
  ·intro i J;have T:d[i]?=some d[i]:=List.getElem?_eq_getElem J;have B:=List.getElem_mem J;generalize d[i]=x at T B;have j:=hP x B;have Y:=ahD j;have lw:=ags j;have li:=ab8 (ag1 (i:=i) (by omega));have lt:=afF (l:=d.take i) (k:=0) (fun y P=>hP y (List.mem_of_mem_take P)) (by rw[List.length_take];omega);rw[List.length_take] at lt;have D:=xn T;have K:aF (ofNat i) (ofNat (encI d).length)=true:=br (by rw[bH];exact J);have e:aeg L sl++abF 0 (d.take (i+1))=aeg L sl++abF 0 (d.take i)++(Go.Lib.itoa (ofNat i)++[32]++x.txt++[10]):=by
    rw[agi T,←List.append_assoc];rfl
   have O:an .i64 (ofNat i+1)=ofNat (i+1):=bb (by omega);clear T B j;generalize x.txt=w at *;obtain⟨op,Q,a,b,m,nm,az,u,⟨k,t,ix,Z⟩,C,I,c⟩:=x;refine ajV (dq _ _) (dr (ax Z)) K D (v (ag1 (by omega))) Y (aaa (by simp only[List.length_append,List.length_cons,List.length_nil];omega)) (aaa (by simp only[List.length_append,List.length_cons,List.length_nil];omega)) (aaa (by simp only[List.length_append,List.length_cons,List.length_nil];omega)) (aof (o:=some (aeg L sl++abF 0 (d.take i))) (by simp only[aj7,List.length_append,List.length_cons,List.length_nil];omega)) ?_;rw[O];show _=_;rw[e]
  have e:=@akL (encI d) (aeg L sl++abF 0 d) (xU (fun _=>False) (fun e q=>e=.exit 0/\q=(aiN (encI d) (aeg L sl++abF 0 d) (ofNat (encI d).length)).al agh)) ⟨rfl,rfl⟩;rw[bH] at e;rw[List.take_length];rw[bH];exact e
end
def aee {α:Type} (f:α->α->Bool):List α->List α->Bool
 | a::r,b::s=>f a b&&aee f r s
 | _,_=>true
def afS {α:Type} (l m:List α):Bool:=aB (ofNat l.length) (ofNat m.length)
def UN {α:Type} (f:α->α->Bool) (l m:List α):Bool:=afS l m&&aee f l m
variable {i:Nat} {z:Bool}
theorem aer {α:Type} {l m:List α} (h:afS l m=true):l.length=m.length:=by
 unfold afS at h;rw[A0] at h;grind
theorem ahP {α:Type} {f:α->α->Bool} {l m:List α} {t u:α} (T:l[i]?=some t) (a:m[i]?=some u):aee f (l.drop i) (m.drop i)=(f t u&&aee f (l.drop (i+1)) (m.drop (i+1))):=by
 rw[kT T,kT a];rfl
theorem aen {α:Type} {f:α->α->Bool} {l m:List α} {c:Go.Code} {St:Int->aa} {d b:aa} {ex:Exit} (s:l.length=m.length) (N:l.length < 1000000000)
  (a:∀(i:Nat) (t u:α),i < l.length->l[i]?=some t->m[i]?=some u->t∈l->∀T:Exit->aa->Prop,(f t u=true->T .normal (St (an .i64 (ofNat i+1))))->(f t u=false->T .ret b)->KD c T (St (ofNat i)))
  (g:∀T:Exit->aa->Prop,T ex d->KD c T (St (ofNat l.length))) (n:ex≠.normal) :
  KD (.loop c) (fun e q=>(e=ex/\aee f l m=true/\q=d)∨(e=.ret/\aee f l m=false/\q=b)) (St (ofNat 0)):=by
 refine cV (St:=fun i=>St (ofNat i)) (fun i=>aee f l m=aee f (l.drop i) (m.drop i)) l.length ?_ ?_ (i:=0) (Nat.zero_le _) rfl
 ·intro i r j;have o:l[i]?=some l[i]:=List.getElem?_eq_getElem r;have v:l[i]∈l:=List.getElem_mem _;have p:m[i]?=some m[i]:=List.getElem?_eq_getElem (by omega);generalize l[i]=t at o v;generalize m[i]=u at p;have D:=ahP (f:=f) o p;rw[←j] at D;have w:an .i64 (ofNat i+1)=ofNat (i+1):=bb (by omega);refine a i t u r o p v _ ?_ ?_
  ·intro h;rw[w];rw[h,Bool.true_and] at D;exact⟨rfl,D⟩
  intro h;rw[h,Bool.false_and] at D;exact .inr ⟨rfl,D,rfl⟩
 intro j;refine g _ ?_;have h:aee f l m=true:=by
  rw[j,List.drop_length]
  cases m.drop l.length <;> rfl
 cases ex with
 | normal=>exact absurd rfl n
 | ret=>exact .inl ⟨rfl,h,rfl⟩
 | exit k=>exact .inl ⟨rfl,h,rfl⟩
 | goto k=>exact .inl ⟨rfl,h,rfl⟩
 | panic k=>exact .inl ⟨rfl,h,rfl⟩
 | outgrown=>exact .inl ⟨rfl,h,rfl⟩
theorem ahz {α:Type} {f:α->α->Bool} (a:∀x,f x x=true) (l:List α):UN f l l=true:=by
 have h:∀l:List α,aee f l l=true:=by
  intro l
  induction l <;> grind[aee]
 grind[UN,afS,eu]
def aly (x y:Ins):Bool:=aB x.ck y.ck&&(aB x.ci y.ci&&jP x.cs y.cs)
def Ins.eqI (x y:Ins):Bool:=aB x.op y.op&&(aB x.dst y.dst&&(aB x.a y.a&&(aB x.b y.b&&(aB x.im y.im&&(jP x.nm y.nm&&(UN aB x.ar y.ar&&(NC x.ty y.ty&&aly x y)))))))
mutual
def gM.eqC:gM->gM->Bool
 | .mk L sl _ g _ n,.mk b j _ e _ a=>aB L b&&(aB sl j&&(UN Ins.eqI g e&&(afS n a&&ahg n a)))
def ahg:List (List fG)->List (List fG)->Bool
 | l::r,m::s=>(afS l m&&eqE l m)&&ahg r s
 | _,_=>true
def eqE:List fG->List fG->Bool
 | x::r,y::s=>x.Na y&&eqE r s
 | _,_=>true
def fG.Na:fG->fG->Bool
 | .mk k d f u L c t,.mk K o p i b q h=>aB k K&&(jP f p&&(aB L b&&(jP t h&&(NC u i&&(d.eq o&&c.eqC q)))))
end
theorem aie:∀l m:List fG,eqE l m=aee fG.Na l m
 | [],_=>by simp[eqE,aee]
 | _::_,[]=>by simp[eqE,aee]
 | x::r,y::s=>by simp only[eqE,aee];rw[aie r s]
theorem agF:∀l m:List (List fG),ahg l m=aee (UN fG.Na) l m
 | [],_=>by simp[ahg,aee]
 | _::_,[]=>by simp[ahg,aee]
 | x::r,y::s=>by simp only[ahg,aee,UN];rw[agF r s,aie x y]
mutual
theorem ahB:∀c:gM,c.eqC c=true
 | .mk L sl h b g e=>by
  rw[gM.eqC,agV e,eu,eu];grind[Ins.eqI,ahz,aly,eu,A4,UM,afS]
theorem agV:∀l:List (List fG),ahg l l=true
 | []=>by simp[ahg]
 | x::r=>by rw[ahg,agV r,ahA x];grind[afS,eu]
theorem ahA:∀l:List fG,eqE l l=true
 | []=>by simp[eqE]
 | x::r=>by rw[eqE,ahA r,ajY x];rfl
theorem ajY:∀x:fG,x.Na x=true
 | .mk k d f j L c i=>by rw[fG.Na,ahB c,eu,eu,A4,A4,UM.2 rfl,vh.eq_iff.2 rfl];rfl
end
theorem ahb (t:TypeId) (T:∀d:List ak,kb ba t (Su [.dat (.slice d)]) none=some ⟨iv (ofNat d.length),.keep⟩) (N:kb ba t (Su [.dat nl]) none=some ⟨iv (ofNat 0),.keep⟩) (z:Bool) (l:List ak) :
  kb ba t (Su [.dat (sx z l)]) none=some ⟨iv (ofNat l.length),.keep⟩:=by
 cases l with
 | nil=>cases z with
  | true=>exact T []
  | false=>exact N
 | cons x r=>exact T (x::r)
theorem afw (z:Bool) (l:List ak):kb ba 22 (Su [.dat (sx z l)]) none=some ⟨iv (ofNat l.length),.keep⟩:=ahb _ (fun _=>by kernel_rfl) (by kernel_rfl) z l
theorem afG (z:Bool) (l:List ak):kb ba 23 (Su [.dat (sx z l)]) none=some ⟨iv (ofNat l.length),.keep⟩:=ahb _ (fun _=>by kernel_rfl) (by kernel_rfl) z l
theorem af1 (z:Bool) (l:List ak):kb ba 24 (Su [.dat (sx z l)]) none=some ⟨iv (ofNat l.length),.keep⟩:=ahb _ (fun _=>by kernel_rfl) (by kernel_rfl) z l
theorem aiE {l:List ak} {d:ak} (h:l[i]?=some d):sx z l=.slice l:=by
 cases l with
 | nil=>grind
 | cons x r=>rfl
theorem afy {l:List Int} {n:Int} (h:l[i]?=some n):ap ba 22 (Su [.dat (sx z (l.map iN)),.dat (.flat (.int .i64 (ofNat i)))])=some ⟨.ref [iN n],.keep⟩:=by
 rw[aiE (i:=i) (d:=iN n) (by grind)];exact wb h
theorem afI {l:List Ins} {t:Ins} (h:l[i]?=some t):ap ba 23 (Su [.dat (sx z (encI l)),.dat (.flat (.int .i64 (ofNat i)))])=some ⟨.ref t.cells,.keep⟩:=by
 rw[aiE (Rr h)];exact xn h
theorem af5 {l:List (List fG)} {t:List fG} (h:l[i]?=some t):ap ba 24 (Su [.dat (sx z (aG l)),.dat (.flat (.int .i64 (ofNat i)))])=some ⟨.ref [.slice (ir t)],.keep⟩:=by
 rw[aiE (Nc h)];exact VT h
theorem ah7 (l:List ak):kb ba 49 (Su [.dat (sl l)]) none=some ⟨iv (ofNat l.length),.keep⟩:=by
 cases l with
 | nil=>kernel_rfl
 | cons x r=>kernel_rfl
theorem aic {l:List Z8} {t:Z8} (h:l[i]?=some t):ap ba 49 (Su [.dat (sl (BZ l)),.dat (.flat (.int .i64 (ofNat i)))])=some ⟨.ref t.cells,.keep⟩:=by
 rw[show sl (BZ l)=.slice (BZ l) by cases l with|nil=>grind|cons x r=>rfl];exact al8 h
theorem afx (t:Bool) (l:Nat) {g d a b m:Int} {n:List UInt8} {e:ak} {k:Int} {h:List UInt8} {x:Int} {y:ak} {C I:Int} {c:List UInt8} (f:dj e):eB ba t 22 [.ptr (.loc l) 6] (some (.cells (cX g d a b m n e k h x y C I c)))=some ⟨.dat e,.keep⟩:=by
 cases t <;> rcases f with rfl|⟨E,rfl⟩ <;> kernel_rfl
theorem af2 (t:Bool) (l:Nat) {p s:Int} {b c:ak} (a:dj b):eB ba t 23 [.ptr (.loc l) 2] (some (.cells (cC p s b c)))=some ⟨.dat b,.keep⟩:=by
 cases t <;> rcases a with rfl|⟨E,rfl⟩ <;> kernel_rfl
theorem af3 (t:Bool) (l:Nat) {p s:Int} {c b:ak} (a:dj b):eB ba t 24 [.ptr (.loc l) 3] (some (.cells (cC p s c b)))=some ⟨.dat b,.keep⟩:=by
 cases t <;> rcases a with rfl|⟨E,rfl⟩ <;> kernel_rfl
theorem ajK (t:Bool) (l:Nat) (n:List UInt8) (u k:Int) (e:List UInt8) (d:Int) (c:List ak) (b:Bool) (a:List ak) :
  eB ba t 49 [.ptr (.loc l) 7] (some (.cells (cellsD n u k e d c b a)))=some ⟨.dat (sl a),.keep⟩:=by
 cases t <;> rcases c with _|⟨x,c⟩ <;> rcases a with _|⟨y,a⟩ <;> kernel_rfl
section
theorem ahe (t:Bool) (l:Nat) {p:Int} {o:List UInt8} {u s:Int} {v:List UInt8} {d:Int} {m:ak} {b:Bool} {n:ak} {q:List UInt8} {f:Int} {g:List UInt8} {a:Int} {e:ak} {L i c:Int} {j k:ak} {r:List UInt8} (h:dj e):eB ba t 40 [.ptr (.loc l) 10] (some (.cells (cE p o u s v d m b n q f g a e L i c j k r)))=some ⟨.dat (.agg [i64 f,sb g,i64 a,e]),.keep⟩:=by
 cases t <;> rcases h with rfl|⟨_,rfl⟩ <;> kernel_rfl
theorem ahf (t:Bool) (l:Nat) {p:Int} {i:List UInt8} {u j:Int} {k:List UInt8} {d:Int} {e:ak} {a:Bool} {f:ak} {q:List UInt8} {v:Int} {w:List UInt8} {g:Int} {s:ak} {L m c:Int} {n o:ak} {r:List UInt8} (h:dj e) (b:dj f):eB ba t 51 [.ptr (.loc l) 1] (some (.cells (cE p i u j k d e a f q v w g s L m c n o r)))=some ⟨.dat (.agg [sb i,i64 u,i64 j,sb k,i64 d,e,bl a,f]),.keep⟩:=by
 cases t <;> rcases h with rfl|⟨_,rfl⟩ <;> rcases b with rfl|⟨_,rfl⟩ <;> kernel_rfl
end
noncomputable def hES:Hints:=⟨bV,ahX,bi,rowsOf bi 84⟩
def aiP (a b:ak) (n:Nat) (i:Int):ab:=⟨[(13,iv i),(12,iv (ofNat n)),(0,.dat a),(1,.dat b)],[],[],0⟩
def alg (a b:ak) (n:Nat):ab:=⟨[(14,bv false),(13,iv (ofNat n)),(12,iv (ofNat n)),(0,.dat a),(1,.dat b)],[],[],0⟩
def alh:ab:=⟨[(4,bv false)],[],[],0⟩
variable {A B:ak} {T:ej} {c d:Bool} {n:Nat}
theorem ajW {a b:ak} {i:Nat} {x y:Int} (d:aF (ofNat i) (ofNat n)=true) (e:ap ba 22 (Su [.dat a,.dat (.flat (.int .i64 (ofNat i)))])=some ⟨.ref [iN x],.keep⟩)
  (f:ap ba 22 (Su [.dat b,.dat (.flat (.int .i64 (ofNat i)))])=some ⟨.ref [iN y],.keep⟩) (g:aB x y=c) (E:c=true->T .normal ((aiP a b n (an .i64 (ofNat i+1))).al afV)) (F:c=false->T .ret (alh.al afV)) :
  KD (roundOf Tryz.f84 0) T ((aiP a b n (ofNat i)).al afV):=by
 refine aq [14,24] [18,22] (H:=hES) (live:=ag3) (ob d (oo e (oo f (ox g ?_))))
 cases c
 ·exact oe (F rfl)
 exact oe (E rfl)
theorem akM {a b:ak} (e:T (.exit 0) ((alg a b n).al afV)) :
  KD (roundOf Tryz.f84 0) T ((aiP a b n (ofNat n)).al afV):=by
 have c:=cj (i:=n) (L:=n) (by omega);exact aq [14] [] (H:=hES) (live:=ag3) (ob c (oe e))
theorem amr {a b:ak} {m:Nat} (f:kb ba 22 (Su [.dat a]) none=some ⟨iv (ofNat n),.keep⟩) (g:kb ba 22 (Su [.dat b]) none=some ⟨iv (ofNat m),.keep⟩) (h:aB (ofNat n) (ofNat m)=c)
  (l:c=true->KD (.loop (roundOf Tryz.f84 0)) (fun e q=>(e=.exit 0/\d=true/\q=(alg a b n).al afV)∨(e=.ret/\d=false/\q=alh.al afV)) ((aiP a b n (ofNat 0)).al afV)) :
  ae 84 [.dat a,.dat b] (bv (c&&d)):=by
 refine co [10] [7,9,12] (x:=.of Tryz.f84 ahX ag3) ?_;refine oo f (oo g (ox h ?_))
 cases c
 ·exact fi
 refine oo f ?_;refine lo (l rfl) ?_;rintro i s (⟨rfl,rfl,rfl⟩|⟨rfl,rfl,rfl⟩) <;>
 ·refine⟨_,rfl,?_⟩;exact fi
theorem akY {z a:Bool} {l m:List Int} (N:l.length < 1000000000):ae 84 [.dat (sx z (l.map iN)),.dat (sx a (m.map iN))] (bv (UN aB l m)):=by
 refine amr (afw _ _) (afw _ _) (by rw[List.length_map,List.length_map];rfl) (fun h=>?_);rw[List.length_map];refine aen (ex:=.exit 0) (St:=fun i=>(aiP (sx z (l.map iN)) (sx a (m.map iN)) l.length i).al afV) (aer h) N ?_ (fun T e=>akM e) (by simp);intro i t u b c d _ T E F;exact ajW (br b) (afy c) (afy d) rfl E F
def ajR:ac:=.fn (.func 51) [] []
noncomputable def hQI:Hints:=⟨bV,P8,bi,rowsOf bi 50⟩
def aiG (a b:ak) (n:Nat) (i:Int):ab:=⟨[(17,iv i),(16,iv (ofNat n)),(15,.dat a),(1,.dat b),(2,ajR)],[],[],0⟩
def ak7 (a b:ak) (n:Nat):ab:=⟨[(18,bv false),(17,iv (ofNat n)),(16,iv (ofNat n)),(15,.dat a),(1,.dat b),(2,ajR)],[],[],0⟩
def ak8:ab:=⟨[(6,bv false)],[],[],0⟩
theorem ajb {i:Nat} {G l a b m:Int} {D:List UInt8} {O:ak} {k:Int} {t:List UInt8} {x:Int} {y:ak} {C I:Int} {v:List UInt8} {r d u Q o:Int} {q:List UInt8} {z:ak} {K:Int} {s:List UInt8} {p:Int} {w:ak} {h e:Int} {j:List UInt8} (J:dj O) (L:dj y) (M:dj z) (N:dj w) (Y:aF (ofNat i) (ofNat n)=true) (Z:ap ba 23 (Su [.dat A,.dat (.flat (.int .i64 (ofNat i)))])=some ⟨.ref [i64 G,i64 l,i64 a,i64 b,i64 m,sb D,O,i64 k,sb t,i64 x,y,i64 C,i64 I,sb v,nl],.keep⟩)
  (f:ap ba 23 (Su [.dat B,.dat (.flat (.int .i64 (ofNat i)))])=some ⟨.ref [i64 r,i64 d,i64 u,i64 Q,i64 o,sb q,z,i64 K,sb s,i64 p,w,i64 h,i64 e,sb j,nl],.keep⟩) (g:ae 51 [.dat (eH G l a b m D O k t x y C I v),.dat (eH r d u Q o q z K s p w h e j)] (bv c))
  (E:c=true->T .normal ((aiG A B n (an .i64 (ofNat i+1))).al afZ)) (F:c=false->T .ret (ak8.al afZ)) :
  KD (roundOf Tryz.f50 0) T ((aiG A B n (ofNat i)).al afZ):=by
 have P:=@yv true G l a b m D _ k t x _ C I v J L;have S:=@Ic 8 G l a b m D _ k t x _ C I v J L;have V:=@QJ true 8 G l a b m D _ k t x _ C I v J L;have R:=@yv true r d u Q o q _ K s p _ h e j M N;have U:=@Ic 9 r d u Q o q _ K s p _ h e j M N;have W:=@QJ true 9 r d u Q o q _ K s p _ h e j M N;refine aq [18] [20,21,100008,24,25,100009,27,28] (H:=hQI) (live:=ag9) (ob Y (oo Z (oo P (oo S (oo f (oo R (oo U (oo V (oo W (on g ?_))))))))))
 cases c
 ·exact oe (F rfl)
 exact oe (E rfl)
theorem ako (e:T (.exit 0) ((ak7 A B n).al afZ)) :
  KD (roundOf Tryz.f50 0) T ((aiG A B n (ofNat n)).al afZ):=by
 have a:=cj (i:=n) (L:=n) (by omega);exact aq [18] [] (H:=hQI) (live:=ag9) (ob a (oe e))
theorem alX {m:Nat} (a:kb ba 23 (Su [.dat A]) none=some ⟨iv (ofNat n),.keep⟩) (b:kb ba 23 (Su [.dat B]) none=some ⟨iv (ofNat m),.keep⟩) (h:aB (ofNat n) (ofNat m)=c)
  (l:c=true->KD (.loop (roundOf Tryz.f50 0)) (fun e q=>(e=.exit 0/\d=true/\q=(ak7 A B n).al afZ)∨(e=.ret/\d=false/\q=ak8.al afZ)) ((aiG A B n (ofNat 0)).al afZ)) :
  ae 50 [.dat A,.dat B,ajR] (bv (c&&d)):=by
 refine co [14] [11,13,16] (x:=.of Tryz.f50 P8 ag9) ?_;refine oo a (oo b (ox h ?_))
 cases c
 ·exact fi
 refine oo a ?_;refine lo (l rfl) ?_;rintro f s (⟨rfl,rfl,rfl⟩|⟨rfl,rfl,rfl⟩) <;>
 ·refine⟨_,rfl,?_⟩;exact fi
def ajU:ac:=.fn (.func 49) [] []
noncomputable def hQD:Hints:=⟨bV,P8,bi,rowsOf bi 48⟩
def aiJ (a b:ak) (n:Nat) (i:Int):ab:=⟨[(17,iv i),(16,iv (ofNat n)),(15,.dat a),(1,.dat b),(2,ajU)],[],[],0⟩
def ald (a b:ak) (n:Nat):ab:=⟨[(18,bv false),(17,iv (ofNat n)),(16,iv (ofNat n)),(15,.dat a),(1,.dat b),(2,ajU)],[],[],0⟩
def ale:ab:=⟨[(6,bv false)],[],[],0⟩
theorem aje {i:Nat} {P:Int} {O:List UInt8} {u S:Int} {U:List UInt8} {v:Int} {da:ak} {k:Bool} {df:ak} {Q:List UInt8} {W:Int} {t:List UInt8} {y:Int} {ta:ak} {L G I:Int} {d1 d2:ak} {R:List UInt8} {p:Int} {o:List UInt8} {j w:Int} {x:List UInt8} {e:Int} {M:ak} {N:ak} {q:List UInt8} {z:Int} {C:List UInt8} {h:Int} {V:ak} {r l m:Int} {J K:ak} {s:List UInt8} (Y:dj da) (Z:dj df) (g3:dj ta) (g4:dj d1) (g5:dj d2) (g6:dj M) (g7:dj N) (g8:dj V) (g9:dj J) (D:dj K) (a:aF (ofNat i) (ofNat n)=true) (b:ap ba 54 (Su [.dat A,.dat (.flat (.int .i64 (ofNat i)))])=some ⟨.ref [i64 P,sb O,i64 u,i64 S,sb U,i64 v,da,bl k,df,sb Q,i64 W,sb t,i64 y,ta,i64 L,i64 G,i64 I,d1,d2,sb R],.keep⟩)
  (f:ap ba 54 (Su [.dat B,.dat (.flat (.int .i64 (ofNat i)))])=some ⟨.ref [i64 p,sb o,i64 j,i64 w,sb x,i64 e,M,bl d,N,sb q,i64 z,sb C,i64 h,V,i64 r,i64 l,i64 m,J,K,sb s],.keep⟩) (g:ae 49 [.dat (B0 P O u S U v da k df Q W t y ta L G I d1 d2 R),.dat (B0 p o j w x e M d N q z C h V r l m J K s)] (bv c))
  (E:c=true->T .normal ((aiJ A B n (an .i64 (ofNat i+1))).al af0)) (F:c=false->T .ret (ale.al af0)) :
  KD (roundOf Tryz.f48 0) T ((aiJ A B n (ofNat i)).al af0):=by
 have ad:=@QK true P O u S U v _ k _ Q W t y _ L G I _ _ R Y Z g3 g4 g5;have ag:=@Vo 8 P O u S U v _ k _ Q W t y _ L G I _ _ R Y Z g3 g4 g5;have az:=@ab5 true 8 P O u S U v _ k _ Q W t y _ L G I _ _ R Y Z g3 g4 g5;have af:=@QK true p o j w x e _ d _ q z C h _ r l m _ _ s g6 g7 g8 g9 D;have am:=@Vo 9 p o j w x e _ d _ q z C h _ r l m _ _ s g6 g7 g8 g9 D;have a0:=@ab5 true 9 p o j w x e _ d _ q z C h _ r l m _ _ s g6 g7 g8 g9 D;refine aq [18] [20,21,100008,24,25,100009,27,28] (H:=hQD) (live:=ag9) (ob a (oo b (oo ad (oo ag (oo f (oo af (oo am (oo az (oo a0 (on g ?_))))))))))
 cases c
 ·exact oe (F rfl)
 exact oe (E rfl)
theorem akr (e:T (.exit 0) ((ald A B n).al af0)) :
  KD (roundOf Tryz.f48 0) T ((aiJ A B n (ofNat n)).al af0):=by
 have a:=cj (i:=n) (L:=n) (by omega);exact aq [18] [] (H:=hQD) (live:=ag9) (ob a (oe e))
theorem al0 {m:Nat} (a:kb ba 54 (Su [.dat A]) none=some ⟨iv (ofNat n),.keep⟩) (b:kb ba 54 (Su [.dat B]) none=some ⟨iv (ofNat m),.keep⟩) (h:aB (ofNat n) (ofNat m)=c)
  (l:c=true->KD (.loop (roundOf Tryz.f48 0)) (fun e q=>(e=.exit 0/\d=true/\q=(ald A B n).al af0)∨(e=.ret/\d=false/\q=ale.al af0)) ((aiJ A B n (ofNat 0)).al af0)) :
  ae 48 [.dat A,.dat B,ajU] (bv (c&&d)):=by
 refine co [14] [11,13,16] (x:=.of Tryz.f48 P8 ag9) ?_;refine oo a (oo b (ox h ?_))
 cases c
 ·exact fi
 refine oo a ?_;refine lo (l rfl) ?_;rintro f s (⟨rfl,rfl,rfl⟩|⟨rfl,rfl,rfl⟩) <;>
 ·refine⟨_,rfl,?_⟩;exact fi
def ajT:ac:=.fn (.func 47) [] []
noncomputable def hQE:Hints:=⟨bV,P8,bi,rowsOf bi 52⟩
def aiI (a b:ak) (n:Nat) (i:Int):ab:=⟨[(17,iv i),(16,iv (ofNat n)),(15,.dat a),(1,.dat b),(2,ajT)],[],[],0⟩
def alb (a b:ak) (n:Nat):ab:=⟨[(18,bv false),(17,iv (ofNat n)),(16,iv (ofNat n)),(15,.dat a),(1,.dat b),(2,ajT)],[],[],0⟩
def alc:ab:=⟨[(6,bv false)],[],[],0⟩
theorem ajd {i:Nat} {x y:List ak} (a:aF (ofNat i) (ofNat n)=true) (b:ap ba 24 (Su [.dat A,.dat (.flat (.int .i64 (ofNat i)))])=some ⟨.ref [.slice x],.keep⟩)
  (f:ap ba 24 (Su [.dat B,.dat (.flat (.int .i64 (ofNat i)))])=some ⟨.ref [.slice y],.keep⟩) (g:ae 47 [.dat (.slice x),.dat (.slice y)] (bv c))
  (E:c=true->T .normal ((aiI A B n (an .i64 (ofNat i+1))).al afY)) (F:c=false->T .ret (alc.al afY)) :
  KD (roundOf Tryz.f52 0) T ((aiI A B n (ofNat i)).al afY):=by
 refine aq [18] [20,24] (H:=hQE) (live:=ag9) (ob a (oo b (oo f (on g ?_))))
 cases c
 ·exact oe (F rfl)
 exact oe (E rfl)
theorem akq (e:T (.exit 0) ((alb A B n).al afY)) :
  KD (roundOf Tryz.f52 0) T ((aiI A B n (ofNat n)).al afY):=by
 have a:=cj (i:=n) (L:=n) (by omega);exact aq [18] [] (H:=hQE) (live:=ag9) (ob a (oe e))
theorem alZ {m:Nat} (a:kb ba 24 (Su [.dat A]) none=some ⟨iv (ofNat n),.keep⟩) (b:kb ba 24 (Su [.dat B]) none=some ⟨iv (ofNat m),.keep⟩) (h:aB (ofNat n) (ofNat m)=c)
  (l:c=true->KD (.loop (roundOf Tryz.f52 0)) (fun e q=>(e=.exit 0/\d=true/\q=(alb A B n).al afY)∨(e=.ret/\d=false/\q=alc.al afY)) ((aiI A B n (ofNat 0)).al afY)) :
  ae 52 [.dat A,.dat B,ajT] (bv (c&&d)):=by
 refine co [14] [11,13,16] (x:=.of Tryz.f52 P8 ag9) ?_;refine oo a (oo b (ox h ?_))
 cases c
 ·exact fi
 refine oo a ?_;refine lo (l rfl) ?_;rintro f s (⟨rfl,rfl,rfl⟩|⟨rfl,rfl,rfl⟩) <;>
 ·refine⟨_,rfl,?_⟩;exact fi
section
def ahy (a:List UInt8) (k:Int) (t:List UInt8) (x:Int) (b:ak):ak:=.agg [sb a,i64 k,sb t,i64 x,b]
def cFl (a:List UInt8) (k:Int) (t:List UInt8) (x:Int) (b:ak):List ac:=[.dat (sb a),iv k,.dat (sb t),iv x,.dat b]
theorem ahd {b:List UInt8} {k:Int} {c:List UInt8} {x:Int} {a:ak} (t:Bool) (h:dj a):eB ba t 139 [.ref [sb b,i64 k,sb c,i64 x,a]] none=some ⟨.dat (ahy b k c x a),.keep⟩:=by
 cases t <;> rcases h with rfl|⟨_,rfl⟩ <;> kernel_rfl
theorem ak6 {b:List UInt8} {k:Int} {t:List UInt8} {x:Int} {a:ak} (l:Nat) (h:dj a):cG ba 139 [.ptr (.loc l) 0,.dat (ahy b k t x a)] (some (.cells (cFl [] 0 [] 0 nl)))=some ⟨.undef,.set (.cells (cFl b k t x a))⟩:=by
 rcases h with rfl|⟨_,rfl⟩ <;> kernel_rfl
theorem ah8 {b:List UInt8} {k:Int} {c:List UInt8} {x:Int} {a:ak} (t:Bool) (l:Nat) (h:dj a):eB ba t 139 [.ptr (.loc l) 0] (some (.cells (cFl b k c x a)))=some ⟨.dat (ahy b k c x a),.keep⟩:=by
 cases t <;> rcases h with rfl|⟨_,rfl⟩ <;> kernel_rfl
theorem alA {b:List UInt8} {k:Int} {t:List UInt8} {x:Int} {a:ak} (h:dj a):Sj [.dat (ahy b k t x a)]=some ⟨.undef,.new (.cells (cFl b k t x a))⟩:=by
 rcases h with rfl|⟨_,rfl⟩ <;> kernel_rfl
theorem ajJ {c:List UInt8} {k:Int} {b:List UInt8} {x:Int} {a:ak} (t:Bool) (l:Nat) (h:dj a):eB ba t 40 [.ptr (.loc l) 1] (some (.cells (cFl c k b x a)))=some ⟨.dat (.agg [i64 k,sb b,i64 x,a]),.keep⟩:=by
 cases t <;> rcases h with rfl|⟨_,rfl⟩ <;> kernel_rfl
end
def ajS:ac:=.fn (.func 120) [] []
noncomputable def hQF:Hints:=⟨bV,P8,bi,rowsOf bi 121⟩
def aiH (a b:ak) (n:Nat) (i:Int):ab:=⟨[(17,iv i),(16,iv (ofNat n)),(15,.dat a),(1,.dat b),(2,ajS)],[],[],0⟩
def ak9 (a b:ak) (n:Nat):ab:=⟨[(18,bv false),(17,iv (ofNat n)),(16,iv (ofNat n)),(15,.dat a),(1,.dat b),(2,ajS)],[],[],0⟩
def ala:ab:=⟨[(6,bv false)],[],[],0⟩
variable {K k:Int} {c d p q:Bool} {s t:List UInt8}
theorem ajc {A B:ak} {n i:Nat} {j:List UInt8} {x:Int} {w:ak} {d:List UInt8} {h:List UInt8} {e:Int} {l:ak} (m:dj w) (o:dj l) {T:ej} (a:aF (ofNat i) (ofNat n)=true) (b:ap ba 49 (Su [.dat A,.dat (.flat (.int .i64 (ofNat i)))])=some ⟨.ref [sb j,i64 k,sb t,i64 x,w],.keep⟩)
  (f:ap ba 49 (Su [.dat B,.dat (.flat (.int .i64 (ofNat i)))])=some ⟨.ref [sb d,i64 K,sb h,i64 e,l],.keep⟩) (g:ae 120 [.dat (ahy j k t x w),.dat (ahy d K h e l)] (bv c))
  (E:c=true->T .normal ((aiH A B n (an .i64 (ofNat i+1))).al afv)) (F:c=false->T .ret (ala.al afv)) :
  KD (roundOf Tryz.f121 0) T ((aiH A B n (ofNat i)).al afv):=by
 have p:=@ahd j k t x _ true m;have r:=@ak6 j k t x _ 8 m;have u:=@ah8 j k t x _ true 8 m;have q:=@ahd d K h e _ true o;have s:=@ak6 d K h e _ 9 o;have v:=@ah8 d K h e _ true 9 o;refine aq [18] [20,21,100008,24,25,100009,27,28] (H:=hQF) (live:=ag9) (ob a (oo b (oo p (oo r (oo f (oo q (oo s (oo u (oo v (on g ?_))))))))))
 cases c
 ·exact oe (F rfl)
 exact oe (E rfl)
theorem akp {A B:ak} {n:Nat} {T:ej} (e:T (.exit 0) ((ak9 A B n).al afv)) :
  KD (roundOf Tryz.f121 0) T ((aiH A B n (ofNat n)).al afv):=by
 have a:=cj (i:=n) (L:=n) (by omega);exact aq [18] [] (H:=hQF) (live:=ag9) (ob a (oe e))
theorem alY {A B:ak} {n m:Nat} (a:kb ba 49 (Su [.dat A]) none=some ⟨iv (ofNat n),.keep⟩) (b:kb ba 49 (Su [.dat B]) none=some ⟨iv (ofNat m),.keep⟩) (h:aB (ofNat n) (ofNat m)=c)
  (l:c=true->KD (.loop (roundOf Tryz.f121 0)) (fun e q=>(e=.exit 0/\d=true/\q=(ak9 A B n).al afv)∨(e=.ret/\d=false/\q=ala.al afv)) ((aiH A B n (ofNat 0)).al afv)) :
  ae 121 [.dat A,.dat B,ajS] (bv (c&&d)):=by
 refine co [14] [11,13,16] (x:=.of Tryz.f121 P8 ag9) ?_;refine oo a (oo b (ox h ?_))
 cases c
 ·exact fi
 refine oo a ?_;refine lo (l rfl) ?_;rintro f s (⟨rfl,rfl,rfl⟩|⟨rfl,rfl,rfl⟩) <;>
 ·refine⟨_,rfl,?_⟩;exact fi
theorem alM {i:List UInt8} {j:Int} {n:ak} {e:List UInt8} {g:List UInt8} {f:Int} {h:ak} (l:dj n) (m:dj h) (a:jP i e=c) (b:ae 82 [.dat (.agg [i64 k,sb t,i64 j,n]),.dat (.agg [i64 K,sb g,i64 f,h])] (bv d)):ae 120 [.dat (ahy i k t j n),.dat (ahy e K g f h)] (bv (c&&d)):=by
 have o:=@alA i k t j _ l;have p:=@alA e K g f _ m;have q:=@ajJ i k t j _ false 2 l;have r:=@ajJ e K g f _ false 3 m;refine co [9] [2,3,12,14] (x:=.of Tryz.f120 P8 ajE) ?_;refine oo o (oo p (ob a ?_))
 cases c
 ·exact fi
 exact oo q (oo r (on b fi))
theorem amD:ae 122 [.dat nl,.dat nl,.fn (.func 85) [] []] (bv true):=dE _ _ _ _ _ (by kernel_rfl)
theorem agH {i d:Int} {e:List UInt8} (a:aB k K=p) (b:aB i d=q) (f:jP s e=c):ae 85 [.dat (lI k i s),.dat (lI K d e)] (bv (p&&(q&&c))):=by
 have g:=amD;refine co [9,15,22] [] (x:=.of Tryz.f85 P8 ajE) ?_;refine ob a ?_
 cases p
 ·exact fi
 refine ob b ?_
 cases q
 ·exact fi
 refine ob f ?_
 cases c
 ·exact fi
 exact on g fi
theorem akT {n l:List UInt8} {u e:Int} {o h:Int} {m:List UInt8} {r i s j:List ak} {w v y:Bool} (a:jP n l=p) (b:aB u e=q) (f:(d==c)=w)
  (g:ae 82 [.dat (.agg [i64 k,sb t,i64 o,sl r]),.dat (.agg [i64 K,sb m,i64 h,sl i])] (bv v)) (G:ae 121 [.dat (sl s),.dat (sl j),ajS] (bv y)) :
  ae 83 [.dat (ae9 n u k t o r d s),.dat (ae9 l e K m h i c j)] (bv (p&&(q&&(w&&(v&&y))))):=by
 have D:=agr n u k t o r d s;have E:=agr l e K m h i c j;have z:=ahc false 2 n u k t o r d s;have A:=ahc false 3 l e K m h i c j;have B:=ajK false 2 n u k t o r d s;have C:=ajK false 3 l e K m h i c j;subst f;refine co [10,16] [2,3,27,29,34,36] (x:=.of Tryz.f83 P8 ajH) ?_;refine oo D (oo E (ob a ?_))
 cases p
 ·exact fi
 refine ob b ?_
 cases q
 ·exact fi
 cases d
 ·cases c
  ·refine oo z (oo A (on g ?_))
   cases v
   ·exact fi
   exact oo B (oo C (on G fi))
  exact fi
 cases c
 ·exact fi
 refine oo z (oo A (on g ?_))
 cases v
 ·exact fi
 exact oo B (oo C (on G fi))
theorem amu {B j a b m:Int} {n:List UInt8} {R:ak} {A:Int} {y:ak} {C I:Int} {c:List UInt8} {s d z Q l:Int} {r:List UInt8} {w:ak} {u:List UInt8} {o:Int} {v:ak} {h e:Int} {i:List UInt8} (D:dj R) (F:dj y) (E:dj w) (H:dj v) {J L M N O P c9:Bool} (h1:aB B s=p) (h2:aB j d=q) (f:aB a z=J) (g:aB b Q=L) (G:aB m l=M) (h6:jP n r=N)
  (h7:ae 84 [.dat R,.dat w] (bv O)) (h8:ae 82 [.dat (.agg [i64 k,sb t,i64 A,y]),.dat (.agg [i64 K,sb u,i64 o,v])] (bv P)) (h9:ae 85 [.dat (lI C I c),.dat (lI h e i)] (bv c9)) :
  ae 51 [.dat (eH B j a b m n R k t A y C I c),.dat (eH s d z Q l r w K u o v h e i)] (bv (p&&(q&&(J&&(L&&(M&&(N&&(O&&(P&&c9))))))))):=by
 have S:=@bw B j a b m n _ k t A _ C I c D F;have U:=@afx false 2 B j a b m n _ k t A y C I c D;have W:=@bD false 2 B j a b m n _ k t A _ C I c D F;have Z:=@bg false 2 B j a b m n _ k t A _ C I c D F;have T:=@bw s d z Q l r _ K u o _ h e i E H;have V:=@afx false 3 s d z Q l r _ K u o v h e i E;have Y:=@bD false 3 s d z Q l r _ K u o _ h e i E H;have ad:=@bg false 3 s d z Q l r _ K u o _ h e i E H;clear D F E H;refine co [9,15,22,29,36,43] [2,3,47,49,54,56,61,63] (x:=.of Tryz.f51 P8 ajE) ?_;refine oo S (oo T (ob h1 ?_))
 cases p
 ·exact fi
 refine ob h2 ?_
 cases q
 ·exact fi
 refine ob f ?_
 cases J
 ·exact fi
 refine ob g ?_
 cases L
 ·exact fi
 refine ob G ?_
 cases M
 ·exact fi
 refine ob h6 ?_
 cases N
 ·exact fi
 refine oo U (oo V (on h7 ?_))
 cases O
 ·exact fi
 refine oo W (oo Y (on h8 ?_))
 cases P
 ·exact fi
 exact oo Z (oo ad (on h9 fi))
theorem amv {M:Int} {K:List UInt8} {u P:Int} {Q:List UInt8} {v:Int} {U:ak} {j:Bool} {V:ak} {N:List UInt8} {R:Int} {z:Int} {W:ak} {L J c:Int} {S T:ak} {O:List UInt8} {n:Int} {m:List UInt8} {i w:Int} {y:List UInt8} {e:Int} {E:ak} {F:ak} {o:List UInt8} {A:Int} {B:List UInt8} {h:Int} {H:ak} {r l:Int} {C D:ak} (g1:dj U) (g2:dj V) (g3:dj W) (g4:dj S) (g5:dj T) (g6:dj E) (g7:dj F) (g8:dj H) (g9:dj C) (I:dj D) {Y Z c5 c6 c7:Bool} (a:aB M n=p) (b:jP N o=q) (f:aB L r=Y) (g:jP O s=Z) (G:ae 82 [.dat (.agg [i64 R,sb t,i64 z,W]),.dat (.agg [i64 A,sb B,i64 h,H])] (bv c5))
  (h6:ae 83 [.dat (.agg [sb K,i64 u,i64 P,sb Q,i64 v,U,bl j,V]),.dat (.agg [sb m,i64 i,i64 w,sb y,i64 e,E,bl d,F])] (bv c6)) (h7:ae 19 [.dat (aN J c S T),.dat (aN k l C D)] (bv c7)) :
  ae 49 [.dat (B0 M K u P Q v U j V N R t z W L J c S T O),.dat (B0 n m i w y e E d F o A B h H r k l C D s)] (bv (p&&(q&&(Y&&(Z&&(c5&&(c6&&c7))))))):=by
 have ad:=@adN M K u P Q v _ j _ N R t z _ L J c _ _ O g1 g2 g3 g4 g5;have ag:=@ahe false 2 M K u P Q v U j V N R t z _ L J c S T O g3;have am:=@ahf false 2 M K u P Q v _ j _ N R t z W L J c S T O g1 g2;have a0:=@QL false 2 M K u P Q v U j V N R t z W L J c _ _ O g4 g5;have af:=@adN n m i w y e _ d _ o A B h _ r k l _ _ s g6 g7 g8 g9 I;have al:=@ahe false 3 n m i w y e E d F o A B h _ r k l C D s g8;have az:=@ahf false 3 n m i w y e _ d _ o A B h H r k l C D s g6 g7;have a1:=@QL false 3 n m i w y e E d F o A B h H r k l _ _ s g9 I;refine co [9,15,22,29] [2,3,33,35,40,42,47,49] (x:=.of Tryz.f49 P8 ajE) ?_;refine oo ad (oo af (ob a ?_))
 cases p
 ·exact fi
 refine ob b ?_
 cases q
 ·exact fi
 refine ob f ?_
 cases Y
 ·exact fi
 refine ob g ?_
 cases Z
 ·exact fi
 refine oo ag (oo al (on G ?_))
 cases c5
 ·exact fi
 refine oo am (oo az (on h6 ?_))
 cases c6
 ·exact fi
 exact oo a0 (oo a1 (on h7 fi))
theorem alN {x y:ak} (h:ae 48 [.dat x,.dat y,ajU] (bv c)):ae 47 [.dat x,.dat y] (bv c):=by
 refine co [] [] (x:=.of Tryz.f47 P8 ajF) ?_;exact on h fi
theorem ams {p s c d:Int} {e h E F:ak} (k:dj e) (l:dj h) (m:dj E) (n:dj F) {i j o:Bool} (a:aB p c=i) (b:aB s d=q) (f:ae 50 [.dat e,.dat E,ajR] (bv j)) (g:ae 52 [.dat h,.dat F,ajT] (bv o)) :
  ae 19 [.dat (aN p s e h),.dat (aN c d E F)] (bv (i&&(q&&(j&&o)))):=by
 have r:=aS (p:=p) (s:=s) k l;have t:=aS (p:=c) (s:=d) m n;have u:=@af2 false 2 p s _ h k;have v:=@af2 false 3 c d _ F m;have w:=@af3 false 2 p s e _ l;have y:=@af3 false 3 c d E _ n;refine co [10,16] [2,3,20,22,27,29] (x:=.of Tryz.f19 P8 ajH) ?_;refine oo r (oo t (ob a ?_))
 cases i
 ·exact fi
 refine ob b ?_
 cases q
 ·exact fi
 refine oo u (oo v (on f ?_))
 cases j
 ·exact fi
 exact oo w (oo y (on g fi))
theorem aoa {l m:List Z8} (N:l.length < 1000000000) (n:∀f∈l,f.ty.gN):ae 121 [.dat (sl (BZ l)),.dat (sl (BZ m)),ajS] (bv (UN Z8.eq l m)):=by
 refine alY (ah7 _) (ah7 _) (by rw[abV,abV];rfl) (fun h=>?_);rw[abV];refine aen (ex:=.exit 0) (St:=fun i=>(aiH (sl (BZ l)) (sl (BZ m)) l.length i).al afv) (aer h) N ?_ (fun T e=>akp e) (by simp);intro i t u p c d b T E F;have o:=(n t b).1;have q:=UY t.ty u.ty (by omega);have r:=aic c;have s:=aic d;obtain⟨y,⟨k,z,x,g⟩⟩:=t;obtain⟨j,⟨K,w,v,a⟩⟩:=u;exact ajc (dr (ax g)) (dr (ax a)) (br p) r s (alM (dr (ax g)) (dr (ax a)) rfl q) E F
theorem amt (l m:List Z8):UN Z8.eq l m=akP l m:=by
 have h:∀l m:List Z8,aee Z8.eq l m=aga l m:=by
  intro l
  induction l with
  | nil=>intro m;cases m <;> rfl
  | cons x r a=>intro m;cases m <;> grind[aee,aga]
 grind[UN,akP,afS,abV]
theorem aod {a b:vh} (A:a.gN):ae 83 [.dat a.enc,.dat b.enc] (bv (a.eq b)):=by
 obtain⟨e,f,h⟩:=A;have g:ae 82 [.dat a.sup.enc,.dat b.sup.enc] (bv (NC a.sup b.sup)):=UY _ _ (by have:=e.1;omega);have G:=aoa (m:=b.fl) h f;rw[amt] at G;obtain⟨l,i,⟨k,t,x,u⟩,c,j⟩:=a;obtain⟨p,n,⟨K,s,q,r⟩,d,o⟩:=b;exact akT rfl rfl rfl g G
theorem agI {x y:Ins} (f:x.gN):ae 51 [.dat x.enc,.dat y.enc] (bv (x.eqI y)):=by
 have p:=@akY x.az y.az _ y.ar f.2.1;have q:=UY x.ty y.ty (by have:=f.1.1;omega);obtain⟨F,o,a,b,m,n,D,u,⟨k,t,E,v⟩,C,I,c⟩:=x;obtain⟨z,e,B,Q,r,w,h,g,⟨K,A,s,d⟩,j,i,l⟩:=y;exact amu (dq _ _) (dr (ax v)) (dq _ _) (dr (ax d)) rfl rfl rfl rfl rfl rfl p q (agH rfl rfl rfl)
theorem amE {z f:Bool} {l m:List Ins} (N:l.length < 1000000) (D:∀x∈l,x.gN):ae 50 [.dat (sx z (encI l)),.dat (sx f (encI m)),ajR] (bv (UN Ins.eqI l m)):=by
 refine alX (afG _ _) (afG _ _) (by rw[bH,bH];rfl) (fun h=>?_);rw[bH];refine aen (ex:=.exit 0) (St:=fun i=>(aiG (sx z (encI l)) (sx f (encI m)) l.length i).al afZ) (aer h) (by omega) ?_ (fun T e=>ako e) (by simp);intro i t u G p q o T E F;have j:=agI (y:=u) (D t o);have H:=afI (z:=z) p;have J:=afI (z:=f) q;generalize t.eqI u=c at j E F;obtain⟨op,B,a,b,Z,n,W,V,⟨k,tn,ix,O⟩,C,I,Y⟩:=t;obtain⟨R,g,U,Q,L,P,s,r,⟨K,S,M,d⟩,w,v,A⟩:=u;exact ajb (dq _ _) (dr (ax O)) (dq _ _) (dr (ax d)) (br G) H J j E F
theorem aob {l m:List fG} (N:l.length < 1000000) (I:∀x∈l,∀y,ae 49 [.dat x.enc,.dat y.enc] (bv (x.Na y))):ae 48 [.dat (.slice (ir l)),.dat (.slice (ir m)),ajU] (bv (UN fG.Na l m)):=by
 refine al0 (n:=(ir l).length) (m:=(ir m).length) (by kernel_rfl) (by kernel_rfl) (by rw[xB,xB];rfl) (fun h=>?_);rw[xB];refine aen (ex:=.exit 0) (St:=fun i=>(aiJ (.slice (ir l)) (.slice (ir m)) l.length i).al af0) (aer h) (by omega) ?_ (fun T e=>akr e) (by simp);intro i t u J q r p T E F;have o:=I t p u;have K:=VS q;have M:=VS r;generalize t.Na u=c at o E F;obtain⟨k,⟨dn,ar,⟨sk,sn,U,S⟩,A,H⟩,f,⟨tk,tn,Z,Y⟩,L,⟨cp,cs,iz,O,ez,cD⟩,pk⟩:=t;obtain⟨k',⟨D,z,⟨V,W,v,b⟩,g,a⟩,f',⟨ad,af,w,d⟩,Q,⟨B,C,P,s,G,j⟩,R⟩:=u;exact aje (dr (ax S)) (dr (BZ H)) (dr (ax Y)) (dq _ _) (dq _ _) (dr (ax b)) (dr (BZ a)) (dr (ax d)) (dq _ _) (dq _ _) (br J) K M o E F
theorem aoc {z b:Bool} {l m:List (List fG)} (N:l.length < 1000000) (f:∀x∈l,x.length < 1000000) (c:∀x∈l,∀e∈x,∀y,ae 49 [.dat e.enc,.dat y.enc] (bv (e.Na y))):ae 52 [.dat (sx z (aG l)),.dat (sx b (aG m)),ajT] (bv (UN (UN fG.Na) l m)):=by
 refine alZ (af1 _ _) (af1 _ _) (by rw[dJ,dJ];rfl) (fun h=>?_);rw[dJ];refine aen (ex:=.exit 0) (St:=fun i=>(aiI (sx z (aG l)) (sx b (aG m)) l.length i).al afY) (aer h) (by omega) ?_ (fun T e=>akq e) (by simp);intro i t u d g j a T E F;exact ajd (br d) (af5 g) (af5 j) (alN (aob (f t a) (c t a))) E F
mutual
theorem agq:∀(c d:gM),c.ok->ae 19 [.dat c.enc,.dat d.enc] (bv (c.eqC d))
 | .mk L sl N o B z,.mk p w D m v i,h=>by
  rw[gM.ok] at h;have g:=@aoc B v _ i h.2.2.1 (fun x j=>(Al h.2.2.2 x j).1) (agW z h.2.2.2);have e:gM.eqC (.mk L sl N o B z) (.mk p w D m v i)=(aB L p&&(aB sl w&&(UN Ins.eqI o m&&UN (UN fG.Na) z i))):=by
   rw[gM.eqC,agF];rfl
  rw[e];exact ams (dq _ _) (dq _ _) (dq _ _) (dq _ _) rfl rfl (amE h.2.1 h.1) g
theorem agW:∀l:List (List fG),nj l->∀x∈l,∀e∈x,∀y,ae 49 [.dat e.enc,.dat y.enc] (bv (e.Na y))
 | [],_,x,j=>by simp at j
 | a::r,h,x,j=>by
  rw[nj] at h
  rcases List.mem_cons.1 j with j|j
  ·rw[j];exact ahG a h.2.1
  exact agW r h.2.2 x j
theorem ahG:∀l:List fG,Ss l->∀e∈l,∀y,ae 49 [.dat e.enc,.dat y.enc] (bv (e.Na y))
 | [],_,e,n=>by simp at n
 | a::r,h,e,n=>by
  rw[Ss] at h
  rcases List.mem_cons.1 n with n|n
  ·rw[n];exact fun y=>aka a y h.1
  exact ahG r h.2 e n
theorem aka:∀(e y:fG),e.ok->ae 49 [.dat e.enc,.dat y.enc] (bv (e.Na y))
 | .mk k d f F L c pk,.mk K A f2 s p q af,h=>by
  rw[fG.ok] at h;have G:=UY F s (by have:=h.2.1.1;omega);have Y:=aod (b:=A) h.1;have Z:=agq c q h.2.2;rw[fG.Na];generalize NC F s=c5 at *;generalize d.eq A=c6 at *;generalize c.eqC q=c7 at *;obtain⟨dn,u,⟨sk,sn,ag,sa⟩,R,W⟩:=d;obtain⟨U,Q,⟨al,am,O,E⟩,I,C⟩:=A;obtain⟨tk,t,az,ta⟩:=F;obtain⟨a0,a1,P,H⟩:=s;obtain⟨cp,cs,N,o,B,z⟩:=c;obtain⟨S,T,ad,M,V,J⟩:=q;exact amv (dr (ax sa)) (dr (BZ W)) (dr (ax ta)) (dq _ _) (dq _ _) (dr (ax E)) (dr (BZ C)) (dr (ax H)) (dq _ _) (dq _ _) rfl rfl rfl rfl G Y Z
end
def ahL (k i:Int) (s:List UInt8) (K a:Int) (b:List UInt8):Heap:=[(.loc 3,.cells [iv K,iv a,.dat (sb b),.dat nl]),(.loc 2,.cells [iv k,iv i,.dat (sb s),.dat nl])]
def aki (lo:Heap):ab:=⟨[(5,iv 0),(3,.ptr (.loc 3) 0),(2,.ptr (.loc 2) 0)],lo,[],0⟩
def aiF (lo:Heap):ab:=⟨[(38,bv false),(5,iv 0),(3,.ptr (.loc 3) 0),(2,.ptr (.loc 2) 0)],lo,[],0⟩
theorem ake {i:Int} {a:Int} {b:List UInt8} {T:ej} (E:T (.exit 0) ((aiF (ahL k i s K a b)).al An)) :
  KD (roundOf Tryz.f87 0) T ((aki (ahL k i s K a b)).al An):=by
 refine aq [] [] (H:=hVE) (live:=Jl) ?_;exact oe E
theorem akd {i:Int} {a:Int} {b:List UInt8} :
  KD (.loop (roundOf Tryz.f87 0)) (fun e q=>e=.exit 0/\q=(aiF (ahL k i s K a b)).al An) ((aki (ahL k i s K a b)).al An):=by
 refine bm (St:=fun _=>(aki (ahL k i s K a b)).al An) 0 (fun i c=>absurd c (by omega)) ?_ (i:=0) (Nat.le_refl _);exact ake ⟨rfl,rfl⟩
theorem alB {k i:Int} {s:List UInt8} {K c:Int} {d:List UInt8} {p g h:Bool} (a:aB k K=p) (b:aB i c=g) (f:jP s d=h)
  (l:KD (.loop (roundOf Tryz.f87 0)) (fun e q=>e=.exit 0/\q=(aiF (ahL k i s K c d)).al An) ((aki (ahL k i s K c d)).al An)) :
  ae 87 [.dat (lI k i s),.dat (lI K c d)] (bv (p&&(g&&h))):=by
 refine co [10,16,23] [] (x:=.of Tryz.f87 KO Jl) ?_;refine ox a ?_
 cases p
 ·exact fi
 refine ox b ?_
 cases g
 ·exact fi
 refine ox f ?_
 cases h
 ·exact fi
 refine lo l ?_;rintro j s ⟨rfl,rfl⟩;refine⟨_,rfl,?_⟩;exact fi
noncomputable def hIQ:Hints:=⟨bV,ah1,bi,rowsOf bi 53⟩
def aiq (p q:List ac):Heap:=[(.loc 3,.cells q),(.loc 2,.cells p)]
def aiM (p q:List ac) (i:Int):ab:=⟨[(5,iv i),(3,.ptr (.loc 3) 0),(2,.ptr (.loc 2) 0)],aiq p q,[],0⟩
def alf (p q:List ac) (n:Nat):ab:=⟨[(75,bv false),(5,iv (ofNat n)),(3,.ptr (.loc 3) 0),(2,.ptr (.loc 2) 0)],aiq p q,[],0⟩
def ahp:ab:=⟨[(4,bv false)],[],[],0⟩
section
theorem ajN {L l a b m:Int} {J:List UInt8} {w:ak} {k:Int} {t:List UInt8} {G:Int} {D:ak} {C I:Int} {B:List UInt8} {u d A Q q:Int} {s:List UInt8} {p:ak} {K:Int} {v:List UInt8} {r:Int} {o:ak} {h e:Int} {j:List UInt8} {n:Nat} {T:ej} (M:dj w) (N:dj p) {i:Nat} {x y:Int} {c:Bool} (S:kb ba 22 (Su [.dat w]) none=some ⟨iv (ofNat n),.keep⟩) (P:aF (ofNat i) (ofNat n)=true) (R:ap ba 22 (Su [.dat w,.dat (.flat (.int .i64 (ofNat i)))])=some ⟨.ref [iN x],.keep⟩)
  (f:ap ba 22 (Su [.dat p,.dat (.flat (.int .i64 (ofNat i)))])=some ⟨.ref [iN y],.keep⟩) (g:aB x y=c)
  (E:c=true->T .normal ((aiM (cX L l a b m J w k t G D C I B) (cX u d A Q q s p K v r o h e j) (an .i64 (ofNat i+1))).al afX)) (F:c=false->T .ret (ahp.al afX)) :
  KD (roundOf Tryz.f53 0) T ((aiM (cX L l a b m J w k t G D C I B) (cX u d A Q q s p K v r o h e j) (ofNat i)).al afX):=by
 have z:=@afx true 2 L l a b m J _ k t G D C I B M;have O:=@afx true 3 u d A Q q s _ K v r o h e j N;refine aq [75,88] [73,74,79,81,84,86] (H:=hIQ) (live:=ag6) (oo z (oo S (ob P (oo z (oo R (oo O (oo f (ox g ?_))))))))
 cases c
 ·exact oe (F rfl)
 exact oe (E rfl)
theorem akK {z f a b m:Int} {w:List UInt8} {v:ak} {k:Int} {t:List UInt8} {x:Int} {y:ak} {C I:Int} {c:List UInt8} {s d B Q p:Int} {r:List UInt8} {o:ak} {K:Int} {u:List UInt8} {q:Int} {l:ak} {h g:Int} {j:List UInt8} {n:Nat} {T:ej} (D:dj v) (F:kb ba 22 (Su [.dat v]) none=some ⟨iv (ofNat n),.keep⟩) (e:T (.exit 0) ((alf (cX z f a b m w v k t x y C I c) (cX s d B Q p r o K u q l h g j) n).al afX)) :
  KD (roundOf Tryz.f53 0) T ((aiM (cX z f a b m w v k t x y C I c) (cX s d B Q p r o K u q l h g j) (ofNat n)).al afX):=by
 have E:=cj (i:=n) (L:=n) (by omega);have A:=@afx false 2 z f a b m w _ k t x y C I c D;exact aq [75] [73,74] (H:=hIQ) (live:=ag6) (oo A (oo F (ob E (oe e))))
theorem al5 {L r a b F:Int} {J:List UInt8} {M:ak} {k:Int} {t:List UInt8} {H:Int} {y:ak} {C I:Int} {c:List UInt8} {z h E Q u:Int} {w:List UInt8} {D:ak} {K:Int} {A:List UInt8} {v:Int} {B:ak} {j i:Int} {o:List UInt8} {n m:Nat} (N:dj M) (R:dj y) (O:dj D) (S:dj B) {p T U V W Y P Z c9 d:Bool} (h1:aB L z=p) (h2:aB r h=T) (f:aB a E=U) (g:aB b Q=V) (G:aB F u=W) (h6:jP J w=Y)
  (l1:kb ba 22 (Su [.dat M]) none=some ⟨iv (ofNat n),.keep⟩) (l2:kb ba 22 (Su [.dat D]) none=some ⟨iv (ofNat m),.keep⟩) (h7:aB (ofNat n) (ofNat m)=P)
  (h8:ae 86 [.dat (.agg [i64 k,sb t,i64 H,y]),.dat (.agg [i64 K,sb A,i64 v,B])] (bv Z)) (h9:ae 87 [.dat (lI C I c),.dat (lI j i o)] (bv c9))
  (l:P=true->KD (.loop (roundOf Tryz.f53 0)) (fun e q=>(e=.exit 0/\d=true/\q=(alf (cX L r a b F J M k t H y C I c) (cX z h E Q u w D K A v B j i o) n).al afX)∨(e=.ret/\d=false/\q=ahp.al afX)) ((aiM (cX L r a b F J M k t H y C I c) (cX z h E Q u w D K A v B j i o) (ofNat 0)).al afX)) :
  ae 53 [.dat (eH L r a b F J M k t H y C I c),.dat (eH z h E Q u w D K A v B j i o)] (bv (p&&(T&&(U&&(V&&(W&&(Y&&(P&&(Z&&(c9&&d)))))))))):=by
 have ad:=@bw L r a b F J _ k t H _ C I c N R;have ag:=@afx false 2 L r a b F J _ k t H y C I c N;have ar:=@bD false 2 L r a b F J _ k t H _ C I c N R;have a0:=@bg false 2 L r a b F J _ k t H _ C I c N R;have af:=@bw z h E Q u w _ K A v _ j i o O S;have am:=@afx false 3 z h E Q u w _ K A v B j i o O;have az:=@bD false 3 z h E Q u w _ K A v _ j i o O S;have a1:=@bg false 3 z h E Q u w _ K A v _ j i o O S;clear N R O S;refine co [10,16,23,30,37,44,53] [2,3,48,49,51,52,57,59,65,67] (x:=.of Tryz.f53 ah1 ag6) ?_;refine oo ad (oo af (ox h1 ?_))
 cases p
 ·exact fi
 refine ox h2 ?_
 cases T
 ·exact fi
 refine ox f ?_
 cases U
 ·exact fi
 refine ox g ?_
 cases V
 ·exact fi
 refine ox G ?_
 cases W
 ·exact fi
 refine ox h6 ?_
 cases Y
 ·exact fi
 refine oo ag (oo l1 (oo am (oo l2 (ox h7 ?_))))
 cases P
 ·exact fi
 refine oo ar (oo az (on h8 ?_))
 cases Z
 ·exact fi
 refine oo a0 (oo a1 (on h9 ?_))
 cases c9
 ·exact fi
 refine lo (l rfl) ?_;rintro ex s (⟨rfl,rfl,rfl⟩|⟨rfl,rfl,rfl⟩) <;>
 ·refine⟨_,rfl,?_⟩;exact fi
end
theorem alS {M:Int} {K:List UInt8} {u P:Int} {Q:List UInt8} {v:Int} {U:ak} {j:Bool} {V:ak} {N:List UInt8} {R:Int} {t:List UInt8} {z:Int} {W:ak} {L J c:Int} {S T:ak} {O:List UInt8} {n:Int} {m:List UInt8} {i w:Int} {y:List UInt8} {e:Int} {E:ak} {d:Bool} {F:ak} {o:List UInt8} {A:Int} {B:List UInt8} {h:Int} {H:ak} {r k l:Int} {C D:ak} {s:List UInt8} (g1:dj U) (g2:dj V) (g3:dj W) (g4:dj S) (g5:dj T) (g6:dj E) (g7:dj F) (g8:dj H) (g9:dj C) (I:dj D) {p q Y Z c5 c6 c7:Bool} (a:aB M n=p) (b:jP N o=q) (f:aB L r=Y) (g:jP O s=Z) (G:ae 86 [.dat (.agg [i64 R,sb t,i64 z,W]),.dat (.agg [i64 A,sb B,i64 h,H])] (bv c5))
  (h6:ae 124 [.dat (.agg [sb K,i64 u,i64 P,sb Q,i64 v,U,bl j,V]),.dat (.agg [sb m,i64 i,i64 w,sb y,i64 e,E,bl d,F])] (bv c6)) (h7:ae 20 [.dat (aN J c S T),.dat (aN k l C D)] (bv c7)) :
  ae 88 [.dat (B0 M K u P Q v U j V N R t z W L J c S T O),.dat (B0 n m i w y e E d F o A B h H r k l C D s)] (bv (p&&(q&&(Y&&(Z&&(c6&&(c5&&c7))))))):=by
 have ad:=@adN M K u P Q v _ j _ N R t z _ L J c _ _ O g1 g2 g3 g4 g5;have ag:=@ahe false 2 M K u P Q v U j V N R t z _ L J c S T O g3;have am:=@ahf false 2 M K u P Q v _ j _ N R t z W L J c S T O g1 g2;have a0:=@QL false 2 M K u P Q v U j V N R t z W L J c _ _ O g4 g5;have af:=@adN n m i w y e _ d _ o A B h _ r k l _ _ s g6 g7 g8 g9 I;have al:=@ahe false 3 n m i w y e E d F o A B h _ r k l C D s g8;have az:=@ahf false 3 n m i w y e _ d _ o A B h H r k l C D s g6 g7;have a1:=@QL false 3 n m i w y e E d F o A B h H r k l _ _ s g9 I;refine co [9,15,22,29] [2,3,33,35,40,42,47,49] (x:=.of Tryz.f88 P8 ajE) ?_;refine oo ad (oo af (ob a ?_))
 cases p
 ·exact fi
 refine ob b ?_
 cases q
 ·exact fi
 refine ob f ?_
 cases Y
 ·exact fi
 refine ob g ?_
 cases Z
 ·exact fi
 refine oo am (oo az (on h6 ?_))
 cases c6
 ·exact fi
 refine oo ag (oo al (on G ?_))
 cases c5
 ·exact fi
 exact oo a0 (oo a1 (on h7 fi))
noncomputable def hEQ:Hints:=⟨bV,ah0,bi,rowsOf bi 54⟩
def aiQ (a b:ak) (i:Int):ab:=⟨[(5,iv i),(0,.dat a),(1,.dat b)],[],[],0⟩
def ali (a b:ak) (n:Nat):ab:=⟨[(14,bv false),(5,iv (ofNat n)),(0,.dat a),(1,.dat b)],[],[],0⟩
theorem ajX {A B:ak} {n i:Nat} {Q:Int} {P:List UInt8} {u U:Int} {V:List UInt8} {v:Int} {da:ak} {k:Bool} {df:ak} {R:List UInt8} {W:Int} {t:List UInt8} {y:Int} {ta:ak} {L N O:Int} {Y Z:ak} {S:List UInt8} {p:Int} {o:List UInt8} {j w:Int} {x:List UInt8} {e:Int} {I:ak} {d:Bool} {J:ak} {q:List UInt8} {z:Int} {C:List UInt8} {h:Int} {M:ak} {r l m:Int} {D G:ak} {s:List UInt8} (g1:dj da) (g2:dj df) (g3:dj ta) (g4:dj Y) (g5:dj Z) (g6:dj I) (g7:dj J) (g8:dj M) (g9:dj D) (K:dj G) {c:Bool} {T:ej} (l1:kb ba 54 (Su [.dat A]) none=some ⟨iv (ofNat n),.keep⟩) (a:aF (ofNat i) (ofNat n)=true) (b:ap ba 54 (Su [.dat A,.dat (.flat (.int .i64 (ofNat i)))])=some ⟨.ref [i64 Q,sb P,i64 u,i64 U,sb V,i64 v,da,bl k,df,sb R,i64 W,sb t,i64 y,ta,i64 L,i64 N,i64 O,Y,Z,sb S],.keep⟩)
  (f:ap ba 54 (Su [.dat B,.dat (.flat (.int .i64 (ofNat i)))])=some ⟨.ref [i64 p,sb o,i64 j,i64 w,sb x,i64 e,I,bl d,J,sb q,i64 z,sb C,i64 h,M,i64 r,i64 l,i64 m,D,G,sb s],.keep⟩) (g:ae 88 [.dat (B0 Q P u U V v da k df R W t y ta L N O Y Z S),.dat (B0 p o j w x e I d J q z C h M r l m D G s)] (bv c))
  (E:c=true->T .normal ((aiQ A B (an .i64 (ofNat i+1))).al afW)) (F:c=false->T .ret (ahp.al afW)) :
  KD (roundOf Tryz.f54 0) T ((aiQ A B (ofNat i)).al afW):=by
 have ad:=@QK true Q P u U V v _ k _ R W t y _ L N O _ _ S g1 g2 g3 g4 g5;have af:=@QK true p o j w x e _ d _ q z C h _ r l m _ _ s g6 g7 g8 g9 K;refine aq [14] [13,19,20,23,24] (H:=hEQ) (live:=ag5) (oo l1 (ob a (oo b (oo ad (oo f (oo af (on g ?_)))))))
 cases c
 ·exact oe (F rfl)
 exact oe (E rfl)
theorem akO {A B:ak} {n:Nat} {T:ej} (b:kb ba 54 (Su [.dat A]) none=some ⟨iv (ofNat n),.keep⟩) (e:T (.exit 0) ((ali A B n).al afW)) :
  KD (roundOf Tryz.f54 0) T ((aiQ A B (ofNat n)).al afW):=by
 have a:=cj (i:=n) (L:=n) (by omega);exact aq [14] [13] (H:=hEQ) (live:=ag5) (oo b (ob a (oe e)))
theorem akN {A B:ak} {n m:Nat} {c d:Bool} (a:kb ba 54 (Su [.dat A]) none=some ⟨iv (ofNat n),.keep⟩) (b:kb ba 54 (Su [.dat B]) none=some ⟨iv (ofNat m),.keep⟩) (h:aB (ofNat n) (ofNat m)=c)
  (l:c=true->KD (.loop (roundOf Tryz.f54 0)) (fun e q=>(e=.exit 0/\d=true/\q=(ali A B n).al afW)∨(e=.ret/\d=false/\q=ahp.al afW)) ((aiQ A B (ofNat 0)).al afW)) :
  ae 54 [.dat A,.dat B] (bv (c&&d)):=by
 refine co [10] [7,9] (x:=.of Tryz.f54 ah0 ag5) ?_;refine oo a (oo b (ox h ?_))
 cases c
 ·exact fi
 refine lo (l rfl) ?_;rintro f s (⟨rfl,rfl,rfl⟩|⟨rfl,rfl,rfl⟩) <;>
 ·refine⟨_,rfl,?_⟩;exact fi
noncomputable def hCQ:Hints:=⟨bV,Ac,bi,rowsOf bi 20⟩
def aiW (p q:List ac) (i:Int):ab:=⟨[(5,iv i),(3,.ptr (.loc 3) 0),(2,.ptr (.loc 2) 0)],aiq p q,[],0⟩
def alk (p q:List ac) (n:Nat):ab:=⟨[(41,bv false),(5,iv (ofNat n)),(3,.ptr (.loc 3) 0),(2,.ptr (.loc 2) 0)],aiq p q,[],0⟩
def aiV (p q:List ac) (i:Int):ab:=⟨[(6,iv i),(3,.ptr (.loc 3) 0),(2,.ptr (.loc 2) 0)],aiq p q,[],0⟩
def alj (p q:List ac) (n:Nat):ab:=⟨[(60,bv false),(6,iv (ofNat n)),(3,.ptr (.loc 3) 0),(2,.ptr (.loc 2) 0)],aiq p q,[],0⟩
section
theorem aiu {p s N O:Int} {A J E F:ak} {n i:Nat} {T:ej} {M l a b m:Int} {L:List UInt8} {P:ak} {k:Int} {t:List UInt8} {x:Int} {y:ak} {C I:Int} {G:List UInt8} {u d D Q o:Int} {r:List UInt8} {z:ak} {K:Int} {v:List UInt8} {q:Int} {w:ak} {h e:Int} {j:List UInt8} (R:dj A) (S:dj E) (U:dj P) (V:dj y) (W:dj z) (Y:dj w) {c:Bool} (l1:kb ba 23 (Su [.dat A]) none=some ⟨iv (ofNat n),.keep⟩) (h1:aF (ofNat i) (ofNat n)=true)
  (h2:ap ba 23 (Su [.dat A,.dat (.flat (.int .i64 (ofNat i)))])=some ⟨.ref [i64 M,i64 l,i64 a,i64 b,i64 m,sb L,P,i64 k,sb t,i64 x,y,i64 C,i64 I,sb G,nl],.keep⟩) (f:ap ba 23 (Su [.dat E,.dat (.flat (.int .i64 (ofNat i)))])=some ⟨.ref [i64 u,i64 d,i64 D,i64 Q,i64 o,sb r,z,i64 K,sb v,i64 q,w,i64 h,i64 e,sb j,nl],.keep⟩)
  (g:ae 53 [.dat (eH M l a b m L P k t x y C I G),.dat (eH u d D Q o r z K v q w h e j)] (bv c)) (u1:c=true->T .normal ((aiW (cC p s A J) (cC N O E F) (an .i64 (ofNat i+1))).al dy)) (u2:c=false->T .ret (ahp.al dy)) :
  KD (roundOf Tryz.f20 0) T ((aiW (cC p s A J) (cC N O E F) (ofNat i)).al dy):=by
 have B:=@af2 true 2 p s _ J R;have Z:=@af2 true 3 N O _ F S;have ad:=@yv true M l a b m L _ k t x _ C I G U V;have af:=@yv true u d D Q o r _ K v q _ h e j W Y;refine aq [41] [39,40,45,47,48,50,52,53] (H:=hCQ) (live:=jk) (oo B (oo l1 (ob h1 (oo B (oo h2 (oo ad (oo Z (oo f (oo af (on g ?_))))))))))
 cases c
 ·exact oe (u2 rfl)
 exact oe (u1 rfl)
theorem aj3 {p s g h:Int} {b c E F:ak} {n:Nat} {T:ej} (f:dj b) (j:kb ba 23 (Su [.dat b]) none=some ⟨iv (ofNat n),.keep⟩) (e:T (.exit 0) ((alk (cC p s b c) (cC g h E F) n).al dy)) :
  KD (roundOf Tryz.f20 0) T ((aiW (cC p s b c) (cC g h E F) (ofNat n)).al dy):=by
 have a:=cj (i:=n) (L:=n) (by omega);have d:=@af2 false 2 p s _ c f;exact aq [41] [39,40] (H:=hCQ) (live:=jk) (oo d (oo j (ob a (oe e))))
theorem ait {p s j k:Int} {h d E F:ak} {n i:Nat} {T:ej} (l:dj d) (m:dj F) {x y:List ak} {c:Bool} (q:kb ba 24 (Su [.dat d]) none=some ⟨iv (ofNat n),.keep⟩) (a:aF (ofNat i) (ofNat n)=true)
  (b:ap ba 24 (Su [.dat d,.dat (.flat (.int .i64 (ofNat i)))])=some ⟨.ref [.slice x],.keep⟩) (f:ap ba 24 (Su [.dat F,.dat (.flat (.int .i64 (ofNat i)))])=some ⟨.ref [.slice y],.keep⟩)
  (g:ae 54 [.dat (.slice x),.dat (.slice y)] (bv c)) (u:c=true->T .normal ((aiV (cC p s h d) (cC j k E F) (an .i64 (ofNat i+1))).al dy)) (v:c=false->T .ret (ahp.al dy)) :
  KD (roundOf Tryz.f20 1) T ((aiV (cC p s h d) (cC j k E F) (ofNat i)).al dy):=by
 have e:=@af3 true 2 p s h _ l;have o:=@af3 true 3 j k E _ m;refine aq [60] [58,59,64,66,69,71] (H:=hCQ) (live:=jk) (oo e (oo q (ob a (oo e (oo b (oo o (oo f (on g ?_))))))))
 cases c
 ·exact oe (v rfl)
 exact oe (u rfl)
theorem aj2 {p s g h:Int} {c b E F:ak} {n:Nat} {T:ej} (f:dj b) (j:kb ba 24 (Su [.dat b]) none=some ⟨iv (ofNat n),.keep⟩) (e:T (.exit 2) ((alj (cC p s c b) (cC g h E F) n).al dy)) :
  KD (roundOf Tryz.f20 1) T ((aiV (cC p s c b) (cC g h E F) (ofNat n)).al dy):=by
 have a:=cj (i:=n) (L:=n) (by omega);have d:=@af3 false 2 p s c _ f;exact aq [60] [58,59] (H:=hCQ) (live:=jk) (oo d (oo j (ob a (oe e))))
theorem amA {p s c d:Int} {h i E F:ak} {n m y z:Nat} (t:dj h) (u:dj i) (v:dj E) (w:dj F) {l o j k r Q:Bool} (a:aB p c=l) (b:aB s d=o)
  (D:kb ba 23 (Su [.dat h]) none=some ⟨iv (ofNat n),.keep⟩) (G:kb ba 23 (Su [.dat E]) none=some ⟨iv (ofNat m),.keep⟩) (f:aB (ofNat n) (ofNat m)=j)
  (H:kb ba 24 (Su [.dat i]) none=some ⟨iv (ofNat y),.keep⟩) (I:kb ba 24 (Su [.dat F]) none=some ⟨iv (ofNat z),.keep⟩) (g:aB (ofNat y) (ofNat z)=k)
  (B:j=true->KD (.loop (roundOf Tryz.f20 0)) (fun e q=>(e=.exit 0/\r=true/\q=(alk (cC p s h i) (cC c d E F) n).al dy)∨(e=.ret/\r=false/\q=ahp.al dy)) ((aiW (cC p s h i) (cC c d E F) (ofNat 0)).al dy))
  (C:k=true->KD (.loop (roundOf Tryz.f20 1)) (fun e q=>(e=.exit 2/\Q=true/\q=(alj (cC p s h i) (cC c d E F) y).al dy)∨(e=.ret/\Q=false/\q=ahp.al dy)) ((aiV (cC p s h i) (cC c d E F) (ofNat 0)).al dy)) :
  ae 20 [.dat (aN p s h i),.dat (aN c d E F)] (bv (l&&(o&&(j&&(k&&(r&&Q)))))):=by
 have J:=aS (p:=p) (s:=s) t u;have K:=aS (p:=c) (s:=d) v w;have L:=@af2 false 2 p s _ i t;have M:=@af2 false 3 c d _ F v;have N:=@af3 false 2 p s h _ u;have O:=@af3 false 3 c d E _ w;refine co [11,17,26,35] [2,3,21,22,24,25,30,31,33,34] (x:=.of Tryz.f20 Ac jk) ?_;refine oo J (oo K (ox a ?_))
 cases l
 ·exact fi
 refine ox b ?_
 cases o
 ·exact fi
 refine oo L (oo D (oo M (oo G (ox f ?_))))
 cases j
 ·exact fi
 refine oo N (oo H (oo O (oo I (ox g ?_))))
 cases k
 ·exact fi
 refine lo (B rfl) ?_;rintro A s (⟨rfl,rfl,rfl⟩|⟨rfl,rfl,rfl⟩)
 ·refine⟨_,rfl,?_⟩;refine lo (C rfl) ?_;rintro A s (⟨rfl,rfl,rfl⟩|⟨rfl,rfl,rfl⟩) <;>
  ·refine⟨_,rfl,?_⟩;exact fi
 refine⟨_,rfl,?_⟩;exact fi
end
variable {K M P d i k v:Int} {S l:List ak} {b:List UInt8} {c:Bool} {t:Ty}
theorem ain {x y:Ins} (H:x.gN):ae 53 [.dat x.enc,.dat y.enc] (bv (x.eqI y)):=by
 have O:=O6 x.ty y.ty (by have:=H.1.1;omega);have N:=H.2.1;obtain⟨M,q,a,b,m,n,A,p,⟨k,V,U,L⟩,C,I,c⟩:=x;obtain⟨w,f,G,Q,r,v,g,d,⟨K,D,B,s⟩,l,j,o⟩:=y;have z:=afw A (p.map iN);have J:=afw g (d.map iN);rw[List.length_map] at z J;have h:=@al5 M q a b m n _ _ _ _ _ _ _ _ w f G Q r v _ _ _ _ _ _ _ _ _ _ (dq A (p.map iN)) (dr (ax L)) (dq g (d.map iN)) (dr (ax s)) _ _ _ _ _ _ (afS p d) _ _ (aee aB p d) rfl rfl rfl rfl rfl rfl z J rfl O
  (@alB C I c l j o _ _ _ rfl rfl rfl akd) (fun h=>by
   refine aen (ex:=.exit 0) (St:=fun i=>(aiM (cX M q a b m n (sx A (p.map iN)) k V U (sl (ax L)) C I c) (cX w f G Q r v (sx g (d.map iN)) K D B (sl (ax s)) l j o) i).al afX) (aer h) N ?_ (fun T e=>akK (dq _ _) z e) (by simp);intro i t u P R S _ T E F;exact ajN (dq _ _) (dq _ _) z (br P) (afy R) (afy S) rfl E F)
 rw[Bool.and_comm (aB C l&&(aB I j&&jP c o)),Bool.and_left_comm (NC _ _),←Bool.and_assoc (afS p d)] at h;exact h
theorem aio {l m:List fG} (N:l.length < 1000000) (I:∀x∈l,∀y,ae 88 [.dat x.enc,.dat y.enc] (bv (x.Na y))):ae 54 [.dat (.slice (ir l)),.dat (.slice (ir m))] (bv (UN fG.Na l m)):=by
 have b:kb ba 54 (Su [.dat (.slice (ir l))]) none=some ⟨iv (ofNat l.length),.keep⟩:=by rw[←xB l];kernel_rfl
 have Q:kb ba 54 (Su [.dat (.slice (ir m))]) none=some ⟨iv (ofNat m.length),.keep⟩:=by rw[←xB m];kernel_rfl
 refine akN b Q rfl (fun h=>?_);refine aen (ex:=.exit 0) (St:=fun i=>(aiQ (.slice (ir l)) (.slice (ir m)) i).al afW) (aer h) (by omega) ?_ (fun T e=>akO b e) (by simp);intro i t u J q r p T E F;have o:=I t p u;have K:=VS q;have M:=VS r;generalize t.Na u=c at o E F;obtain⟨k,⟨dn,ar,⟨sk,sn,V,U⟩,A,H⟩,f,⟨tk,tn,ad,Z⟩,L,⟨cp,cs,iz,O,ez,cD⟩,pk⟩:=t;obtain⟨k',⟨D,z,⟨W,Y,v,d⟩,j,a⟩,f',⟨af,ag,w,g⟩,R,⟨B,C,P,s,G,n⟩,S⟩:=u;exact ajX (dr (ax U)) (dr (BZ H)) (dr (ax Z)) (dq _ _) (dq _ _) (dr (ax d)) (dr (BZ a)) (dr (ax g)) (dq _ _) (dq _ _) b (br J) K M o E F
theorem ai8 {L sl:Int} {s:Bool} {g:List Ins} {v:Bool} {p:List (List fG)} {q r:Int} {j:Bool} {f:List Ins} {o:Bool} {d:List (List fG)} (h:(gM.mk L sl s g v p).ok)
  (hf:∀x∈p,∀e∈x,∀y,ae 88 [.dat e.enc,.dat y.enc] (bv (e.Na y))):ae 20 [.dat (gM.mk L sl s g v p).enc,.dat (gM.mk q r j f o d).enc] (bv ((gM.mk L sl s g v p).eqC (gM.mk q r j f o d))):=by
 rw[gM.ok] at h;have D:=afG s (encI g);have P:=afG j (encI f);have G:=af1 v (aG p);have R:=af1 o (aG d);rw[bH] at D P;rw[dJ] at G R;have O:=@amA L sl q r _ _ _ _ _ _ _ _ (dq s (encI g)) (dq v (aG p)) (dq j (encI f)) (dq o (aG d)) _ _ (afS g f) (afS p d) (aee Ins.eqI g f) (aee (UN fG.Na) p d) rfl rfl D P rfl G R rfl
  (fun l=>by
   refine aen (ex:=.exit 0) (St:=fun i=>(aiW (cC L sl (sx s (encI g)) (sx v (aG p))) (cC q r (sx j (encI f)) (sx o (aG d))) i).al dy) (aer l) (by omega) ?_ (fun T e=>aj3 (dq _ _) D e) (by simp);intro i t u H A B w T E F;have N:=ain (y:=u) (h.1 t w);have i1:=afI (z:=s) A;have i2:=afI (z:=j) B;generalize t.eqI u=c at N E F;obtain⟨op,Z,a,b,m,n,az,ar,⟨k,tn,ix,la⟩,C,I,cs⟩:=t;obtain⟨am,M,a2,Q,ad,ag,U,S,⟨K,a0,af,J⟩,W,V,Y⟩:=u;exact aiu (dq _ _) (dq _ _) (dq _ _) (dr (ax la)) (dq _ _) (dr (ax J)) D (br H) i1 i2 N E F)
  (fun l=>by
   refine aen (ex:=.exit 2) (St:=fun i=>(aiV (cC L sl (sx s (encI g)) (sx v (aG p))) (cC q r (sx j (encI f)) (sx o (aG d))) i).al dy) (aer l) (by omega) ?_ (fun T e=>aj2 (dq _ _) G e) (by simp);intro i t u H A B w T E F;exact ait (dq _ _) (dq _ _) G (br H) (af5 A) (af5 B) (aio (Al h.2.2.2 t w).1 (hf t w)) E F)
 rw[gM.eqC,agF];rw[Bool.and_left_comm (afS p d),←Bool.and_assoc (afS g f)] at O;exact O
mutual
theorem aht:∀(c d:gM),c.ok->ae 20 [.dat c.enc,.dat d.enc] (bv (c.eqC d))
 | .mk L sl V p P z,.mk s ag Y E R C,h=>ai8 h (ai9 z (by grind[gM.ok]))
theorem ai9:∀l:List (List fG),nj l->∀x∈l,∀e∈x,∀y,ae 88 [.dat e.enc,.dat y.enc] (bv (e.Na y))
 | [],_,x,i=>by grind
 | a::r,h,x,i=>by
  rcases List.mem_cons.1 i with i|i
  ·rw[i];exact alp a h.2.1
  exact ai9 r h.2.2 x i
theorem alp:∀l:List fG,Ss l->∀e∈l,∀y,ae 88 [.dat e.enc,.dat y.enc] (bv (e.Na y))
 | [],_,e,g=>by grind
 | a::r,h,e,g=>by
  rcases List.mem_cons.1 g with g|g
  ·rw[g];exact fun y=>anp a y h.1
  exact alp r h.2 e g
theorem anp:∀(e y:fG),e.ok->ae 88 [.dat e.enc,.dat y.enc] (bv (e.Na y))
 | .mk k d f j L c pk,.mk K m f2 b s q Z,h=>by
  have G:=O6 j b (by have:=h.2.1.1;omega);have T:=ai7 (o:=m) h.1;have U:=aht c q h.2.2;rw[fG.Na,Bool.and_left_comm (NC j b)];generalize NC j b=c5 at *;generalize d.eq m=c6 at *;generalize c.eqC q=c7 at *;obtain⟨dn,u,⟨sk,sn,ad,sa⟩,J,S⟩:=d;obtain⟨O,I,⟨af,al,F,v⟩,A,n⟩:=m;obtain⟨tk,t,am,ta⟩:=j;obtain⟨az,a0,H,w⟩:=b;obtain⟨cp,cs,V,p,P,z⟩:=c;obtain⟨M,N,W,D,Q,B⟩:=q;exact alS (dr (ax sa)) (dr (BZ S)) (dr (ax ta)) (dq _ _) (dq _ _) (dr (ax v)) (dr (BZ n)) (dr (ax w)) (dq _ _) (dq _ _) rfl rfl rfl rfl G T U
end
abbrev dR (l:List ak) (k n r K:Int):Prop:=KC 32 [cq,iv n] (cW l k) 1 (XQ ⟨iv r,cW l K,1⟩)
abbrev eC (l S:List ak) (P v k:Int) (d:ak) (K:Int):Prop:=KC 94 [cq,.dat (.slice S),iv P,iv v] (cW l k) 1 (XQ ⟨.dat d,cW l K,1⟩)
abbrev wP (l S:List ak) (P v k:Int) (d:ak) (K:Int):Prop:=KC 137 [cq,.dat (.slice S),iv P,iv v] (cW l k) 1 (XQ ⟨.dat d,cW l K,1⟩)
theorem yR (a:dR l k 14 0 K) (d:aF 0 P=c) (g:dR l K 4 i M)
  (e:ap ba 70 [.dat (.slice (encS lq)),.dat (.flat (.int .i64 i))]=some ⟨.ref [sb b],.keep⟩):eC l S P v k (Ty.mk 2 b 0 []).enc M:=by
 have G:=qq b;refine co [17] [29] (x:=.of Tryz.f94 gd eF) ?_;refine oh a (ox d ?_)
 cases c <;>
 ·exact oh g (oo e (on G fi))
theorem yQ (a:dR l k 14 1 K) (d:aF 0 P=c) (g:dR l K 4 i M)
  (e:ap ba 70 [.dat (.slice (encS lq)),.dat (.flat (.int .i64 i))]=some ⟨.ref [sb b],.keep⟩):eC l S P v k (Ty.mk 2 b 0 []).enc M:=by
 have G:=qq b;refine co [17] [29] (x:=.of Tryz.f94 gd eF) ?_;refine oh a (ox d ?_)
 cases c <;>
 ·exact oh g (oo e (on G fi))
theorem L6 {r:Int} (a:dR l k 14 r K) (c:aF 0 P=false) (f:aF 5 r=true) (g:dR l K 4 i M)
  (d:ap ba 70 [.dat (.slice (encS lq)),.dat (.flat (.int .i64 i))]=some ⟨.ref [sb b],.keep⟩):eC l S P v k (Ty.mk 2 b 0 []).enc M:=by
 have G:=qq b;refine co [17,20] [29] (x:=.of Tryz.f94 gd eF) ?_;exact oh a (ox c (ob f (oh g (oo d (on G fi)))))
theorem Fh (a:dR l k 14 2 K) (b:aF 0 P=c):eC l S P v k (Ty.mk 0 [] 0 []).enc K:=by
 have G:=C3;refine co [17] [] (x:=.of Tryz.f94 gd eF) ?_;refine oh a (ox b ?_)
 cases c <;>
 ·exact on G fi
theorem Cd (a:dR l k 14 3 K) (b:aF 0 P=c) (f:aF 0 v=true) (g:dR l K v i M):eC l S P v k (Ty.mk 5 [] i []).enc M:=by
 have G:=C2 i;refine co [17,39] [] (x:=.of Tryz.f94 gd eF) ?_;refine oh a (ox b ?_)
 cases c <;>
 ·exact ob f (oh g (on G fi))
theorem Cg (a:dR l k 14 3 K) (b:aF 0 P=c) (f:aF 0 v=false) (g:wP l S P v K t.enc M):eC l S P v k t.enc M:=by
 obtain⟨h,i,e,d⟩:=t
 rcases d with _|⟨x,d⟩ <;>
 ·refine co [17,39] [] (x:=.of Tryz.f94 gd eF) ?_;refine oh a (ox b ?_)
  cases c <;>
  ·exact ob f (oh g fi)
theorem Cc (a:dR l k 14 4 K) (b:aF 0 P=c) (f:aF 0 v=true) (g:dR l K v i M):eC l S P v k (Ty.mk 5 [] i []).enc M:=by
 have G:=C2 i;refine co [17,39] [] (x:=.of Tryz.f94 gd eF) ?_;refine oh a (ox b ?_)
 cases c <;>
 ·exact ob f (oh g (on G fi))
theorem Cf (a:dR l k 14 4 K) (b:aF 0 P=c) (f:aF 0 v=false) (g:wP l S P v K t.enc M):eC l S P v k t.enc M:=by
 obtain⟨h,i,e,d⟩:=t
 rcases d with _|⟨x,d⟩ <;>
 ·refine co [17,39] [] (x:=.of Tryz.f94 gd eF) ?_;refine oh a (ox b ?_)
  cases c <;>
  ·exact ob f (oh g fi)
theorem Ce (a:dR l k 14 5 K) (b:aF 0 P=c) (g:wP l S P v K t.enc M):eC l S P v k t.enc M:=by
 obtain⟨f,h,e,d⟩:=t
 rcases d with _|⟨x,d⟩ <;>
 ·refine co [17] [] (x:=.of Tryz.f94 gd eF) ?_;refine oh a (ox b ?_)
  cases c <;>
  ·exact oh g fi
theorem L5 (a:dR l k 14 6 K) (b:aF 0 P=true) (g:wP l S P v K t.enc M):eC l S P v k t.enc M:=by
 obtain⟨e,f,d,c⟩:=t
 rcases c with _|⟨x,c⟩ <;>
 ·refine co [17] [] (x:=.of Tryz.f94 gd eF) ?_;exact oh a (ox b (oh g fi))
theorem L4 (a:dR l k 14 7 K) (b:aF 0 P=true) (g:wP l S P v K t.enc M):eC l S P v k t.enc M:=by
 obtain⟨e,f,d,c⟩:=t
 rcases c with _|⟨x,c⟩ <;>
 ·refine co [17] [] (x:=.of Tryz.f94 gd eF) ?_;exact oh a (ox b (oh g fi))
theorem NX {u:Ty} (a:dR l k 14 8 K) (b:aF 0 P=true) (g:eC l S (an .i64 (P - 1)) v K t.enc M) (G:eC l S (an .i64 (P - 1)) v M u.enc d):eC l S P v k (Ty.mk 4 [] 0 [t,u]).enc d:=by
 have f:=LK t.enc [u.enc];obtain⟨i,j,h,c⟩:=t;obtain⟨n,o,m,e⟩:=u
 rcases c with _|⟨x,c⟩ <;>
 ·rcases e with _|⟨y,e⟩ <;>
  ·refine co [17] [] (x:=.of Tryz.f94 gd eF) ?_;exact oh a (ox b (oh g (oh G (on f fi))))
theorem NW {u:Ty} (a:dR l k 14 9 K) (b:aF 0 P=true) (g:eC l S (an .i64 (P - 1)) v K t.enc M) (G:eC l S (an .i64 (P - 1)) v M u.enc d):eC l S P v k (Ty.mk 4 [] 0 [t,u]).enc d:=by
 have f:=LK t.enc [u.enc];obtain⟨i,j,h,c⟩:=t;obtain⟨n,o,m,e⟩:=u
 rcases c with _|⟨x,c⟩ <;>
 ·rcases e with _|⟨y,e⟩ <;>
  ·refine co [17] [] (x:=.of Tryz.f94 gd eF) ?_;exact oh a (ox b (oh g (oh G (on f fi))))
noncomputable def VV:Hints:=⟨bV,gd,bi,rowsOf bi 94⟩
def ab0 (a:List Ty):Heap:=[(.loc 10,.cells [iv 3,.dat (sb []),iv 0,abQ a]),(.loc 8,.cells [iv 0,.dat (sb []),iv 0,.dat nl])]
def Ig (l S:List ak) (P v n K i:Int) (a:List Ty):ab:=⟨[(12,iv i),(11,iv n),(10,.ptr (.loc 10) 0),(8,.ptr (.loc 8) 0),(0,cq),(1,.dat (.slice S)),(2,iv P),(3,iv v)],ab0 a,cW l K,1⟩
def Ko (l S:List ak) (P v n K i:Int) (a:List Ty):ab:=⟨[(83,bv false),(12,iv i),(11,iv n),(10,.ptr (.loc 10) 0),(8,.ptr (.loc 8) 0),(0,cq),(1,.dat (.slice S)),(2,iv P),(3,iv v)],ab0 a,cW l K,1⟩
theorem NR {n g:Int} {c:List Ty} (a:aF i n=true) (b:eC l S (an .i64 (P - 1)) v K t.enc g) (w:c.length < 1000000000) {T:ej}
  (e:T .normal ((Ig l S P v n g (an .i64 (i+1)) (c++[t])).al qg)) :
  KD (roundOf Tryz.f94 0) T ((Ig l S P v n K i c).al qg):=by
 have f:=U5 (t:=t) w;rcases c with _|⟨d,r⟩ <;>
 ·refine aq [83] [95] (H:=VV) (live:=eF) (ob a (oh b ?_));obtain⟨h,j,k,m⟩:=t;exact oo f (oe e)
theorem SN {n:Int} {b:List Ty} (a:aF i n=false) {T:ej}
  (e:T (.exit 1) ((Ko l S P v n K i b).al qg)) :
  KD (roundOf Tryz.f94 0) T ((Ig l S P v n K i b).al qg):=by
 rcases b with _|⟨d,r⟩ <;>
 ·exact aq [83] [] (H:=VV) (live:=eF) (ob a (oe e))
theorem HY {n h:Int} {c:List Ty} (a:dR l k 14 10 K) (b:aF 0 P=true) (g:dR l K 4 n M)
  (f:KD (.loop (roundOf Tryz.f94 0)) (fun e s=>e=.exit 1/\s=(Ko l S P v n d h c).al qg) ((Ig l S P v n M 0 []).al qg)):eC l S P v k (Ty.mk 3 [] 0 c).enc d:=by
 rcases c with _|⟨x,i⟩ <;>
 ·refine co [17] [] (x:=.of Tryz.f94 gd eF) ?_;refine oh a (ox b (oh g ?_));refine lo f ?_;rintro j s ⟨rfl,rfl⟩;refine⟨_,rfl,?_⟩;exact fi
theorem HX {n h:Int} {c:List Ty} (a:dR l k 14 11 K) (b:aF 0 P=true) (g:dR l K 4 n M)
  (f:KD (.loop (roundOf Tryz.f94 0)) (fun e s=>e=.exit 1/\s=(Ko l S P v n d h c).al qg) ((Ig l S P v n M 0 []).al qg)):eC l S P v k (Ty.mk 3 [] 0 c).enc d:=by
 rcases c with _|⟨x,i⟩ <;>
 ·refine co [17] [] (x:=.of Tryz.f94 gd eF) ?_;refine oh a (ox b (oh g ?_));refine lo f ?_;rintro j s ⟨rfl,rfl⟩;refine⟨_,rfl,?_⟩;exact fi
theorem NZ {c:Int} {u:Ty} (a:dR l k 14 12 K) (b:aF 0 P=true) (g:dR l K 2 0 M) (G:eC l S (an .i64 (P - 1)) (an .i64 (v+1)) M u.enc c):eC l S P v k (Ty.mk 6 [] 0 [.mk 0 [] 0 [],u]).enc c:=by
 have e:=C3;have f:=qs (.mk 0 [] 0 []) u;obtain⟨i,j,h,d⟩:=u
 rcases d with _|⟨y,d⟩ <;>
 ·refine co [17] [] (x:=.of Tryz.f94 gd eF) ?_;exact oh a (ox b (on e (oh g (oh G (on f fi)))))
theorem NY {e:Int} {u:Ty} (a:dR l k 14 12 K) (b:aF 0 P=true) (f:dR l K 2 1 M) (g:eC l S 1 0 M t.enc d) (G:eC l S (an .i64 (P - 1)) (an .i64 (v+1)) d u.enc e):eC l S P v k (Ty.mk 6 [] 0 [t,u]).enc e:=by
 have i:=C3;have j:=qs t u;obtain⟨n,o,m,c⟩:=t;obtain⟨q,r,p,h⟩:=u
 rcases c with _|⟨x,c⟩ <;>
 ·rcases h with _|⟨y,h⟩ <;>
  ·refine co [17] [] (x:=.of Tryz.f94 gd eF) ?_;exact oh a (ox b (on i (oh f (oh g (oh G (on j fi))))))
theorem HZ (a:dR l k 14 13 K) (b:aF 0 P=true) (g:dR l K 4 0 M):eC l S P v k (Ty.mk 1 [] 0 []).enc M:=by
 have c:=Ux;refine co [17] [] (x:=.of Tryz.f94 gd eF) ?_;exact oh a (ox b (oh g (on c fi)))
def J6:Ty:=.mk 6 [] 0 [.mk 0 [] 0 [],.mk 2 [66,111,120] 0 [.mk 5 [] 0 []]]
theorem L9 (a:dR l k 14 13 K) (b:aF 0 P=true) (g:dR l K 4 1 M):eC l S P v k J6.enc M:=by
 have G:=C3;have c:=C2 0;have d:=AO [66,111,120] (Ty.mk 5 [] 0 []).enc [];have e:=qs (.mk 0 [] 0 []) (.mk 2 [66,111,120] 0 [.mk 5 [] 0 []]);refine co [17] [] (x:=.of Tryz.f94 gd eF) ?_;exact oh a (ox b (oh g (on G (on c (on d (on e fi))))))
theorem L8 (a:dR l k 14 13 K) (b:aF 0 P=true) (g:dR l K 4 2 M):eC l S P v k J6.enc M:=by
 have G:=C3;have c:=C2 0;have d:=AO [66,111,120] (Ty.mk 5 [] 0 []).enc [];have e:=qs (.mk 0 [] 0 []) (.mk 2 [66,111,120] 0 [.mk 5 [] 0 []]);refine co [17] [] (x:=.of Tryz.f94 gd eF) ?_;exact oh a (ox b (oh g (on G (on c (on d (on e fi))))))
theorem L7 (a:dR l k 14 13 K) (b:aF 0 P=true) (g:dR l K 4 3 M):eC l S P v k J6.enc M:=by
 have G:=C3;have c:=C2 0;have d:=AO [66,111,120] (Ty.mk 5 [] 0 []).enc [];have e:=qs (.mk 0 [] 0 []) (.mk 2 [66,111,120] 0 [.mk 5 [] 0 []]);refine co [17] [] (x:=.of Tryz.f94 gd eF) ?_;exact oh a (ox b (oh g (on G (on c (on d (on e fi))))))
mutual
def Ty.from (P:List UInt8->Nat->Prop):Ty->Prop
 | .mk k n _ a=>(k=2->P n a.length)/\lz P a
def lz (P:List UInt8->Nat->Prop):List Ty->Prop
 | []=>True
 | t::r=>t.from P/\lz P r
end
theorem GW {P:List UInt8->Nat->Prop}:∀{l:List Ty},(∀t∈l,t.from P)->lz P l
 | [],_=>trivial
 | t::r,h=>⟨h t (by simp),GW (fun x a=>h x (by grind))⟩
theorem af4:∀{l:List Ty},(∀t∈l,t.fY)->fg l
 | [],_=>by simp[fg]
 | t::r,h=>by exact⟨h t (by simp),af4 (fun x a=>h x (by grind))⟩
structure GT (P:List UInt8->Nat->Prop) (N:Nat) (t:Ty) (k k2:Nat):Prop where
 size:t.size+4*k<=4*k2+1
 ix:t.fY
 frm:t.from P
 le:k<=k2
 top:k2<=N
def GR (l:List Int) (P:List UInt8->Nat->Prop) (g:FuncId) (a:List ac) (k:Nat):Prop:=∃t K,GT P l.length t k K/\KC g a (cW (l.map iN) (ofNat k)) 1 (XQ ⟨.dat t.enc,cW (l.map iN) (ofNat K),1⟩)
theorem JZ {l:List Int} {P:List UInt8->Nat->Prop} {g:FuncId} {o:List ac} {k:Nat} (D:k<=l.length) (h:∀C,k<=C->C<=l.length->GR l P g o C):∀n:Nat,∃(j:List Ty) (m:Nat->Nat),j.length=n/\m 0=k/\k<=m n/\m n<=l.length/\aQ j+4*k<=4*m n+n/\fg j/\lz P j ∧
  ∀i t,j[i]?=some t->KC g o (cW (l.map iN) (ofNat (m i))) 1 (XQ ⟨.dat t.enc,cW (l.map iN) (ofNat (m (i+1))),1⟩)
 | 0=>⟨[],fun _=>k,rfl,rfl,Nat.le_refl _,D,by simp[aQ],by simp[fg],trivial,fun i t h=>by simp at h⟩
 | n+1=>by
  obtain⟨j,m,w,b,f,E,G,F,H,I⟩:=JZ D h n;obtain⟨t,K,T,e⟩:=h (m n) f E;have z:aQ (j++[t])=aQ j+t.size:=by
   have:=@ld (j++[t]) n t (by rw[←w];simp)
   rw[show (j++[t]).take (n+1)=j++[t] from List.take_of_length_le (by simp;omega),show (j++[t]).take n=j by rw[←w];simp] at this;exact this
  have p:∀{Q:Ty->Prop},(∀x∈j,Q x)->Q t->∀x∈j++[t],Q x:=by
   intro Q A d x c
   rcases List.mem_append.1 c with c|c
   ·exact A x c
   simp at c;rw[c];exact d
  have s:∀{l:List Ty},fg l->∀x∈l,x.fY:=by
   intro l
   induction l with
   | nil=>intro _ x c;simp at c
   | cons a r B=>intro h x c;simp only[fg] at h;rcases List.mem_cons.1 c with rfl|c;exact h.1;exact B h.2 x c
  have v:∀{l:List Ty},lz P l->∀x∈l,x.from P:=by
   intro l
   induction l with
   | nil=>intro _ x c;simp at c
   | cons a r B=>intro h x c;simp only[lz] at h;rcases List.mem_cons.1 c with rfl|c;exact h.1;exact B h.2 x c
  refine⟨j++[t],fun i=>if i<=n then m i else K,by simp[w],by simp[b],?_,?_,?_,af4 (p (s F) T.ix),GW (p (v H) T.frm),?_⟩
  ·have:=T.le;dsimp only;rw[if_neg (by omega:¬n+1<=n)];omega
  ·have:=T.top;dsimp only;rw[if_neg (by omega:¬n+1<=n)];omega
  ·have:=T.size;dsimp only;rw[if_neg (by omega:¬n+1<=n),z];omega
  intro i u q
  by_cases J:i < n
  ·rw[List.getElem?_append_left (by omega)] at q;dsimp only;rw[if_pos (by omega:i<=n),if_pos (by omega:i+1<=n)];exact I i u q
  have y:i=n:=by
   have:=(List.getElem?_eq_some_iff.1 q).1
   simp at this;omega
  subst y;rw[List.getElem?_append_right (by omega),w,Nat.sub_self] at q;simp at q;subst q;dsimp only;rw[if_pos (Nat.le_refl _),if_neg (by omega:¬i+1<=i)];exact e
theorem jj {a b:Nat} (h:a < b):aF (ofNat a) (ofNat b)=true:=by rw[gv,decide_eq_true h]
theorem mL {a b:Nat} (h:¬a < b):aF (ofNat a) (ofNat b)=false:=by rw[gv,decide_eq_false h]
theorem IG (h:0 < P):aF 0 P=true:=by rw[dA,decide_eq_true h]
theorem Qi (h:¬0 < P):aF 0 P=false:=by rw[dA,decide_eq_false h]
theorem mX (a:0<=P) (b:P<=100):an .i64 (P - 1)=P - 1:=by rw[cQ,wrap_i64 (by omega) (by omega)]
theorem Uf (i:Nat) (h:i < 4):∃b,lq[i]?=some b/\b∈lq:=⟨lq[i],List.getElem?_eq_getElem h,List.getElem_mem h⟩
theorem AB {i:Nat} (h:i < 4):∃b,b∈lq/\ap ba 70 [.dat (.slice (encS lq)),.dat (.flat (.int .i64 (ofNat i)))]=some ⟨.ref [sb b],.keep⟩:=by
 grind[Uf,uB]
theorem oH {P:List UInt8->Nat->Prop} {N k K:Nat} (hP:P b 0) (a:k<=K) (c:K<=N):GT P N (.mk 2 b 0 []) k K:=
 ⟨by grind[Ty.size,aQ],by simp[Ty.fY,fg,aB],by grind[Ty.from,lz],a,c⟩
theorem AL {P:List UInt8->Nat->Prop} {N k K i:Nat} (d:i < 100) (a:k<=K) (c:K<=N):GT P N (.mk 5 [] (ofNat i) []) k K:=
 ⟨by grind[Ty.size,aQ],by exact⟨fun _=>jj (b:=9223372036854775808) (Nat.lt_of_lt_of_le d (by decide)),trivial⟩,by simp[Ty.from,lz],a,c⟩
section
variable {l:List Int} {ds:List vh} {P:List UInt8->Nat->Prop} (hl:l.length < 10000000) (hds:ds.length < 1000) (har:∀d∈ds,∃n:Nat,d.ar=ofNat n/\n<=4/\P d.nm n) (hP0:∀b∈lq,P b 0) (hPB:P [66,111,120] 1)
def aA (S:List vh) (P:Int) (v:Nat):List ac:=[cq,.dat (.slice (lJ S)),iv P,iv (ofNat v)]
include hl hds har hP0
theorem Gm {k:Nat} (Y:k<=l.length) {a:Int} {v:Nat} (o:0<=a) (f:a<=3) (ih:∀w,k < w->w<=l.length->GR l P 173 (aA ds (a - 1) v) w):GR l P 137 (aA ds a v) k:=by
 have hw:an .i64 (ofNat (lJ ds).length+4)=ofNat (ds.length+4):=by
  rw[Hh,cQ];exact wrap_i64 (by simp;omega) (by simp;omega)
 obtain⟨r,K,⟨R,C,j,D⟩,e⟩:=aR (n:=ds.length+4) (by omega:l.length < 1000000000) Y (by omega) (by omega);rw[←hw] at e
 by_cases g:r < 4
 ·obtain⟨b,W,y⟩:=AB g;exact⟨_,K,oH (hP0 b W) C j,Qk e (jj g) y⟩
 have m:r - 4 < ds.length:=by omega
 have J:ds[r - 4]?=some ds[r - 4]:=List.getElem?_eq_getElem m;obtain⟨n,N,af,h⟩:=har _ (List.getElem_mem m);have ad:=D (by omega);obtain⟨z,L,p,q,c3,M,c5,O,Q,T⟩:=@JZ _ P 173 (aA ds (a - 1) v) _ j (fun w Z E=>ih w (by omega) E) n;have y:=VU J;have F:ofNat (r - 4)=an .i64 (ofNat r - 4):=by
  rw[cQ,wrap_i64 (by simp;omega) (by simp;omega)];simp;omega
 rw[F] at y;generalize ds[r - 4]=d at *;obtain⟨H,u,⟨kk,t,x,la⟩,A,I⟩:=d;dsimp only at N h;subst N;refine⟨.mk 2 H 0 z,L n,⟨by simp only[Ty.size];omega,by simp only[Ty.fY];exact⟨by simp[aB],O⟩,by simp only[Ty.from];exact⟨fun _=>by rw[p];exact h,Q⟩,by omega,M⟩,?_⟩;refine Ql (la:=ax la) (lb:=BZ I) (ie:=ofNat n) e (mL g) y ?_;rw[←q];refine bm (St:=fun i=>(Oe (XG (Ji (cellsD H (ofNat n) kk t x (ax la) A (BZ I))) H (z.take i)) (l.map iN) (lJ ds) a (ofNat v) (ofNat (L i)) (ofNat i)).al sJ) n ?_ ?_ (i:=0) (Nat.zero_le _)
 ·intro i B;have s:z[i]?=some z[i]:=List.getElem?_eq_getElem (by omega);have c:=T i _ s;have G:a - 1=an .i64 (a - 1):=(mX o (by omega)).symm;unfold aA at c;rw[G] at c;refine Qg (jj B) c (by rw[List.length_take];omega) ?_;rw[bb (by omega),←Fi s];exact rfl
 refine TC (mL (by omega)) ⟨rfl,?_⟩;rw[List.take_of_length_le (by omega)]
omit hds har in
theorem Sc {k:Nat} (hk:k<=l.length) {dp:Int} {v:Nat} (h0:-1<=dp) (h3:dp<=3) (hv:v < 100) (ihn:0 < dp->∀k',k<=k'->k'<=l.length->GR l P 137 (aA ds dp v) k') (iht:0 < dp->∀k',k < k'->k'<=l.length->GR l P 94 (aA ds (dp - 1) 0) k'):GR l P 173 (aA ds dp v) k:=by
 obtain⟨r,k2,⟨hr,hk2,hk3,hk4⟩,hc⟩:=aR (n:=6) (by omega:l.length < 1000000000) hk (by omega) (by omega)
 by_cases hv0:r < 2/\0 < v
 ·obtain⟨i,k3,⟨hi,hk5,hk6,hk7⟩,hc2⟩:=aR (n:=v) (by omega:l.length < 1000000000) hk3 hv0.2 (by omega);exact⟨_,k3,AL (by omega) (by omega) hk6,U3 hc (jj hv0.1) (jj (a:=0) hv0.2) hc2⟩
 have hcc:aF (ofNat r) (ofNat 2)=true->aF (ofNat 0) (ofNat v)=false:=by
  intro h;rw[gv,decide_eq_true_eq] at h;grind[mL]
 by_cases hdp:0 < dp
 ·by_cases hr4:r < 4
  ·obtain⟨t,k3,ht,hct⟩:=ihn hdp k2 hk2 hk3;refine⟨t,k3,⟨?_,ht.ix,ht.frm,?_,ht.top⟩,Nt hc rfl rfl hcc (IG hdp) (jj hr4) hct⟩
   ·have:=ht.size;omega
   have:=ht.le;omega
  obtain⟨t,k3,ht,hct⟩:=iht hdp k2 (hk4 (by omega)) hk3;rw[←mX (by omega:0<=dp) (by omega)] at hct;refine⟨t,k3,⟨?_,ht.ix,ht.frm,?_,ht.top⟩,Sb hc (mL (b:=2) (by omega)) (IG hdp) (mL hr4) hct⟩
  ·have:=ht.size;omega
  have:=ht.le;omega
 obtain⟨i,k3,⟨hi,hk5,hk6,hk7⟩,hc2⟩:=aR (n:=4) (by omega:l.length < 1000000000) hk3 (by omega) (by omega);obtain⟨b,hb,hix⟩:=AB hi;exact⟨_,k3,oH (hP0 b hb) (by omega) hk6,Sd hc rfl rfl hcc (Qi hdp) hc2 hix⟩
omit hds har in
include hPB in
theorem Kl {k:Nat} (hk:k<=l.length) {dp:Int} {v:Nat} (h0:0<=dp) (h3:dp<=3) (hv:v+dp<=10) (ihn:∀k',k < k'->k'<=l.length->GR l P 137 (aA ds dp v) k')
  (iht:∀k',k < k'->k'<=l.length->∀(dp:Int) (v:Nat),0<=dp->dp<=3->v+dp<=10->GR l P 94 (aA ds dp v) k'):GR l P 94 (aA ds dp v) k:=by
 obtain⟨r,k2,⟨hr,hk2,hk3,hk4⟩,hc⟩:=aR (n:=14) (by omega:l.length < 1000000000) hk (by omega) (by omega);have leaf:∃i k3 b,(k2<=k3/\k3<=l.length/\P b 0)/\dR (l.map iN) (ofNat k2) 4 (ofNat i) (ofNat k3)/\ap ba 70 [.dat (.slice (encS lq)),.dat (.flat (.int .i64 (ofNat i)))]=some ⟨.ref [sb b],.keep⟩:=by
  obtain⟨i,k3,⟨hi,hk5,hk6,hk7⟩,hc2⟩:=aR (n:=4) (by omega:l.length < 1000000000) hk3 (by omega) (by omega);obtain⟨b,hb,hix⟩:=AB hi;exact⟨i,k3,b,⟨hk5,hk6,hP0 b hb⟩,hc2,hix⟩
 have hnam:∀{c:Nat},0 < r->∃t k3,GT P l.length t k k3/\wP (l.map iN) (lJ ds) dp (ofNat v) (ofNat k2) t.enc (ofNat k3):=by
  intro c h;obtain⟨t,k3,ht,hct⟩:=ihn k2 (hk4 h) hk3;exact⟨t,k3,⟨by have:=ht.size;omega,ht.ix,ht.frm,by have:=ht.le;omega,ht.top⟩,hct⟩
 by_cases hdp:0 < dp
 ·have hd:=IG hdp;have sub:∀(k':Nat),k < k'->k'<=l.length->∃t k3,GT P l.length t k' k3/\eC (l.map iN) (lJ ds) (an .i64 (dp - 1)) (ofNat v) (ofNat k') t.enc (ofNat k3):=by
   intro k' h1 h2;obtain⟨t,k3,ht,hct⟩:=iht k' h1 h2 (dp - 1) v (by omega) (by omega) (by omega);rw[mX (by omega) (by omega)];exact⟨t,k3,ht,hct⟩
  have hcase:r=0∨r=1∨r=2∨r=3∨r=4∨r=5∨r=6∨r=7∨r=8∨r=9∨r=10∨r=11∨r=12∨r=13:=by omega
  have hun:0 < r->∃t u k3 k4,GT P l.length (.mk 4 [] 0 [t,u]) k k4/\eC (l.map iN) (lJ ds) (an .i64 (dp - 1)) (ofNat v) (ofNat k2) t.enc (ofNat k3)/\eC (l.map iN) (lJ ds) (an .i64 (dp - 1)) (ofNat v) (ofNat k3) u.enc (ofNat k4):=by
   intro h;have hkk:=hk4 h;obtain⟨t,k3,ht,hct⟩:=sub k2 hkk hk3;obtain⟨u,k4,hu,hcu⟩:=sub k3 (by have:=ht.le;omega) ht.top;refine⟨t,u,k3,k4,⟨?_,?_,?_,?_,hu.top⟩,hct,hcu⟩
   ·have:=ht.size;have:=hu.size;simp only[Ty.size,aQ];omega
   ·simp only[Ty.fY,fg];exact⟨by simp[aB],ht.ix,hu.ix,trivial⟩
   ·simp only[Ty.from,lz];exact⟨fun h=>by simp at h,ht.frm,hu.frm,trivial⟩
   have:=ht.le;have:=hu.le;omega
  have htup:0 < r->∃n k3 ts k4,dR (l.map iN) (ofNat k2) 4 n (ofNat k3)/\GT P l.length (.mk 3 [] 0 ts) k k4/\KD (.loop (roundOf Tryz.f94 0)) (fun e s=>e=.exit 1/\s=(Ko (l.map iN) (lJ ds) dp (ofNat v) n (ofNat k4) n ts).al qg) ((Ig (l.map iN) (lJ ds) dp (ofNat v) n (ofNat k3) 0 []).al qg):=by
   intro h;have hkk:=hk4 h;obtain⟨n,k3,⟨hn,hk5,hk6,hk7⟩,hc2⟩:=aR (n:=4) (by omega:l.length < 1000000000) hk3 (by omega) (by omega);obtain⟨ts,ks,c1,c2,c3,c4,c5,c6,c7,c8⟩:=@JZ _ P 94 (aA ds (dp - 1) v) _ hk6 (fun k' h1 h2=>iht k' (by omega) h2 (dp - 1) v (by omega) (by omega) (by omega)) n;refine⟨_,k3,ts,ks n,hc2,⟨by simp only[Ty.size];omega,by simp only[Ty.fY];exact⟨by simp[aB],c6⟩,by simp only[Ty.from];exact⟨fun h=>by simp at h,c7⟩,by omega,c4⟩,?_⟩;rw[←c2];refine bm (St:=fun i=>(Ig (l.map iN) (lJ ds) dp (ofNat v) (ofNat n) (ofNat (ks i)) (ofNat i) (ts.take i)).al qg) n ?_ ?_ (i:=0) (Nat.zero_le _)
   ·intro i hi2;have hti:ts[i]?=some ts[i]:=List.getElem?_eq_getElem (by omega);have hci:=c8 i _ hti;unfold aA at hci;rw[←mX h0 (by omega)] at hci;refine NR (jj hi2) hci (by rw[List.length_take];omega) ?_;rw[bb (by omega),←Fi hti];exact rfl
   refine SN (mL (by omega)) ⟨rfl,?_⟩;rw[List.take_of_length_le (by omega)]
  rcases hcase with rfl|rfl|rfl|rfl|rfl|rfl|rfl|rfl|rfl|rfl|rfl|rfl|rfl|rfl
  ·obtain⟨i,k3,b,⟨g1,g2,g3⟩,hc2,hix⟩:=leaf;exact⟨_,k3,oH g3 (by omega) g2,yR hc rfl hc2 hix⟩
  ·obtain⟨i,k3,b,⟨g1,g2,g3⟩,hc2,hix⟩:=leaf;exact⟨_,k3,oH g3 (by omega) g2,yQ hc rfl hc2 hix⟩
  ·exact⟨_,k2,⟨by simp[Ty.size,aQ];omega,by simp[Ty.fY,fg,aB],by simp[Ty.from,lz],hk2,hk3⟩,Fh hc rfl⟩
  ·by_cases hv0:0 < v
   ·obtain⟨i,k3,⟨hi,hk5,hk6,hk7⟩,hc2⟩:=aR (n:=v) (by omega:l.length < 1000000000) hk3 hv0 (by omega);exact⟨_,k3,AL (by omega) (by omega) hk6,Cd hc rfl (jj (a:=0) hv0) hc2⟩
   obtain⟨t,k3,ht,hct⟩:=hnam (c:=0) (by omega);exact⟨t,k3,ht,Cg hc rfl (mL (a:=0) hv0) hct⟩
  ·by_cases hv0:0 < v
   ·obtain⟨i,k3,⟨hi,hk5,hk6,hk7⟩,hc2⟩:=aR (n:=v) (by omega:l.length < 1000000000) hk3 hv0 (by omega);exact⟨_,k3,AL (by omega) (by omega) hk6,Cc hc rfl (jj (a:=0) hv0) hc2⟩
   obtain⟨t,k3,ht,hct⟩:=hnam (c:=0) (by omega);exact⟨t,k3,ht,Cf hc rfl (mL (a:=0) hv0) hct⟩
  ·obtain⟨t,k3,ht,hct⟩:=hnam (c:=0) (by omega);exact⟨t,k3,ht,Ce hc rfl hct⟩
  ·obtain⟨t,k3,ht,hct⟩:=hnam (c:=0) (by omega);exact⟨t,k3,ht,L5 hc hd hct⟩
  ·obtain⟨t,k3,ht,hct⟩:=hnam (c:=0) (by omega);exact⟨t,k3,ht,L4 hc hd hct⟩
  ·obtain⟨t,u,k3,k4,g,ht,hu⟩:=hun (by omega);exact⟨_,k4,g,NX hc hd ht hu⟩
  ·obtain⟨t,u,k3,k4,g,ht,hu⟩:=hun (by omega);exact⟨_,k4,g,NW hc hd ht hu⟩
  ·obtain⟨n,k3,ts,k4,hn,g,hlp⟩:=htup (by omega);exact⟨_,k4,g,HY hc hd hn hlp⟩
  ·obtain⟨n,k3,ts,k4,hn,g,hlp⟩:=htup (by omega);exact⟨_,k4,g,HX hc hd hn hlp⟩
  ·have hkk:=hk4 (by omega);obtain⟨i,k3,⟨hi,hk5,hk6,hk7⟩,hc2⟩:=aR (n:=2) (by omega:l.length < 1000000000) hk3 (by omega) (by omega);have hwv:an .i64 (ofNat v+1)=ofNat (v+1):=bb (by omega);have hwp:an .i64 (dp - 1)=dp - 1:=mX h0 (by omega)
   by_cases hi0:i=0
   ·subst hi0;obtain⟨u,k4,hu,hcu⟩:=iht k3 (by omega) hk6 (dp - 1) (v+1) (by omega) (by omega) (by omega);refine⟨_,k4,⟨?_,?_,?_,?_,hu.top⟩,NZ hc hd hc2 (by rw[hwp,hwv];exact hcu)⟩
    ·have:=hu.size;simp only[Ty.size,aQ];omega
    ·simp only[Ty.fY,fg];exact⟨by simp[aB],⟨by simp[aB],trivial⟩,hu.ix,trivial⟩
    ·simp only[Ty.from,lz];exact⟨fun h=>by simp at h,⟨fun h=>by simp at h,trivial⟩,hu.frm,trivial⟩
    have:=hu.le;omega
   have hi1:i=1:=by omega
   subst hi1;obtain⟨t,k4,ht,hct⟩:=iht k3 (by omega) hk6 1 0 (by omega) (by omega) (by omega);obtain⟨u,k5,hu,hcu⟩:=iht k4 (by have:=ht.le;omega) ht.top (dp - 1) (v+1) (by omega) (by omega) (by omega);refine⟨_,k5,⟨?_,?_,?_,?_,hu.top⟩,NY hc hd hc2 hct (by rw[hwp,hwv];exact hcu)⟩
   ·have:=ht.size;have:=hu.size;simp only[Ty.size,aQ];omega
   ·simp only[Ty.fY,fg];exact⟨by simp[aB],ht.ix,hu.ix,trivial⟩
   ·simp only[Ty.from,lz];exact⟨fun h=>by simp at h,ht.frm,hu.frm,trivial⟩
   have:=ht.le;have:=hu.le;omega
  have hkk:=hk4 (by omega);obtain⟨i,k3,⟨hi,hk5,hk6,hk7⟩,hc2⟩:=aR (n:=4) (by omega:l.length < 1000000000) hk3 (by omega) (by omega);have gb:GT P l.length J6 k k3:=⟨by simp[J6,Ty.size,aQ];omega,by simp[J6,Ty.fY,fg,aB,aF],by simp[J6,Ty.from,lz];exact hPB,by omega,hk6⟩;have hic:i=0∨i=1∨i=2∨i=3:=by omega
  rcases hic with rfl|rfl|rfl|rfl
  ·exact⟨_,k3,⟨by simp[Ty.size,aQ];omega,by simp[Ty.fY,fg,aB],by simp[Ty.from,lz],by omega,hk6⟩,HZ hc hd hc2⟩
  ·exact⟨_,k3,gb,L9 hc hd hc2⟩
  ·exact⟨_,k3,gb,L8 hc hd hc2⟩
  exact⟨_,k3,gb,L7 hc hd hc2⟩
 have hd:=Qi hdp
 by_cases h5:5 < r
 ·obtain⟨i,k3,b,⟨g1,g2,g3⟩,hc2,hix⟩:=leaf;exact⟨_,k3,oH g3 (by omega) g2,L6 hc hd (jj (a:=5) h5) hc2 hix⟩
 have hcase:r=0∨r=1∨r=2∨r=3∨r=4∨r=5:=by omega
 rcases hcase with rfl|rfl|rfl|rfl|rfl|rfl
 ·obtain⟨i,k3,b,⟨g1,g2,g3⟩,hc2,hix⟩:=leaf;exact⟨_,k3,oH g3 (by omega) g2,yR hc rfl hc2 hix⟩
 ·obtain⟨i,k3,b,⟨g1,g2,g3⟩,hc2,hix⟩:=leaf;exact⟨_,k3,oH g3 (by omega) g2,yQ hc rfl hc2 hix⟩
 ·exact⟨_,k2,⟨by simp[Ty.size,aQ];omega,by simp[Ty.fY,fg,aB],by simp[Ty.from,lz],hk2,hk3⟩,Fh hc rfl⟩
 ·by_cases hv0:0 < v
  ·obtain⟨i,k3,⟨hi,hk5,hk6,hk7⟩,hc2⟩:=aR (n:=v) (by omega:l.length < 1000000000) hk3 hv0 (by omega);exact⟨_,k3,AL (by omega) (by omega) hk6,Cd hc rfl (jj (a:=0) hv0) hc2⟩
  obtain⟨t,k3,ht,hct⟩:=hnam (c:=0) (by omega);exact⟨t,k3,ht,Cg hc rfl (mL (a:=0) hv0) hct⟩
 ·by_cases hv0:0 < v
  ·obtain⟨i,k3,⟨hi,hk5,hk6,hk7⟩,hc2⟩:=aR (n:=v) (by omega:l.length < 1000000000) hk3 hv0 (by omega);exact⟨_,k3,AL (by omega) (by omega) hk6,Cc hc rfl (jj (a:=0) hv0) hc2⟩
  obtain⟨t,k3,ht,hct⟩:=hnam (c:=0) (by omega);exact⟨t,k3,ht,Cf hc rfl (mL (a:=0) hv0) hct⟩
 obtain⟨t,k3,ht,hct⟩:=hnam (c:=0) (by omega);exact⟨t,k3,ht,Ce hc rfl hct⟩
include hPB in
theorem Us:∀(m k:Nat),k<=l.length->l.length - k<=m->
  (∀(dp:Int) (v:Nat),0<=dp->dp<=3->v+dp<=10->GR l P 137 (aA ds dp v) k)/\(∀(dp:Int) (v:Nat),-1<=dp->dp<=3->v+dp<=10->GR l P 173 (aA ds dp v) k)/\(∀(dp:Int) (v:Nat),0<=dp->dp<=3->v+dp<=10->GR l P 94 (aA ds dp v) k):=by
 intro m
 induction m with
 | zero=>
  intro k hk hm;have hn:∀(dp:Int) (v:Nat),0<=dp->dp<=3->v+dp<=10->GR l P 137 (aA ds dp v) k:=fun dp v h0 h3 hv=>Gm hl hds har hP0 hk h0 h3 (fun k' h1 h2=>by omega)
  refine⟨hn,?_,?_⟩
  ·intro dp v h0 h3 hv;refine Sc hl hP0 hk h0 h3 (by omega) (fun hp k' h1 h2=>?_) (fun hp k' h1 h2=>by omega)
   have:k'=k:=by omega
   subst this;exact hn dp v (by omega) h3 hv
  intro dp v h0 h3 hv;exact Kl hl hP0 hPB hk h0 h3 hv (fun k' h1 h2=>by omega) (fun k' h1 h2=>by omega)
 | succ m ih=>
  intro k hk hm;have hn:∀(dp:Int) (v:Nat),0<=dp->dp<=3->v+dp<=10->GR l P 137 (aA ds dp v) k:=fun dp v h0 h3 hv=>Gm hl hds har hP0 hk h0 h3 (fun k' h1 h2=>(ih k' h2 (by omega)).2.1 _ _ (by omega) (by omega) (by omega))
  refine⟨hn,?_,?_⟩
  ·intro dp v h0 h3 hv;refine Sc hl hP0 hk h0 h3 (by omega) (fun hp k' h1 h2=>?_) (fun hp k' h1 h2=>(ih k' h2 (by omega)).2.2 _ _ (by omega) (by omega) (by omega))
   by_cases hkk:k'=k
   ·subst hkk;exact hn dp v (by omega) h3 hv
   exact (ih k' h2 (by omega)).1 _ _ (by omega) h3 hv
  intro dp v h0 h3 hv;exact Kl hl hP0 hPB hk h0 h3 hv (fun k' h1 h2=>(ih k' h2 (by omega)).1 _ _ h0 h3 hv) (fun k' h1 h2 dp v a b c=>(ih k' h2 (by omega)).2.2 _ _ a b c)
end
def mq:List vh:=[⟨[66,111,120],1,(.mk 0 [] 0 []),false,[]⟩,
 ⟨[67,101,108,108],1,(.mk 2 [66,111,120] 0 [(.mk 5 [] 0 [])]),true,[⟨[105,116,101,109],(.mk 5 [] 0 [])⟩]⟩,
 ⟨[73,110,116,66,111,120],0,(.mk 2 [66,111,120] 0 [(.mk 2 [73,110,116] 0 [])]),true,[⟨[105,116,101,109],(.mk 2 [73,110,116] 0 [])⟩]⟩,
 ⟨[83,104,97,112,101],0,(.mk 0 [] 0 []),false,[]⟩,
 ⟨[68,111,116],0,(.mk 2 [83,104,97,112,101] 0 []),true,[]⟩,
 ⟨[68,105,115,107],0,(.mk 2 [83,104,97,112,101] 0 []),true,[⟨[114,97,100,105,117,115],(.mk 2 [73,110,116] 0 [])⟩]⟩,
 ⟨[80,97,105,114],2,(.mk 0 [] 0 []),true,[⟨[102,105,114,115,116],(.mk 5 [] 0 [])⟩,⟨[115,101,99,111,110,100],(.mk 5 [] 1 [])⟩]⟩,
 ⟨[78,101,115,116],1,(.mk 2 [66,111,120] 0 [(.mk 2 [66,111,120] 0 [(.mk 5 [] 0 [])])]),true,[⟨[105,110,110,101,114],(.mk 2 [66,111,120] 0 [(.mk 5 [] 0 [])])⟩]⟩]
theorem oK:ae 65 [] (.own (lJ mq)):=dE _ _ _ _ _ (by kernel_rfl)
def X3:List (List UInt8):=mq.map vh.nm++Zx
structure DOk (d:vh):Prop where
 gN:d.gN
 ar:∃n:Nat,d.ar=ofNat n/\n<=2
 nm:d.nm∈X3
 flen:d.fl.length<=2
structure GD (ds:List vh):Prop where
 len:ds.length<=900
 each:∀d∈ds,DOk d
 abs:∃d∈ds,d.con=false
section
variable {l:List Int} {ds:List vh} (hl:l.length < 10000000) (hd:GD ds)
include hl hd
end
variable {K L a c i n:Int} {T:ej} {l:List ak}
theorem HF:GD mq where
 len:=by decide
 each:=by
  have c:∀d∈mq,(d.sup.size < 100000000/\d.sup.fY)/\(∀f∈d.fl,f.ty.size < 100000000/\f.ty.fY)/\d.fl.length<=2/\(∃n:Nat,d.ar=ofNat n/\n<=2):=by
   intro d D;simp only[mq,List.mem_cons,List.mem_nil_iff,or_false] at D
   rcases D with rfl|rfl|rfl|rfl|rfl|rfl|rfl|rfl <;>
    simp[Ty.size,aQ,Ty.fY,fg,aF]
   all_goals first|exact⟨0,rfl,by omega⟩|exact⟨1,rfl,by omega⟩|exact⟨2,rfl,by omega⟩
  intro d D;obtain⟨a,b,e,g⟩:=c d D;exact⟨⟨a,b,by omega⟩,g,List.mem_append_left _ (List.mem_map_of_mem D),e⟩
 abs:=⟨_,List.mem_cons_self,rfl⟩
theorem SR {S:List ak} {k:Int} {t:Ty} (h:eC l S 3 0 k t.enc K):KC 64 [cq,.dat (.slice S)] (cW l k) 1 (XQ ⟨.dat t.enc,cW l K,1⟩):=by
 obtain⟨b,d,c,a⟩:=t
 rcases a with _|⟨x,a⟩ <;>
 ·refine co [] [] (x:=.of Tryz.f64 P8 Qu) ?_;exact oh h fi
abbrev bP (l:List ak) (n K r a:Int):Prop:=KC 32 [cq,iv n] (cW l K) 1 (XQ ⟨iv r,cW l a,1⟩)
theorem ZH (h:bP l 5 K 0 a):KC 66 [cq] (cW l K) 1 (XQ ⟨.dat (lI 0 0 []),cW l a,1⟩):=by
 refine co [] [] (x:=.of Tryz.f66 CO Ay) ?_;exact oh h fi
theorem ZG {d:Int} (h:bP l 5 K 1 c) (b:bP l 2 c a d):KC 66 [cq] (cW l K) 1 (XQ ⟨.dat (lI 2 a []),cW l d,1⟩):=by
 refine co [] [] (x:=.of Tryz.f66 CO Ay) ?_;exact oh h (oh b fi)
theorem ZF {d:Int} {s:List UInt8} (h:bP l 5 K 2 c) (b:bP l 6 c a d) (i:ap ba 70 [.dat (.slice (encS H5)),.dat (.flat (.int .i64 a))]=some ⟨.ref [sb s],.keep⟩) :
  KC 66 [cq] (cW l K) 1 (XQ ⟨.dat (lI 3 0 s),cW l d,1⟩):=by
 refine co [] [20] (x:=.of Tryz.f66 CO Ay) ?_;exact oh h (oh b (oo i fi))
theorem ZE {d r:Int} (h:bP l 5 K r c) (e:aB r 0=false) (E:aB r 1=false) (F:aB r 2=false) (b:bP l 7 c a d) :
  KC 66 [cq] (cW l K) 1 (XQ ⟨.dat (lI 1 (an .i64 (a - 3)) []),cW l d,1⟩):=by
 refine co [6,9,14] [] (x:=.of Tryz.f66 CO Ay) ?_;exact oh h (ob e (ob E (ob F (oh b fi))))
structure BG (l:List Int) (k k2:Nat):Prop where
 le:k<=k2
 top:k2<=l.length
theorem wy {α:Type} {l:List Int} {R:Nat->α->Nat->Prop} (step:∀k,k<=l.length->∃a K,BG l k K/\R k a K) {k:Nat} (o:k<=l.length) :
  ∀m:Nat,∃(j:List α) (c:Nat->Nat),j.length=m/\c 0=k/\(∀i,i<=m->BG l k (c i))/\∀i a,j[i]?=some a->R (c i) a (c (i+1))
 | 0=>⟨[],fun _=>k,rfl,rfl,fun _ _=>⟨Nat.le_refl _,o⟩,fun i a h=>by grind⟩
 | m+1=>by
  obtain⟨j,c,n,b,f,g⟩:=wy step o m;have p:=f m (Nat.le_refl _);obtain⟨a,K,A,q⟩:=step (c m) p.top;refine⟨j++[a],fun i=>if i<=m then c i else K,by grind,by grind,?_,?_⟩
  ·intro i r;dsimp only
   split
   ·grind
   exact⟨Nat.le_trans p.le A.le,A.top⟩
  grind
theorem ahV (a:Nat) (h:a < 6):∃s:List UInt8,H5[a]?=some s:=by simp_all[H5]
theorem Uy {l:List Int} {k:Nat} (f:l.length < 1000000000) (j:k<=l.length):∃(C I:Int) (c:List UInt8) (K:Nat),(c∈H5/\(-1000000<=I/\I<=1000000))/\BG l k K/\KC 66 [cq] (cW (l.map iN) (ofNat k)) 1 (XQ ⟨.dat (lI C I c),cW (l.map iN) (ofNat K),1⟩):=by
 obtain⟨r,m,⟨R,i,d,_⟩,e⟩:=aR (n:=5) f j (by omega) (by omega)
 match r,R with
 | 0,_=>exact⟨0,0,[],m,by decide,⟨i,d⟩,ZH e⟩
 | 1,_=>
  obtain⟨a,K,⟨A,g,Q,_⟩,b⟩:=aR (n:=2) f d (by omega) (by omega);exact⟨2,ofNat a,[],K,⟨by decide,by grind⟩,⟨by omega,Q⟩,ZG e b⟩
 | 2,_=>
  obtain⟨a,K,⟨A,g,Q,_⟩,b⟩:=aR (n:=6) f d (by omega) (by omega);obtain⟨s,h⟩:=ahV a A;exact⟨3,0,s,K,⟨List.mem_of_getElem? h,by decide⟩,⟨by omega,Q⟩,ZF e b (uB h)⟩
 | n+3,_=>
  obtain⟨a,K,⟨A,g,Q,_⟩,b⟩:=aR (n:=7) f d (by omega) (by omega);exact⟨1,an .i64 (ofNat a - 3),[],K,⟨by decide,by rw[cQ];simp;rw[wrap_i64 (by omega) (by omega)];omega⟩,⟨by omega,Q⟩,ZE e (dL (by grind)) (dL (by grind)) (dL (by grind)) b⟩
def Xz:List Int->ac
 | []=>.dat nl
 | x::r=>.own ((x::r).map iN)
noncomputable def ace:Hints:=⟨bV,P8,bi,rowsOf bi 36⟩
def Cl (l:List ak) (K n c i:Int) (a:List Int):ab:=⟨[(8,iv i),(7,Xz a),(0,cq),(1,iv n),(2,iv c)],[],cW l K,1⟩
def Ih (l:List ak) (K n c i:Int) (a:List Int):ab:=⟨[(11,bv false),(8,iv i),(7,Xz a),(0,cq),(1,iv n),(2,iv c)],[],cW l K,1⟩
theorem Mm {j x:Int} {g:List Int} (o:aF i c=true) (h:bP l n K x j) (w:g.length < 1000000) (e:T .normal ((Cl l j n c (an .i64 (i+1)) (g++[x])).al tS)) :
  KD (roundOf Tryz.f36 0) T ((Cl l K n c i g).al tS):=by
 have f:=fE (a:=g) (b:=[x]) (by grind);rw[←List.map_append] at f;rcases g with _|⟨d,r⟩ <;>
 ·exact aq [11] [19] (H:=ace) (live:=El) (ob o (oh h (oo f (oe e))))
theorem Ot {a:List Int} (o:aF i c=false) (e:T (.exit 0) ((Ih l K n c i a).al tS)) :
  KD (roundOf Tryz.f36 0) T ((Cl l K n c i a).al tS):=by
 rcases a with _|⟨d,r⟩ <;>
 ·exact aq [11] [] (H:=ace) (live:=El) (ob o (oe e))
theorem S3 {b:Int} {a:List Int} (f:KD (.loop (roundOf Tryz.f36 0)) (fun e q=>e=.exit 0/\q=(Ih l b n c i a).al tS) ((Cl l K n c 0 []).al tS)) :
  KC 36 [cq,iv n,iv c] (cW l K) 1 (XQ ⟨Xz a,cW l b,1⟩):=by
 rcases a with _|⟨d,r⟩ <;>
 ·refine co [] [] (x:=.of Tryz.f36 P8 El) ?_;refine lo f ?_;rintro g s ⟨rfl,rfl⟩;refine⟨_,rfl,?_⟩;exact fi
theorem LI {l:List Int} {k n c:Nat} (s:l.length < 1000000000) (h:k<=l.length) (N:0 < n) (j:n < 1000000000) (w:c < 1000000):∃(u:List Int) (K:Nat),u.length=c/\BG l k K/\KC 36 [cq,iv (ofNat n),iv (ofNat c)] (cW (l.map iN) (ofNat k)) 1 (XQ ⟨.dat (sl (u.map iN)),cW (l.map iN) (ofNat K),1⟩):=by
 obtain⟨u,m,a,b,f,g⟩:=wy (R:=fun k x K=>bP (l.map iN) (ofNat n) (ofNat k) x (ofNat K)) (fun k h=>by
  obtain⟨r,M,⟨_,o,Q,_⟩,d⟩:=aR (n:=n) s h N j;exact⟨ofNat r,M,⟨o,Q⟩,d⟩) h c
 refine⟨u,m c,a,f c (Nat.le_refl _),?_⟩;have t:KD (.loop (roundOf Tryz.f36 0)) (fun e q=>e=.exit 0/\q=(Ih (l.map iN) (ofNat (m c)) (ofNat n) (ofNat c) (ofNat c) u).al tS) ((Cl (l.map iN) (ofNat k) (ofNat n) (ofNat c) 0 []).al tS):=by
  rw[←b];refine bm (St:=fun i=>(Cl (l.map iN) (ofNat (m i)) (ofNat n) (ofNat c) (ofNat i) (u.take i)).al tS) c ?_ ?_ (i:=0) (Nat.zero_le _)
  ·intro i p;have J:u[i]?=some u[i]:=List.getElem?_eq_getElem (by omega);have v:an .i64 (ofNat i+1)=ofNat (i+1):=bb (by omega);have T:u.take (i+1)=u.take i++[u[i]]:=List.take_succ_eq_append_getElem (by omega);refine Mm (br p) (g i _ J) (by rw[List.length_take];omega) ?_;rw[v,←T];exact rfl
  refine Ot (cj (by omega)) ?_;rw[List.take_of_length_le (by omega)];exact⟨rfl,rfl⟩
 have:=S3 t
 cases u with
 | nil=>exact this
 | cons x r=>exact ko this
def Ty.small (t:Ty):Prop:=t.size < 41000000/\t.fY
theorem zk {t:Ty} (h:t.small):t.gN:=⟨by have:=h.1;omega,h.2⟩
theorem Ey {l:List Int} {k:Nat} (e:l.length < 10000000) (c:k<=l.length):∃(t:Ty) (K:Nat),t.small/\BG l k K/\KC 64 [cq,.dat (.slice (lJ mq))] (cW (l.map iN) (ofNat k)) 1 (XQ ⟨.dat t.enc,cW (l.map iN) (ofNat K),1⟩):=by
 have D:=HF;obtain⟨t,K,a,b⟩:=(Us (P:=fun _ _=>True) (ds:=mq) e (by have:=D.len;omega) (fun d f=>by obtain⟨n,a,b⟩:=(D.each d f).ar;grind) (fun _ _=>trivial) trivial (l.length - k) k c (Nat.le_refl _)).2.2 3 0 (by omega) (by omega) (by omega);exact⟨t,K,⟨by have:=a.size;have:=a.top;omega,a.ix⟩,⟨a.le,a.top⟩,SR b⟩
def dS:List ak->ac
 | []=>.dat nl
 | x::r=>.own (x::r)
theorem yo (h:l≠[]):dS l=.own l:=by
 cases l with
 | nil=>grind
 | cons a r=>rfl
noncomputable def hGC:Hints:=⟨bV,Tw,bi,rowsOf bi 9⟩
def TH (L s:Int) (A B:ac):Heap:=[(.loc 5,.cells [iv L,iv s,A,B]),(.loc 4,.cells (cC 0 0 nl nl))]
def Mg (l:List ak) (K L s P:Int) (B:ac) (i:Int):ab:=⟨[(6,iv i),(5,.ptr (.loc 5) 0),(4,.ptr (.loc 4) 0),(0,cq),(1,iv P)],TH L s (.dat nl) B,cW l K,1⟩
def Oh (l:List ak) (K L s P:Int) (B:ac) (i:Int):ab:=⟨[(26,bv false),(6,iv i),(5,.ptr (.loc 5) 0),(4,.ptr (.loc 4) 0),(0,cq),(1,iv P)],TH L s (.dat nl) B,cW l K,1⟩
abbrev SA (l:List ak) (P K:Int) (d:ak) (a:Int):Prop:=KC 33 [cq,iv P] (cW l K) 1 (XQ ⟨.dat d,cW l a,1⟩)
theorem Q5 {y s P:Int} {j h:List ak} {C:Int} {B:List UInt8} {u I:Int} {J:List UInt8} {m:Int} {v:ak} {k:Bool} {w:ak} {D:List UInt8} {M:Int} {t:List UInt8} {x:ak} {E z:Int} {p q:ak} {F:List UInt8} (o:aF 0 i=true)
  (a:dj v) (b:dj w) (f:dj x) (g:dj p) (G:dj q)
  (N:SA l (an .i64 (P - 1)) K (B0 C B u I J m v k w D M t n x E z c p q F) y)
  (A:bB ba false 24 [.own j,.dat (.slice [.slice [B0 C B u I J m v k w D M t n x E z c p q F]])] none=some ⟨.own h,.keep⟩)
  (e:T .normal ((Mg l y L s P (.own h) (an .i64 (i - 1))).al pE)) :
  KD (roundOf Tryz.f9 0) T ((Mg l K L s P (dS j) i).al pE):=by
 rcases j with _|⟨d,r⟩ <;>
 ·exact aq [26] [37] (H:=hGC) (live:=CV) (ob o (oh N (oo A (oe e))))
theorem Ut {s P:Int} {a:List ak} (o:aF 0 i=false) (e:T (.exit 0) ((Oh l K L s P (dS a) i).al pE)) :
  KD (roundOf Tryz.f9 0) T ((Mg l K L s P (dS a) i).al pE):=by
 rcases a with _|⟨d,r⟩ <;>
 ·exact aq [26] [] (H:=hGC) (live:=CV) (ob o (oe e))
def Mf (l:List ak) (K L s:Int) (A B:ac) (a i:Int):ab:=⟨[(8,iv i),(7,iv a),(5,.ptr (.loc 5) 0),(4,.ptr (.loc 4) 0),(0,cq)],TH L s A B,cW l K,1⟩
def Og (l:List ak) (K L s:Int) (A B:ac) (a i:Int):ab:=⟨[(45,bv false),(8,iv i),(7,iv a),(5,.ptr (.loc 5) 0),(4,.ptr (.loc 4) 0),(0,cq)],TH L s A B,cW l K,1⟩
theorem Q7 {q s f:Int} {p h g:List ak} {z j b m:Int} {n:List UInt8} {v:ak} {k:Int} {t:List UInt8} {w:Int} {u:ak} {C I:Int} {c:List UInt8} (o:aF i (an .i64 (f - 1))=true)
  (B:KC 34 [cq,iv s,iv f,iv (ofNat p.length)] (cW l K) 1 (XQ ⟨.dat (eH z j a b m n v k t w u C I c),cW l q,1⟩))
  (A:bB ba false 23 [.own h,.dat (.slice [eH z j a b m n v k t w u C I c])] none=some ⟨.own g,.keep⟩)
  (e:T .normal ((Mf l q L s (.own g) (dS p) f (an .i64 (i+1))).al pE)) :
  KD (roundOf Tryz.f9 1) T ((Mf l K L s (dS h) (dS p) f i).al pE):=by
 rcases h with _|⟨d,r⟩ <;>
 ·rcases p with _|⟨x,y⟩ <;>
  ·exact aq [45] [59] (H:=hGC) (live:=CV) (ob o (oh B (oo A (oe e))))
theorem UB {s:Int} {c b:List ak} (o:aF i (an .i64 (a - 1))=false) (e:T (.exit 2) ((Og l K L s (dS b) (dS c) a i).al pE)) :
  KD (roundOf Tryz.f9 1) T ((Mf l K L s (dS b) (dS c) a i).al pE):=by
 rcases b with _|⟨d,r⟩ <;>
 ·rcases c with _|⟨x,y⟩ <;>
  ·exact aq [45] [] (H:=hGC) (live:=CV) (ob o (oe e))
def mJ (c:Bool):Int:=match c with|true=>16|false=>19
theorem X7 {k o p t v B C x y z w u m P J M:Int} {i j h:List ak} {c:Bool}
  (a:bP l 3 K L k) (b:bP l 4 k x n) (f:bP l 3 n y o) (H:Nx ba [iv P,iv 1]=some ⟨iv m,.keep⟩)
  (W:KD (.loop (roundOf Tryz.f9 0)) (fun e q=>e=.exit 0/\q=(Oh l p L (an .i64 (an .i64 (L+1)+x)) P (dS i) J).al pE) ((Mg l o L (an .i64 (an .i64 (L+1)+x)) P (dS []) (an .i64 (y*m))).al pE))
  (g:bP l 9 p z t)
  (F:KD (.loop (roundOf Tryz.f9 1)) (fun e q=>e=.exit 2/\q=(Og l v L (an .i64 (an .i64 (L+1)+x)) (dS j) (dS i) (an .i64 (2+z)) M).al pE) ((Mf l t L (an .i64 (an .i64 (L+1)+x)) (dS []) (dS i) (an .i64 (2+z)) 0).al pE))
  (G:bP l (an .i64 (an .i64 (L+1)+x)) v w B) (E:bP l 4 B u C) (I:aB u 3=c)
  (A:bB ba false 23 [.own j,.dat (.slice [eH (mJ c) 0 w 0 0 [] nl 0 [] 0 nl 0 0 []])] none=some ⟨.own h,.keep⟩) :
  KC 9 [cq,iv P] (cW l K) 1 (XQ ⟨.dat (aN L (an .i64 (an .i64 (L+1)+x)) (.slice h) (sl i)),cW l C,1⟩):=by
 cases c <;>
 ·rcases j with _|⟨d,r⟩ <;>
  ·rcases i with _|⟨x,y⟩ <;>
   ·refine co [68] [23,76] (x:=.of Tryz.f9 Tw CV) ?_;refine oh a (oh b (oh f (oo H ?_)));refine lo W ?_;rintro D s ⟨rfl,rfl⟩;refine⟨_,rfl,?_⟩;refine oh g ?_;refine lo F ?_;rintro D s ⟨rfl,rfl⟩;refine⟨_,rfl,?_⟩;exact oh G (oh E (ob I (oo A fi)))
abbrev Z0 (l:List ak) (K r a:Int):Prop:=KC 35 [cq] (cW l K) 1 (XQ ⟨iv r,cW l a,1⟩)
theorem OX {l:List ak} {k x:Int} {c:Bool} (a:aF k (ofNat l.length)=c) (b:c=true->ap ba 22 [.dat (.slice l),.dat (.flat (.int .i64 (an .i64 (an .i64 (k+1) - 1))))]=some ⟨.ref [iN x],.keep⟩) :
  Z0 l k (match c with|true=>x|false=>0) (match c with|true=>an .i64 (k+1)|false=>k):=by
 refine co [12] [29] (x:=.of Tryz.f35 PA QB) ?_;refine ox a ?_
 cases c
 ·exact fi
 exact oo (b rfl) fi
def inR (l:List Int):Prop:=∀x∈l,-9223372036854775808<=x/\x < 9223372036854775808
theorem GS {l:List Int} {k:Nat} (e:l.length < 1000000000) (b:k<=l.length) (R:inR l):∃(r:Int) (K:Nat),(-9223372036854775808<=r/\r < 9223372036854775808)/\BG l k K/\Z0 (l.map iN) (ofNat k) r (ofNat K):=by
 by_cases a:k < l.length
 ·have J:l[k]?=some l[k]:=List.getElem?_eq_getElem a;have d:an .i64 (ofNat k+1)=ofNat (k+1):=bb (by omega);have c:an .i64 (ofNat (k+1) - 1)=ofNat k:=by
   rw[cQ,show ofNat (k+1) - 1=ofNat k by simp];exact wrap_i64 (by grind) (by grind)
  refine⟨l[k],k+1,R _ (List.getElem_mem a),⟨by omega,by omega⟩,?_⟩;have h:=@OX (l.map iN) (ofNat k) (l[k]) true (by rw[gv,List.length_map,decide_eq_true a]) (fun _=>by grind[wb]);grind
 refine⟨0,k,by omega,⟨Nat.le_refl _,b⟩,?_⟩;exact @OX (l.map iN) (ofNat k) 0 false (by rw[gv,List.length_map,decide_eq_false a]) (fun h=>by grind)
noncomputable def C1:Hints:=⟨bV,KS,bi,rowsOf bi 37⟩
def tC (k:Int) (n:List UInt8) (x:Int) (A:ac):List ac:=[iv k,.dat (sb n),iv x,A]
def TK (k:Int) (n:List UInt8) (x:Int) (A:ac):Heap:=[(.loc 5,.cells (tC k n x A)),(.loc 4,.cells (tC 0 [] 0 (.dat nl)))]
def aa6 (l:List ak) (K P:Int):ab:=⟨[(4,.ptr (.loc 4) 0),(0,cq),(1,iv P)],[(.loc 4,.cells (tC 0 [] 0 (.dat nl)))],cW l K,1⟩
def kh (l:List ak) (K P k:Int) (n:List UInt8) (x:Int):ab:=⟨[(5,.ptr (.loc 5) 0),(4,.ptr (.loc 4) 0),(0,cq),(1,iv P)],TK k n x (.dat nl),cW l K,1⟩
def pR (l:List ak) (K P k:Int) (a:List UInt8) (x n:Int):ab:=⟨[(6,iv n),(5,.ptr (.loc 5) 0),(4,.ptr (.loc 4) 0),(0,cq),(1,iv P)],TK k a x (.dat nl),cW l K,1⟩
def Mh (l:List ak) (K P k:Int) (a:List UInt8) (x n i:Int) (A:ac):ab:=⟨[(7,iv i),(6,iv n),(5,.ptr (.loc 5) 0),(4,.ptr (.loc 4) 0),(0,cq),(1,iv P)],TK k a x A,cW l K,1⟩
def Cu (l:List ak) (K P k:Int) (a:List UInt8) (x n i:Int) (A:ac):ab:=⟨[(71,bv false),(7,iv i),(6,iv n),(5,.ptr (.loc 5) 0),(4,.ptr (.loc 4) 0),(0,cq),(1,iv P)],TK k a x A,cW l K,1⟩
abbrev AT (k:Nat) (s a:ab):Prop:=KD (du Tryz.f37 k) (fun e q=>e=.normal/\q=a.al cT) (s.al cT)
theorem apd {P:Int} (e:T .normal ((aa6 l K P).al cT)) :
  KD (du Tryz.f37 0) T ((⟨rG 0 [cq,iv P],[],cW l K,1⟩:ab).al cT):=by
 refine aq [] [] (H:=C1) (live:=eW) ?_;exact oe e
section
variable {K P a b k r x:Int} {T:ej} {l:List ak} {n:List UInt8}
theorem afk (h:bP l 7 K r a) (e:T .normal ((kh l a P r [] 0).al cT)) :
  KD (du Tryz.f37 1) T ((aa6 l K P).al cT):=by
 exact aq [] [] (H:=C1) (live:=eW) (oh h (oe e))
theorem ad0 {c:Int} (h:bP l 12 K r a) (o:aB r 9=true) (b:Z0 l a x c) (e:T .normal ((kh l c P x [] 0).al cT)) :
  KD (du Tryz.f37 2) T ((kh l K P k [] 0).al cT):=by
 exact aq [14] [] (H:=C1) (live:=eW) (oh h (ob o (oh b (oe e))))
theorem adZ {c d:Int} (h:bP l 12 K r c) (o:aB r 9=false) (a:aB r 10=true) (b:Z0 l c x d) (e:T .normal ((kh l d P k [] x).al cT)) :
  KD (du Tryz.f37 2) T ((kh l K P k [] 0).al cT):=by
 exact aq [14,19] [] (H:=C1) (live:=eW) (oh h (ob o (ob a (oh b (oe e)))))
theorem adY {c d:Int} {s:List UInt8} (h:bP l 12 K r c) (o:aB r 9=false) (a:aB r 10=false) (f:aB r 11=true) (b:bP l 11 c x d) (i:ap ba 70 [.dat (.slice (encS HH)),.dat (.flat (.int .i64 x))]=some ⟨.ref [sb s],.keep⟩) (e:T .normal ((kh l d P k s 0).al cT)) :
  KD (du Tryz.f37 2) T ((kh l K P k [] 0).al cT):=by
 exact aq [14,19,24] [30] (H:=C1) (live:=eW) (oh h (ob o (ob a (ob f (oh b (oo i (oe e)))))))
theorem adX (h:bP l 12 K r b) (o:aB r 9=false) (a:aB r 10=false) (f:aB r 11=false) (e:T .normal ((dead 23 (kh l b P k [] 0)).al cT)) :
  KD (du Tryz.f37 2) T ((kh l K P k [] 0).al cT):=by
 exact aq [14,19,24] [] (H:=C1) (live:=eW) (oh h (ob o (ob a (ob f (oe e)))))
theorem adW (o:aB k 5=true) (h:bP l 4 K x a) (e:T .normal ((kh l a P k n x).al cT)) :
  KD (du Tryz.f37 3) T ((kh l K P k n b).al cT):=by
 exact aq [35] [] (H:=C1) (live:=eW) (ob o (oh h (oe e)))
theorem adV (o:aB k 5=false) (e:T .normal ((dead 35 (kh l K P k n x)).al cT)) :
  KD (du Tryz.f37 3) T ((kh l K P k n x).al cT):=by
 exact aq [35] [] (H:=C1) (live:=eW) (ob o (oe e))
theorem adU {s:List UInt8} (o:aB k 2=true) (h:bP l 11 K x a) (i:ap ba 70 [.dat (.slice (encS HH)),.dat (.flat (.int .i64 x))]=some ⟨.ref [sb s],.keep⟩) (e:T .normal ((kh l a P k s b).al cT)) :
  KD (du Tryz.f37 4) T ((kh l K P k n b).al cT):=by
 exact aq [41] [47] (H:=C1) (live:=eW) (ob o (oh h (oo i (oe e))))
theorem adT (o:aB k 2=false) (e:T .normal ((dead 41 (kh l K P k n x)).al cT)) :
  KD (du Tryz.f37 4) T ((kh l K P k n x).al cT):=by
 exact aq [41] [] (H:=C1) (live:=eW) (ob o (oe e))
theorem afj (e:T .normal ((pR l K P k n x 0).al cT)) :
  KD (du Tryz.f37 5) T ((kh l K P k n x).al cT):=by
 refine aq [] [] (H:=C1) (live:=eW) ?_;exact oe e
theorem adS (o:aB k 2=true) (h:bP l 3 K x a) (e:T .normal ((pR l a P k n b x).al cT)) :
  KD (du Tryz.f37 6) T ((pR l K P k n b 0).al cT):=by
 exact aq [53] [] (H:=C1) (live:=eW) (ob o (oh h (oe e)))
theorem adR {c:Int} (o:aB k 2=false) (a:aB k 3=true) (h:bP l 3 K x b) (e:T .normal ((pR l b P k n c x).al cT)) :
  KD (du Tryz.f37 6) T ((pR l K P k n c 0).al cT):=by
 exact aq [53,54] [] (H:=C1) (live:=eW) (ob o (ob a (oh h (oe e))))
theorem V6 {b c:Bool} (o:aB k 2=false) (a:aB k 3=false) (g:aB k 4=b) (d:aB k 6=c) (e:(b||c)=true->T .normal ((pR l K P k n x 2).al cT)) (F:(b||c)=false->T .normal ((dead 57 (pR l K P k n x 0)).al cT)) :
  KD (du Tryz.f37 6) T ((pR l K P k n x 0).al cT):=by
 refine aq [53,54,58,59] [] (H:=C1) (live:=eW) (ob o (ob a (ob g ?_)))
 cases b
 ·refine ob d ?_
  cases c
  ·exact oe (F rfl)
  exact oe (e rfl)
 exact oe (e rfl)
theorem adQ {K3 d n:Int} {f:List UInt8} {c:Bool} (h:bP l 10 K r a) (g:aB r 9=c) (b:c=true->bP l 9 a x K3) (e:c=true->T .normal ((pR l K3 P k f d x).al cT)) (F:c=false->T .normal ((dead 62 (pR l a P k f d n)).al cT)) :
  KD (du Tryz.f37 7) T ((pR l K P k f d n).al cT):=by
 refine aq [62] [] (H:=C1) (live:=eW) (oh h (ob g ?_))
 cases c
 ·exact oe (F rfl)
 exact oh (b rfl) (oe (e rfl))
theorem afi {n:Int} {a:List UInt8} {i:Int} {pre:List ak} (c:KD (.loop (roundOf Tryz.f37 0)) (fun e q=>e=.exit 2/\q=(Cu l b P k a x n i (dS pre)).al cT) ((Mh l K P k a x n 0 (dS [])).al cT)) (e:T .normal ((Cu l b P k a x n i (dS pre)).al cT)) :
  KD (du Tryz.f37 8) T ((pR l K P k a x n).al cT):=by
 rcases pre with _|⟨d,r⟩ <;>
 ·refine aq [] [] (H:=C1) (live:=eW) ?_;refine lo c ?_;rintro f s ⟨rfl,rfl⟩;refine⟨_,rfl,?_⟩;exact oe e
end
def aa5 (l:List ak) (K k:Int) (n:List UInt8) (x:Int) (A:ac):ab:=⟨[(4,.ptr (.loc 4) 0)],[(.loc 4,.cells (tC k n x A))],cW l K,1⟩
variable {K P a b c d e f h i j k m n o p q r s u x:Int} {T:ej} {g l:List ak} {t:List UInt8}
theorem afh {a:List UInt8} {pre:List ak} (e:T .ret ((aa5 l K k a x (.dat (sl pre))).al cT)) :
  KD (kc Tryz.f37 9) T ((Cu l K P k a x n i (dS pre)).al cT):=by
 rcases pre with _|⟨d,r⟩ <;>
 ·refine aq [] [] (H:=C1) (live:=eW) ?_;exact oe e
abbrev AnT (l:List ak) (P K:Int) (d:ak) (a:Int):Prop:=KC 37 [cq,iv P] (cW l K) 1 (XQ ⟨.dat d,cW l a,1⟩)
theorem R7 {q g:List UInt8} {p c b:List ak} (o:aF i n=true) (a:aF 0 P=true) (h:AnT l (an .i64 (P - 1)) K (.agg [i64 m,sb g,i64 f,sl p]) j)
  (A:bB ba false 38 [.own c,.dat (.slice [.agg [i64 m,sb g,i64 f,sl p]])] none=some ⟨.own b,.keep⟩) (e:T .normal ((Mh l j P k q x n (an .i64 (i+1)) (.own b)).al cT)) :
  KD (roundOf Tryz.f37 0) T ((Mh l K P k q x n i (dS c)).al cT):=by
 rcases c with _|⟨d,r⟩ <;>
 ·exact aq [67,70] [81] (H:=C1) (live:=eW) (ob o (ob a (oh h (oo A (oe e)))))
theorem U1 {f:List UInt8} {b:List ak} {d:Bool} (o:aF i n=false) (a:aF 0 P=d) (e:T (.exit 2) ((Cu l K P k f c n i (dS b)).al cT)) :
  KD (roundOf Tryz.f37 0) T ((Mh l K P k f c n i (dS b)).al cT):=by
 rcases b with _|⟨x,r⟩ <;>
 ·exact aq [67] [] (H:=C1) (live:=eW) (ob o (oe e))
theorem R8 {f:List UInt8} {b:List ak} {c:Bool} (o:aF i n=c) (a:aF 0 P=false) (e:T (.exit 2) ((Cu l K P k f d n i (dS b)).al cT)) :
  KD (roundOf Tryz.f37 0) T ((Mh l K P k f d n i (dS b)).al cT):=by
 rcases b with _|⟨x,r⟩ <;>
 ·refine aq [67,70] [] (H:=C1) (live:=eW) (ob o ?_)
  cases c
  ·exact oe e
  exact ob a (oe e)
abbrev Vc (l:List ak) (n x K:Int) (b:List ak) (a:Int):Prop:=KC 36 [cq,iv n,iv x] (cW l K) 1 (XQ ⟨.dat (sl b),cW l a,1⟩)
abbrev Sz (l:List ak) (K k:Int) (n:List UInt8) (x:Int) (b:List ak) (a:Int):Prop:=KC 64 [cq,.dat (.slice (lJ mq))] (cW l K) 1 (XQ ⟨.dat (.agg [i64 k,sb n,i64 x,sl b]),cW l a,1⟩)
abbrev tf (l:List ak) (n c e K:Int) (d:ak) (a:Int):Prop:=KC 34 [cq,iv n,iv c,iv e] (cW l K) 1 (XQ ⟨.dat d,cW l a,1⟩)
theorem ae0 (p:bP l 22 K 0 h) (q:bP l n h d i) (f:bP l n i a j) (g:bP l n j b k) {C I:Int} {o:List UInt8} (r:KC 66 [cq] (cW l k) 1 (XQ ⟨.dat (lI C I o),cW l m,1⟩)):tf l n c e K (eH 1 d 0 0 0 [] nl 0 [] 0 nl C I o) m:=by
 refine co [] [] (x:=.of Tryz.f34 fU eG) ?_;exact oh p (oh q (oh f (oh g (oh r fi))))
theorem aeZ (m:bP l 22 K 1 h) (o:bP l n h d i) (f:bP l n i a j) (g:bP l n j b k) :tf l n c e K (eH 2 d a 0 0 [] nl 0 [] 0 nl 0 0 []) k:=by
 refine co [] [] (x:=.of Tryz.f34 fU eG) ?_;exact oh m (oh o (oh f (oh g fi)))
theorem acj (p:bP l 22 K 2 i) (q:bP l n i d j) (f:bP l n j a k) (g:bP l n k b m) {h:Bool} (G:bP l 7 m x o) (r:aB (an .i64 (1+x)) 5=h):tf l n c e K (eH 3 d a (match h with|true=>0|false=>b) (an .i64 (1+x)) [] nl 0 [] 0 nl 0 0 []) o:=by
 refine co [53] [] (x:=.of Tryz.f34 fU eG) ?_;refine oh p (oh q (oh f (oh g (oh G (ox r ?_)))))
 cases h <;>
 ·exact fi
theorem aeY (v:bP l 22 K 3 k) (w:bP l n k d m) (f:bP l n m a o) (g:bP l n o b p) {j i:List ak} (T:Sz l p u t h j q) (G:bP l 3 q x r) (y:Vc l n x r i s):tf l n c e K (eH 4 d 0 0 0 [] (sl i) u t h (sl j) 0 0 []) s:=by
 have z:=oK;refine co [] [] (x:=.of Tryz.f34 fU eG) ?_;refine oh v (oh w (oh f (oh g (on z (oh T (oh G (oh y ?_)))))))
 rcases j with _|⟨C,D⟩
 ·rcases i with _|⟨A,B⟩ <;>
  ·exact fi
 rcases i with _|⟨E,F⟩ <;>
 ·exact fi
theorem aeX (p:bP l 22 K 4 h) (q:bP l n h d j) (f:bP l n j a k) (g:bP l n k b m) {s:List UInt8} (G:bP l 6 m x o) (i:ap ba 70 [.dat (.slice (encS JK)),.dat (.flat (.int .i64 x))]=some ⟨.ref [sb s],.keep⟩):tf l n c e K (eH 5 d a 0 0 s nl 0 [] 0 nl 0 0 []) o:=by
 refine co [] [79] (x:=.of Tryz.f34 fU eG) ?_;refine oh p (oh q (oh f (oh g (oh G ?_))));refine bL (by kernel_rfl) ?_ ?_
 ·refine oo i ?_;refine bL (by kernel_rfl) ?_ ?_
  ·exact fi
  refine bL (by kernel_rfl) ?_ ?_
  ·exact fi
  refine bL (by kernel_rfl) ?_ ?_ <;>
  ·exact fi
 refine bL (by kernel_rfl) ?_ ?_
 ·refine oo i ?_;refine bL (by kernel_rfl) ?_ ?_
  ·exact fi
  refine bL (by kernel_rfl) ?_ ?_ <;>
  ·exact fi
 refine bL (by kernel_rfl) ?_ ?_
 ·refine oo i ?_;refine bL (by kernel_rfl) ?_ ?_ <;>
  ·exact fi
 exact oo i fi
theorem aeW (p:bP l 22 K 5 h) (q:bP l n h d j) (f:bP l n j a k) (g:bP l n k b m) {s:List UInt8} (G:bP l 6 m x o) (i:ap ba 70 [.dat (.slice (encS JK)),.dat (.flat (.int .i64 x))]=some ⟨.ref [sb s],.keep⟩):tf l n c e K (eH 6 0 a b 0 s nl 0 [] 0 nl 0 0 []) o:=by
 refine co [] [93] (x:=.of Tryz.f34 fU eG) ?_;refine oh p (oh q (oh f (oh g (oh G ?_))));refine bL (by kernel_rfl) ?_ ?_
 ·refine oo i ?_;refine bL (by kernel_rfl) ?_ ?_
  ·exact fi
  refine bL (by kernel_rfl) ?_ ?_
  ·exact fi
  refine bL (by kernel_rfl) ?_ ?_ <;>
  ·exact fi
 refine bL (by kernel_rfl) ?_ ?_
 ·refine oo i ?_;refine bL (by kernel_rfl) ?_ ?_
  ·exact fi
  refine bL (by kernel_rfl) ?_ ?_ <;>
  ·exact fi
 refine bL (by kernel_rfl) ?_ ?_
 ·refine oo i ?_;refine bL (by kernel_rfl) ?_ ?_ <;>
  ·exact fi
 exact oo i fi
theorem aeV (q:bP l 22 K 6 i) (r:bP l n i d j) (f:bP l n j a k) (g:bP l n k b m) {h:List ak} (G:bP l 4 m x o) (s:Vc l n x o h p):tf l n c e K (eH 7 d 0 0 0 [] (sl h) 0 [] 0 nl 0 0 []) p:=by
 refine co [] [] (x:=.of Tryz.f34 fU eG) ?_;refine oh q (oh r (oh f (oh g (oh G (oh s ?_)))))
 rcases h with _|⟨t,u⟩ <;>
 ·exact fi
theorem aeU (o:bP l 22 K 7 h) (p:bP l n h d i) (f:bP l n i a j) (g:bP l n j b k) (G:bP l 3 k x m):tf l n c e K (eH 8 d a 0 x [] nl 0 [] 0 nl 0 0 []) m:=by
 refine co [] [] (x:=.of Tryz.f34 fU eG) ?_;exact oh o (oh p (oh f (oh g (oh G fi))))
theorem aeT (r:bP l 22 K 8 j) (s:bP l n j d k) (f:bP l n k a m) (g:bP l n m b o) {i:List ak} (T:Sz l o q t h i p):tf l n c e K (eH 9 d a 0 0 [] nl q t h (sl i) 0 0 []) p:=by
 have u:=oK;refine co [] [] (x:=.of Tryz.f34 fU eG) ?_;refine oh r (oh s (oh f (oh g (on u (oh T ?_)))))
 rcases i with _|⟨v,w⟩ <;>
 ·exact fi
theorem acy (v:bP l 22 K 9 m) (w:bP l n m d o) (f:bP l n o a p) (g:bP l n p b q) {y t:Int} {s:List UInt8} {h:List ak} (G:bP l 3 q x r) (i:ap ba 70 [.dat (.slice (encS AP)),.dat (.flat (.int .i64 x))]=some ⟨.ref [sb s],.keep⟩) (k:bP l 3 r y t) (j:Vc l n y t h u):tf l n c e K (eH 10 d 0 0 0 s (sl h) 0 [] 0 nl 0 0 []) u:=by
 refine co [] [136] (x:=.of Tryz.f34 fU eG) ?_;refine oh v (oh w (oh f (oh g (oh G ?_))));refine bL (by kernel_rfl) ?_ ?_
 ·refine oo i ?_;refine bL (by kernel_rfl) ?_ ?_
  ·refine oh k (oh j ?_)
   rcases h with _|⟨L,M⟩ <;>
   ·exact fi
  refine oh k ?_;refine bL (by kernel_rfl) ?_ ?_
  ·refine oh j ?_
   rcases h with _|⟨N,O⟩ <;>
   ·exact fi
  refine oh j ?_;refine bL (by kernel_rfl) ?_ ?_
  ·rcases h with _|⟨P,Q⟩ <;>
   ·exact fi
  rcases h with _|⟨R,S⟩ <;>
  ·exact fi
 refine oh k ?_;refine bL (by kernel_rfl) ?_ ?_
 ·refine oo i ?_;refine bL (by kernel_rfl) ?_ ?_
  ·refine oh j ?_
   rcases h with _|⟨T,U⟩ <;>
   ·exact fi
  refine oh j ?_;refine bL (by kernel_rfl) ?_ ?_
  ·rcases h with _|⟨z,A⟩ <;>
   ·exact fi
  rcases h with _|⟨B,C⟩ <;>
  ·exact fi
 refine oh j ?_;refine bL (by kernel_rfl) ?_ ?_
 ·refine oo i ?_;refine bL (by kernel_rfl) ?_ ?_
  ·rcases h with _|⟨D,E⟩ <;>
   ·exact fi
  rcases h with _|⟨F,H⟩ <;>
  ·exact fi
 refine oo i ?_
 rcases h with _|⟨I,J⟩ <;>
 ·exact fi
theorem acx (v:bP l 22 K 10 m) (w:bP l n m d o) (f:bP l n o a p) (g:bP l n p b q) {y t:Int} {s:List UInt8} {h:List ak} (G:bP l 3 q x r) (i:ap ba 70 [.dat (.slice (encS AP)),.dat (.flat (.int .i64 x))]=some ⟨.ref [sb s],.keep⟩) (k:bP l 3 r y t) (j:Vc l n y t h u):tf l n c e K (eH 11 d 0 0 0 s (sl h) 0 [] 0 nl 0 0 []) u:=by
 refine co [] [136] (x:=.of Tryz.f34 fU eG) ?_;refine oh v (oh w (oh f (oh g (oh G ?_))));refine bL (by kernel_rfl) ?_ ?_
 ·refine oo i ?_;refine bL (by kernel_rfl) ?_ ?_
  ·refine oh k (oh j ?_)
   rcases h with _|⟨L,M⟩ <;>
   ·exact fi
  refine oh k ?_;refine bL (by kernel_rfl) ?_ ?_
  ·refine oh j ?_
   rcases h with _|⟨N,O⟩ <;>
   ·exact fi
  refine oh j ?_;refine bL (by kernel_rfl) ?_ ?_
  ·rcases h with _|⟨P,Q⟩ <;>
   ·exact fi
  rcases h with _|⟨R,S⟩ <;>
  ·exact fi
 refine oh k ?_;refine bL (by kernel_rfl) ?_ ?_
 ·refine oo i ?_;refine bL (by kernel_rfl) ?_ ?_
  ·refine oh j ?_
   rcases h with _|⟨T,U⟩ <;>
   ·exact fi
  refine oh j ?_;refine bL (by kernel_rfl) ?_ ?_
  ·rcases h with _|⟨z,A⟩ <;>
   ·exact fi
  rcases h with _|⟨B,C⟩ <;>
  ·exact fi
 refine oh j ?_;refine bL (by kernel_rfl) ?_ ?_
 ·refine oo i ?_;refine bL (by kernel_rfl) ?_ ?_
  ·rcases h with _|⟨D,E⟩ <;>
   ·exact fi
  rcases h with _|⟨F,H⟩ <;>
  ·exact fi
 refine oo i ?_
 rcases h with _|⟨I,J⟩ <;>
 ·exact fi
theorem acw (o:bP l 22 K 11 h) (p:bP l n h d i) (f:bP l n i a j) (g:bP l n j b k) (G:bP l c k x m):tf l n c e K (eH 12 0 0 0 x [] nl 0 [] 0 nl 0 0 []) m:=by
 refine co [] [] (x:=.of Tryz.f34 fU eG) ?_;exact oh o (oh p (oh f (oh g (oh G fi))))
theorem acv (o:bP l 22 K 12 h) (p:bP l n h d i) (f:bP l n i a j) (g:bP l n j b k) (G:bP l c k x m):tf l n c e K (eH 13 0 a 0 x [] nl 0 [] 0 nl 0 0 []) m:=by
 refine co [] [] (x:=.of Tryz.f34 fU eG) ?_;exact oh o (oh p (oh f (oh g (oh G fi))))
theorem acu (m:bP l 22 K 13 h) (o:bP l n h d i) (f:bP l n i a j) (g:bP l n j b k) :tf l n c e K (eH 14 0 0 0 0 [] nl 0 [] 0 nl 0 0 []) k:=by
 refine co [] [] (x:=.of Tryz.f34 fU eG) ?_;exact oh m (oh o (oh f (oh g fi)))
theorem acs (m:bP l 22 K 14 h) (o:bP l n h d i) (f:bP l n i a j) (g:bP l n j b k) :tf l n c e K (eH 15 0 a 0 0 [] nl 0 [] 0 nl 0 0 []) k:=by
 refine co [] [] (x:=.of Tryz.f34 fU eG) ?_;exact oh m (oh o (oh f (oh g fi)))
theorem acr (m:bP l 22 K 15 h) (o:bP l n h d i) (f:bP l n i a j) (g:bP l n j b k) :tf l n c e K (eH 16 0 a 0 0 [] nl 0 [] 0 nl 0 0 []) k:=by
 refine co [] [] (x:=.of Tryz.f34 fU eG) ?_;exact oh m (oh o (oh f (oh g fi)))
theorem acq (p:bP l 22 K 16 h) (q:bP l n h d i) (f:bP l n i a j) (g:bP l n j b k) (o:aB e 0=false) (G:bP l e k x m):tf l n c e K (eH 17 0 0 0 x [] nl 0 [] 0 nl 0 0 []) m:=by
 refine co [169] [] (x:=.of Tryz.f34 fU eG) ?_;exact oh p (oh q (oh f (oh g (ob o (oh G fi)))))
theorem acp (m:bP l 22 K 17 h) (o:bP l n h d i) (f:bP l n i a j) (g:bP l n j b k) :tf l n c e K (eH 18 0 0 0 0 [] nl 0 [] 0 nl 0 0 []) k:=by
 refine co [] [] (x:=.of Tryz.f34 fU eG) ?_;exact oh m (oh o (oh f (oh g fi)))
theorem aco (m:bP l 22 K 18 h) (o:bP l n h d i) (f:bP l n i a j) (g:bP l n j b k) :tf l n c e K (eH 19 0 a 0 0 [] nl 0 [] 0 nl 0 0 []) k:=by
 refine co [] [] (x:=.of Tryz.f34 fU eG) ?_;exact oh m (oh o (oh f (oh g fi)))
theorem acn (o:bP l 22 K 19 h) (p:bP l n h d i) (f:bP l n i a j) (g:bP l n j b k) (G:bP l 4 k x m):tf l n c e K (eH 20 0 0 0 (an .i64 (1+x)) [] nl 0 [] 0 nl 0 0 []) m:=by
 refine co [] [] (x:=.of Tryz.f34 fU eG) ?_;exact oh o (oh p (oh f (oh g (oh G fi))))
theorem acm (m:bP l 22 K 20 h) (o:bP l n h d i) (f:bP l n i a j) (g:bP l n j b k) :tf l n c e K (eH 21 0 0 0 0 [] nl 0 [] 0 nl 0 0 []) k:=by
 refine co [] [] (x:=.of Tryz.f34 fU eG) ?_;exact oh m (oh o (oh f (oh g fi)))
theorem ack (r:bP l 22 K 21 i) (s:bP l n i d j) (f:bP l n j a k) (g:bP l n k b m) {y:Int} {h:List ak} (G:bP l 4 m x o) (t:bP l 3 o y p) (u:Vc l n y p h q):tf l n c e K (eH 22 d 0 0 (an .i64 (1+x)) [] (sl h) 0 [] 0 nl 0 0 []) q:=by
 refine co [] [] (x:=.of Tryz.f34 fU eG) ?_;refine oh r (oh s (oh f (oh g (oh G (oh t (oh u ?_))))))
 rcases h with _|⟨v,w⟩ <;>
 ·exact fi
theorem X4 (m:bP l 22 K 16 h) (p:bP l n h d i) (f:bP l n i a j) (g:bP l n j b k) (o:aB e 0=true):tf l n c e K (eH 14 0 0 0 0 [] nl 0 [] 0 nl 0 0 []) k:=by
 refine co [169] [] (x:=.of Tryz.f34 fU eG) ?_;exact oh m (oh p (oh f (oh g (ob o fi))))
theorem yS (l:List ak):sx false l=sl l:=by cases l <;> rfl
theorem Rg (a:Nat) (h:a < 6):∃s,JK[a]?=some s:=by simp_all[JK]
theorem we (a:Nat) (h:a < 3):∃s,AP[a]?=some s:=by simp_all[AP]
theorem cY:(Ty.mk 0 [] 0 []).gN:=⟨by simp[Ty.size,aQ],by simp[Ty.fY,fg,aB]⟩
def Ins.gen (x:Ins):Prop:=x.ty.gN/\x.ar.length < 1000000/\x.con
theorem aii {x:Nat} (h:x<=1000000):[]∈H5/\((-1000000:Int)<=0/\(0:Int)<=1000000)/\(-1000000<=ofNat x/\ofNat x<=1000000):=⟨by decide,by decide,by grind⟩
theorem ad9:[]∈H5/\((-1000000:Int)<=0/\(0:Int)<=1000000)/\((-1000000:Int)<=0/\(0:Int)<=1000000):=by decide
theorem aih (x:Nat) (h:x<=100):-1000000<=an .i64 (1+ofNat x)/\an .i64 (1+ofNat x)<=1000000:=by
 rw[cQ,wrap_i64 (by grind) (by grind)];grind
theorem CY {x:Ins} (h:x.gen):x.gN:=⟨h.1,by have:=h.2.1;omega,h.2.2⟩
def GIn (l:List Int) (n c e k:Nat):Prop:=∃(x:Ins) (K:Nat),x.gen/\BG l k K/\tf (l.map iN) (ofNat n) (ofNat c) (ofNat e) (ofNat k) x.enc (ofNat K)
theorem eI {l:List Int} {n c e k K:Nat} (x:Ins) (b:x.gen) (h:BG l k K) (a:tf (l.map iN) (ofNat n) (ofNat c) (ofNat e) (ofNat k) x.enc (ofNat K)):GIn l n c e k:=⟨x,K,b,h,a⟩
theorem wa (f d a b m:Int) (n:List UInt8) (u:List Int) (k:Int) (t:List UInt8) (x:Int) (e:List Ty) (C I:Int) (c:List UInt8) :
  eH f d a b m n (sl (u.map iN)) k t x (sl (ax e)) C I c=(Ins.mk f d a b m n false u (.mk k t x e) C I c).enc:=by
 show _=ak.agg ([i64 f,i64 d,i64 a,i64 b,i64 m,sb n,sx false (u.map iN)]++((Ty.mk k t x e).cells++[i64 C,i64 I,sb c,nl]));rfl
theorem Uu {l:List Int} {n c e k:Nat} (hl:l.length < 10000000) (hk:k<=l.length) (N:0 < n) (ag:n < 1000000) (hc:0 < c) (af:c < 1000000) (he:e < 1000000):GIn l n c e k:=by
 have D:l.length < 1000000000:=by omega
 obtain⟨r,k1,⟨R,a1,a2,_⟩,z⟩:=aR (n:=22) D hk (by omega) (by omega);obtain⟨d,K,⟨_,b1,Q,_⟩,A⟩:=aR (n:=n) D a2 N (by omega);obtain⟨a,M,⟨_,p,q,_⟩,f⟩:=aR (n:=n) D Q N (by omega);obtain⟨b,k4,⟨_,d1,B,_⟩,g⟩:=aR (n:=n) D q N (by omega);have O:∀{k:Nat} (m:Nat),k<=l.length->m < 1000000->∃(u:List Int) (K:Nat),u.length=m/\BG l k K/\Vc (l.map iN) (ofNat n) (ofNat m) (ofNat k) (u.map iN) (ofNat K):=fun m hk hm=>LI D hk N (by omega) hm
 match r,R with
 | 0,_=>
  obtain⟨C,I,cs,J,E,F,G⟩:=Uy D B;exact eI ⟨1,(ofNat d),0,0,0,[],false,[],(.mk 0 [] 0 []),C,I,cs⟩ ⟨cY,by simp,⟨E.1,E.2,ad9.2.2⟩⟩ ⟨by have:=F.le;omega,F.top⟩ (ae0 z A f g G)
 | 1,_=>
  exact eI ⟨2,(ofNat d),(ofNat a),0,0,[],false,[],(.mk 0 [] 0 []),0,0,[]⟩ ⟨cY,by simp,ad9⟩ ⟨by omega,B⟩ (aeZ z A f g)
 | 2,_=>
  obtain⟨x,J,⟨i,w,h,_⟩,v⟩:=aR (n:=7) D B (by omega) (by omega)
  cases hu:aB (an .i64 (1+ofNat x)) 5 with
  | true=>exact eI ⟨3,(ofNat d),(ofNat a),0,(an .i64 (1+ofNat x)),[],false,[],(.mk 0 [] 0 []),0,0,[]⟩ ⟨cY,by simp,⟨ad9.1,ad9.2.1,by dsimp only;exact aih x (by omega)⟩⟩ ⟨by omega,h⟩ (acj z A f g v hu)
  | false=>exact eI ⟨3,(ofNat d),(ofNat a),(ofNat b),(an .i64 (1+ofNat x)),[],false,[],(.mk 0 [] 0 []),0,0,[]⟩ ⟨cY,by simp,⟨ad9.1,ad9.2.1,by dsimp only;exact aih x (by omega)⟩⟩ ⟨by omega,h⟩ (acj z A f g v hu)
 | 3,_=>
  obtain⟨t,J,t1,t2,T⟩:=Ey hl B;obtain⟨tk,tn,U,la⟩:=t;obtain⟨x,k6,⟨i,w,h,_⟩,v⟩:=aR (n:=3) D t2.top (by omega) (by omega);obtain⟨u,V,E,F,s⟩:=O x h (by omega);have L:=aeY (c:=ofNat c) (e:=ofNat e) z A f g T v s;rw[wa] at L;exact eI ⟨4,(ofNat d),0,0,0,[],false,u,(.mk tk tn U la),0,0,[]⟩ ⟨zk t1,by show u.length < _;omega,ad9⟩ ⟨by have:=t2.le;have:=F.le;omega,F.top⟩ (L)
 | 4,_=>
  obtain⟨x,J,⟨i,w,h,_⟩,v⟩:=aR (n:=6) D B (by omega) (by omega);obtain⟨S,H⟩:=Rg x i;exact eI ⟨5,(ofNat d),(ofNat a),0,0,S,false,[],(.mk 0 [] 0 []),0,0,[]⟩ ⟨cY,by simp,ad9⟩ ⟨by omega,h⟩ (aeX z A f g v (uB H))
 | 5,_=>
  obtain⟨x,J,⟨i,w,h,_⟩,v⟩:=aR (n:=6) D B (by omega) (by omega);obtain⟨S,H⟩:=Rg x i;exact eI ⟨6,0,(ofNat a),(ofNat b),0,S,false,[],(.mk 0 [] 0 []),0,0,[]⟩ ⟨cY,by simp,ad9⟩ ⟨by omega,h⟩ (aeW z A f g v (uB H))
 | 6,_=>
  obtain⟨x,J,⟨i,w,h,_⟩,v⟩:=aR (n:=4) D B (by omega) (by omega);obtain⟨u,V,E,F,s⟩:=O x h (by omega);have L:=aeV (c:=ofNat c) (e:=ofNat e) z A f g v s;have e0:=wa 7 (ofNat d) 0 0 0 [] u 0 [] 0 [] 0 0 [];have j:tf (l.map iN) (ofNat n) (ofNat c) (ofNat e) (ofNat k) (eH 7 (ofNat d) 0 0 0 [] (sl (u.map iN)) 0 [] 0 (sl (ax [])) 0 0 []) (ofNat V):=L;rw[e0] at j;exact eI ⟨7,(ofNat d),0,0,0,[],false,u,(.mk 0 [] 0 []),0,0,[]⟩ ⟨cY,by show u.length < _;omega,ad9⟩ ⟨by have:=F.le;omega,F.top⟩ (j)
 | 7,_=>
  obtain⟨x,J,⟨i,w,h,_⟩,v⟩:=aR (n:=3) D B (by omega) (by omega);exact eI ⟨8,(ofNat d),(ofNat a),0,(ofNat x),[],false,[],(.mk 0 [] 0 []),0,0,[]⟩ ⟨cY,by simp,aii (x:=x) (by omega)⟩ ⟨by omega,h⟩ (aeU z A f g v)
 | 8,_=>
  obtain⟨t,J,t1,t2,T⟩:=Ey hl B;obtain⟨tk,tn,U,la⟩:=t;have L:=aeT (c:=ofNat c) (e:=ofNat e) z A f g T;have j:tf (l.map iN) (ofNat n) (ofNat c) (ofNat e) (ofNat k) (eH 9 (ofNat d) (ofNat a) 0 0 [] (sl (([]:List Int).map iN)) tk tn U (sl (ax la)) 0 0 []) (ofNat J):=L;rw[wa] at j;exact eI ⟨9,(ofNat d),(ofNat a),0,0,[],false,[],(.mk tk tn U la),0,0,[]⟩ ⟨zk t1,by simp,ad9⟩ ⟨by have:=t2.le;omega,t2.top⟩ (j)
 | 9,_=>
  obtain⟨x,J,⟨i,w,h,_⟩,v⟩:=aR (n:=3) D B (by omega) (by omega);obtain⟨S,H⟩:=we x i;obtain⟨y,k6,⟨Z,Y,P,_⟩,W⟩:=aR (n:=3) D h (by omega) (by omega);obtain⟨u,V,E,F,s⟩:=O y P (by omega);have L:=acy (c:=ofNat c) (e:=ofNat e) z A f g v (uB H) W s;have j:tf (l.map iN) (ofNat n) (ofNat c) (ofNat e) (ofNat k) (eH 10 (ofNat d) 0 0 0 S (sl (u.map iN)) 0 [] 0 (sl (ax [])) 0 0 []) (ofNat V):=L;rw[wa] at j;exact eI ⟨10,(ofNat d),0,0,0,S,false,u,(.mk 0 [] 0 []),0,0,[]⟩ ⟨cY,by show u.length < _;omega,ad9⟩ ⟨by have:=F.le;omega,F.top⟩ (j)
 | 10,_=>
  obtain⟨x,J,⟨i,w,h,_⟩,v⟩:=aR (n:=3) D B (by omega) (by omega);obtain⟨S,H⟩:=we x i;obtain⟨y,k6,⟨Z,Y,P,_⟩,W⟩:=aR (n:=3) D h (by omega) (by omega);obtain⟨u,V,E,F,s⟩:=O y P (by omega);have L:=acx (c:=ofNat c) (e:=ofNat e) z A f g v (uB H) W s;have j:tf (l.map iN) (ofNat n) (ofNat c) (ofNat e) (ofNat k) (eH 11 (ofNat d) 0 0 0 S (sl (u.map iN)) 0 [] 0 (sl (ax [])) 0 0 []) (ofNat V):=L;rw[wa] at j;exact eI ⟨11,(ofNat d),0,0,0,S,false,u,(.mk 0 [] 0 []),0,0,[]⟩ ⟨cY,by show u.length < _;omega,ad9⟩ ⟨by have:=F.le;omega,F.top⟩ (j)
 | 11,_=>
  obtain⟨x,J,⟨i,w,h,_⟩,v⟩:=aR (n:=c) D B (by omega) (by omega);exact eI ⟨12,0,0,0,(ofNat x),[],false,[],(.mk 0 [] 0 []),0,0,[]⟩ ⟨cY,by simp,aii (x:=x) (by omega)⟩ ⟨by omega,h⟩ (acw z A f g v)
 | 12,_=>
  obtain⟨x,J,⟨i,w,h,_⟩,v⟩:=aR (n:=c) D B (by omega) (by omega);exact eI ⟨13,0,(ofNat a),0,(ofNat x),[],false,[],(.mk 0 [] 0 []),0,0,[]⟩ ⟨cY,by simp,aii (x:=x) (by omega)⟩ ⟨by omega,h⟩ (acv z A f g v)
 | 13,_=>
  exact eI ⟨14,0,0,0,0,[],false,[],(.mk 0 [] 0 []),0,0,[]⟩ ⟨cY,by simp,ad9⟩ ⟨by omega,B⟩ (acu z A f g)
 | 14,_=>
  exact eI ⟨15,0,(ofNat a),0,0,[],false,[],(.mk 0 [] 0 []),0,0,[]⟩ ⟨cY,by simp,ad9⟩ ⟨by omega,B⟩ (acs z A f g)
 | 15,_=>
  exact eI ⟨16,0,(ofNat a),0,0,[],false,[],(.mk 0 [] 0 []),0,0,[]⟩ ⟨cY,by simp,ad9⟩ ⟨by omega,B⟩ (acr z A f g)
 | 16,_=>
  by_cases ad:e=0
  ·subst ad;exact eI ⟨14,0,0,0,0,[],false,[],(.mk 0 [] 0 []),0,0,[]⟩ ⟨cY,by simp,ad9⟩ ⟨by omega,B⟩ (X4 z A f g rfl)
  obtain⟨x,J,⟨i,w,h,_⟩,v⟩:=aR (n:=e) D B (by omega) (by omega);have o:aB (ofNat e) 0=false:=dL (by simp;omega);exact eI ⟨17,0,0,0,(ofNat x),[],false,[],(.mk 0 [] 0 []),0,0,[]⟩ ⟨cY,by simp,aii (x:=x) (by omega)⟩ ⟨by omega,h⟩ (acq z A f g o v)
 | 17,_=>
  exact eI ⟨18,0,0,0,0,[],false,[],(.mk 0 [] 0 []),0,0,[]⟩ ⟨cY,by simp,ad9⟩ ⟨by omega,B⟩ (acp z A f g)
 | 18,_=>
  exact eI ⟨19,0,(ofNat a),0,0,[],false,[],(.mk 0 [] 0 []),0,0,[]⟩ ⟨cY,by simp,ad9⟩ ⟨by omega,B⟩ (aco z A f g)
 | 19,_=>
  obtain⟨x,J,⟨i,w,h,_⟩,v⟩:=aR (n:=4) D B (by omega) (by omega);exact eI ⟨20,0,0,0,(an .i64 (1+ofNat x)),[],false,[],(.mk 0 [] 0 []),0,0,[]⟩ ⟨cY,by simp,⟨ad9.1,ad9.2.1,by dsimp only;exact aih x (by omega)⟩⟩ ⟨by omega,h⟩ (acn z A f g v)
 | 20,_=>
  exact eI ⟨21,0,0,0,0,[],false,[],(.mk 0 [] 0 []),0,0,[]⟩ ⟨cY,by simp,ad9⟩ ⟨by omega,B⟩ (acm z A f g)
 | 21,_=>
  obtain⟨x,J,⟨i,w,h,_⟩,v⟩:=aR (n:=4) D B (by omega) (by omega);obtain⟨y,k6,⟨Z,Y,P,_⟩,W⟩:=aR (n:=3) D h (by omega) (by omega);obtain⟨u,V,E,F,s⟩:=O y P (by omega);have L:=ack (c:=ofNat c) (e:=ofNat e) z A f g v W s;have j:tf (l.map iN) (ofNat n) (ofNat c) (ofNat e) (ofNat k) (eH 22 (ofNat d) 0 0 (an .i64 (1+ofNat x)) [] (sl (u.map iN)) 0 [] 0 (sl (ax [])) 0 0 []) (ofNat V):=L;rw[wa] at j;exact eI ⟨22,(ofNat d),0,0,(an .i64 (1+ofNat x)),[],false,u,(.mk 0 [] 0 []),0,0,[]⟩ ⟨cY,by show u.length < _;omega,⟨ad9.1,ad9.2.1,by dsimp only;exact aih x (by omega)⟩⟩ ⟨by have:=F.le;omega,F.top⟩ (j)
 | r+22,R=>exact absurd R (by omega)
abbrev NP (k:Int) (n:List UInt8) (x:Int) (a:List ak):ak:=.agg [i64 k,sb n,i64 x,sl a]
theorem rk (x:ak) (l:List ak):ae 63 [.dat (.slice (x::l))] (.dat (.agg [i64 3,sb [],i64 0,.slice (x::l)])):=by
 refine co [] [] (x:=.of Tryz.f63 P8 Qv) ?_;exact fi
abbrev CoT (l:List ak) (P K:Int) (L s:Int) (c b:List ak) (a:Int):Prop:=KC 9 [cq,iv P] (cW l K) 1 (XQ ⟨.dat (aN L s (.slice c) (sl b)),cW l a,1⟩)
theorem ae8 {n q:List UInt8} {o h:List ak} {c:Bool} (T:Sz l K r t f o j) (s:bP l 6 j 0 k) (b:bP l 8 k a m)
  (i:ap ba 112 [.dat (.slice (lJ mq)),iv a]=some ⟨.ref [sb n,i64 u,i64 p,sb q,i64 e,sl h,bl c,sl g],.keep⟩) :
  SA l P K (B0 1 n u p q e (sl h) c (sl g) [] 0 [] 0 nl 0 0 0 nl nl []) m:=by
 have d:=oK;have v:=rk (NP r t f o) [];refine co [] [21] (x:=.of Tryz.f33 tP ou) ?_;refine on d (oh T (on v (oh s (on d (oh b (oo i ?_))))))
 rcases h with _|⟨z,A⟩
 ·rcases g with _|⟨w,y⟩ <;>
  ·exact fi
 rcases g with _|⟨B,C⟩ <;>
 ·exact fi
theorem ae7 {g:Int} {s:List UInt8} {e:List ak} (T:Sz l K f t c e g) (k:bP l 6 g 1 h) (b:bP l 3 h a j)
  (i:ap ba 70 [.dat (.slice (encS AP)),.dat (.flat (.int .i64 a))]=some ⟨.ref [sb s],.keep⟩) :
  SA l P K (B0 3 [] 0 0 [] 0 nl false nl s 3 [] 0 (.slice [NP f t c e]) 0 0 0 nl nl []) j:=by
 have d:=oK;have m:=rk (NP f t c e) [];refine co [] [31] (x:=.of Tryz.f33 tP ou) ?_;exact on d (oh T (on m (oh k (oh b (oo i fi)))))
theorem ae6 {g:Int} {h:List ak} (T:Sz l K i t c h e) (j:bP l 6 e 2 f) (b:bP l 2 f a g) :
  SA l P K (B0 (an .i64 (4+a)) [] 0 0 [] 0 nl false nl [] 0 [] 0 nl 0 0 0 nl nl [112]) g:=by
 have d:=oK;have k:=rk (NP i t c h) [];refine co [] [] (x:=.of Tryz.f33 tP ou) ?_;exact on d (oh T (on k (oh j (oh b fi))))
theorem adu {n:List UInt8} {p f:List ak} (T:Sz l K h t c g j) (q:bP l 6 j r k) (v:aB r 0=false) (w:aB r 1=false) (y:aB r 2=false)
  (e:CoT l P k 1 s p f m) (b:bP l 3 m a o) (i:ap ba 70 [.dat (.slice (encS AP)),.dat (.flat (.int .i64 a))]=some ⟨.ref [sb n],.keep⟩) :
  SA l P K (B0 2 [] 0 0 [] 0 nl false nl n 3 [] 0 (.slice [NP h t c g]) 1 1 s (.slice p) (sl f) []) o:=by
 have d:=oK;have u:=rk (NP h t c g) [];refine co [17,25,36] [57] (x:=.of Tryz.f33 tP ou) ?_;refine on d (oh T (on u (oh q (ob v (ob w (ob y (oh e ?_)))))))
 rcases f with _|⟨z,A⟩ <;>
 ·exact oh b (oo i fi)
theorem adt {L:Int} {n:List UInt8} {q f:List ak} (T:Sz l K h t c g j) (u:bP l 6 j r k) (y:aB r 0=false) (z:aB r 1=false) (A:aB r 2=false)
  (e:CoT l P k L s q f m) (w:aB L 1=false) (V:bP l 5 m 4 o) (b:bP l 3 o a p) (i:ap ba 70 [.dat (.slice (encS AP)),.dat (.flat (.int .i64 a))]=some ⟨.ref [sb n],.keep⟩) :
  SA l P K (B0 2 [] 0 0 [] 0 nl false nl n 3 [] 0 (.slice [NP h t c g]) L L s (.slice q) (sl f) []) p:=by
 have d:=oK;have v:=rk (NP h t c g) [];refine co [17,25,36,46] [57] (x:=.of Tryz.f33 tP ou) ?_;refine on d (oh T (on v (oh u (ob y (ob z (ob A (oh e ?_)))))))
 rcases f with _|⟨B,C⟩ <;>
 ·exact ob w (oh V (oh b (oo i fi)))
noncomputable def hGE:Hints:=⟨bV,tP,bi,rowsOf bi 33⟩
def ab2 (L s:Int) (b:List ak) (a:ak) (A:ac):Heap:=[(.loc 7,.cells [iv 3,.dat (sb []),iv 0,A]),(.loc 6,.cells (cC L s (.slice b) a)),(.loc 4,.cells (cE 0 [] 0 0 [] 0 nl false nl [] 0 [] 0 nl 0 0 0 nl nl []))]
def Me (l:List ak) (K L s:Int) (b:List ak) (a:ak) (A:ac) (i:Int):ab:=⟨[(8,iv i),(7,.ptr (.loc 7) 0),(6,.ptr (.loc 6) 0),(4,.ptr (.loc 4) 0),(0,cq)],ab2 L s b a A,cW l K,1⟩
def Of (l:List ak) (K L s:Int) (b:List ak) (a:ak) (A:ac) (i:Int):ab:=⟨[(68,bv false),(8,iv i),(7,.ptr (.loc 7) 0),(6,.ptr (.loc 6) 0),(4,.ptr (.loc 4) 0),(0,cq)],ab2 L s b a A,cW l K,1⟩
theorem Q3 {L:Int} {h:List ak} {g:ak} {b a:List ak} {j:List ak} (o:aF i L=true) (n:Sz l K k t c j f)
  (A:bB ba false 38 [.own b,.dat (.slice [NP k t c j])] none=some ⟨.own a,.keep⟩)
  (e:T .normal ((Me l f L s h g (.own a) (an .i64 (i+1))).al tT)) :
  KD (roundOf Tryz.f33 0) T ((Me l K L s h g (dS b) i).al tT):=by
 have m:=oK
 rcases b with _|⟨d,r⟩ <;>
 ·exact aq [68] [77] (H:=hGE) (live:=ou) (ob o (on m (oh n (oo A (oe e)))))
theorem Uq {L:Int} {c:List ak} {b:ak} {a:List ak} (o:aF i L=false)
  (e:T (.exit 1) ((Of l K L s c b (dS a) i).al tT)) :
  KD (roundOf Tryz.f33 0) T ((Me l K L s c b (dS a) i).al tT):=by
 rcases a with _|⟨d,r⟩ <;>
 ·exact aq [68] [] (H:=hGE) (live:=ou) (ob o (oe e))
theorem ads {z B L v H:Int} {n:List UInt8} {A c j:List ak} (T:Sz l K B t f A k) (C:bP l 6 k r m) (I:aB r 0=false) (J:aB r 1=false) (M:aB r 2=false)
  (F:CoT l P m L s g c o) (w:aB L 1=false) (V:bP l 5 o v p) (h:aB v 4=false)
  (G:KD (.loop (roundOf Tryz.f33 0)) (fun e q=>e=.exit 1/\q=(Of l u L s g (sl c) (dS j) H).al tT) ((Me l p L s g (sl c) (dS []) 0).al tT))
  (b:bP l 3 u a z) (i:ap ba 70 [.dat (.slice (encS AP)),.dat (.flat (.int .i64 a))]=some ⟨.ref [sb n],.keep⟩) :
  SA l P K (B0 2 [] 0 0 [] 0 nl false nl n 3 [] 0 (sl j) L L s (.slice g) (sl c) []) z:=by
 have E:=oK;have D:=rk (NP B t f A) []
 rcases j with _|⟨d,r⟩ <;>
 ·rcases c with _|⟨x,y⟩ <;>
  ·refine co [17,25,36,46,50] [84] (x:=.of Tryz.f33 tP ou) ?_;refine on E (oh T (on D (oh C (ob I (ob J (ob M (oh F (ob w (oh V (ob h ?_))))))))));refine lo G ?_;rintro N s ⟨rfl,rfl⟩;refine⟨_,rfl,?_⟩;exact oh b (oo i fi)
theorem qo (x:Ins):x.enc.cells.length=15:=sT x
theorem uO (a b:List Ins):encI (a++b)=encI a++encI b:=by simp[gR]
theorem sW (l:List Ins):sizedB 15 (encI l)=true:=kM (fun d D=>by
 grind[gR,qo])
theorem JU (l:List Ins):fy (encI l)=false:=by
 cases l with
 | nil=>rfl
 | cons t r=>rfl
theorem V7 {pre:List Ins} {x:Ins} (l:pre.length < 1000000):bB ba false 23 [.own (encI pre),.dat (.slice [x.enc])] none=some ⟨.own (encI (pre++[x])),.keep⟩:=by
 rw[uO];refine uX (i:=rE) (ds:=[x.enc]) (k:=14) DD rfl kJ ?_ ?_ (by kernel_rfl) ?_ ?_ ?_ (by simp)
 ·exact sW [x]
 ·grind[sW]
 ·have a:rE.bytes<=1000:=fD (by kernel_rfl);rw[bH]
  calc (pre.length+1)*rE.bytes<=1000000000*1000:=Nat.mul_le_mul (by omega) a
   _<=140737488355328:=by decide
 ·rw[bH];simp[lim];omega
 unfold jr;rw[show encI pre++[x.enc]=encI (pre++[x]) by rw[uO];rfl,JU]
theorem wv (a b:List (List fG)):aG (a++b)=aG a++aG b:=by simp[nC]
theorem qA (l:List (List fG)):sizedB 1 (aG l)=true:=kM (fun d D=>by
 rw[nC] at D;obtain⟨t,_,rfl⟩:=List.mem_map.1 D;rfl)
theorem xC (l:List (List fG)):fy (aG l)=false:=by
 cases l with
 | nil=>simp[aG,fy]
 | cons t r=>rfl
theorem Sf {pre:List (List fG)} {x:List fG} (l:pre.length < 1000000):bB ba false 24 [.own (aG pre),.dat (.slice [.slice (ir x)])] none=some ⟨.own (aG (pre++[x])),.keep⟩:=by
 have E:aG [x]=[.slice (ir x)]:=by rw[aG,aG]
 rw[wv,E];refine uX (i:=Fc) (ds:=[.slice (ir x)]) (k:=0) DF rfl qU ?_ ?_ (by kernel_rfl) ?_ ?_ ?_ (by simp)
 ·grind[qA]
 ·grind[qA]
 ·have a:Fc.bytes<=1000:=fD (by kernel_rfl);rw[dJ]
  calc (pre.length+1)*Fc.bytes<=1000000000*1000:=Nat.mul_le_mul (by omega) a
   _<=140737488355328:=by decide
 ·rw[dJ];simp[lim];omega
 unfold jr;rw[show aG pre++[.slice (ir x)]=aG (pre++[x]) by rw[wv,E],xC]
structure aeb (c:gM):Prop where
 ok:c.ok
 ez:c.ez=false
 iz:c.iz=false
 pa:∃n:Nat,c.pa=ofNat n/\n<=2
 len:2<=c.ins.length/\c.ins.length<=10
 elen:c.cD.length<=2
 gen:∀x∈c.ins,x.gen
def GCd (l:List Int) (P:Int):Prop:=∀k,k<=l.length->∃(c:gM) (K:Nat),aeb c/\BG l k K/\KC 9 [cq,iv P] (cW (l.map iN) (ofNat k)) 1 (XQ ⟨.dat c.enc,cW (l.map iN) (ofNat K),1⟩)
def GEd (l:List Int) (P:Int):Prop:=∀k,k<=l.length->∃(e:fG) (K:Nat),e.ok/\BG l k K/\SA (l.map iN) P (ofNat k) e.enc (ofNat K)
def fZ (a:List fG):List (List fG):=a.map (fun e=>[e])
theorem E5:∀{a:List fG},(∀e∈a,e.ok)->nj (fZ a)
 | [],_=>by simp[fZ,nj]
 | e::r,h=>by
  show nj ([e]::fZ r);exact⟨by simp,⟨h e (by simp),trivial⟩,E5 (fun x b=>h x (by grind))⟩
theorem AN {l:List Int} {m:Nat} (hl:l.length < 10000000) (am:m<=1) (hm:Nx ba [iv P,iv 1]=some ⟨iv (ofNat m),.keep⟩) (W:0 < m->GEd l (an .i64 (P - 1))):GCd l P:=by
 intro k hk;have d:l.length < 1000000000:=by omega
 obtain⟨H,k1,⟨b0,a1,a2,_⟩,h1⟩:=aR (n:=3) d hk (by omega) (by omega);obtain⟨x,K,⟨hx,b1,Q,_⟩,b⟩:=aR (n:=4) d a2 (by omega) (by omega);obtain⟨y,M,⟨hy,p,c2,_⟩,f⟩:=aR (n:=3) d Q (by omega) (by omega);have s:an .i64 (an .i64 (ofNat H+1)+ofNat x)=ofNat (H+1+x):=by
  rw[show an .i64 (ofNat H+1)=ofNat (H+1) from bb (by omega),cQ];exact wrap_i64 (by simp;omega) (by simp;omega)
 have bf:an .i64 (ofNat y*ofNat m)=ofNat (y*m):=by
  rw[cQ,show ofNat y*ofNat m=ofNat (y*m) from rfl]
  have:y*m<=2*1:=Nat.mul_le_mul (by omega) am
  exact wrap_i64 (by show _<=((y*m:Nat):Int);omega) (by show ((y*m:Nat):Int)<=_;omega)
 obtain⟨D,a0⟩:∃D,y*m=D:=⟨_,rfl⟩;have bt:D<=2:=by
  have:y*m<=2*1:=Nat.mul_le_mul (by omega) am
  omega
 -- the edits
 obtain⟨v,ks,E,F,e3,e4⟩:∃(v:List fG) (ks:Nat->Nat),v.length=D/\ks 0=M/\(∀i,i<=D->BG l M (ks i))/\∀i e,v[i]?=some e->e.ok/\SA (l.map iN) (an .i64 (P - 1)) (ofNat (ks i)) e.enc (ofNat (ks (i+1))):=by
  rcases Nat.eq_zero_or_pos D with o|o
  ·exact⟨[],fun _=>M,by simp[o],rfl,fun i _=>⟨Nat.le_refl _,c2⟩,fun i e h=>by simp at h⟩
  have a9:0 < m:=by
   rcases Nat.eq_zero_or_pos m with h|h
   ·rw[h,Nat.mul_zero] at a0;omega
   exact h
  exact wy (R:=fun k (e:fG) K=>e.ok/\SA (l.map iN) (an .i64 (P - 1)) (ofNat k) e.enc (ofNat K)) (fun k hk=>by
   obtain⟨e,K,q1,q2,q3⟩:=W a9 k hk;exact⟨e,K,q2,q1,q3⟩) c2 D
 have a4:KD (.loop (roundOf Tryz.f9 0)) (fun e q=>e=.exit 0/\q=(Oh (l.map iN) (ofNat (ks D)) (ofNat H) (an .i64 (an .i64 (ofNat H+1)+ofNat x)) P (dS (aG (fZ v))) 0).al pE)
   ((Mg (l.map iN) (ofNat M) (ofNat H) (an .i64 (an .i64 (ofNat H+1)+ofNat x)) P (dS []) (an .i64 (ofNat y*ofNat m))).al pE):=by
  rw[bf,a0,←F];have e0:(dS []:ac)=dS (aG (fZ (v.take 0))):=by rw[List.take_zero];simp[fZ,aG]
  rw[e0];refine bm (St:=fun j=>(Mg (l.map iN) (ofNat (ks j)) (ofNat H) (an .i64 (an .i64 (ofNat H+1)+ofNat x)) P (dS (aG (fZ (v.take j)))) (ofNat (D - j))).al pE) D ?_ ?_ (i:=0) (Nat.zero_le _)
  ·intro j hj;have J:v[j]?=some v[j]:=List.getElem?_eq_getElem (by omega);have T:v.take (j+1)=v.take j++[v[j]]:=List.take_succ_eq_append_getElem (by omega);generalize v[j]=e at J T;obtain⟨bx,N⟩:=e4 j e J;have hw:an .i64 (ofNat (D - j) - 1)=ofNat (D - (j+1)):=by
    rw[cQ,show ofNat (D - j) - 1=ofNat (D - (j+1)) by simp;omega];exact wrap_i64 (by show _<=((D - (j+1):Nat):Int);omega) (by show ((D - (j+1):Nat):Int)<=_;omega)
   have A:=Sf (pre:=fZ (v.take j)) (x:=[e]) (by rw[fZ,List.length_map,List.length_take];omega);have a3:fZ (v.take (j+1))=fZ (v.take j)++[[e]]:=by rw[T];simp[fZ]
   have S:(ac.own (aG (fZ (v.take j)++[[e]])))=dS (aG (fZ (v.take (j+1)))):=by
    rw[a3,yo];rw[wv];rw[aG];simp
   have o:aF 0 (ofNat (D - j))=true:=br (i:=0) (L:=D - j) (by omega);have E:ir [e]=[e.enc]:=by simp[ir,fG.enc]
   rw[E] at A;clear T a3;obtain⟨ek,⟨dn,ar,⟨sk,sn,b3,sa⟩,bo,fl⟩,fu,⟨tk,t,b4,ta⟩,pb,⟨cp,cs,iz,bk,ez,cD⟩,pk⟩:=e;refine Q5 o (dr (ax sa)) (dr (BZ fl)) (dr (ax ta)) (dq iz (encI bk)) (dq ez (aG cD)) N A ?_;rw[hw,S];exact rfl
  rw[Nat.sub_self];refine Ut rfl ?_;rw[List.take_of_length_le (by omega)];exact⟨rfl,rfl⟩
 have a7:=(e3 D (Nat.le_refl _)).top;obtain⟨z,k5,⟨hz,f1,f2,_⟩,g⟩:=aR (n:=9) d a7 (by omega) (by omega);have ag:an .i64 (2+ofNat z)=ofNat (2+z):=by
  rw[cQ];exact wrap_i64 (by simp;omega) (by simp;omega)
 have V:an .i64 (ofNat (2+z) - 1)=ofNat (1+z):=by
  rw[cQ,show ofNat (2+z) - 1=ofNat (1+z) by simp;omega];exact wrap_i64 (by simp;omega) (by simp;omega)
 -- the instructions
 obtain⟨Y,be⟩:∃Y,H+1+x=Y:=⟨_,rfl⟩;rw[be] at s;have af:0 < Y/\Y < 1000000:=by omega
 obtain⟨B,js,i1,i2,i3,i4⟩:=wy (R:=fun k U K=>Ins.gen U/\tf (l.map iN) (ofNat Y) (ofNat (2+z)) (ofNat v.length) (ofNat k) (Ins.enc U) (ofNat K)) (fun k hk=>by
  obtain⟨U,K,q1,q2,q3⟩:=@Uu _ Y (2+z) v.length _ hl hk af.1 af.2 (by omega) (by omega) (by omega);exact⟨U,K,q2,q1,q3⟩) f2 (1+z)
 have a6:(aG (fZ v)).length=v.length:=by rw[dJ];exact List.length_map _
 have a5:KD (.loop (roundOf Tryz.f9 1)) (fun e q=>e=.exit 2/\q=(Og (l.map iN) (ofNat (js (1+z))) (ofNat H) (an .i64 (an .i64 (ofNat H+1)+ofNat x)) (dS (encI B)) (dS (aG (fZ v))) (an .i64 (2+ofNat z)) (ofNat (1+z))).al pE)
   ((Mf (l.map iN) (ofNat k5) (ofNat H) (an .i64 (an .i64 (ofNat H+1)+ofNat x)) (dS []) (dS (aG (fZ v))) (an .i64 (2+ofNat z)) 0).al pE):=by
  rw[s,ag,←i2];have e0:(dS []:ac)=dS (encI (B.take 0)):=by rw[List.take_zero];rfl
  rw[e0];refine bm (St:=fun j=>(Mf (l.map iN) (ofNat (js j)) (ofNat H) (ofNat Y) (dS (encI (B.take j))) (dS (aG (fZ v))) (ofNat (2+z)) (ofNat j)).al pE) (1+z) ?_ ?_ (i:=0) (Nat.zero_le _)
  ·intro j hj;have J:B[j]?=some B[j]:=List.getElem?_eq_getElem (by omega);have T:B.take (j+1)=B.take j++[B[j]]:=List.take_succ_eq_append_getElem (by omega);generalize B[j]=U at J T;obtain⟨_,N⟩:=i4 j U J;have hw:an .i64 (ofNat j+1)=ofNat (j+1):=bb (by omega);have A:=V7 (pre:=B.take j) (x:=U) (by rw[List.length_take];omega);have S:(ac.own (encI (B.take j++[U])))=dS (encI (B.take (j+1))):=by
    rw[T,yo];rw[uO];simp[encI]
   rw[←a6] at N;clear T;obtain⟨op,bs,a,b',im,nm,az,ar,⟨xk,t,ix,la⟩,C,I,cs⟩:=U;refine Q7 (by rw[V];exact br hj) N A ?_;rw[hw,S];exact rfl
  refine UB (by rw[V];exact cj (by omega)) ?_;rw[List.take_of_length_le (by omega)];exact⟨rfl,rfl⟩
 have a8:=(i3 (1+z) (Nat.le_refl _)).top;obtain⟨w,k7,⟨_,g1,g2,_⟩,G⟩:=aR (n:=Y) d a8 af.1 (by omega);obtain⟨u,k8,⟨_,g3,g4,_⟩,h6⟩:=aR (n:=4) d g2 (by omega) (by omega);rw[←s] at G;obtain⟨c,hc⟩:∃c,aB (ofNat u) 3=c:=⟨_,rfl⟩;have ad:eH (mJ c) 0 (ofNat w) 0 0 [] nl 0 [] 0 nl 0 0 []=(Ins.mk (mJ c) 0 (ofNat w) 0 0 [] false [] (.mk 0 [] 0 []) 0 0 []).enc:=rfl;have A:=V7 (pre:=B) (x:=Ins.mk (mJ c) 0 (ofNat w) 0 0 [] false [] (.mk 0 [] 0 []) 0 0 []) (by omega);rw[←ad] at A;have h:=X7 h1 b f hm a4 g a5 G h6 hc A;rw[s] at h;have Z:∀U∈B++[Ins.mk (mJ c) 0 (ofNat w) 0 0 [] false [] (.mk 0 [] 0 []) 0 0 []],U.gen:=by
  intro U O
  rcases List.mem_append.1 O with O|O
  ·obtain⟨j,hj⟩:=List.mem_iff_getElem?.1 O;exact (i4 j U hj).1
  simp at O;subst O;exact⟨cY,by simp,ad9⟩
 refine⟨.mk (ofNat H) (ofNat Y) false (B++[Ins.mk (mJ c) 0 (ofNat w) 0 0 [] false [] (.mk 0 [] 0 []) 0 0 []]) false (fZ v),k8,⟨?_,rfl,rfl,⟨H,rfl,by omega⟩,?_,?_,Z⟩,⟨?_,g4⟩,?_⟩
 ·simp only[gM.ok];refine⟨fun U O=>CY (Z U O),by rw[List.length_append,i1];simp;omega,by rw[fZ,List.length_map];omega,?_⟩
  ·exact E5 (fun e he=>by
    obtain⟨j,hj⟩:=List.mem_iff_getElem?.1 he;exact (e4 j e hj).1)
 ·show 2<=(B++_).length/\(B++_).length<=10;rw[List.length_append,i1];simp;omega
 ·show (fZ v).length<=2;rw[fZ,List.length_map];omega
 ·have q1:=(e3 D (Nat.le_refl _)).le;have q2:=(i3 (1+z) (Nat.le_refl _)).le;omega
 have E:gM.enc (.mk (ofNat H) (ofNat Y) false (B++[Ins.mk (mJ c) 0 (ofNat w) 0 0 [] false [] (.mk 0 [] 0 []) 0 0 []]) false (fZ v))=aN (ofNat H) (ofNat Y) (.slice (encI (B++[Ins.mk (mJ c) 0 (ofNat w) 0 0 [] false [] (.mk 0 [] 0 []) 0 0 []]))) (sl (aG (fZ v))):=by
  rw[←yS];show aN _ _ (sx false (encI _)) _=_
  have:encI (B++[Ins.mk (mJ c) 0 (ofNat w) 0 0 [] false [] (.mk 0 [] 0 []) 0 0 []])≠[]:=by rw[uO];simp[encI]
  generalize encI (B++[Ins.mk (mJ c) 0 (ofNat w) 0 0 [] false [] (.mk 0 [] 0 []) 0 0 []])=q at this ⊢
  cases q with
  | nil=>exact absurd rfl this
  | cons a r=>rfl
 rw[E];exact h
theorem rz:(⟨[],0,.mk 0 [] 0 [],false,[]⟩:vh).gN:=⟨cY,fun f a=>by grind,by simp⟩
def c0:gM:=.mk 0 0 false [] false []
theorem RY:c0.ok:=by simp[c0,gM.ok,nj]
theorem E7 {l:List Ty} (h:∀t∈l,t.small) (b:l.length<=2):(Ty.mk 3 [] 0 l).gN:=by
 have d:aQ l<=41000000*l.length:=by
  clear b
  induction l with
  | nil=>simp[aQ]
  | cons a r c=>
   have:=(h a (by simp)).1
   grind[aQ]
 refine⟨?_,?_⟩
 ·grind[Ty.size]
 exact⟨by simp[aB],af4 (fun t T=>(h t T).2)⟩
theorem GQ {l:List Int} (hl:l.length < 10000000) (hC:GCd l P):GEd l P:=by
 intro k hk;have G:l.length < 1000000000:=by omega
 obtain⟨t,k1,T,I,w⟩:=Ey hl hk;obtain⟨r,K,⟨hr,b1,Q,_⟩,h1⟩:=aR (n:=6) G I.top (by omega) (by omega);have C:(Ty.mk 3 [] 0 [t]).gN:=E7 (by simpa using T) (by simp);obtain⟨tk,tn,B,la⟩:=t;have w:Sz (l.map iN) (ofNat k) tk tn B (ax la) (ofNat k1):=w
 match r,hr with
 | 0,_=>
  obtain⟨a,M,⟨A,p,c2,_⟩,b⟩:=aR (n:=8) G Q (by omega) (by omega);have J:mq[a]?=some (mq[a]'A):=List.getElem?_eq_getElem A;have af:(mq[a]'A).gN:=(HF.each _ (List.getElem_mem A)).gN;generalize (mq[a]'A)=d at J af;have hi:=VU J;obtain⟨dn,u,⟨sk,sn,a9,sa⟩,az,fl⟩:=d;refine⟨.mk 1 ⟨dn,u,.mk sk sn a9 sa,az,fl⟩ [] (.mk 0 [] 0 []) 0 c0 [],M,?_,⟨by have:=I.le;omega,c2⟩,ae8 w h1 b hi⟩;simp only[fG.ok];exact⟨af,cY,RY⟩
 | 1,_=>
  obtain⟨a,M,⟨A,p,c2,_⟩,b⟩:=aR (n:=3) G Q (by omega) (by omega);obtain⟨z,y⟩:=we a A;refine⟨.mk 3 ⟨[],0,.mk 0 [] 0 [],false,[]⟩ z (.mk 3 [] 0 [.mk tk tn B la]) 0 c0 [],M,?_,⟨by have:=I.le;omega,c2⟩,ae7 w h1 b (uB y)⟩;simp only[fG.ok];exact⟨rz,C,RY⟩
 | 2,_=>
  obtain⟨a,M,⟨A,p,c2,_⟩,b⟩:=aR (n:=2) G Q (by omega) (by omega);refine⟨.mk (an .i64 (4+ofNat a)) ⟨[],0,.mk 0 [] 0 [],false,[]⟩ [] (.mk 0 [] 0 []) 0 c0 [112],M,?_,⟨by have:=I.le;omega,c2⟩,ae6 w h1 b⟩;simp only[fG.ok];exact⟨rz,cY,RY⟩
 | r+3,_=>
  have r0:aB (ofNat (r+3)) 0=false:=dL (by simp;omega);have r1:aB (ofNat (r+3)) 1=false:=dL (by simp;omega);have r2:aB (ofNat (r+3)) 2=false:=dL (by simp;omega);obtain⟨c,M,a2,p,hc⟩:=hC K Q;obtain⟨L,s,iz,g,ez,x⟩:=c;obtain⟨W,S,U,⟨m,Y,bf⟩,⟨a3,be⟩,_⟩:=a2;have S:ez=false:=S;have U:iz=false:=U;have Y:L=ofNat m:=Y;subst S U Y;have D:encI g≠[]:=by
   intro h
   have:=congrArg List.length h
   rw[bH] at this
   have:g.length=0:=this
   have:2<=g.length:=a3
   omega
  have a0:gM.enc (.mk (ofNat m) s false g false x)=aN (ofNat m) s (.slice (encI g)) (sl (aG x)):=by
   show aN _ _ (sx false (encI g)) (sx false (aG x))=_;rw[yS (aG x)];generalize encI g=q at D
   cases q with
   | nil=>exact absurd rfl D
   | cons a r=>rfl
  rw[a0] at hc;have hc:CoT (l.map iN) P (ofNat K) (ofNat m) s (encI g) (aG x) (ofNat M):=hc;have O:∀(z:List UInt8) (o:List Ty),B0 2 [] 0 0 [] 0 nl false nl z 3 [] 0 (sl (ax o)) (ofNat m) (ofNat m) s (.slice (encI g)) (sl (aG x)) []=(fG.mk 2 ⟨[],0,.mk 0 [] 0 [],false,[]⟩ z (.mk 3 [] 0 o) (ofNat m) (.mk (ofNat m) s false g false x) []).enc:=by
   intro z o;show ak.agg ([i64 2,sb [],i64 0,i64 0,sb [],i64 0,nl,bl false,nl,sb z,i64 3,sb [],i64 0,sl (ax o),i64 (ofNat m)]++[i64 (ofNat m),i64 s,.slice (encI g),sl (aG x),sb []])=ak.agg ([i64 2,sb [],i64 0,i64 0,sb [],i64 0,nl,bl false,nl,sb z,i64 3,sb [],i64 0,sl (ax o),i64 (ofNat m)]++[i64 (ofNat m),i64 s,sx false (encI g),sx false (aG x),sb []]);rw[yS (aG x)];generalize encI g=q at D
   cases q with
   | nil=>exact absurd rfl D
   | cons a r=>rfl
  have H:sl (ax [Ty.mk tk tn B la])=.slice [NP tk tn B (ax la)]:=rfl
  by_cases a4:m=1
  ·subst a4;obtain⟨a,k4,⟨A,d1,d2,_⟩,b⟩:=aR (n:=3) G p.top (by omega) (by omega);obtain⟨z,y⟩:=we a A;refine⟨.mk 2 ⟨[],0,.mk 0 [] 0 [],false,[]⟩ z (.mk 3 [] 0 [.mk tk tn B la]) (ofNat 1) (.mk (ofNat 1) s false g false x) [],k4,?_,⟨by have:=I.le;have:=p.le;omega,d2⟩,?_⟩
   ·simp only[fG.ok];exact⟨rz,C,W⟩
   rw[←O,H];exact adu w h1 r0 r1 r2 hc b (uB y)
  have am:aB (ofNat m) 1=false:=dL (by simp;omega);obtain⟨v,k4,⟨V,d1,d2,_⟩,b⟩:=aR (n:=5) G p.top (by omega) (by omega)
  by_cases a7:v=4
  ·subst a7;obtain⟨a,k5,⟨A,f1,f2,_⟩,f⟩:=aR (n:=3) G d2 (by omega) (by omega);obtain⟨z,y⟩:=we a A;refine⟨.mk 2 ⟨[],0,.mk 0 [] 0 [],false,[]⟩ z (.mk 3 [] 0 [.mk tk tn B la]) (ofNat m) (.mk (ofNat m) s false g false x) [],k5,?_,⟨by have:=I.le;have:=p.le;omega,f2⟩,?_⟩
   ·simp only[fG.ok];exact⟨rz,C,W⟩
   rw[←O,H];exact adt w h1 r0 r1 r2 hc am b f (uB y)
  have a8:aB (ofNat v) 4=false:=dL (by simp;omega);obtain⟨o,ks,E,F,e3,e4⟩:=wy (R:=fun k t K=>Ty.small t/\KC _ [cq,.dat (.slice (lJ mq))] (cW (l.map iN) (ofNat k)) 1 (XQ ⟨.dat (Ty.enc t),cW (l.map iN) (ofNat K),1⟩)) (fun k hk=>by
   obtain⟨t,K,q1,q2,q3⟩:=Ey hl hk;exact⟨t,K,q2,q1,q3⟩) d2 m
  have a5:KD (.loop (roundOf Tryz.f33 0)) (fun e q=>e=.exit 1/\q=(Of (l.map iN) (ofNat (ks m)) (ofNat m) s (encI g) (sl (aG x)) (dS (ax o)) (ofNat m)).al tT)
    ((Me (l.map iN) (ofNat k4) (ofNat m) s (encI g) (sl (aG x)) (dS []) 0).al tT):=by
   rw[←F];have e0:(dS []:ac)=dS (ax (o.take 0)):=by rw[List.take_zero];rfl
   rw[e0];refine bm (St:=fun j=>(Me (l.map iN) (ofNat (ks j)) (ofNat m) s (encI g) (sl (aG x)) (dS (ax (o.take j))) (ofNat j)).al tT) m ?_ ?_ (i:=0) (Nat.zero_le _)
   ·intro j hj;have J:o[j]?=some o[j]:=List.getElem?_eq_getElem (by omega);have T:o.take (j+1)=o.take j++[o[j]]:=List.take_succ_eq_append_getElem (by omega);generalize o[j]=tj at J T;obtain⟨_,N⟩:=e4 j tj J;have hw:an .i64 (ofNat j+1)=ofNat (j+1):=bb (by omega);have ad:=U5 (pre:=o.take j) (t:=tj) (by rw[List.length_take];omega);have Z:(ac.own (ax (o.take j++[tj])))=dS (ax (o.take (j+1))):=by
     rw[T,yo];rw[A7];simp[ax]
    clear T;obtain⟨k',n',x',l'⟩:=tj;refine Q3 (br hj) N ad ?_;rw[hw,Z];exact rfl
   refine Uq (cj (by omega)) ?_;rw[List.take_of_length_le (by omega)];exact⟨rfl,rfl⟩
  have ag:=e3 m (Nat.le_refl _);obtain⟨a,k6,⟨A,f1,f2,_⟩,f⟩:=aR (n:=3) G ag.top (by omega) (by omega);obtain⟨z,y⟩:=we a A;have a6:(Ty.mk 3 [] 0 o).gN:=E7 (fun t T=>by
   obtain⟨j,hj⟩:=List.mem_iff_getElem?.1 T;exact (e4 j t hj).1) (by omega)
  refine⟨.mk 2 ⟨[],0,.mk 0 [] 0 [],false,[]⟩ z (.mk 3 [] 0 o) (ofNat m) (.mk (ofNat m) s false g false x) [],k6,?_,⟨by have:=I.le;have:=p.le;have:=ag.le;omega,f2⟩,?_⟩
  ·simp only[fG.ok];exact⟨rz,a6,W⟩
  rw[←O];exact ads w h1 r0 r1 r2 hc am b a8 a5 f (uB y)
theorem UA {l:List Int} (a:l.length < 10000000):GCd l 0:=AN (m:=0) a (by omega) rfl (fun h=>absurd h (by omega))
theorem Uv {l:List Int} (a:l.length < 10000000):GEd l 0:=GQ a (UA a)
theorem LL {l:List Int} (a:l.length < 10000000):GCd l 1:=AN (m:=1) a (by omega) rfl (fun _=>Uv a)
theorem LJ {l:List Int} (a:l.length < 10000000):GEd l 1:=GQ a (LL a)
theorem Uz {l:List Int} (a:l.length < 10000000):GCd l 2:=AN (m:=1) a (by omega) rfl (fun _=>LJ a)
def gp:List Ins->List ac
 | []=>[]
 | x::r=>x.cells.map .dat++gp r
theorem jI:∀l:List Ins,(gp l).length=l.length*15
 | []=>rfl
 | x::r=>by
  have:=jI r
  grind[gp,sT]
theorem tF:∀{l:List Ins} {i:Nat} {x:Ins} (j:Nat),l[i]?=some x->j < 15->(gp l)[i*15+j]?=(x.cells.map ac.dat)[j]?
 | [],i,x,j,h,_=>by grind
 | y::r,0,x,j,h,a=>by
  grind[gp,sT]
 | y::r,i+1,x,j,h,a=>by
  rw[gp,List.getElem?_append_right (by grind[sT]),List.length_map,sT];rw[show (i+1)*15+j - 15=i*15+j by omega];exact tF j (by grind) a
theorem Cz:∀l:List Ins,((encI l).flatMap ak.cells).map ac.dat=gp l
 | []=>rfl
 | x::r=>by
  rw[encI,List.flatMap_cons,List.map_append,Cz r];rfl
theorem afR:∀S:List ak,aW (S.map ac.dat)=true
 | []=>rfl
 | d::r=>by
  have:=afR r
  show (er (ac.dat d)&&aW (r.map ac.dat))=true;rw[this];rfl
theorem Ar:∀(a b:List ac),aW a=true->aW b=true->aW (a++b)=true
 | [],b,_,h=>h
 | x::r,b,h,c=>by
  have h:(er x&&aW r)=true:=h;rw[Bool.and_eq_true] at h;show (er x&&aW (r++b))=true;rw[h.1,Ar r b h.2 c];rfl
theorem qY:∀l:List Ins,aW (gp l)=true
 | []=>rfl
 | x::r=>Ar _ _ (afR _) (qY r)
theorem sL:∀(c:Nat) (d l:List ac),aW d=true->aW l=true->aW (bI c d l)=true
 | c,[],l,_,h=>by cases c <;> cases l <;> exact h
 | 0,v::d,[],_,_=>rfl
 | c+1,v::d,[],_,_=>rfl
 | 0,v::d,a::l,h,b=>by
  have h:(er v&&aW d)=true:=h;have b:(er a&&aW l)=true:=b;rw[Bool.and_eq_true] at h b;show (er v&&aW (bI 0 d l))=true;rw[h.1,sL 0 d l h.2 b.2];rfl
 | c+1,v::d,a::l,h,b=>by
  have b:(er a&&aW l)=true:=b;rw[Bool.and_eq_true] at b;show (er a&&aW (bI c (v::d) l))=true;rw[b.1,sL c (v::d) l h b.2];rfl
theorem QI {m:Name} {n:Nat} (h:n < 1000000000):kb ba 23 [.win m 15 0 n] none=some ⟨iv (ofNat n),.keep⟩:=by
 have e:kb ba 23 [.win m 15 0 n] none=if Nat.ble n lim=true then some ⟨iv (ofNat n),.keep⟩ else none:=by kernel_rfl
 rw[e,if_pos];rw[Nat.ble_eq];simp only[lim];omega
theorem Uh {m:Name} {n k:Nat} (h:k < n):ap ba 23 [.win m 15 0 n,iv (ofNat k)]=some ⟨.ptr m (0+k*15),.keep⟩:=
 Go.Tp.uA (m:=m) (off:=0) (s:=15) DD kJ.symm h
theorem S2 {m:Name} {n k:Nat} (h:k<=n) (x:Operand):fF ba 23 none (some x) none [.win m 15 0 n,iv (ofNat k)]=some ⟨.win m 15 0 k,.keep⟩:=by
 have e:fF ba 23 none (some x) none [.win m 15 0 n,iv (ofNat k)]=if (Nat.ble 0 k&&Nat.ble k n&&Nat.beq 15 rE.size)=true then some ⟨.win m 15 0 k,.keep⟩ else none:=by kernel_rfl
 simp_all[kJ]
theorem VP {t:TypeId} {i:TI} {m:Name} {a:Nat} {c:List ac} {b:List ak} (T:ba.ty t=some i) (A:i.isAgg=false) (h:c[a]?=some (.dat (.slice b))) :
  eB ba false t [.ptr m a] (some (.cells c))=some ⟨.dat (.slice b),.keep⟩:=by
 simp[eB,T,Tp.loadCells,A,h,xj]
theorem Am:∀{a b:List (List fG)},nj a->nj b->nj (a++b)
 | [],b,_,h=>h
 | x::r,b,h,c=>by
  exact⟨h.1,h.2.1,Am h.2.2 c⟩
theorem Tb {l:List Ins} (N:l.length < 1000000) (e:l≠[]):bB ba true 23 [.own [],.dat (.slice (encI l))] none=some ⟨.undef,.grow (.cells (gp l)) 15 l.length⟩:=by
 obtain⟨x,r,rfl⟩:∃x r,l=x::r:=by cases l with|nil=>exact absurd rfl e|cons x r=>exact⟨x,r,rfl⟩
 have a:∀(d:ak) (S:List ak),bB ba true 23 [.own [],.dat (.slice (d::S))] none=jB ba rE 0 [] (.dat (.slice (d::S))):=fun d S=>by kernel_rfl
 have f:∀(x:ac),jB ba rE 0 [] x=(match gS bW.nA rE [] x with
  | some S=>if (Nat.ble ((0+S.length)*rE.bytes) 140737488355328&&Nat.ble (0+S.length) lim&&Nat.ble (0*15) ([]:List ac).length&&!cd (fb (0*15) []++(S.flatMap ak.cells).map .dat))=true
   then some ⟨.undef,.grow (.cells (fb (0*15) []++(S.flatMap ak.cells).map .dat)) 15 (0+S.length)⟩ else none
  | none=>none):=fun x=>by kernel_rfl
 have g:rE.bytes<=1000:=fD (by kernel_rfl);have b:gS bW.nA rE [] (.dat (.slice (encI (x::r))))=some (encI (x::r)):=by
  have h:sizedB (14+1) ([]:List ak)=true:=rfl;have o:Nat.blt 0 rE.bytes=true:=by kernel_rfl
  have i:(([]:List ak).length+(encI (x::r)).length)*rE.bytes<=140737488355328:=by
   rw[bH]
   calc (0+(x::r).length)*rE.bytes<=1000000*1000:=Nat.mul_le_mul (by omega) g
    _<=140737488355328:=by decide
  have c:([]:List ak).length+(encI (x::r)).length<=lim:=by rw[bH];simp only[List.length_nil,lim];omega
  have j:sizedB (14+1) (encI (x::r))=true:=sW (x::r);simp only[gS,kJ,bW.nA,j,h,o,gC i,gC c];rfl
 rw[show encI (x::r)=x.enc::encI r from rfl] at b ⊢;rw[a,f,b];dsimp only;rw[show x.enc::encI r=encI (x::r) from rfl,Cz,bH,Nat.zero_add];rw[show fb (0*15) ([]:List ac)++gp (x::r)=gp (x::r) from rfl];rw[if_pos];have E:cd (gp (x::r))=false:=LX (by rw[jI];simp;omega);rw[E];simp only[Bool.and_eq_true,Nat.ble_eq,Bool.not_false,and_true];refine⟨⟨?_,?_⟩,?_⟩
 ·calc (x::r).length*rE.bytes<=1000000*1000:=Nat.mul_le_mul (by omega) g
   _<=140737488355328:=by decide
 ·simp only[lim];omega
 simp
theorem WC {t:TypeId} {i:TI} (T:ba.ty t=some i) {m:Name} {c:Nat} {v:ac} {K:List ac} (a:(aY v).length=i.size) (b:c+i.size<=K.length) (f:dU (aY v)=true) (g:0 < i.size) (G:3<=K.length) :
  cG ba t [.ptr m c,v] (some (.cells K))=some ⟨.undef,.set (.cells (bI c (aY v) K))⟩:=by
 have d:cd (bI c (aY v) K)=false:=LX (by rw[ib];grind);simp only[cG,T];grind
def QX (l:List ak) (K:Int) (R:List ac):Heap:=[(.out 1,.cells R),(.out 0,.cells [.dat (.slice l),iv K])]
theorem pt {g:FuncId} {b:List ac} {v:ac} (R:List ac) (h:KC g b (cW l k) 1 (XQ ⟨v,cW l K,1⟩)) (A:gZ 1 b=false) (d:il (fun _=>0) b=b) (V:fx (ig (fun _=>0) 1 2) v=v) :
  KC g b (QX l k R) 2 (XQ ⟨v,QX l K R,2⟩):=by
 have E:∀(k:Int) (ρ:Nat->Nat),ρ 0=0->jJ ρ (cW l k)=cW l k:=by
  intro k ρ o;simp[cW,jJ,pW,wX,il,fx,o]
 have c:=ay.frame h (fun _=>0) (heap:=QX l k R) (rest:=[(.out 1,.cells R)]) (next:=2) (by
  exact List.Perm.swap _ _ _) (by rfl) (by simp[gH,cW,BS,gZ,iq]) (by rfl) A
 rw[d] at c;refine ay.zQ c ?_;rintro j e f ⟨m,a,i,⟨rfl,rfl,rfl⟩,rfl,rfl,rfl⟩;rw[V,E _ _ rfl];exact⟨QX l K R,List.Perm.swap _ _ _,rfl,rfl,rfl⟩
theorem adH (z:Bool):∀l:List ak,dK (.dat (sx z l))=some (sx z l)
 | []=>by cases z <;> rfl
 | _::_=>rfl
theorem adI:∀l:List ak,dK (.dat (sl l))=some (sl l)
 | []=>rfl
 | _::_=>rfl
theorem V5 (t:Ty):(t.cells.map ac.dat).map dK=t.cells.map some:=by
 obtain⟨k,n,x,a⟩:=t;simp only[Ty.cells,List.map_cons,List.map_nil,adI];rfl
theorem Hs (x:Ins):(x.cells.map ac.dat).map dK=x.cells.map some:=by
 unfold Ins.cells;simp only[List.map_append,List.map_cons,List.map_nil,adH,V5];rfl
theorem yp {α β:Type} (f:α->β):∀(b:Nat) (c l:List α),(bI b c l).map f=bI b (c.map f) (l.map f)
 | b,[],l=>by cases b <;> cases l <;> rfl
 | 0,n::c,[]=>rfl
 | b+1,n::c,[]=>rfl
 | 0,n::c,a::l=>by
  show f n::(bI 0 c l).map f=f n::bI 0 (c.map f) (l.map f);rw[yp f 0 c l]
 | b+1,n::c,a::l=>by
  show f a::(bI b (n::c) l).map f=f a::bI b ((n::c).map f) (l.map f);rw[yp f b (n::c) l]
theorem tE {l:List Ins}:∀(f:Nat) (d:ak),(encI l)[f]?=some d->d.cells.length=15/\∀j c,d.cells[j]?=some c->∃a,(gp l)[f*15+j]?=some a/\dK a=some c:=by
 intro f d D;rw[gR,List.getElem?_map] at D
 cases g:l[f]? with
 | none=>grind
 | some x=>
  rw[g] at D;simp at D;subst D;refine⟨qo x,fun j c e=>?_⟩;have h:j < 15:=by grind[qo]
  rw[tF j g h];have e:x.cells[j]?=some c:=e;refine⟨.dat c,by grind,?_⟩;have b:((x.cells.map ac.dat).map dK)[j]?=(x.cells.map some)[j]?:=by rw[Hs]
  grind
theorem Ta {l:List Ins} {i f:Nat} {x n:Ins} {g:List ac} {S:List ak} (s:l[i]?=some x) (u:f+g.length<=15) (V:g.map dK=S.map some) (o:n.cells=bI f S x.cells) :
  ∀(k:Nat) (d:ak),(encI (l.set i n))[k]?=some d->d.cells.length=15/\∀j c,d.cells[j]?=some c->∃a,(bI (0+i*15+f) g (gp l))[k*15+j]?=some a/\dK a=some c:=by
 have t:i < l.length:=(List.getElem?_eq_some_iff.1 s).1;intro k d D;rw[gR,List.getElem?_map] at D
 cases h:(l.set i n)[k]? with
 | none=>rw[h] at D;simp at D
 | some y=>
  rw[h] at D;simp at D;subst D;refine⟨qo y,fun j c m=>?_⟩;have r:j < 15:=by have:=(List.getElem?_eq_some_iff.1 m).1;rw[qo] at this;exact this
  have m:y.cells[j]?=some c:=m;rw[List.getElem?_set] at h
  by_cases q:i=k
  ·subst q;rw[if_pos rfl,if_pos t] at h;simp at h;subst h;have e:(bI (0+i*15+f) g (gp l))[i*15+j]?=(bI f g (x.cells.map ac.dat))[j]?:=by
    rw[gq,gq,tF j s r,jI,List.length_map,sT]
    by_cases p:f<=j/\j < f+g.length
    ·rw[if_pos ⟨by omega,by omega,by omega⟩,if_pos ⟨p.1,p.2,r⟩];congr 1;omega
    rw[if_neg (by omega),if_neg (by omega)]
   rw[e];have b:((bI f g (x.cells.map ac.dat)).map dK)[j]?=(n.cells.map some)[j]?:=by rw[yp,V,Hs,o,yp]
   rw[List.getElem?_map,List.getElem?_map,m] at b
   cases A:(bI f g (x.cells.map ac.dat))[j]? with
   | none=>rw[A] at b;simp at b
   | some a=>rw[A] at b;exact⟨a,rfl,by simpa using b⟩
  rw[if_neg q] at h;have e:(bI (0+i*15+f) g (gp l))[k*15+j]?=(gp l)[k*15+j]?:=by
   rw[gq,if_neg (by omega)]
  rw[e];exact (tE k y.enc (by rw[gR,List.getElem?_map,h];rfl)).2 j c m
end Go.Proofs.YtmpmgmmcaghacaaGreatDoor
