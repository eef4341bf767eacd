/- Part 0 of what the last text proves. -/
import Derived.Orders
import Derived.Laws.Cells
import Derived.Laws.World
import Derived.Laws.Rows
import Derived.Laws.Closers25b
import Derived.Laws.Sem
import Derived.Laws.BytesString
import Derived.Laws.Tables
import Derived.Great.FillDense
import Derived.Great.BuildSlice
import Derived.Laws.AppendOwn
import Derived.Deep.AppendSrc
set_option linter.unusedVariables false
set_option linter.unusedSimpArgs false
open Int (ofNat)
set_option maxRecDepth 100000
set_option maxHeartbeats 4000000
namespace Go.Tp
inductive ak where
 |flat (v:Value)
 |slice (es:List ak)
 |agg (cs:List ak)
 deriving Inhabited
def ak.cells:ak->List ak
 | .agg c=>c
 | .flat v=>[.flat v]
 | .slice a=>[.slice a]
def bJ:Value->Bool
 | .int k n=>decide (k.min<=n)&&decide (n<=k.max)
 | .string s=>decide (s.size<=9223372036854775807)
 | .bool _|.float _ _|.complex _ _ _|.pointer none|.map none|.chan none|.nilFunc|.nilIface=>true
 | .iface _ v=>bJ v
 | .slice none 0 0=>true
 | _=>false
def jq:Nat:=9223372036854775807
def lim:Nat:=68719476736
abbrev Own:=Nat->Nat->Prop
inductive eU (w:World) (R:Own):Value->ak->Prop
 |flat {v:Value} (h:bJ v=true):eU w R v (.flat v)
 |nil (a:Option Addr) (cap:Nat):eU w R (.slice a 0 cap) (.slice [])
 |slice (b off cap s:Nat) (es:List ak) (vs:Nat->Nat->Value) (hs:0 < s) (hlen:∀e∈es,e.cells.length=s)
   (hcap:es.length<=cap) (hb:es.length<=lim)
   (hcell:∀i j,i < es.length->j < s->w.cell? ⟨b,off+i*s+j,none⟩=some (vs i j)/\¬R b (off+i*s+j))
   (hrep:∀i j (e c:ak),es[i]?=some e->e.cells[j]?=some c->eU w R (vs i j) c) :
   eU w R (.slice (some ⟨b,off,none⟩) es.length cap) (.slice es)
def dz (w:World) (R:Own):List Value->List ak->Prop
 | [],[]=>True
 | v::b,c::a=>eU w R v c/\dz w R b a
 | _,_=>False
def ve (w:World) (R:Own) (v:Value):ak->Prop
 | .agg c=>∃a:List Value,v=.agg a.toArray/\dz w R a c
 | .flat u=>eU w R v (.flat u)
 | .slice b=>eU w R v (.slice b)
def eN (w:World) (R:Own) (b a:Nat):List ak->Prop
 | []=>True
 | c::d=>(∃v,w.cell? ⟨b,a,none⟩=some v/\¬R b a/\eU w R v c)/\eN w R b (a+1) d
def eD (w:World) (b:Nat):Nat:=match w.heap[b]? with|some (.cells a _ _)=>a.size|_=>0
structure Step (w:World) (R:Own) (w':World) (R':Own):Prop where
 os:w'.os=w.os
 tape:w'.tape=w.tape
 output:w'.output=w.output
 size:w.heap.size<=w'.heap.size
 block:∀b,b < w.heap.size->(∀off,¬R b off)->w'.heap[b]?=w.heap[b]?/\∀off,¬R' b off
 cell:∀b off,b < w.heap.size->¬R b off->¬R' b off/\w'.cell? ⟨b,off,none⟩=w.cell? ⟨b,off,none⟩
 sizes:∀b,b < w.heap.size->eD w' b=eD w b
theorem Step.refl (w:World) (R:Own):Step w R w R:=
 ⟨rfl,rfl,rfl,Nat.le_refl _,fun _ _ h=>⟨rfl,h⟩,fun _ _ _ h=>⟨h,rfl⟩,fun _ _=>rfl⟩
theorem Step.trans {w i j:World} {R f g:Own} (h:Step w R i f) (k:Step i f j g):Step w R j g where
 os:=k.os.trans h.os
 tape:=k.tape.trans h.tape
 output:=k.output.trans h.output
 size:=Nat.le_trans h.size k.size
 block b d e:=by
  obtain⟨E,a⟩:=h.block b d e;obtain⟨F,l⟩:=k.block b (Nat.lt_of_lt_of_le d h.size) a;grind
 cell b c d e:=by
  obtain⟨a,E⟩:=h.cell b c d e;obtain⟨l,F⟩:=k.cell b c (Nat.lt_of_lt_of_le d h.size) a;grind
 sizes b d:=(k.sizes b (Nat.lt_of_lt_of_le d h.size)).trans (h.sizes b d)
theorem Av {w:World} {b c:Nat} {v:Value} (h:w.cell? ⟨b,c,none⟩=some v):b < w.heap.size:=
 block_lt_of_cell (a:=⟨b,c,none⟩) h
theorem eU.step {w n:World} {R m:Own} (y:Step w R n m) {v:Value} {d:ak} (h:eU w R v d):eU n m v d:=by
 induction h with
 | flat h=>exact .flat h
 | nil a c=>exact .nil a c
 | slice b l c s o z u k g q f _ x=>
  refine .slice b l c s o z u k g q (fun i j r t=>?_) x;obtain⟨e,p⟩:=f i j r t;obtain⟨A,B⟩:=y.cell b _ (Av e) p;grind
theorem dz.step {w e:World} {R a:Own} (b:Step w R e a):∀{d:List Value} {c:List ak},dz w R d c->dz e a d c
 | [],[],_=>trivial
 | _::_,_::_,h=>⟨h.1.step b,dz.step b h.2⟩
 | [],_::_,h=>h.elim
 | _::_,[],h=>h.elim
theorem ve.step {w c:World} {R b:Own} (a:Step w R c b) {v:Value}:∀{d:ak},ve w R v d->ve c b v d
 | .agg _,⟨f,e,h⟩=>⟨f,e,h.step a⟩
 | .flat _,h=>eU.step a h
 | .slice _,h=>eU.step a h
theorem eN.step {w h:World} {R g:Own} (f:Step w R h g) {b:Nat}:∀{d:Nat} {c:List ak},eN w R b d c->eN h g b d c
 | _,[],_=>trivial
 | d,_::_,⟨⟨v,e,j,k⟩,T⟩=>by
  obtain⟨a,i⟩:=f.cell b d (Av e) j;exact⟨⟨v,i.trans e,a,k.step f⟩,eN.step f T⟩
def aed (w:World) (R:Own) (g:Nat) (c:List ak):Prop:=eN w R g 0 c/\g < w.heap.size/\eD w g=c.length
theorem aed.step {w d:World} {R b:Own} {g:Nat} {c:List ak} (h:aed w R g c) (a:Step w R d b):aed d b g c:=
 ⟨eN.step a h.1,Nat.lt_of_lt_of_le h.2.1 a.size,(a.sizes g h.2.1).trans h.2.2⟩
inductive Name where
 |loc (i:Nat)
 |out (o:Nat)
 deriving DecidableEq,Inhabited
inductive ac where
 |dat (d:ak)
 |own (es:List ak)
 |ref (cs:List ak)
 |ptr (n:Name) (off:Nat)
 |map (n:Name)
 |win (n:Name) (s off len:Nat)
 |fn (f:Fn) (first captured:List ac)
 |agg (cs:List ac)
 |tup (vs:List ac)
 |undef
 deriving Inhabited
inductive aL where
 |cells (cs:List ac)
 |map (es:List (Value×ak))
 deriving Inhabited
structure aa where
 tmps:List ac
 locs:List (Name×aL)
 heap:List (Name×aL)
 next:Nat
def mQ:TypeId:=5
def sj:TypeId:=77
def fy:List ak->Bool
 | .flat (.int .u8 _)::_=>true
 | _=>false
def yw:ac->Bool
 | .dat (.flat (.pointer none))=>true
 | .ptr _ _=>true
 | _=>false
def cd:List ac->Bool
 | [p,.own _]=>yw p
 | [p,.dat (.slice _)]=>yw p
 | [p,.dat (.flat (.slice none 0 0))]=>yw p
 | _=>false
inductive iV (w:World) (R:Own):Value->List ak->List Nat->Prop
 |nil:iV w R (.slice none 0 0) [] []
 |row (b cap s:Nat) (es:List ak) (vs:Array Value) (t:TypeId) (hblk:w.heap[b]?=some (.cells vs t (0,0)))
   (hs0:0 < s) (hs:∀e∈es,e.cells.length=s) (hcap:es.length<=cap) (he:es=[]->cap=0) (hin:cap*s<=vs.size)
   (h:eU w R (.slice (some ⟨b,0,none⟩) es.length cap) (.slice es))
   (hsp:∀x,es.length*s<=x->x < cap*s->R b x) (hty:fy es=true->t=mQ/\∀x,vs.size<=x->R b x) :
   iV w R (.slice (some ⟨b,0,none⟩) es.length cap) es [b]
def xO (a:Array MapEntry) (b:Nat):Prop:=(∀x∈a.toList,x.born < b)/\(a.toList.map (·.born)).Nodup
section
variable (w:World) (R:Own) (N:Name->Option Nat)
mutual
def ai:ac->Value->List Nat->Prop
 | .dat d,v,B=>B=[]/\ve w R v d
 | .own p,v,B=>iV w R v p B
 | .ref c,v,B=>B=[]/\∃b e,v=.pointer (some ⟨b,e,none⟩)/\eN w R b e c
 | .ptr n e,v,B=>B=[]/\∃b,N n=some b/\v=.pointer (some ⟨b,e,none⟩)
 | .map n,v,B=>B=[]/\∃b,N n=some b/\v=.map (some b)
 | .win n s e k,v,B=>B=[]/\∃b i,N n=some b/\v=.slice (some ⟨b,e,none⟩) k i/\k<=i/\(0 < s/\i<=jq)/\b < w.heap.size/\e+i*s=eD w b
 | .fn f j g,v,B=>B=[]/\∃h m,v=.func f h.toArray m.toArray/\ah j h []/\ah g m []
 | .agg c,v,B=>∃h,v=.agg h.toArray/\ah c h B
 | .tup c,v,B=>∃h,v=.tuple h.toArray/\ah c h B
 | .undef,_,B=>B=[]
def ah:List ac->List Value->List Nat->Prop
 | [],h,B=>h=[]/\B=[]
 | a::o,h,B=>∃v l r Q,h=v::l/\B=r++Q/\ai a v r/\ah o l Q
end
def dQ:List (Value×ak)->List MapEntry->Prop
 | [],c=>c=[]
 |(k,d)::b,c=>∃e a,c=e::a/\e.key=k/\ve w R e.val d/\dQ b a
def aI:aL->Nat->List Nat->Prop
 | .cells c,b,B=>∃f e g,w.heap[b]?=some (.cells f e (0,0))/\ah w R N (c++List.replicate g .undef) f.toList B/\(∀j,j < f.size->R b j)/\(cd c=true->e=sj/\g=0)
 | .map h,b,B=>B=[]/\R b 0/\∃d a,w.heap[b]?=some (.map d a)/\dQ w R h d.toList/\xO d a
def aj:List (Name×aL)->List Nat->Prop
 | [],B=>B=[]
 |(n,o)::a,B=>∃b r Q,B=b::(r++Q)/\N n=some b/\aI w R N o b r/\aj a Q
end
abbrev bA:=Nat->Option (List ak)
def outs (N:Name->Option Nat):Name->Option Nat
 | .loc _=>none
 | .out o=>N (.out o)
structure dw (G:bA) (w:World) (R:Own) (N:Name->Option Nat) (tmps:List Value) (s:aa) (cv:Value) (v:ac) (bsV bsT bsL bsH bsF:List Nat):Prop where
 val:ai w R N v cv bsV
 tmps:ah w R N s.tmps tmps bsT
 locs:aj w R N s.locs bsL
 heap:aj w R (outs N) s.heap bsH
 nodup:(bsV++(bsT++(bsL++(bsH++bsF)))).Nodup
 next:∀o b,N (.out o)=some b->o < s.next
 glob:∀g cs,G g=some cs->aed w R g cs
 frame:∀b∈bsF,b < w.heap.size
structure bp (w:World) (R:Own) (w':World) (R':Own) (bs:List Nat):Prop where
 step:Step w R w' R'
 same:∀b∈bs,b < w.heap.size->w'.heap[b]?=w.heap[b]?/\∀off,R b off->R' b off
theorem bp.sub {w e:World} {R c:Own} {B a:List Nat} (h:bp w R e c B) (s:∀b∈a,b∈B):bp w R e c a:=
 ⟨h.step,fun b d=>h.same b (s b d)⟩
theorem bN {w:World} {b:Nat} {o:Obj} (h:w.heap[b]?=some o):b < w.heap.size:=by grind
theorem dF {w:World} {b:Nat} {a:Array Value} {t:TypeId} {f:Nat×Nat} (h:w.heap[b]?=some (.cells a t f)):eD w b=a.size:=by simp[eD,h]
theorem fe {w a:World} {b:Nat} (h:a.heap[b]?=w.heap[b]?):eD a b=eD w b:=by simp[eD,h]
theorem iV.keep {w o:World} {R n:Own} {v:Value} {g:List ak} {B:List Nat} (h:iV w R v g B) (k:bp w R o n B):iV o n v g B:=by
 cases h with
 | nil=>exact .nil
 | row b i s g u t c l r e q j h m f=>
  obtain⟨E,F⟩:=k.same b (by simp) (bN c);exact .row b i s g u t (E.trans c) l r e q j (h.step k.step) (fun x a p=>F _ (m x a p)) (fun d=>⟨(f d).1,fun x h=>F _ ((f d).2 x h)⟩)
section
variable {w w':World} {R R':Own} {N:Name->Option Nat}
mutual
theorem ai.keep:∀{a:ac} {v:Value} {B:List Nat},ai w R N a v B->bp w R w' R' B->ai w' R' N a v B
 | .dat _,_,_,h,k=>by exact⟨h.1,h.2.step k.step⟩
 | .own _,_,_,h,k=>by simp only[ai] at h ⊢;exact h.keep k
 | .ref _,_,_,h,k=>by
  obtain⟨m,b,q,e,i⟩:=h;exact⟨m,b,q,e,i.step k.step⟩
 | .ptr _ _,_,_,h,_=>by exact h
 | .map _,_,_,h,_=>by exact h
 | .win _ _ _ _,_,_,h,k=>by
  obtain⟨m,b,p,i,f,g,G,t,y⟩:=h;exact⟨m,b,p,i,f,g,G,Nat.lt_of_lt_of_le t k.step.size,by rw[k.step.sizes b t];grind⟩
 | .fn _ l d,_,_,h,k=>by
  obtain⟨m,j,x,e,i,f⟩:=h;have u:bp w R w' R' []:=k.sub (by simp);exact⟨m,j,x,e,ah.keep (as:=l) i u,ah.keep (as:=d) f u⟩
 | .agg c,_,_,h,k=>by
  obtain⟨j,e,i⟩:=h;exact⟨j,e,ah.keep (as:=c) i k⟩
 | .tup c,_,_,h,k=>by
  obtain⟨j,e,i⟩:=h;exact⟨j,e,ah.keep (as:=c) i k⟩
 | .undef,_,_,h,_=>by exact h
theorem ah.keep:∀{as:List ac} {j:List Value} {B:List Nat},ah w R N as j B->bp w R w' R' B->ah w' R' N as j B
 | [],_,_,h,_=>by exact h
 | a::as,_,_,h,k=>by
  obtain⟨v,s,r,Q,E,F,m,i⟩:=h;exact⟨v,s,r,Q,E,F,ai.keep (a:=a) m (k.sub (by grind)),ah.keep (as:=as) i (k.sub (by grind))⟩
end
theorem dQ.step (j:Step w R w' R'):∀{i:List (Value×ak)} {c:List MapEntry},dQ w R i c->dQ w' R' i c
 | [],_,h=>h
 |(_,_)::_,_,⟨e,d,a,b,f,g⟩=>⟨e,d,a,b,f.step j,dQ.step j g⟩
theorem aI.keep {o:aL} {b:Nat} {B:List Nat} (h:aI w R N o b B) (k:bp w R w' R' (b::B)):aI w' R' N o b B:=by
 cases o with
 | cells c=>
  obtain⟨s,e,r,d,m,g,n⟩:=h;obtain⟨E,F⟩:=k.same b (by simp) (bN d);exact⟨s,e,r,E.trans d,m.keep (k.sub (by grind)),fun j q=>F _ (g j q),n⟩
 | map u=>
  obtain⟨l,g,f,a,d,m,i⟩:=h;obtain⟨E,F⟩:=k.same b (by simp) (bN d);exact⟨l,F _ g,f,a,E.trans d,m.step k.step,i⟩
theorem aj.keep:∀{c:List (Name×aL)} {B:List Nat},aj w R N c B->bp w R w' R' B->aj w' R' N c B
 | [],_,h,_=>h
 |(_,_)::_,_,⟨b,r,Q,e,g,a,f⟩,k=>
  ⟨b,r,Q,e,g,a.keep (k.sub (by grind)),aj.keep f (k.sub (by grind))⟩
end
theorem ah.length {w:World} {R:Own} {N:Name->Option Nat}:∀{c:List ac} {d:List Value} {B:List Nat},ah w R N c d B->d.length=c.length
 | [],_,_,h=>by simp[h.1]
 | _::_,_,_,h=>by
  obtain⟨v,e,r,Q,E,F,a,b⟩:=h;simp[E,b.length]
theorem ah.split {w:World} {R:Own} {N:Name->Option Nat}:∀{l:List ac} {m:List Value} {B:List Nat} {t:Nat} {a:ac},ah w R N l m B->l[t]?=some a->
  ∃d o c v,B=d++o++c/\m[t]?=some v/\ai w R N a v o ∧
   ∀(i:World) (f:Own) (j:ac) (g:Value) (e:List Nat),bp w R i f (d++c)->ai i f N j g e->ah i f N (l.set t j) (m.set t g) (d++e++c)
 | [],_,_,_,_,_,T=>by grind
 | x::l,m,B,0,a,h,T=>by
  obtain⟨v,n,r,Q,E,F,p,b⟩:=h;simp at T;subst T;refine⟨[],r,Q,v,by grind,by grind,p,fun i f j g e k q=>?_⟩;subst E;exact⟨g,n,e,Q,rfl,by simp,q,b.keep (k.sub (by simp))⟩
 | x::l,m,B,t+1,a,h,T=>by
  obtain⟨v,n,r,Q,E,F,p,b⟩:=h;obtain⟨d,o,c,u,z,A,s,y⟩:=ah.split b T;refine⟨r++d,o,c,u,by grind,by grind,s,fun i f j g e k q=>?_⟩;subst E;exact⟨v,_,r,d++e++c,rfl,by simp,p.keep (k.sub (by grind)),y i f j g e (k.sub (by grind)) q⟩
def eA (n:Name):List (Name×aL)->Option aL
 | []=>none
 |(m,o)::a=>if m=n then some o else eA n a
def iX (n:Name) (b:aL):List (Name×aL)->List (Name×aL)
 | []=>[]
 |(m,o)::a=>if m=n then (m,b)::a else (m,o)::iX n b a
def iY (n:Name):List (Name×aL)->List (Name×aL)
 | []=>[]
 |(m,o)::r=>if m=n then iY n r else (m,o)::iY n r
theorem aj.split {w:World} {R:Own} {N:Name->Option Nat}:∀{q:List (Name×aL)} {B:List Nat} {n:Name} {o:aL},aj w R N q B->eA n q=some o->
  ∃g b r d,B=g++(b::r)++d/\N n=some b/\aI w R N o b r ∧
   ∀(j:World) (i:Own) (l:aL) (f:List Nat),bp w R j i (g++d)->aI j i N l b f->aj j i N (iX n l q) (g++(b::f)++d)
 | [],_,_,_,_,h=>by grind[eA]
 |(m,x)::q,B,n,o,h,J=>by
  obtain⟨b,r,Q,e,s,a,v⟩:=h;simp only[eA] at J
  split at J
  ·rename_i t;subst t;simp at J;subst J;refine⟨[],b,r,Q,by grind,s,a,fun j i l f k u=>?_⟩;simp only[iX,if_true];exact⟨b,f,Q,by simp,s,u,v.keep (k.sub (by simp))⟩
  rename_i t;obtain⟨g,c,p,d,C,y,z,A⟩:=aj.split v J;refine⟨b::(r++g),c,p,d,by grind,y,z,fun j i l f k u=>?_⟩;simp only[iX,if_neg t];exact⟨b,r,g++(c::f)++d,by simp,s,a.keep (k.sub (by grind)),
   A j i l f (k.sub (by grind)) u⟩
end Go.Tp
namespace Go.Tp
inductive TD where
 |bool|int (k:IntKind)|string|pointer|slice (elem:TypeId)|map (key elem:TypeId)|func
 |struct (fields:List (Nat×TypeId))
 |array (len:Nat) (elem:TypeId)
 deriving Inhabited
structure TI where
 desc:TD
 size:Nat
 bytes:Nat
 zero:Value
 deriving Inhabited
structure bW where
 wrap:IntKind->Int->Int
 add:IntKind->Int->Int->Int
 dif:IntKind->Int->Int->Int
 mul:IntKind->Int->Int->Int
 lt:Int->Int->Bool
 eq:Int->Int->Bool
 slt:ByteArray->ByteArray->Bool
 seq:ByteArray->ByteArray->Bool
 cat:ByteArray->ByteArray->Option ByteArray
 elt:List ak->Int->Option ak
 byte:ByteArray->Int->Option UInt8
 sub:Nat->List ak->Option Int->Option Int->Option (List ak)
 ssub:ByteArray->Option Int->Option Int->Option ByteArray
 app:Nat->Nat->List ak->List ak->Option (List ak)
 key:TypeDesc->Value->List (Value×ak)->Option (Option (Nat×ak))
 len:List ak->Nat
 slen:ByteArray->Nat
 rem:Int->Int->Int
 quo:Int->Int->Int
 mx:Int->Int->Int
structure bz where
 ty:TypeId->Option TI
 fn:FuncId->Bool
 pr:bW
def findKey (a:TypeDesc) (k:Value):List (Value×ak)->Nat->Option (Option (Nat×ak))
 | [],_=>some none
 |(x,d)::b,i=>
  match Instr.sameNow a k x with
  | some true=>some (some (i,d))
  | some false=>findKey a k b (i+1)
  | none=>none
def abX (i:Int):Option Nat:=if 0<=i then some i.toNat else none
def eJ (v:Option Int) (a:Nat):Option Nat:=
 match v with
 | none=>some a
 | some i=>abX i
def bW.nc:bW where
 wrap:=IntKind.wrap
 add k a b:=k.wrap (a+b)
 dif k a b:=k.wrap (a - b)
 mul k a b:=k.wrap (a*b)
 lt a b:=decide (a < b)
 eq a b:=a==b
 slt x y:=Op.bytesLess x.toList y.toList
 seq x y:=x.toList==y.toList
 cat x y:=if ((x.size+y.size:Nat):Int) > IntKind.i64.max then none else some (x++y)
 elt es i:=if 0<=i then es[i.toNat]? else none
 byte s i:=if 0<=i then s[i.toNat]? else none
 sub size es lo hi:=if (∀d∈es,d.cells.length=size)/\0 < size then
   (match eJ hi es.length,eJ lo 0 with
   | some h,some l=>if l<=h/\h<=es.length then some ((es.take h).drop l) else none
   | _,_=>none) else none
 ssub s lo hi:=match eJ hi s.size,eJ lo 0 with
   | some h,some l=>if l<=h/\h<=s.size then some (s.extract l h) else none
   | _,_=>none
 app size bytes es ds:=match size with
   | 0=>none
   | _=>if (∀d∈ds,d.cells.length=size)/\(∀d∈es,d.cells.length=size)/\0 < bytes/\(es.length+ds.length)*bytes<=140737488355328/\es.length+ds.length<=lim then some (es++ds) else none
 key td k es:=findKey td k es 0
 len:=List.length
 slen:=ByteArray.size
 rem:=Int.tmod
 quo:=Int.tdiv
 mx x y:=if x < y then y else x
def TI.ok (P:Program) (t:TypeId) (i:TI):Prop:=
 (∃j,P.info? t=some j/\j.size=i.size/\j.bytes=i.bytes/\j.zero=some i.zero/\i.zero.cells.size=i.size) ∧
 match i.desc with
 | .bool=>P.underlying t=some .bool
 | .int k=>P.underlying t=some (.int k)
 | .string=>P.underlying t=some .string
 | .pointer=>∃e,P.underlying t=some (.pointer e)
 | .slice e=>P.underlying t=some (.slice e)
 | .map k e=>P.underlying t=some (.map k e)
 | .func=>∃a b c,P.underlying t=some (.func a b c)
 | .array n e=>P.underlying t=some (.array n e)
 | .struct h=>∃d:Array Field,P.underlying t=some (.struct d)/\d.toList.map (fun f=>(f.offset,f.type))=h ∧
   ∃g,d.toList.mapM (fun f=>(P.info? f.type).map fun i=>(f.offset,i.size))=some g
structure bz.Ok (E:bz) (P:Program):Prop where
 ty:∀t i,E.ty t=some i->i.ok P t
 fn:∀f,E.fn f=true->∃g,P.funcs[f]?=some g/\g.body.isSome=true/\(g.name== "runtime.NumGoroutine")=false
 mixed:P.follows .mixedOrders=true
 nc:E.pr=bW.nc
def bj:List ac->List ac
 | []=>[]
 | .own b::r=>.dat (.slice b)::bj r
 | .agg _::r=>.undef::bj r
 | .tup _::r=>.undef::bj r
 | a::r=>a::bj r
def gB:List ac->Option (List ak)
 | []=>some []
 | .dat (.flat v)::r=>match gB r with|some S=>some (.flat v::S)|none=>none
 | .dat (.slice a)::r=>match gB r with|some S=>some (.slice a::S)|none=>none
 | _::_=>none
def lm (c:List ac):ac:=
 match gB c with
 | some S=>.dat (.agg S)
 | none=>.agg c
def gi:List ac->List ac
 | []=>[]
 | .own b::r=>.dat (.slice b)::gi r
 | .agg c::r=>lm (bj c)::gi r
 | .tup _::r=>.undef::gi r
 | a::r=>a::gi r
def de:ac->ac
 | .own b=>.dat (.slice b)
 | .agg c=>lm (bj c)
 | .tup d=>.tup (gi d)
 | a=>a
def xI:ac->Option ak
 | .dat d=>some d
 | .own a=>some (.slice a)
 | .agg c=>match gB (bj c) with|some S=>some (.agg S)|none=>none
 | _=>none
def aY:ac->List ac
 | .agg c=>c
 | .dat (.agg S)=>S.map .dat
 | a=>[a]
def EJ:List Value->List ac
 | []=>[]
 | v::r=>(if bJ v then .dat (.flat v) else .undef)::EJ r
def bE:Value->ac
 | .agg c=>lm (EJ c.toList)
 | .tuple _=>.undef
 | v=>if bJ v then .dat (.flat v) else .undef
def nz:ac->ac
 | .dat (.flat (.slice none 0 0))=>.dat (.slice [])
 | a=>a
def Su:List ac->List ac
 | []=>[]
 | a::r=>nz a::Su r
def D1:ac->ac
 | .dat (.flat (.slice none 0 0))=>.own []
 | a=>a
def Kb:List ac->List ac
 | [a,x]=>[D1 a,nz x]
 | l=>l
def Jw:ac->Bool
 | .dat (.flat (.slice none 0 0))=>true
 | _=>false
def Jy (c:bW) (d:BinOp) (k:IntKind) (a b:Int):Option Value:=
 match d with
 | .add=>some (.int k (c.add k a b))
 | .sub=>some (.int k (c.dif k a b))
 | .mul=>some (.int k (c.mul k a b))
 | .quo=>if c.eq b 0=true then none else some (.int k (c.wrap k (c.quo a b)))
 | .rem=>if c.eq b 0=true then none else some (.int k (c.rem a b))
 | .eql=>some (.bool (c.eq a b))
 | .neq=>some (.bool !(c.eq a b))
 | .lss=>some (.bool (c.lt a b))
 | .leq=>some (.bool !(c.lt b a))
 | .gtr=>some (.bool (c.lt b a))
 | .geq=>some (.bool !(c.lt a b))
 | _=>none
def H7 (a:bW) (b:BinOp) (x y:ByteArray):Option Value:=
 match b with
 | .add=>(match a.cat x y with|some z=>some (.string z)|none=>none)
 | .eql=>some (.bool (a.seq x y))
 | .neq=>some (.bool !(a.seq x y))
 | .lss=>some (.bool (a.slt x y))
 | .leq=>some (.bool (a.slt x y||a.seq x y))
 | .gtr=>some (.bool !(a.slt x y||a.seq x y))
 | .geq=>some (.bool !(a.slt x y))
 | _=>none
def yA (d:bW) (c:BinOp) (e:Option TD) (x y:Value):Option Value:=
 match c,x,y with
 | .shl,.int k a,.int _ b=>if d.lt b 0=true then none else some (.int k (d.wrap k (a*2 ^ (min b.toNat k.bits))))
 | .shr,.int k a,.int _ b=>if d.lt b 0=true then none else some (.int k (a.fdiv (2 ^ (min b.toNat k.bits))))
 | c,.int k a,.int f b=>if k=f then Jy d c k a b else none
 | c,.string a,.string b=>H7 d c a b
 | .eql,.bool a,.bool b=>match e with|some .bool=>some (.bool (a==b))|_=>none
 | .neq,.bool a,.bool b=>match e with|some .bool=>some (.bool !(a==b))|_=>none
 | .eql,.pointer none,.pointer none=>match e with|some .pointer=>some (.bool true)|_=>none
 | .neq,.pointer none,.pointer none=>match e with|some .pointer=>some (.bool false)|_=>none
 | _,_,_=>none
def aeR (v:Value):ac:=.dat (.flat v)
def TI.isAgg (i:TI):Bool:=match i.desc with|.struct _=>true|.array _ _=>true|_=>false
def KY:Op->Option Nat
 | .move _|.assign _|.box _ _|.extract _ _=>some 0
 | .store _ _ _=>some 1
 | .call {callee:=.builtin .append,.. }=>some 0
 | _=>none
inductive Eff where
 |keep
 |set (o:aL)
 |new (o:aL)
 |grow (o:aL) (s len:Nat)
 |row (o:aL) (s len:Nat)
 |fresh (o:aL)
def jQ:Nat->List ac->List ac
 | 0,l=>l
 | _+1,[]=>[]
 | n+1,_::l=>jQ n l
def fb:Nat->List ac->List ac
 | 0,_=>[]
 | _+1,[]=>[]
 | n+1,a::l=>a::fb n l
def bI {α:Type}:Nat->List α->List α->List α
 | _,[],l=>l
 | _,_::_,[]=>[]
 | 0,n::b,_::l=>n::bI 0 b l
 | c+1,n::b,a::l=>a::bI c (n::b) l
def looks:Op->List ac->Option Name
 | .load _ _,[.ptr n _]=>some n
 | .store _ _ _,[.ptr n _,_]=>some n
 | .lookup _ _ _ _,[.map n,_]=>some n
 | .mapUpdate _ _ _ _,[.map n,_,_]=>some n
 | .insert _ _ _ _,[.map n,_,_]=>some n
 | .call {callee:=.builtin .len,.. },[.map n]=>some n
 | .call {callee:=.builtin .append,.. },[.win n _ _ _,_]=>some n
 | .call {callee:=.builtin .delete,.. },[.map n,_]=>some n
 | _,_=>none
def loadCells (i:TI) (b:Nat) (c:List ac):Option ac:=
 if i.isAgg then
  let part:=fb i.size (jQ b c)
  if part.length=i.size then some (lm (bj part)) else none
 else match c[b]? with
  | some (.own d)=>some (.dat (.slice d))
  | some .undef=>none
  | some (.agg _)=>none
  | some (.tup _)=>none
  | some a=>some a
  | none=>none
def agj (i:TI) (c:List ak):Option ac:=
 if i.isAgg then
  let part:=c.take i.size
  if part.length=i.size then some (.dat (.agg part)) else none
 else match c with
  | .flat v::_=>some (.dat (.flat v))
  | .slice a::_=>some (.dat (.slice a))
  | _=>none
def vN:ac->Bool
 | .dat (.flat _)|.dat (.slice _)|.own _|.ref _|.ptr _ _|.map _|.win _ _ _ _|.fn _ _ _=>true
 | _=>false
def dU:List ac->Bool
 | []=>true
 | a::r=>vN a&&dU r
def C7 (b:Nat->Option (Nat×Nat)):List (Nat×ac)->List ac->Option (List ac)
 | [],a=>some a
 |(i,v)::f,a=>
  match b i with
  | none=>none
  | some (e,d)=>
   let c:=aY (de v)
   if c.length=d/\e+d<=a.length/\dU c=true then C7 b f (bI e c a) else none
def jb (a:Nat):Nat->List (Nat×ac)->Option (List ak)
 | _,[]=>some []
 | k,(i,v)::b=>
  if i=k then
   match xI v with
   | some d=>if d.cells.length=a then match jb a (k+1) b with|some S=>some (d::S)|none=>none else none
   | none=>none
  else none
def LA:TD->Option TypeDesc
 | .string=>some .string
 | .int k=>some (.int k)
 | .bool=>some .bool
 | _=>none
def bz.desc (E:bz) (t:TypeId):Option TD:=match E.ty t with|some i=>some i.desc|none=>none
def bz.key (E:bz) (t:TypeId):Option TypeDesc:=match E.ty t with|some i=>LA i.desc|none=>none
structure Out where
 val:ac
 eff:Eff
def XC (v:Option Value):Option Out:=match v with|some v=>some ⟨aeR v,.keep⟩|none=>none
def xj (v:Option ac):Option Out:=match v with|some v=>some ⟨v,.keep⟩|none=>none
def gS (b:bW) (i:TI) (a:List ak) (x:ac):Option (List ak):=
 match x with
 | .dat (.slice S)=>b.app i.size i.bytes a S
 | _=>none
def mR (v:Option ac) (a:Nat):Option Nat:=
 match v with
 | none=>some a
 | some (.dat (.flat (.int _ i)))=>if 0<=i then some i.toNat else none
 | some _=>none
def vX (v:Option ac):Option (Option Int):=
 match v with
 | none=>some none
 | some (.dat (.flat (.int _ i)))=>some (some i)
 | some _=>none
def qW (b:bW) (a:Nat) (d i:Option ac) (x:ac):Option ac:=
 match vX d,vX i with
 | some l,some h=>(match x with
  | .dat (.flat (.string s))=>(match b.ssub s l h with|some r=>some (aeR (.string r))|none=>none)
  | .dat (.slice c)=>(match b.sub a c l h with|some r=>some (.dat (.slice r))|none=>none)
  | _=>none)
 | _,_=>none
def dT (b i:Option Operand) (a:List ac):Option ac×Option ac:=
 match b,i,a with
 | some _,some _,[l,h]=>(some l,some h)
 | some _,none,[l]=>(some l,none)
 | none,some _,[h]=>(none,some h)
 | _,_,_=>(none,none)
def Jd (a:BinOp) (b:Option TD) (x y:ac):Option Value:=
 match b,x,y with
 | some .pointer,.ptr _ _,.dat (.flat (.pointer none))|some .pointer,.ref _,.dat (.flat (.pointer none))=>
  (match a with|.eql=>some (.bool false)|.neq=>some (.bool true)|_=>none)
 | some (.map _ _),.map _,.dat (.flat (.map none))=>(match a with|.eql=>some (.bool false)|.neq=>some (.bool true)|_=>none)
 | _,_,_=>none
def AG:Operand->Bool
 | .const (.slice none 0 0)=>true
 | _=>false
def notNil:BinOp->Option Out
 | .eql=>some ⟨aeR (.bool false),.keep⟩
 | .neq=>some ⟨aeR (.bool true),.keep⟩
 | _=>none
def NF:BinOp->Option Out
 | .eql=>some ⟨aeR (.bool true),.keep⟩
 | .neq=>some ⟨aeR (.bool false),.keep⟩
 | _=>none
def wL (E:bz) (a:BinOp) (t:TypeId):List ac->Option Out
 | [x,_]=>(match E.desc t with
  | some (.slice _)=>(match x with
   | .win _ _ _ _|.dat (.slice (_::_))=>notNil a
   | .dat (.flat (.slice none 0 0))=>NF a
   | _=>none)
  | _=>none)
 | _=>none
def parts (b:List (Nat×Operand)) (a:List ac):List (Nat×ac):=(b.map (·.1)).zip a
def setAt (k:Nat) (d:ak):List (Value×ak)->List (Value×ak)
 | []=>[]
 |(x,y)::r=>match k with|0=>(x,d)::r|k+1=>(x,y)::setAt k d r
def Hm (k:Nat):List (Value×ak)->List (Value×ak)
 | []=>[]
 | e::r=>match k with|0=>r|k+1=>e::Hm k r
def Dv:List ac->Option Out
 | [v]=>some ⟨v,.keep⟩
 | _=>none
def V8:List ac->Option Out
 | [.dat (.flat (.bool c)),a,b]=>some ⟨if c then a else b,.keep⟩
 | _=>none
def Ny (E:bz) (a:BinOp) (t:TypeId):List ac->Option Out
 | [.dat (.flat x),.dat (.flat y)]=>XC (yA E.pr a (E.desc t) x y)
 | [x,y]=>XC (Jd a (E.desc t) x y)
 | _=>none
def aUn (E:bz) (a:UnOp):List ac->Option Out
 | [.dat (.flat (.bool b))]=>(match a with|.not=>some ⟨aeR (.bool !b),.keep⟩|_=>none)
 | [.dat (.flat (.int k n))]=>(match a with|.neg=>some ⟨aeR (.int k (E.pr.dif k 0 n)),.keep⟩|_=>none)
 | _=>none
def eS:List ak->Option (List Int)
 | []=>some []
 | .flat (.int .u8 n)::r=>(match eS r with|some a=>some (n::a)|none=>none)
 | _=>none
def nh (a:List Int):ByteArray:=a.foldl (fun r n=>r.push (UInt8.ofNat n.toNat)) ByteArray.empty
def BD (E:bz) (a d:TypeId):List ac->Option Out
 | [.dat (.flat (.int _ n))]=>(match E.desc a,E.desc d with|some (.int _),some (.int k)=>some ⟨aeR (.int k (E.pr.wrap k n)),.keep⟩|_,_=>none)
 | [.dat (.flat (.string x))]=>(match E.desc a,E.desc d with|some .string,some .string=>some ⟨aeR (.string x),.keep⟩|_,_=>none)
 | [.dat (.slice b)]=>(match E.desc a,E.desc d with
  | some (.slice e),some .string=>(match E.desc e,eS b with|some (.int .u8),some c=>some ⟨aeR (.string (nh c)),.keep⟩|_,_=>none)
  | _,_=>none)
 | _=>none
def ad8:List ac->Option Out
 | [.ptr n a]=>some ⟨.ptr n a,.keep⟩
 | [.ref c]=>some ⟨.ref c,.keep⟩
 | _=>none
def mh (E:bz) (d:TypeId) (f:Nat):Option (Nat×TI):=
 match E.desc d with
 | some (.struct b)=>(match b[f]? with
  | some (a,c)=>(match E.ty c with
   | some i=>some (a,i)
   | none=>none)
  | none=>none)
 | _=>none
def lF (E:bz) (b:TypeId) (f:Nat):List ac->Option Out
 | [.ref c]=>(match mh E b f with|some (a,i)=>if i.size=0 then none else some ⟨.ref (c.drop a),.keep⟩|none=>none)
 | [.ptr n o]=>(match mh E b f with|some (a,i)=>if i.size=0 then none else some ⟨.ptr n (o+a),.keep⟩|none=>none)
 | _=>none
def wN (E:bz) (b:TypeId) (f:Nat):List ac->Option Out
 | [.dat (.agg c)]=>(match mh E b f with|some (a,i)=>xj (agj i (c.drop a))|none=>none)
 | [.agg c]=>(match mh E b f with|some (a,i)=>xj (loadCells i a c)|none=>none)
 | _=>none
def elemOf (E:bz) (t:TypeId):Option TI:=
 match E.desc t with
 | some (.slice e)=>E.ty e
 | _=>none
def ap (E:bz) (t:TypeId):List ac->Option Out
 | [.dat (.slice f),.dat (.flat (.int _ i))]=>
  (match elemOf E t with
   | some c=>(match E.pr.elt f i with
     | some d=>if d.cells.length=c.size/\0 < c.size then some ⟨.ref d.cells,.keep⟩ else none
     | none=>none)
   | none=>none)
 | [.win n s b a,.dat (.flat (.int _ i))]=>
  (match elemOf E t with
   | some c=>(match i with
    | .ofNat k=>if (Nat.blt k a&&Nat.beq s c.size)=true then some ⟨.ptr n (b+k*s),.keep⟩ else none
    | .negSucc _=>none)
   | none=>none)
 | [.ptr n b,.dat (.flat (.int _ i))]=>
  (match E.desc t with
   | some (.array a e)=>(match E.ty e,i with
    | some c,.ofNat k=>if Nat.blt k a=true then some ⟨.ptr n (b+k*c.size),.keep⟩ else none
    | _,_=>none)
   | _=>none)
 | _=>none
def agc (E:bz) (t:TypeId) (c:List ak):Int->Option Out
 | .ofNat j=>(match E.desc t with
   | some (.array a e)=>(match E.ty e with
    | some b=>if Nat.blt j a=true then xj (agj b (c.drop (j*b.size))) else none
    | none=>none)
   | _=>none)
 | _=>none
def qP (E:bz) (t:TypeId):List ac->Option Out
 | [.dat (.flat (.string s)),.dat (.flat (.int _ i))]=>
  (match E.desc t with
   | some .string=>(match E.pr.byte s i with|some b=>some ⟨aeR (.int .u8 b.toNat),.keep⟩|none=>none)
   | _=>none)
 | [.dat (.agg c),.dat (.flat (.int _ i))]=>agc E t c i
 | _=>none
def fF (E:bz) (t:TypeId) (c b f:Option Operand):List ac->Option Out
 | .dat (.flat (.string x))::a=>
  (match f,E.desc t with
   | none,some .string=>xj (qW E.pr 0 (dT c b a).1 (dT c b a).2 (.dat (.flat (.string x))))
   | _,_=>none)
 | .dat (.slice g)::a=>
  (match f,elemOf E t with
   | none,some i=>xj (qW E.pr i.size (dT c b a).1 (dT c b a).2 (.dat (.slice g)))
   | _,_=>none)
 | .win n s e d::a=>
  (match f,elemOf E t with
   | none,some i=>(match vX (dT c b a).1,vX (dT c b a).2 with
    | some l,some h=>(match eJ h d,eJ l 0 with
     | some h,some l=>if (Nat.ble l h&&Nat.ble h d&&Nat.beq s i.size)=true then
       (match l with
       | 0=>some ⟨.win n s e h,.keep⟩
       | l+1=>if Nat.blt (l+1) h=true then some ⟨.win n s (e+(l+1)*s) (h - (l+1)),.keep⟩ else some ⟨.dat (.slice []),.keep⟩)
      else none
     | _,_=>none)
    | _,_=>none)
   | _,_=>none)
 | _=>none
def placeOf (E:bz) (b:TypeId) (k:Nat):Option (Nat×Nat):=match mh E b k with|some (a,i)=>some (a,i.size)|none=>none
def Ke (E:bz) (t:TypeId) (b:List (Nat×Operand)) (a:List ac):Option Out:=
 match E.ty t with
 | some i=>(match i.desc with
  | .struct _=>if dU (aY (bE i.zero))=true/\a.length=b.length then (match C7 (placeOf E t) (parts b a) (aY (bE i.zero)) with
   | some c=>some ⟨lm c,.keep⟩
   | none=>none) else none
  | .array _ e=>(match E.ty e with
   | some d=>if dU (aY (bE i.zero))=true/\a.length=b.length then (match C7 (fun k=>some (k*d.size,d.size)) (parts b a) (aY (bE i.zero)) with
    | some c=>some ⟨lm c,.keep⟩
    | none=>none) else none
   | none=>none)
  | _=>none)
 | none=>none
def wO (E:bz) (t:TypeId) (a:Nat) (c:List (Nat×Operand)) (b:List ac):Option Out:=
 match elemOf E t with
 | some i=>if 0 < i.size/\0 < a/\a*i.size<=16777216/\b.length=c.length then (match jb i.size 0 (parts c b) with
   | some S=>if S.length=a/\cd ((S.flatMap ak.cells).map .dat)=false then some ⟨.undef,match Nat.beq a 1 with|true=>.row (.cells ((S.flatMap ak.cells).map .dat)) i.size a|false=>.grow (.cells ((S.flatMap ak.cells).map .dat)) i.size a⟩ else none
   | none=>none) else none
 | none=>none
def amL (E:bz) (t:TypeId) (a:List ak):Bool:=
 match fy a with
 | true=>(match E.desc t with|some (.slice e)=>Nat.beq e mQ|_=>false)
 | false=>true
def qR (E:bz) (t:TypeId) (b:Nat) (c:List (Nat×Operand)) (a:List ac):Option Out:=
 match elemOf E t with
 | some i=>if 0 < i.size/\b*i.size<=16777216/\a.length=c.length then (match jb i.size 0 (parts c a) with
   | some S=>if S.length=b/\amL E t S=true then some ⟨.own S,.keep⟩ else none
   | none=>none) else none
 | none=>none
def wM (f:Fn) (k:Nat) (a:List ac):Option Out:=some ⟨.fn f (fb k a) (jQ k a),.keep⟩
def va (i:Nat):List ac->Option Out
 | [.tup a]=>(match a[i]? with|some v=>some ⟨v,.keep⟩|none=>none)
 | _=>none
def eB (E:bz) (b:Bool) (t:TypeId) (d:List ac) (f:Option aL):Option Out:=
 match d with
 | [.ref c]=>(match E.ty t with|some i=>xj (agj i c)|none=>none)
 | [.ptr _ a]=>
  (match E.ty t,f with
   | some i,some (.cells c)=>
    if b&&!i.isAgg then (match c[a]? with
     | some (.own e)=>some ⟨.own e,.set (.cells (bI a [.dat (.slice e)] c))⟩
     | _=>xj (loadCells i a c))
    else xj (loadCells i a c)
   | _,_=>none)
 | _=>none
def cG (E:bz) (t:TypeId) (b:List ac) (d:Option aL):Option Out:=
 match b with
 | [.ptr _ a,v]=>
  (match E.ty t,d with
   | some i,some (.cells c)=>
    if (aY v).length=i.size/\a+i.size<=c.length/\dU (aY v)=true/\0 < i.size/\(!cd (bI a (aY v) c)||cd c)=true then some ⟨.undef,.set (.cells (bI a (aY v) c))⟩ else none
   | _,_=>none)
 | _=>none
def Kf (E:bz) (t:TypeId):List ac->Option Out
 | []=>(match E.ty t with|some i=>if dU (aY (bE i.zero))=true/\(!cd (aY (bE i.zero))||Nat.beq t sj)=true then some ⟨.undef,.new (.cells (aY (bE i.zero)))⟩ else none|none=>none)
 | _=>none
def po (a:List ac):Nat->List ac
 | 0=>[]
 | c+1=>a++po a c
def fR (E:bz) (t:TypeId):List ac->Option Out
 | [.dat (.flat (.int _ l)),.dat (.flat (.int _ c))]=>
  (match elemOf E t,l,c with
   | some i,.ofNat l,.ofNat c=>
    if (Nat.ble l c&&Nat.ble (i.bytes*c) 140737488355328&&Nat.ble c lim&&Nat.blt 0 i.size&&dU (aY (bE i.zero))&&!cd (po (aY (bE i.zero)) c))=true
    then some ⟨.undef,.grow (.cells (po (aY (bE i.zero)) c)) i.size l⟩ else none
   | _,_,_=>none)
 | _=>none
def Sj:List ac->Option Out
 | [v]=>if dU (aY v)=true/\cd (aY v)=false then some ⟨.undef,.new (.cells (aY v))⟩ else none
 | _=>none
def HL (r:Option Operand):List ac->Option Out
 | []=>(match r with|none=>some ⟨.undef,.new (.map [])⟩|some _=>none)
 | _=>none
def Dw (r:Option Operand):List ac->Option Out
 | []=>(match r with|none=>some ⟨.undef,.fresh (.map [])⟩|some _=>none)
 | _=>none
def mapEntries (m:ac) (b:Option aL):Option (List (Value×ak)):=
 match m with
 | .dat (.flat (.map none))=>some []
 | .map _=>(match b with|some (.map a)=>some a|_=>none)
 | _=>none
def found (a:Bool) (d:ak) (b:Bool):Out:=⟨if a then .tup [.dat d,aeR (.bool b)] else .dat d,.keep⟩
def uZ (E:bz) (t:TypeId) (b:Bool) (a:List ac) (h:Option aL):Option Out:=
 match a with
 | [m,.dat (.flat k)]=>
  (match E.desc t with
   | some (.map g f)=>(match E.key g,E.ty f,mapEntries m h with
    | some i,some c,some e=>(match E.pr.key i k e with
      | some (some (_,d))=>some (found b d true)
      | some none=>(match xI (bE c.zero) with
       | some z=>some (found b z false)
       | none=>none)
      | none=>none)
    | _,_,_=>none)
   | _=>none)
 | _=>none
def gE (E:bz) (t:TypeId) (a:List ac) (e:Option aL):Option Out:=
 match a with
 | [.map _,.dat (.flat k),v]=>
  (match E.desc t,e with
   | some (.map c _),some (.map b)=>(match E.key c,xI v with
    | some f,some d=>(match E.pr.key f k b with
     | some (some (i,_))=>some ⟨.undef,.set (.map (setAt i d b))⟩
     | some none=>some ⟨.undef,.set (.map (b++[(k,d)]))⟩
     | none=>none)
    | _,_=>none)
   | _,_=>none)
 | _=>none
def kb (E:bz) (t:TypeId) (b:List ac) (d:Option aL):Option Out:=
 match b with
 | [.dat (.slice c)]=>(match E.desc t with|some (.slice _)=>some ⟨aeR (.int .i64 (E.pr.len c)),.keep⟩|_=>none)
 | [.dat (.flat (.string s))]=>(match E.desc t with|some .string=>some ⟨aeR (.int .i64 (E.pr.slen s)),.keep⟩|_=>none)
 | [.win _ _ _ a]=>(match E.desc t with|some (.slice _)=>if Nat.ble a lim=true then some ⟨aeR (.int .i64 (ofNat a)),.keep⟩ else none|_=>none)
 | [.dat (.flat (.map none))]=>(match E.desc t with|some (.map _ _)=>some ⟨aeR (.int .i64 0),.keep⟩|_=>none)
 | [.map _]=>(match E.desc t,d with|some (.map _ _),some (.map c)=>if c.length<=lim then some ⟨aeR (.int .i64 c.length),.keep⟩ else none|_,_=>none)
 | _=>none
def jB (E:bz) (i:TI) (a:Nat) (c:List ac) (x:ac):Option Out:=
 match gS E.pr i [] x with
 | some S=>if (Nat.ble ((a+S.length)*i.bytes) 140737488355328&&Nat.ble (a+S.length) lim&&Nat.ble (a*i.size) c.length&&!cd (fb (a*i.size) c++(S.flatMap ak.cells).map .dat))=true
   then some ⟨.undef,.grow (.cells (fb (a*i.size) c++(S.flatMap ak.cells).map .dat)) i.size (a+S.length)⟩ else none
 | none=>none
def AH:ac->Bool
 | .dat (.slice (_::_))=>true
 | _=>false
def bB (E:bz) (a:Bool) (t:TypeId) (b:List ac) (g:Option aL):Option Out:=
 match b with
 | [.own f,x]=>(match elemOf E t with
  | some i=>if (a&&f.isEmpty&&AH x)=true then jB E i 0 [] x
   else (match gS E.pr i f x with|some r=>if amL E t r=true then some ⟨.own r,.keep⟩ else none|none=>none)
  | none=>none)
 | [.win _ s e d,x]=>(match elemOf E t,g with
  | some i,some (.cells c)=>if (a&&Nat.beq s i.size&&Nat.beq e 0)=true then jB E i d c x else none
  | _,_=>none)
 | _=>none
def oX:List UInt8->List ak
 | []=>[]
 | b::r=>.flat (.int .u8 (ofNat b.toNat))::oX r
def fS (E:bz) (t c:TypeId) (a:List ac):Option Out:=
 match a with
 | [.own b,.dat (.flat (.string s))]=>(match E.desc c,elemOf E t with
  | some .string,some i=>if Nat.beq i.size 1=true then
    (match gS E.pr i b (.dat (.slice (oX s.data.toList))) with|some r=>if amL E t r=true then some ⟨.own r,.keep⟩ else none|none=>none) else none
  | _,_=>none)
 | _=>none
def Vb (E:bz):List ac->Option Out
 | [.dat (.flat (.int k x)),.dat (.flat (.int a y))]=>if a=k then some ⟨aeR (.int k (E.pr.mx x y)),.keep⟩ else none
 | _=>none
def Nx (E:bz):List ac->Option Out
 | [.dat (.flat (.int k x)),.dat (.flat (.int a y))]=>if a=k then some ⟨aeR (.int k (if E.pr.lt y x=true then y else x)),.keep⟩ else none
 | _=>none
def vd (E:bz) (t:TypeId) (a:List ac) (d:Option aL):Option Out:=
 match a with
 | [.map _,.dat (.flat k)]=>
  (match E.desc t,d with
   | some (.map c _),some (.map b)=>(match E.key c with
    | some e=>(match E.pr.key e k b with
     | some (some (i,_))=>some ⟨.tup [],.set (.map (Hm i b))⟩
     | some none=>some ⟨.tup [],.set (.map b)⟩
     | none=>none)
    | none=>none)
   | _,_=>none)
 | _=>none
def lG (E:bz) (d:Bool) (b:Builtin) (a:List TypeId) (c:List ac) (e:Option aL):Option Out:=
 match a with
 | []=>none
 | t::_=>match b with
  | .len=>kb E t (Su c) e
  | .append=>(match a with|[_,f]=>if f=t then bB E d t (Kb c) e else fS E t f (Kb c)|_=>none)
  | .max=>Vb E c
  | .min=>Nx E c
  | .delete=>vd E t c e
  | _=>none
def jE (E:bz) (e:Bool) (o:Op) (a:List ac) (j:Option aL):Option Out:=
 match o with
 | .move _=>Dv a
 | .assign _=>Dv a
 | .pick _ _ _=>V8 a
 | .binOp k t _ y _=>if AG y=true then wL E k t a else Ny E k t a
 | .unOp k _ _=>aUn E k a
 | .convert s d _=>BD E s d (Su a)
 | .nilCheck _=>ad8 a
 | .fieldAddr m _ f=>lF E m f a
 | .field m _ f=>wN E m f a
 | .indexAddr t _ _=>ap E t (Su a)
 | .index t _ _=>qP E t a
 | .slice t _ p n q=>fF E t p n q (Su a)
 | .build t l=>Ke E t l.toList a
 | .buildSlice t h l=>if (e&&Nat.blt 0 h)=true then wO E t h l.toList a else qR E t h l.toList a
 | .makeFunc f g _=>wM f g.size a
 | .extract _ i=>va i a
 | .load t _=>eB E e t a j
 | .store t _ _=>cG E t a j
 | .alloc t=>Kf E t a
 | .box _ _=>Sj a
 | .makeMap _ r=>if e=true then Dw r a else HL r a
 | .makeSlice t _ _=>fR E t a
 | .lookup t _ _ u=>uZ E t u a j
 | .mapUpdate t _ _ _=>gE E t a j
 | .insert t _ _ _=>gE E t a j
 | .call c=>(match c.callee with|.builtin b=>lG E e b c.argTypes.toList a j|_=>none)
 | _=>none
end Go.Tp
namespace Go.Tp
section
variable {w:World} {R:Own} {N:Name->Option Nat}
variable {a:ac} {d:ak} {v:Value}
theorem iV.rep {a:List ak} {B:List Nat} (h:iV w R v a B):eU w R v (.slice a):=by
 cases h with
 | nil=>exact .nil _ _
 | row=>grind
theorem aD {b:List ac} {c:List Value} {b1 b2:List Nat} (h:ai w R N a v b1) (k:ah w R N b c b2) :
  ah w R N (a::b) (v::c) (b1++b2):=by
 grind[ah]
theorem aP:ah w R N [] [] []:=by simp[ah]
theorem au {as:List ac} {c:List Value} {B:List Nat} (h:ah w R N (a::as) c B) :
  ∃v b r Q,c=v::b/\B=r++Q/\ai w R N a v r/\ah w R N as b Q:=by
 grind[ah]
theorem aM {a:List Value} {B:List Nat} (h:ah w R N [] a B):a=[]/\B=[]:=by grind[ah]
theorem ct {a:List ac}:∀{c:List ac} {d b:List Value} {r Q:List Nat},ah w R N a d r->ah w R N c b Q->
  ah w R N (a++c) (d++b) (r++Q):=by
 induction a <;> grind[aM,au,aD]
theorem jd:∀{ds:List ak} {e:List Value},dz w R e ds->ah w R N (ds.map .dat) e []
 | [],[],_=>aP
 | d::ds,v::e,h=>by
  obtain⟨f,b⟩:=h;have V:ai w R N (.dat d) v []:=by
   simp only[ai];refine⟨trivial,?_⟩
   cases f with
   | flat h=>exact .flat h
   | nil a c=>exact .nil a c
   | slice=>exact .slice _ _ _ _ _ _ (by assumption) (by grind) (by grind) (by grind) (by assumption) (by grind)
  simpa using aD V (jd (ds:=ds) b)
 | [],_::_,h=>h.elim
 | _::_,[],h=>h.elim
theorem bQ (h:ve w R v d):ai w R N (.dat d) v []:=by grind[ai]
theorem cB {B:List Nat} (h:ai w R N (.dat d) v B):B=[]/\ve w R v d:=by grind[ai]
theorem aC {u:Value} {B:List Nat} (h:ai w R N (.dat (.flat u)) v B):B=[]/\v=u/\bJ u=true:=by
 obtain⟨a,b⟩:=cB h;cases b <;> grind
theorem bC (h:bJ v=true):ai w R N (aeR v) v []:=bQ (d:=.flat v) (.flat h)
theorem dG {a:List ak} {B:List Nat} (h:ai w R N (.dat (.slice a)) v B):B=[]/\eU w R v (.slice a):=cB h
theorem iD {c:List ac} {B:List Nat} (h:ai w R N (.agg c) v B):∃a,v=.agg a.toArray/\ah w R N c a B:=by
 grind[ai]
theorem cy {a:List ak} {B:List Nat} (h:ai w R N (.own a) v B):iV w R v a B:=by grind[ai]
theorem aJ (v:Value):ai w R N .undef v []:=by grind[ai]
theorem lW {B:List Nat} (h:ai w R N a v B) (e:∀d,a≠.own d) (b:∀c,a≠.agg c) (f:∀c,a≠.tup c):B=[]:=by
 cases a <;> simp_all [ai]
theorem iZ:∀{f:List ac} {i:List Value} {B:List Nat},ah w R N f i B->ah w R N (bj f) i []
 | [],_,_,h=>by obtain⟨rfl,rfl⟩:=aM h;exact aP
 | a::f,i,B,h=>by
  obtain⟨v,k,r,Q,rfl,rfl,g,b⟩:=au h;have e:=iZ b
  cases a with
  | own j=>simpa [bj] using aD (bQ (d:=.slice j) (cy g).rep) e
  | agg c=>simpa [bj] using aD (aJ v) e
  | tup c=>simpa [bj] using aD (aJ v) e
  | _=>
   obtain rfl:=lW g (by simp) (by simp) (by simp);simpa [bj] using aD g e
theorem iQ:∀{c:List ac} {j:List Value} {B:List Nat} {S:List ak},ah w R N c j B->gB c=some S->dz w R j S/\B=[]
 | [],_,_,_,h,D=>by
  obtain⟨rfl,rfl⟩:=aM h;simp[gB] at D;subst D;exact⟨trivial,rfl⟩
 | a::c,j,B,S,h,D=>by
  obtain⟨v,l,m,Q,rfl,rfl,k,b⟩:=au h;unfold gB at D
  split at D
  ·grind
  ·rename_i u r d;obtain⟨rfl,rfl⟩:=List.cons.inj d
   cases e:gB c with
   | none=>grind
   | some i=>
    simp[e] at D;subst D;obtain⟨f,rfl⟩:=iQ b e;obtain⟨rfl,g⟩:=cB k;exact⟨⟨g,f⟩,rfl⟩
  ·rename_i n r d;obtain⟨rfl,rfl⟩:=List.cons.inj d
   cases e:gB c with
   | none=>grind
   | some i=>
    simp[e] at D;subst D;obtain⟨f,rfl⟩:=iQ b e;obtain⟨rfl,g⟩:=cB k;exact⟨⟨g,f⟩,rfl⟩
  grind
theorem kR {c:List ac} {b:List Value} {B:List Nat} (h:ah w R N c b B):ai w R N (lm c) (.agg b.toArray) B:=by
 unfold lm
 split
 ·rename_i S D;obtain⟨a,rfl⟩:=iQ h D;exact bQ ⟨b,rfl,a⟩
 grind[ai]
theorem yI:∀{i:List ac} {j:List Value} {B:List Nat},ah w R N i j B->ah w R N (gi i) j []
 | [],_,_,h=>by obtain⟨rfl,rfl⟩:=aM h;exact aP
 | a::i,j,B,h=>by
  obtain⟨v,l,r,Q,rfl,rfl,e,b⟩:=au h;have g:=yI b
  cases a with
  | own k=>simpa [gi] using aD (bQ (d:=.slice k) (cy e).rep) g
  | agg c=>
   obtain⟨m,rfl,f⟩:=iD e;simpa [gi] using aD (kR (iZ f)) g
  | tup c=>simpa [gi] using aD (aJ v) g
  | _=>
   obtain rfl:=lW e (by simp) (by simp) (by simp);simpa [gi] using aD e g
theorem qT {B:List Nat} (h:ai w R N a v B):ai w R N (de a) v []:=by
 cases a with
 | own b=>exact bQ (d:=.slice b) (cy h).rep
 | agg c=>
  obtain⟨e,rfl,f⟩:=iD h;exact kR (iZ f)
 | tup c=>
  grind[ai,de,yI]
 | _=>
  obtain rfl:=lW h (by simp) (by simp) (by simp);exact h
theorem wG {B:List Nat} (h:ai w R N a v B) (D:xI a=some d):ve w R v d:=by
 cases a with
 | dat e=>grind[xI,cB]
 | own i=>simp[xI] at D;subst D;exact (cy h).rep
 | agg c=>
  obtain⟨g,rfl,f⟩:=iD h;simp only[xI] at D
  split at D
  ·rename_i S b;simp at D;subst D;exact⟨g,rfl,(iQ (iZ f) b).1⟩
  grind
 | _=>grind[xI]
theorem fL (h:eU w R v d):v.cells=#[v]/\v.oneCell'=true:=by
 cases h with
 | flat h=>cases v <;> simp_all [bJ,Value.cells,Value.oneCell']
 | nil=>simp[Value.cells,Value.oneCell']
 | slice=>simp[Value.cells,Value.oneCell']
theorem cZ:∀{a:List Value} {c:List ak},dz w R a c->a.length=c.length
 | [],[],_=>rfl
 | _::_,_::_,h=>by simp[cZ h.2]
 | [],_::_,h=>h.elim
 | _::_,[],h=>h.elim
theorem Iu (h:ve w R v d):dz w R v.cells.toList d.cells:=by
 cases d with
 | agg c=>obtain⟨b,rfl,h⟩:=h;simpa [Value.cells,ak.cells] using h
 | flat u=>rw[(fL (d:=.flat u) h).1];exact⟨h,trivial⟩
 | slice a=>rw[(fL (d:=.slice a) h).1];exact⟨h,trivial⟩
theorem ia {B:List Nat} (h:ai w R N a v B) (k:dU (aY a)=true):ah w R N (aY a) v.cells.toList B:=by
 cases a with
 | agg c=>obtain⟨q,rfl,m⟩:=iD h;simpa [aY,Value.cells] using m
 | dat d=>
  obtain⟨rfl,D⟩:=cB h
  cases d with
  | agg c=>obtain⟨r,rfl,l⟩:=D;simpa [aY,Value.cells] using jd l
  | flat u=>rw[(fL (d:=.flat u) D).1];simpa [aY] using aD h aP
  | slice i=>rw[(fL (d:=.slice i) D).1];simpa [aY] using aD h aP
 | undef=>grind[aY,dU,vN]
 | tup c=>grind[aY,dU,vN]
 | own i=>
  have:v.cells=#[v]:=(fL (cy h).rep).1
  rw[this];simpa [aY] using aD h aP
 | ref c=>
  have e:=h;obtain⟨rfl,b,g,rfl,_⟩:=e;simpa [aY,Value.cells] using aD h aP
 | ptr n o=>
  have e:=h;obtain⟨rfl,b,_,rfl⟩:=e;simpa [aY,Value.cells] using aD h aP
 | map n=>
  have e:=h;obtain⟨rfl,b,_,rfl⟩:=e;simpa [aY,Value.cells] using aD h aP
 | win n s g p=>
  have e:=h;obtain⟨rfl,b,j,_,rfl,_⟩:=e;simpa [aY,Value.cells] using aD h aP
 | fn f x y=>
  have e:=h;obtain⟨rfl,r,q,rfl,_⟩:=e;simpa [aY,Value.cells] using aD h aP
theorem Jb {B:List Nat} (h:ai w R N a v B) (k:vN a=true):v.oneCell'=true:=by
 cases a with
 | dat d=>
  obtain⟨rfl,D⟩:=cB h
  cases d with
  | agg c=>grind[vN]
  | flat u=>exact (fL (d:=.flat u) D).2
  | slice g=>exact (fL (d:=.slice g) D).2
 | own g=>exact (fL (cy h).rep).2
 | ref c=>obtain⟨rfl,b,e,rfl,_⟩:=h;rfl
 | ptr n o=>obtain⟨rfl,b,_,rfl⟩:=h;rfl
 | map n=>obtain⟨rfl,b,_,rfl⟩:=h;rfl
 | win n s e j=>obtain⟨rfl,b,i,_,rfl,_⟩:=h;rfl
 | fn f x y=>obtain⟨rfl,m,l,rfl,_⟩:=h;rfl
 | _=>grind[vN]
theorem xh:∀{c:List ac} {d:List Value} {B:List Nat},ah w R N c d B->dU c=true->∀v∈d,v.oneCell'=true
 | [],_,_,h,_,v,V=>by grind[aM]
 | a::c,_,_,h,k,v,V=>by
  obtain⟨u,e,r,Q,rfl,rfl,f,b⟩:=au h;simp[dU] at k
  rcases List.mem_cons.1 V with rfl|V
  ·grind[Jb]
  exact xh b k.2 v V
theorem Bd:∀(a:List Value),ah w R N (EJ a) a []
 | []=>aP
 | v::a=>by
  have b:=Bd a;unfold EJ
  split
  ·rename_i c;exact aD (b1:=[]) (bC c) b
  simpa using aD (aJ v) b
theorem gu (v:Value):ai w R N (bE v) v []:=by
 unfold bE
 split
 ·rename_i c
  have:=kR (Bd (w:=w) (R:=R) (N:=N) c.toList)
  simp_all
 ·exact aJ _
 split
 ·rename_i a;exact bC a
 exact aJ _
theorem kj {B:List Nat} (h:ai w R N a v B):ai w R N (nz a) v B:=by
 unfold nz
 split
 ·obtain⟨rfl,rfl,_⟩:=aC h;exact bQ (d:=.slice []) (.nil none 0)
 grind
theorem CA {B:List Nat} (h:ai w R N a v B):ai w R N (D1 a) v B:=by
 unfold D1
 split
 ·obtain⟨rfl,rfl,_⟩:=aC h;exact .nil
 grind
theorem FQ:∀{c:List ac} {d:List Value} {B:List Nat},ah w R N c d B->ah w R N (Su c) d B
 | [],_,_,h=>h
 | _::_,_,_,h=>by
  obtain⟨v,e,r,Q,rfl,rfl,a,b⟩:=au h;exact aD (kj a) (FQ b)
end
end Go.Tp
namespace Go.Tp
section
variable {P:Program} {E:bz} {w:World} {R:Own} {N:Name->Option Nat}
variable {e t:TypeId} {k:IntKind}
theorem bz.Ok.Dc (W:E.Ok P) (h:E.desc t=some .bool):P.underlying t=some .bool:=by
 unfold bz.desc at h
 split at h
 ·rename_i i a;have:=(W.ty t i a).2;grind
 grind
theorem bz.Ok.Bc (W:E.Ok P) (h:E.desc t=some (.int k)):P.underlying t=some (.int k):=by
 unfold bz.desc at h
 split at h
 ·rename_i i a;have:=(W.ty t i a).2;grind
 grind
theorem bz.Ok.gA (W:E.Ok P) (h:E.desc t=some .string):P.underlying t=some .string:=by
 unfold bz.desc at h
 split at h
 ·rename_i i a;have:=(W.ty t i a).2;grind
 grind
theorem bz.Ok.kD (W:E.Ok P) (h:E.desc t=some .pointer):∃e,P.underlying t=some (.pointer e):=by
 unfold bz.desc at h
 split at h
 ·rename_i i a;have:=(W.ty t i a).2;grind
 grind
theorem bz.Ok.jo (W:E.Ok P) (h:E.desc t=some (.slice e)):P.underlying t=some (.slice e):=by
 unfold bz.desc at h
 split at h
 ·rename_i i a;have:=(W.ty t i a).2;grind
 grind
theorem bz.Ok.nE (W:E.Ok P) {k:TypeId} (h:E.desc t=some (.map k e)):P.underlying t=some (.map k e):=by
 unfold bz.desc at h
 split at h
 ·rename_i i a;have:=(W.ty t i a).2;grind
 grind
theorem bz.Ok.Hl (W:E.Ok P) {c:List (Nat×TypeId)} (h:E.desc t=some (.struct c)) :
  ∃a:Array Field,P.underlying t=some (.struct a)/\a.toList.map (fun f=>(f.offset,f.type))=c ∧
   ∃b,a.toList.mapM (fun f=>(P.info? f.type).map fun i=>(f.offset,i.size))=some b:=by
 unfold bz.desc at h
 split at h
 ·rename_i i d;have:=(W.ty t i d).2;grind
 grind
theorem bz.Ok.JV (W:E.Ok P) {n:Nat} (h:E.desc t=some (.array n e)):P.underlying t=some (.array n e):=by
 unfold bz.desc at h
 split at h
 ·rename_i i a;have:=(W.ty t i a).2;grind
 grind
theorem aV {d:TypeDesc} (h:P.underlying t=some d):(underlying t).run P w=.ok d w:=by
 simp[underlying,h]
theorem FH {i:TypeInfo} (h:P.info? t=some i):(typeInfo t).run P w=.ok i w:=by
 simp[typeInfo,h]
theorem bz.Ok.fT (W:E.Ok P) {i:TI} (h:E.ty t=some i):(sizeOf t).run P w=.ok i.size w:=by
 obtain⟨⟨j,a,b,_⟩,_⟩:=W.ty t i h;simp[sizeOf,FH a,b]
theorem bz.Ok.zA (W:E.Ok P) {i:TI} (h:E.ty t=some i):(zeroValue t).run P w=.ok i.zero w:=by
 obtain⟨⟨j,a,_,_,g,_⟩,_⟩:=W.ty t i h;simp[zeroValue,FH a,g]
theorem bz.Ok.kN (W:E.Ok P) {i:TI} (h:E.ty t=some i):(isAgg t).run P w=.ok i.isAgg w:=by
 have d:=(W.ty t i h).2;unfold isAgg TI.isAgg
 cases D:i.desc with
 | bool=>simp_all[aV]
 | int k=>simp_all[aV]
 | string=>simp_all[aV]
 | pointer=>rw[D] at d;obtain⟨e,d⟩:=d;simp[aV d]
 | slice e=>simp_all[aV]
 | map k e=>simp_all[aV]
 | func=>rw[D] at d;obtain⟨a,b,c,d⟩:=d;simp[aV d]
 | struct g=>rw[D] at d;obtain⟨f,d,_⟩:=d;simp[aV d]
 | array n e=>simp_all[aV]
theorem jl {a:Int}:bJ (.int k a)=true↔k.min<=a/\a<=k.max:=by simp[bJ]
theorem jN (k:IntKind) (n:Int):bJ (.int k (k.wrap n))=true:=jl.2 (wrap_within k n)
theorem CW (k:IntKind):k.min<=0/\0<=k.max:=by cases k <;> simp[IntKind.min,IntKind.max,IntKind.bits,IntKind.signed]
theorem E9 {a b:Int} (h:bJ (.int k a)=true):bJ (.int k (a.tmod b))=true:=by
 rw[jl] at h ⊢;have e:=CW k
 rcases Int.le_total 0 a with A|A
 ·have c:=Int.tmod_nonneg b A;have d:a.tmod b<=a:=by
   have f:=Int.natAbs_tmod a b;have g:=Nat.mod_le a.natAbs b.natAbs;omega
  omega
 have c:a.tmod b<=0:=by
  have:=Int.tmod_nonneg b (show 0<=-a by omega)
  simp_all
 have d:a<=a.tmod b:=by
  have f:=Int.natAbs_tmod a b;have g:=Nat.mod_le a.natAbs b.natAbs;omega
 omega
theorem G9 {a:Int} (m:Nat) (h:bJ (.int k a)=true):bJ (.int k (a.fdiv (2 ^ m)))=true:=by
 rw[jl] at h ⊢;have d:=CW k;have w:(0:Int) < 2 ^ m:=Int.pow_pos (by decide);have e:a.fdiv (2 ^ m)=a / 2 ^ m:=Int.fdiv_eq_ediv_of_nonneg a (Int.le_of_lt w);rcases Int.le_total 0 a with A|A
 ·have c:=Int.ediv_nonneg A (Int.le_of_lt w);have b:=Int.ediv_le_self (2 ^ m) A;omega
 have c:a / 2 ^ m<=0:=by
  have:=Int.ediv_le_ediv w A
  simp_all
 have b:a<=a / 2 ^ m:=by
  apply Int.le_ediv_of_mul_le w
  have:a*2 ^ m<=a*1:=Int.mul_le_mul_of_nonpos_left A (by omega)
  omega
 omega
theorem Jx {c:BinOp} {a b:Int} {v:Value} (h:Jy bW.nc c k a b=some v) (A:bJ (.int k a)=true) (d:c≠.shl) (e:c≠.shr) (t:TypeId) :
  (binOp c t (.int k a) (.int k b)).run P w=.ok v w/\bJ v=true:=by
 cases c <;> simp only[Jy,bW.nc,beq_iff_eq,Option.some.injEq,reduceCtorEq,Option.ite_none_left_eq_some] at h <;> first
  |(subst h;exact⟨by simp[binOp,Op.intArith],jN _ _⟩)
  |(done)
  |(subst h;refine⟨?_,rfl⟩;simp[binOp,Op.intCmp];done)
  |(refine⟨?_,rfl⟩;rfl)
  |(subst h;refine⟨?_,rfl⟩;simp[binOp,Op.intCmp];grind)
  |(obtain⟨o,rfl⟩:=h;exact⟨by simp[binOp,Op.intDiv,o],jN _ _⟩)
  |(obtain⟨o,rfl⟩:=h;exact⟨by simp[binOp,Op.intDiv,o],E9 A⟩)
  |(exact absurd rfl d)
  |(exact absurd rfl e)
theorem H6 {c:BinOp} {a b:ByteArray} {v:Value} (h:H7 bW.nc c a b=some v) (t:TypeId) :
  (binOp c t (.string a) (.string b)).run P w=.ok v w/\bJ v=true:=by
 cases c <;> simp[H7,bW.nc] at h <;> first
  |(subst h;simp[binOp,Op.stringOp,bJ])
  |(split at h
    ·rename_i d;simp at d h;obtain⟨o,rfl⟩:=d;subst h;simp[binOp,Op.stringOp,bJ];omega
    grind)
theorem BN (d:Nat) (h:P.underlying t=some .bool) (a b:Bool):(Op.equalIn (d+1) t (.bool a) (.bool b)).run P w=.ok (a==b) w:=by
 simp[Op.equalIn,aV h]
theorem DT (d:Nat) (h:P.underlying t=some (.pointer e)) (a:Option Addr):(Op.equalIn (d+1) t (.pointer a) (.pointer none)).run P w=.ok a.isNone w:=by
 cases a <;> simp[Op.equalIn,aV h]
theorem xV (d:Nat) {k:TypeId} (h:P.underlying t=some (.map k e)) (a:Option Nat):(Op.equalIn (d+1) t (.map a) (.map none)).run P w=.ok a.isNone w:=by
 cases a <;> simp[Op.equalIn,aV h]
theorem tD (d:Nat) (h:P.underlying t=some (.slice e)) (a:Option Addr) (l c:Nat):(Op.equalIn (d+1) t (.slice a l c) (.slice none 0 0)).run P w=.ok a.isNone w:=by
 cases a <;> simp[Op.equalIn,aV h]
theorem rT (h:P.underlying t=some (.slice e)) (a:Option Addr) (l c:Nat) :
  (binOp .eql t (.slice a l c) (.slice none 0 0)).run P w=.ok (.bool a.isNone) w/\(binOp .neq t (.slice a l c) (.slice none 0 0)).run P w=.ok (.bool !a.isNone) w:=by
 have b:(Op.equal t (.slice a l c) (.slice none 0 0)).run P w=.ok a.isNone w:=tD 9999 h a l c
 constructor <;> simp only[binOp,Sem.run_bind,b] <;> rfl
theorem run_eql_bool (h:P.underlying t=some .bool) (a b:Bool) :
  (binOp .eql t (.bool a) (.bool b)).run P w=.ok (.bool (a==b)) w/\(binOp .neq t (.bool a) (.bool b)).run P w=.ok (.bool !(a==b)) w:=by
 have c:(Op.equal t (.bool a) (.bool b)).run P w=.ok (a==b) w:=BN 9999 h a b
 constructor <;> simp only[binOp,Sem.run_bind,c] <;> rfl
theorem lV (h:P.underlying t=some (.pointer e)) (a:Option Addr) :
  (binOp .eql t (.pointer a) (.pointer none)).run P w=.ok (.bool a.isNone) w/\(binOp .neq t (.pointer a) (.pointer none)).run P w=.ok (.bool !a.isNone) w:=by
 have b:(Op.equal t (.pointer a) (.pointer none)).run P w=.ok a.isNone w:=DT 9999 h a
 constructor <;> simp only[binOp,Sem.run_bind,b] <;> rfl
theorem FI {k:TypeId} (h:P.underlying t=some (.map k e)) (a:Option Nat) :
  (binOp .eql t (.map a) (.map none)).run P w=.ok (.bool a.isNone) w/\(binOp .neq t (.map a) (.map none)).run P w=.ok (.bool !a.isNone) w:=by
 have b:(Op.equal t (.map a) (.map none)).run P w=.ok a.isNone w:=xV 9999 h a
 constructor <;> simp only[binOp,Sem.run_bind,b] <;> rfl
theorem G2 (W:E.Ok P) {c:BinOp} {x y v:Value} (h:yA E.pr c (E.desc t) x y=some v) (l:bJ x=true) (X Y:Operand) :
  ((do eqGuard c t X Y x y;binOp c t x y):Sem Value).run P w=.ok v w/\bJ v=true:=by
 rw[W.nc] at h;unfold yA at h
 split at h
 ·rename_i k a m b
  split at h
  ·grind
  rename_i d;simp[bW.nc] at h d;subst h;exact⟨by simp[eqGuard,binOp,Op.shift];omega,jN _ _⟩
 ·rename_i k a m b
  split at h
  ·grind
  rename_i d;simp[bW.nc] at h d;subst h;exact⟨by simp[eqGuard,binOp,Op.shift];grind,G9 _ l⟩
 ·rename_i k a m b i j
  split at h
  ·rename_i o;subst o;obtain⟨n,f⟩:=Jx (P:=P) (w:=w) h l i j t;refine⟨?_,f⟩;simp
   have:(eqGuard c t X Y (.int k a) (.int k b)).run P w=.ok () w:=by
    unfold eqGuard;simp_all
   simp_all
  grind
 ·rename_i a b;obtain⟨n,f⟩:=H6 (P:=P) (w:=w) h t;refine⟨?_,f⟩;simp
  have:(eqGuard c t X Y (.string a) (.string b)).run P w=.ok () w:=by
   unfold eqGuard;simp_all
  simp_all
 ·split at h
  ·rename_i D;simp at h;subst h;have d:=fun a b=>(run_eql_bool (w:=w) (W.Dc D) a b).1
   exact⟨by simp[eqGuard,d],rfl⟩
  grind
 ·split at h
  ·rename_i D;simp at h;subst h;have d:=fun a b=>(run_eql_bool (w:=w) (W.Dc D) a b).2
   exact⟨by simp[eqGuard,d],rfl⟩
  grind
 ·split at h
  ·rename_i D;obtain⟨e,g⟩:=W.kD D;simp at h;subst h;have d:=fun a=>(lV (w:=w) g a).1
   exact⟨by simp[eqGuard,d],rfl⟩
  grind
 ·split at h
  ·rename_i D;obtain⟨e,g⟩:=W.kD D;simp at h;subst h;have d:=fun a=>(lV (w:=w) g a).2
   exact⟨by simp[eqGuard,d],rfl⟩
  grind
 grind
end
end Go.Tp
namespace Go.Tp
section
variable {P:Program} {E:bz} {w:World} {R:Own} {N:Name->Option Nat}
theorem add_plain (b a n:Nat):(Addr.add ⟨b,a,none⟩ n)=⟨b,a+n,none⟩:=by
 unfold Addr.add
 grind
theorem oN (W:E.Ok P) {d:TypeId} {f c:Nat} {i:TI} (h:mh E d f=some (c,i)) :
  ∃(a:Array Field) (b:Field),P.underlying d=some (.struct a)/\a[f]?=some b/\b.offset=c/\E.ty b.type=some i:=by
 unfold mh at h
 split at h
 ·rename_i e D;obtain⟨a,j,g,_⟩:=W.Hl D
  grind
 grind
theorem afP:∀{d:List ak} {b a:Nat} (k:Nat),eN w R b a d->eN w R b (a+k) (d.drop k)
 | d,b,a,0,h=>by grind
 | [],_,_,k+1,_=>by simp[eN]
 | c::d,b,a,k+1,h=>by
  have:=afP k h.2
  grind
theorem wW (W:E.Ok P) {e:TypeId} {f c:Nat} {i:TI} (h:mh E e f=some (c,i)) (k:i.size≠0) (b o:Nat) :
  (Instr.fieldAt e (.pointer (some ⟨b,o,none⟩)) f).run P w=.ok (.pointer (some ⟨b,o+c,none⟩)) w:=by
 obtain⟨d,j,a,l,m,g⟩:=oN W h;simp[Instr.fieldAt,aV a,l,Instr.sureAddr,fieldPlace,W.fT g,k,add_plain,m]
theorem xT (W:E.Ok P) {m:TypeId} {f:Nat} {a:ac} {x:Value} {e:Out} (h:lF E m f [a]=some e) (l:ai w R N a x []) :
  e.eff=.keep/\∃v,(Instr.fieldAt m x f).run P w=.ok v w/\ai w R N e.val v []:=by
 cases a with
 | ref c=>
  obtain⟨_,b,o,rfl,p⟩:=l;simp only[lF] at h
  split at h
  ·rename_i k i j
   split at h
   ·grind
   rename_i g;simp at h;subst h;exact⟨rfl,_,wW W j g b o,by grind[ai,afP]⟩
  grind
 | ptr n o=>
  obtain⟨_,b,d,rfl⟩:=l;simp only[lF] at h
  split at h
  ·rename_i k i j
   split at h
   ·grind
   rename_i g;simp at h;subst h;exact⟨rfl,_,wW W j g b o,by grind[ai]⟩
  grind
 | _=>grind[lF]
theorem zM:∀{a:List Value} {c:List ak} (k:Nat),dz w R a c->dz w R (a.drop k) (c.drop k)
 | a,c,0,h=>by grind
 | [],[],_+1,_=>trivial
 | _::a,_::c,k+1,h=>by simpa using zM k h.2
 | [],_::_,_,h=>h.elim
 | _::_,[],_,h=>h.elim
theorem sC:∀{a:List Value} {c:List ak} (k:Nat),dz w R a c->dz w R (a.take k) (c.take k)
 | a,c,0,_=>by simp[dz]
 | [],[],_+1,_=>trivial
 | _::a,_::c,k+1,h=>by simpa [dz] using ⟨h.1,sC k h.2⟩
 | [],_::_,_,h=>h.elim
 | _::_,[],_,h=>h.elim
theorem zN:∀{g:List ak} {b d:Nat},eN w R b d g->∃f:List Value,dz w R f g/\∀(j:Nat) (v:Value),f[j]?=some v->w.cell? ⟨b,d+j,none⟩=some v
 | [],_,_,_=>⟨[],trivial,by simp⟩
 | c::g,b,d,h=>by
  obtain⟨v,e,_,i⟩:=h.1;obtain⟨f,a,k⟩:=zN h.2;refine⟨v::f,⟨i,a⟩,fun j u l=>?_⟩
  grind
theorem pU (W:E.Ok P) {t:TypeId} {i:TI} (T:E.ty t=some i) {b d:Nat} {c:List Value}
  (e:∀(j:Nat) (v:Value),c[j]?=some v->w.cell? ⟨b,d+j,none⟩=some v) (N:i.size<=c.length) (a:i.isAgg=false->0 < c.length) :
  (loadVar t ⟨b,d,none⟩).run P w=.ok (if i.isAgg then .agg (c.take i.size).toArray else c.headD undef) w:=by
 unfold loadVar;simp only[Sem.run_bind,W.kN T,Result.andThen_ok]
 cases A:i.isAgg with
 | true=>
  simp only[if_true,Sem.run_bind,W.fT T,Result.andThen_ok]
  have:=run_loadCells_list (P:=P) (w:=w) ⟨b,d,none⟩ (c.take i.size) (fun j v f=>by
   grind[add_plain])
  simp_all
 | false=>
  have o:=a A
  cases c with
  | nil=>grind
  | cons v c=>
   have:=e 0 v (by simp)
   simp_all
theorem Ek (W:E.Ok P) {t:TypeId} {i:TI} (T:E.ty t=some i) {f:List ak} {v:ac} (h:agj i f=some v) {b e:Nat} (m:eN w R b e f) :
  ∃n,(loadVar t ⟨b,e,none⟩).run P w=.ok n w/\ai w R N v n []:=by
 obtain⟨r,a,p⟩:=zN m;have l:=cZ a;unfold agj at h
 split at h
 ·rename_i A;dsimp only at h
  split at h
  ·rename_i g;simp at h;subst h;simp at g;refine⟨_,pU W T p (by omega) (by simp[A]),?_⟩;rw[if_pos A];exact bQ ⟨r.take i.size,rfl,sC _ a⟩
  simp at h
 rename_i A;have k:i.isAgg=false:=by simpa using A
 cases r with
 | nil=>
  cases f with
  | nil=>simp at h
  | cons c f=>simp at l
 | cons u z=>
  cases f with
  | nil=>simp at l
  | cons c f=>
   have y:i.size<=(u::z).length∨True:=.inr trivial;have j:(loadVar t ⟨b,e,none⟩).run P w=.ok u w:=by
    unfold loadVar;have o:=p 0 u (by simp);simp at o;simp[W.kN T,k,o]
   refine⟨u,j,?_⟩;obtain⟨q,_⟩:=a
   cases c with
   | flat x=>simp at h;subst h;exact bQ (d:=.flat x) q
   | slice s=>simp at h;subst h;exact bQ (d:=.slice s) q
   | agg S=>simp at h
end
end Go.Tp
namespace Go.Tp
section
variable {P:Program} {E:bz} {w:World} {R:Own} {N:Name->Option Nat}
variable {a b:ac} {t:TypeId} {x y:Value}
theorem Mk (W:E.Ok P) {f:BinOp} {i:Out} (h:Ny E f t [a,b]=some i)
  (A:ai w R N a x []) (d:ai w R N b y []) (X Y:Operand) :
  i.eff=.keep/\∃m,((do eqGuard f t X Y x y;binOp f t x y):Sem Value).run P w=.ok m w/\ai w R N i.val m []:=by
 unfold Ny at h
 split at h
 ·rename_i u v g;obtain⟨rfl,rfl⟩:=g;obtain⟨_,rfl,n⟩:=aC A;obtain⟨_,rfl,_⟩:=aC d
  cases c:yA E.pr f (E.desc t) x y with
  | none=>grind[XC]
  | some r=>
   simp[c,XC] at h;subst h;obtain⟨p,q⟩:=G2 (w:=w) W c n X Y;grind[bC]
 ·rename_i u v _ g;obtain⟨rfl,rfl⟩:=g
  cases c:Jd f (E.desc t) a b with
  | none=>grind[XC]
  | some r=>
   simp[c,XC] at h;subst h;unfold Jd at c
   split at c
   ·have D:E.desc t=some .pointer:=by grind
    obtain⟨e,j⟩:=W.kD D;obtain⟨_,rfl,_⟩:=aC d;obtain⟨_,l,_,rfl⟩:=A;have d:=fun a=>lV (w:=w) j a
    cases f <;> simp at c <;> subst c <;> refine⟨rfl,_,?_,bC rfl⟩ <;> simp[eqGuard,d]
   ·have D:E.desc t=some .pointer:=by grind
    obtain⟨e,j⟩:=W.kD D;obtain⟨_,rfl,_⟩:=aC d;obtain⟨_,l,o,rfl,_⟩:=A;have d:=fun a=>lV (w:=w) j a
    cases f <;> simp at c <;> subst c <;> refine⟨rfl,_,?_,bC rfl⟩ <;> simp[eqGuard,d]
   ·obtain⟨k,e,D⟩:∃k e,E.desc t=some (.map k e):=⟨_,_,by assumption⟩;have j:=W.nE D;obtain⟨_,rfl,_⟩:=aC d;obtain⟨_,l,_,rfl⟩:=A;have d:=fun a=>FI (w:=w) j a
    cases f <;> simp at c <;> subst c <;> refine⟨rfl,_,?_,bC rfl⟩ <;> simp[eqGuard,d]
   grind
 grind
theorem zd (W:E.Ok P) {g:BinOp} {f:Out} (h:wL E g t [a,b]=some f)
  (A:ai w R N a x []) (X Y:Operand) :
  f.eff=.keep/\∃v,((do eqGuard g t X Y x (.slice none 0 0);binOp g t x (.slice none 0 0)):Sem Value).run P w=.ok v w/\ai w R N f.val v []:=by
 simp only[wL] at h
 split at h
 ·obtain⟨e,D⟩:∃e,E.desc t=some (.slice e):=⟨_,by assumption⟩;have j:=W.jo D;have m:∀i l c,x=.slice (some i) l c->notNil g=some f->
    f.eff=.keep/\∃v,((do eqGuard g t X Y x (.slice none 0 0);binOp g t x (.slice none 0 0)):Sem Value).run P w=.ok v w/\ai w R N f.val v []:=by
   intro i l c k h;subst k;have d:=fun a=>rT (w:=w) j a l c
   cases g <;> simp[notNil] at h <;> subst h <;> refine⟨rfl,_,?_,bC rfl⟩ <;> simp[eqGuard,d]
  split at h
  ·grind[ai]
  ·obtain⟨_,A⟩:=A
   cases A <;> grind
  ·obtain⟨_,rfl,_⟩:=aC A;have d:=rT (w:=w) j none 0 0
   cases g <;> simp[NF] at h <;> subst h <;> refine⟨rfl,_,?_,bC rfl⟩ <;> simp[eqGuard,d]
  grind
 grind
theorem Oq (W:E.Ok P) {e:UnOp} {d:Out} (h:aUn E e [a]=some d) (A:ai w R N a x []) :
  d.eff=.keep/\∃v,(Op.unary e x).run P w=.ok v w/\ai w R N d.val v []:=by
 unfold aUn at h
 split at h
 ·rename_i b c;simp at c;subst c;obtain⟨_,rfl,_⟩:=aC A
  cases e <;> simp at h
  subst h;exact⟨rfl,_,by simp[Op.unary],bC rfl⟩
 ·rename_i k n c;simp at c;subst c;obtain⟨_,rfl,_⟩:=aC A
  cases e <;> simp[W.nc,bW.nc] at h
  subst h;refine⟨rfl,.int k (k.wrap (0 - n)),by simp[Op.unary,Op.intArith],?_⟩;grind[bC,jN]
 grind
theorem nV:∀{e:List Value} {d:List ak},e.length=d.length->(∀(j:Nat) v c,e[j]?=some v->d[j]?=some c->eU w R v c)->dz w R e d
 | [],[],_,_=>trivial
 | v::e,c::d,l,h=>⟨h 0 v c (by simp) (by simp),nV (by grind) (fun j v c a b=>h (j+1) v c (by grind) (by grind))⟩
 | [],_::_,l,_=>by grind
 | _::_,[],l,_=>by grind
theorem qC:∀{g:List ak} {f:List Int} {e:List Value},eS g=some f->dz w R e g->e=f.map (Value.int .u8)/\f.length=g.length
 | [],f,e,h,i=>by
  simp[eS] at h;subst h
  cases e with
  | nil=>grind
  | cons=>exact i.elim
 | d::g,f,e,h,i=>by
  unfold eS at h
  split at h
  ·grind
  ·rename_i n r j;obtain⟨rfl,rfl⟩:=j
   split at h
   ·rename_i l k;simp at h;subst h
    cases e with
    | nil=>exact i.elim
    | cons c e=>
     obtain⟨a,b⟩:=i;obtain⟨E,F⟩:=qC k b
     cases a <;> grind
   grind
  grind
theorem mP:∀{a:List ak} {e:List Int},eS a=some e->a.flatMap ak.cells=a/\∀d∈a,d.cells.length=1
 | [],_,_=>⟨rfl,by simp⟩
 | d::a,e,h=>by
  unfold eS at h
  split at h
  ·grind
  ·rename_i n r b;obtain⟨rfl,rfl⟩:=b
   split at h
   ·rename_i f c;obtain⟨E,F⟩:=mP c;grind[ak.cells]
   grind
  grind
theorem pz:∀{b:List ak} {a:List Int},eS b=some a->a.length=b.length
 | [],a,h=>by grind[eS]
 | d::b,a,h=>by
  unfold eS at h
  split at h
  ·grind
  ·rename_i n r c;obtain⟨rfl,rfl⟩:=c
   split at h
   ·rename_i f e;simp at h;subst h;simp[pz e]
   grind
  grind
theorem BR (a:List Int):(nh a).size=a.length:=by
 unfold nh
 have:∀(a:List Int) (b:ByteArray),(a.foldl (fun r n=>r.push (UInt8.ofNat n.toNat)) b).size=b.size+a.length:=by
  intro a
  induction a with
  | nil=>grind
  | cons n a c=>intro b;simp only[List.foldl_cons,c,List.length_cons];simp[ByteArray.size_push];omega
 simp_all
theorem vy {v:Value} {c:List ak} {k:List Int} (h:eU w R v (.slice c)) (f:eS c=some k) :
  (Conv.bytesToString v).run P w=.ok (.string (nh k)) w/\bJ (.string (nh k))=true:=by
 have A:k.length<=lim:=by
  obtain⟨_,F⟩:=mP f
  have:k.length=c.length:=pz f
  rw[this]
  cases h with
  | nil=>simp
  | slice=>assumption
 refine⟨?_,by simp only[bJ,BR,decide_eq_true_eq];unfold lim at A;omega⟩;obtain⟨E,F⟩:=mP f
 cases h with
 | nil a p=>
  simp[eS] at f;subst f
  cases a with
  | none=>simp[Conv.bytesToString,nh]
  | some a=>
   rw[run_bytesToString w a 0 p [] (by simpa using run_loadCells_list (P:=P) (w:=w) a [] (by intro j v m;simp at m))];rfl
 | slice b y p s c T W l K N q C=>
  by_cases B:c=[]
  ·subst B;simp[eS] at f;subst f;rw[List.length_nil,run_bytesToString w _ 0 p [] (by simpa using run_loadCells_list (P:=P) (w:=w) _ [] (by intro j v m;simp at m))];rfl
  have J:s=1:=by
   cases c with
   | nil=>exact absurd rfl B
   | cons d c=>rw[←l d (by simp),F d (by simp)]
  subst J;have G:dz w R ((List.range c.length).map fun i=>T i 0) c:=by
   apply nV
   ·simp
   intro i v d V D;rw[List.getElem?_map] at V
   cases t:(List.range c.length)[i]? with
   | none=>rw[t] at V;simp at V
   | some O=>
   rw[t] at V;obtain⟨u,g⟩:=List.getElem?_eq_some_iff.1 t;simp at g V;subst g;subst V;have H:d.cells[0]?=some d:=by
    have U:=F d (List.mem_of_getElem? D)
    have:∀(c:List ak) k,eS c=some k->∀d∈c,d.cells=[d]:=by
     intro c
     induction c with
     | nil=>intro _ _ d D;simp at D
     | cons a c Q=>
      intro k f d D;unfold eS at f
      split at f
      ·simp at *
      ·rename_i n r z;simp at z;obtain⟨rfl,rfl⟩:=z
       split at f
       ·rename_i S I
        rcases List.mem_cons.1 D with rfl|D
        ·rfl
        exact Q S I d D
       simp at f
      simp at f
    rw[this c k f d (List.mem_of_getElem? D)];rfl
   exact C i 0 d d D H
  obtain⟨L,M⟩:=qC f G;have x:=run_loadCells_list (P:=P) (w:=w) ⟨b,y,none⟩ (k.map (Value.int .u8)) (by
   intro j v m;rw[←L,List.getElem?_map] at m
   cases t:(List.range c.length)[j]? with
   | none=>rw[t] at m;simp at m
   | some O=>
   rw[t] at m;obtain⟨u,g⟩:=List.getElem?_eq_some_iff.1 t;simp at g m u;subst g;subst m
   have:=(q j 0 u (by omega)).1
   simp only[Nat.mul_one,Nat.add_zero] at this;have e:(Addr.add ⟨b,y,none⟩ j)=⟨b,y+j,none⟩:=by
    simp only[Addr.add]
    split
    ·rename_i o;subst o;rfl
    rfl
   rw[e];exact this)
  rw[run_bytesToString w _ c.length p k (by simpa [M] using x)];rfl
theorem BM (W:E.Ok P) {s d:TypeId} {j:Out} (h:BD E s d [a]=some j) (A:ai w R N a x []) :
  j.eff=.keep/\∃v,(convert s d x).run P w=.ok v w/\ai w R N j.val v []:=by
 unfold BD at h
 split at h
 ·rename_i k n i;simp at i;subst i;obtain⟨_,rfl,_⟩:=aC A
  split at h
  ·rename_i q K m b;simp[W.nc,bW.nc] at h;subst h;exact⟨rfl,_,by simp[convert,aV (W.Bc m),aV (W.Bc b),Conv.intToInt],bC (jN _ _)⟩
  grind
 ·rename_i y i;simp at i;subst i;obtain⟨_,rfl,p⟩:=aC A
  split at h
  ·rename_i m b;simp at h;subst h;exact⟨rfl,_,by simp[convert,aV (W.gA m),aV (W.gA b)],bC p⟩
  grind
 ·rename_i r i;simp at i;subst i;obtain⟨_,o⟩:=dG A
  split at h
  ·rename_i e m b
   split at h
   ·rename_i t f g;simp at h;subst h;obtain⟨q,K⟩:=vy (P:=P) o g;refine⟨rfl,_,?_,bC K⟩;have X:∃a l c,x=.slice a l c:=by cases o <;> grind
    obtain⟨a,l,c,rfl⟩:=X;rw[run_convert_bytes_string w s d e a l c (W.jo m) (W.Bc f) (W.gA b)];grind
   grind
  grind
 grind
theorem fC (W:E.Ok P) {i:TI} (h:elemOf E t=some i):∃e,P.underlying t=some (.slice e)/\E.ty e=some i:=by
 unfold elemOf at h
 split at h
 ·rename_i e D;exact⟨e,W.jo D,h⟩
 grind
theorem Mt {v:Value} {m:List ak} (h:eU w R v (.slice m)) {i:Nat} {d:ak} (u:m[i]?=some d) :
  ∃b e f,v=.slice (some ⟨b,e,none⟩) m.length f/\eN w R b (e+i*d.cells.length) d.cells:=by
 cases h with
 | nil=>grind
 | slice b e f s m B E n t C g o=>
  have D:=n d (List.mem_of_getElem? u);have p:i < m.length:=by
   grind
  refine⟨b,e,f,rfl,?_⟩;have r:∀(k:Nat) (l:List ak),d.cells.drop k=l->eN w R b (e+i*d.cells.length+k) l:=by
   intro k l
   induction l generalizing k with
   | nil=>intro _;trivial
   | cons c l A=>
    intro z;have y:d.cells[k]?=some c:=by
     have:=List.getElem?_drop (xs:=d.cells) (i:=k) (j:=0)
     grind
    have q:k < s:=by
     grind
    obtain⟨a,x⟩:=g i k p q;rw[D];refine⟨⟨B i k,a,x,o i k d c u y⟩,?_⟩
    have:=A (k+1) (by rw[←List.drop_drop,z];rfl)
    grind
  simpa using r 0 d.cells (by simp)
theorem xS (W:E.Ok P) {r:Out} (h:ap E t [a,b]=some r) (A:ai w R N a x []) (J:ai w R N b y []) :
  r.eff=.keep/\∃v,(Instr.indexAt t x y).run P w=.ok v w/\ai w R N r.val v []:=by
 unfold ap at h
 split at h
 ·rename_i C k i c;simp at c;obtain⟨rfl,rfl⟩:=c;obtain⟨_,rfl,_⟩:=aC J;obtain⟨_,S⟩:=dG A
  split at h
  ·rename_i B p;obtain⟨e,z,T⟩:=fC W p
   split at h
   ·rename_i d g;have K:0<=i/\C[i.toNat]?=some d:=by
     rw[W.nc] at g;simp only[bW.nc] at g
     split at g
     ·exact⟨by assumption,g⟩
     simp at g
    obtain⟨o,D⟩:=K
    ·split at h
     ·rename_i u;simp at h;subst h;obtain⟨m,l,F,rfl,I⟩:=Mt S D;have L:i.toNat < C.length:=by
       rcases Nat.lt_or_ge i.toNat C.length with G|G
       ·exact G
       rw[List.getElem?_eq_none G] at D;simp at D
      have f:i < (C.length:Int):=by omega
      refine⟨rfl,.pointer (some ⟨m,l+i.toNat*B.size,none⟩),?_,?_⟩
      ·simp[Instr.indexAt,asIntOf,aV z,o,f,W.fT T,add_plain]
      simp only[ai];exact⟨trivial,m,_,rfl,by rw[←u.1];exact I⟩
     simp at h
   simp at h
  simp at h
 ·rename_i n s l q k i c;simp at c;obtain⟨rfl,rfl⟩:=c;obtain⟨_,rfl,_⟩:=aC J;simp only[ai] at A;obtain⟨_,m,F,H,rfl,O,U,L,u⟩:=A
  split at h
  ·rename_i B p;obtain⟨e,z,T⟩:=fC W p
   split at h
   ·rename_i j _
    split at h
    ·rename_i M;simp only[Bool.and_eq_true,Nat.blt_eq,Nat.beq_eq] at M;obtain⟨Q,rfl⟩:=M;simp at h;subst h;refine⟨rfl,.pointer (some ⟨m,l+j*B.size,none⟩),?_,?_⟩
     ·have o:(0:Int)<=(j:Int):=Int.natCast_nonneg j;have f:(j:Int) < (q:Int):=by omega
      simp[Instr.indexAt,asIntOf,aV z,o,f,W.fT T,add_plain];omega
     simp only[ai];exact⟨trivial,m,H,rfl⟩
    simp at h
   simp at h
  simp at h
 ·rename_i n l k i c;simp at c;obtain⟨rfl,rfl⟩:=c;obtain⟨_,rfl,_⟩:=aC J;simp only[ai] at A;obtain⟨_,m,H,rfl⟩:=A
  split at h
  ·rename_i q e D;have z:=W.JV D
   split at h
   ·rename_i B j T _
    split at h
    ·rename_i Q;rw[Nat.blt_eq] at Q;simp at h;subst h;refine⟨rfl,.pointer (some ⟨m,l+j*B.size,none⟩),?_,?_⟩
     ·have o:(0:Int)<=(j:Int):=Int.natCast_nonneg j;have f:(j:Int) < (q:Int):=by omega
      simp[Instr.indexAt,asIntOf,aV z,o,f,W.fT T,add_plain,Instr.sureAddr];intro X;omega
     simp only[ai];exact⟨trivial,m,H,rfl⟩
    simp at h
   simp at h
  simp at h
 simp at h
theorem dY:∀{c:List ac} {d:List Value} {B:List Nat} {i:Nat} {a:ac},ah w R N c d B->c[i]?=some a->
  ∃v e,d[i]?=some v/\ai w R N a v e/\e.Sublist B
 | [],_,_,_,_,_,h=>by grind
 | x::c,d,B,0,a,h,f=>by
  grind[au]
 | x::c,d,B,i+1,a,h,f=>by
  obtain⟨v,g,r,Q,rfl,rfl,k,b⟩:=au h;obtain⟨u,e,E,F,j⟩:=dY b f;grind
theorem BL {i:Nat} {B:List Nat} {b:Out} (h:va i [a]=some b) (A:ai w R N a x B) :
  b.eff=.keep/\∃e d,(Instr.extract x i).run P w=.ok e w/\ai w R N b.val e d/\d.Sublist B:=by
 unfold va at h
 split at h
 ·rename_i k c;simp at c;subst c;obtain⟨j,rfl,g⟩:=A
  split at h
  ·rename_i v V;simp at h;subst h;obtain⟨u,d,E,F,f⟩:=dY g V;exact⟨rfl,u,d,by simp[Instr.extract,E],F,f⟩
  grind
 grind
theorem wZ:∀{c:List ac} {e:List Value} (k:Nat),ah w R N c e []->ah w R N (fb k c) (e.take k) []/\ah w R N (jQ k c) (e.drop k) []
 | c,e,0,h=>by grind[fb,jQ,aP]
 | [],_,k+1,h=>by grind[aM,fb,jQ]
 | a::c,e,k+1,h=>by
  obtain⟨v,f,r,Q,rfl,d,g,b⟩:=au h;obtain⟨rfl,rfl⟩:=List.append_eq_nil_iff.1 d.symm;obtain⟨E,F⟩:=wZ k b;grind[fb,aD,jQ]
theorem ze {f:Fn} {c:List ac} {e g:List Value} {d:Out} (h:wM f e.length c=some d) (i:ah w R N c (e++g) []) :
  d.eff=.keep/\∃v,(Instr.makeFunc f e.toArray g.toArray).run P w=.ok v w/\ai w R N d.val v []:=by
 simp[wM] at h;subst h;obtain⟨a,b⟩:=wZ e.length i;simp at a b;refine⟨rfl,_,rfl,?_⟩;grind[ai]
theorem Mj (W:E.Ok P) {c:Out} (h:Vb E [a,b]=some c) (A:ai w R N a x []) (d:ai w R N b y []) (e:Array TypeId) (i:TypeId) :
  c.eff=.keep/\∃v,(Builtin.max_ e i #[x,y]).run P w=.ok v w/\ai w R N c.val v []:=by
 unfold Vb at h
 split at h
 ·rename_i k m l n f;obtain⟨rfl,rfl⟩:=f;obtain⟨_,rfl,j⟩:=aC d;obtain⟨_,rfl,X⟩:=aC A
  split at h
  ·rename_i g;simp[W.nc,bW.nc] at h;subst h;subst g;exact⟨rfl,_,by simp[Builtin.max_,Builtin.max2],bC (by grind)⟩
  grind
 grind
theorem Mi (W:E.Ok P) {c:Out} (h:Nx E [a,b]=some c) (A:ai w R N a x []) (d:ai w R N b y []) (e:Array TypeId) (i:TypeId) :
  c.eff=.keep/\∃v,(Builtin.min_ e i #[x,y]).run P w=.ok v w/\ai w R N c.val v []:=by
 unfold Nx at h
 split at h
 ·rename_i k m l n f;obtain⟨rfl,rfl⟩:=f;obtain⟨_,rfl,j⟩:=aC d;obtain⟨_,rfl,X⟩:=aC A
  split at h
  ·rename_i g;simp[W.nc,bW.nc] at h;subst h;subst g;exact⟨rfl,_,by simp[Builtin.min_,Builtin.min2],bC (by grind)⟩
  grind
 grind
end
end Go.Tp
namespace Go.Tp
section
variable {P:Program} {E:bz} {w:World} {R:Own} {N:Name->Option Nat}
theorem pJ:∀(k:Nat) (l:List ac),fb k l=l.take k
 | 0,_=>by simp[fb]
 | _+1,[]=>by simp[fb]
 | k+1,_::l=>by simp[fb,pJ k l]
theorem Ba:∀(k:Nat) (l:List ac),jQ k l=l.drop k
 | 0,_=>by simp[jQ]
 | _+1,[]=>by simp[jQ]
 | k+1,_::l=>by simp[jQ,Ba k l]
theorem zJ:∀{c:List ac} {d:List Value} {B:List Nat} (k:Nat),ah w R N c d B->∃e,ah w R N (c.drop k) (d.drop k) e
 | c,d,B,0,h=>⟨B,by grind⟩
 | [],_,_,k+1,h=>by grind[aM]
 | a::c,d,B,k+1,h=>by
  obtain⟨v,f,r,Q,rfl,rfl,g,b⟩:=au h;simpa using zJ k b
theorem zG:∀{c:List ac} {d:List Value} {B:List Nat} (k:Nat),ah w R N c d B->∃e,ah w R N (c.take k) (d.take k) e
 | c,d,B,0,h=>⟨[],by grind[aP]⟩
 | [],_,_,k+1,h=>by grind[aM]
 | a::c,d,B,k+1,h=>by
  obtain⟨v,i,r,Q,rfl,rfl,j,b⟩:=au h;obtain⟨g,f⟩:=zG k b;exact⟨r++g,by grind[aD]⟩
variable {c:List ac} {i:TI} {t:TypeId}
theorem mH {e:Nat} {v:ac} (h:loadCells i e c=some v) {f:List Value} {B:List Nat} (k:ah w R N c f B) :
  ∃g,ai w R N v g []/\(i.isAgg=true->g=.agg ((f.drop e).take i.size).toArray/\e+i.size<=f.length∨i.size=0/\g=.agg #[]/\i.isAgg=true)/\(i.isAgg=false->f[e]?=some g):=by
 unfold loadCells at h
 split at h
 ·rename_i A;dsimp only at h
  split at h
  ·rename_i l;simp at h;subst h;rw[pJ,Ba] at l ⊢;obtain⟨r,a⟩:=zJ e k;obtain⟨Q,b⟩:=zG i.size a;refine⟨.agg ((f.drop e).take i.size).toArray,kR (iZ b),fun _=>?_,fun p=>by grind⟩
   by_cases o:i.size=0
   ·grind
   refine .inl ⟨rfl,?_⟩
   have:=k.length
   grind
  grind
 rename_i A;have n:i.isAgg=false:=by grind
 split at h
 ·rename_i m j;simp at h;subst h;obtain⟨u,q,E,F,_⟩:=dY k j;exact⟨u,bQ (d:=.slice m) (cy F).rep,(fun p=>by grind),fun _=>E⟩
 all_goals grind[dY,lW]
theorem rj {d:List ac} {b:Nat} {a:ac} (h:c[b]?=some a):(c++d)[b]?=some a:=by
 grind
theorem mI {a:Nat} {ps:List ac} {v:ac} (h:loadCells i a c=some v):loadCells i a (c++ps)=some v:=by
 unfold loadCells at h ⊢
 split at h
 ·rename_i A;rw[if_pos A];dsimp only at h ⊢;rw[pJ,Ba] at h ⊢
  split at h
  ·rename_i l;have e:((c++ps).drop a).take i.size=(c.drop a).take i.size:=by
    rw[List.length_take,List.length_drop] at l
    by_cases o:i.size=0
    all_goals grind
   grind
  grind
 grind
theorem zB (W:E.Ok P) (T:E.ty t=some i) (d:List Value) (c:Nat) (v:Value)
  (a:i.isAgg=true->v=.agg ((d.drop c).take i.size).toArray) (b:i.isAgg=false->d[c]?=some v) :
  (part t d.toArray c).run P w=.ok v w:=by
 unfold part;simp only[Sem.run_bind,W.kN T,Result.andThen_ok]
 cases A:i.isAgg with
 | true=>
  simp[W.fT T,a A]
 | false=>
  simp_all
theorem agP (W:E.Ok P) (g:E.ty t=some i) {o:List ak} {e:List Value} {a:Nat} (s:dz w R e o) {v:ac} (l:agj i (o.drop a)=some v) :
  ∃p,(part t e.toArray a).run P w=.ok p w/\ai w R N v p []:=by
 have D:=zM a s;have b:=cZ D;unfold agj at l
 split at l
 ·rename_i f;dsimp only at l
  split at l
  ·simp at l;subst l;exact⟨.agg ((e.drop a).take i.size).toArray,zB (w:=w) W g e a (.agg ((e.drop a).take i.size).toArray) (fun _=>rfl) (fun n=>by rw[f] at n;cases n),bQ ⟨_,rfl,sC _ D⟩⟩
  simp at l
 rename_i f;have k:i.isAgg=false:=by simpa using f
 generalize r:o.drop a=S at l D b
 cases h:e.drop a with
 | nil=>
  rw[h] at b D
  cases S with
  | nil=>simp at l
  | cons c S=>simp at b
 | cons u y=>
  rw[h] at b D
  cases S with
  | nil=>simp at b
  | cons c S=>
   have m:e[a]?=some u:=by
    have:=List.getElem?_drop (xs:=e) (i:=a) (j:=0)
    rw[h] at this;simpa using this.symm
   refine⟨u,zB (w:=w) W g e a u (fun n=>by rw[k] at n;cases n) (fun _=>m),?_⟩
   cases c with
   | flat x=>simp at l;subst l;exact bQ (d:=.flat x) D.1
   | slice q=>simp at l;subst l;exact bQ (d:=.slice q) D.1
   | agg S=>simp at l
theorem Fz (W:E.Ok P) {f:Nat} {a:ac} {x:Value} {n:Out} (h:wN E t f [a]=some n) (A:ai w R N a x []) :
  n.eff=.keep/\∃m,(Instr.field t x f).run P w=.ok m w/\ai w R N n.val m []:=by
 cases a with
 | dat d=>
  cases d with
  | agg c=>
   simp only[wN] at h
   split at h
   ·rename_i k i r;obtain⟨j,o,p,b,q,g⟩:=oN W r;obtain⟨_,u,rfl,s⟩:=cB A
    cases l:agj i (c.drop k) with
    | none=>simp[l,xj] at h
    | some v=>
     simp[l,xj] at h;subst h;obtain⟨m,G,C⟩:=agP (N:=N) W g s l;exact⟨rfl,m,by simp[Instr.field,aV p,b,asAgg,q,G],C⟩
   simp at h
  | _=>simp[wN] at h
 | agg c=>
  simp only[wN] at h
  split at h
  ·rename_i k i r;obtain⟨j,o,p,b,q,g⟩:=oN W r;obtain⟨u,rfl,s⟩:=iD A
   cases l:loadCells i k c with
   | none=>simp[l,xj] at h
   | some v=>
    simp[l,xj] at h;subst h;obtain⟨m,z,F,B⟩:=mH l s;refine⟨rfl,m,?_,z⟩
    have:=zB (w:=w) W g u k m (fun D=>by
     rcases F D with⟨e,_⟩|⟨y,e,_⟩
     ·exact e
     simp[y,e]) B
    simp[Instr.field,aV p,b,asAgg,q,this]
  simp at h
 | _=>simp[wN] at h
theorem Fy (W:E.Ok P) {a b:ac} {x y:Value} {m:Out} (h:qP E t [a,b]=some m) (A:ai w R N a x []) (d:ai w R N b y []) :
  m.eff=.keep/\∃q,(Instr.index t x y).run P w=.ok q w/\ai w R N m.val q []:=by
 unfold qP at h
 split at h
 ·rename_i s k i g;simp at g;obtain⟨rfl,rfl⟩:=g;obtain⟨_,rfl,_⟩:=aC d;obtain⟨_,rfl,_⟩:=aC A
  split at h
  ·rename_i D
   split at h
   ·rename_i n f;have p:0<=i/\s[i.toNat]?=some n:=by
     rw[W.nc] at f;simp only[bW.nc] at f
     split at f
     ·exact⟨by assumption,f⟩
     simp at f
    obtain⟨o,r⟩:=p
    ·simp at h;subst h;exact⟨rfl,_,by simp[Instr.index,asIntOf,aV (W.gA D),o,r],bC (jl.2 (by have:=n.toNat_lt;simp[IntKind.min,IntKind.max,IntKind.bits,IntKind.signed];omega))⟩
   simp at h
  simp at h
 ·rename_i c k i g;simp at g;obtain⟨rfl,rfl⟩:=g;obtain⟨_,rfl,_⟩:=aC d;obtain⟨_,J,rfl,H⟩:=cB A
  cases i with
  | ofNat j=>
   simp only[agc] at h
   split at h
   ·rename_i u e D;have I:=W.JV D
    split at h
    ·rename_i B T
     split at h
     ·rename_i F;rw[Nat.blt_eq] at F
      cases l:agj B (c.drop (j*B.size)) with
      | none=>simp[l,xj] at h
      | some v=>
       simp[l,xj] at h;subst h;obtain⟨q,G,C⟩:=agP (N:=N) W T H l;have o:(0:Int)<=(j:Int):=Int.natCast_nonneg j;have z:(j:Int) < (u:Int):=by omega
       exact⟨rfl,q,by simp[Instr.index,asIntOf,aV I,o,W.fT T,G];intro X;omega,C⟩
     simp at h
    simp at h
   simp at h
  | negSucc j=>simp[agc] at h
 simp at h
theorem nT (W:E.Ok P) (T:E.ty t=some i) {b a:Nat} {k:Array Value} {e:TypeId} {l:Nat×Nat} (d:w.heap[b]?=some (.cells k e l)) {B:List Nat} (p:ah w R N c k.toList B) {v:ac} (h:loadCells i a c=some v) :
  ∃g,(Instr.loadAt t (.pointer (some ⟨b,a,none⟩))).run P w=.ok g w/\ai w R N v g []:=by
 obtain⟨g,m,F,n⟩:=mH h p;refine⟨g,?_,m⟩;have f:∀(j:Nat) (u:Value),(k.toList.drop a)[j]?=some u->w.cell? ⟨b,a+j,none⟩=some u:=by
  intro j u q;rw[cell_of_row w b (a+j) k e l d];grind
 have:(Instr.loadAt t (.pointer (some ⟨b,a,none⟩))).run P w=(loadVar t ⟨b,a,none⟩).run P w:=by
  simp[Instr.loadAt,Instr.sureAddr]
 rw[this]
 cases A:i.isAgg with
 | true=>
  grind[pU]
 | false=>
  have J:=n A;have o:=f 0 g (by grind);simp at o;simp[loadVar,W.kN T,A,o]
end
end Go.Tp
namespace Go.Tp
section
variable {P:Program} {E:bz} {w:World} {R:Own} {N:Name->Option Nat}
theorem Dm {v:Option ac} {x:Option Value} {d n y:Nat} (h:mR v d=some n) (e:∀a,v=some a->∃u,x=some u/\ai w R N a u []) (g:v=none->x=none) (j:n<=y) (b:BoundsCode) :
  (match x with|some u=>(Instr.sliceBound u y b)|none=>(pure d:Sem Nat)).run P w=.ok n w:=by
 cases v with
 | none=>simp_all[mR]
 | some a=>
  obtain⟨u,rfl,f⟩:=e a rfl;unfold mR at h
  split at h
  ·grind
  ·rename_i k i c;simp at c;subst c;obtain⟨_,rfl,_⟩:=aC f
   split at h
   ·rename_i o;simp at h;subst h
    have:i<=(y:Int):=by omega
    simp[Instr.sliceBound,asIntOf,o,this]
   grind
  grind
theorem sA {isSlice:Bool} {f cap h l:Nat} {n i:Option ac} {e d:Option Value} (E:mR i f=some h) (F:mR n 0=some l)
  (g:∀a,i=some a->∃u,d=some u/\ai w R N a u []) (j:i=none->d=none)
  (m:∀a,n=some a->∃u,e=some u/\ai w R N a u []) (k:n=none->e=none) (o:l<=h) (b:h<=cap) :
  (Instr.sliceBounds isSlice f cap e d none).run P w=.ok (l,h,cap) w:=by
 have r:=fun c=>Dm (P:=P) (y:=cap) E g j b c
 have Q:=fun c=>Dm (P:=P) (y:=h) F m k o c
 cases d <;> cases e <;> simp_all [Instr.sliceBounds]
theorem OQ {v:Value} {g:List ak} {s l h:Nat} (A:eU w R v (.slice g)) (I:∀d∈g,d.cells.length=s) (C:l<=h) (D:h<=g.length) :
  ∃a f,v=.slice a g.length f/\g.length<=f/\eU w R (.slice (if f=l then a else a.map (·.add (l*s))) (h - l) (f - l)) (.slice ((g.take h).drop l)):=by
 have n:((g.take h).drop l).length=h - l:=by grind
 cases A with
 | nil a f=>
  refine⟨a,f,rfl,by simp,?_⟩
  have:h=0:=by grind
  subst this
  have:l=0:=by omega
  subst this;exact .nil _ _
 | slice b o f x g B t k m E p z=>
  refine⟨some ⟨b,o,none⟩,f,rfl,m,?_⟩
  by_cases q:l=h
  ·subst q
   have:(g.take l).drop l=[]:=by simp
   rw[this,Nat.sub_self];exact .nil _ _
  have r:¬f=l:=by omega
  rw[if_neg r];have u:x=s:=by
   cases g <;> simp_all
  subst u;simp only[Option.map_some,add_plain];rw[←n];refine .slice b (o+l*x) (f - l) x _ (fun i j=>B (l+i) j) t (fun e y=>k e (List.mem_of_mem_take (List.mem_of_mem_drop y))) (by omega) (by omega) (fun i j G H=>?_) (fun i j e c y F=>?_)
  all_goals grind
theorem gI {v:Option ac} {x:Option Int} {d:Nat} (h:vX v=some x):eJ x d=mR v d:=by
 unfold vX at h
 split at h
 ·simp at h;subst h;rfl
 ·simp at h;subst h;rfl
 grind
theorem Fx (W:E.Ok P) {t:TypeId} {C m mx:Option Operand} {a:ac} {c:List ac} {x:Value} {ρ:Operand->Value} {ag:Out}
  (h:fF E t C m mx (a::c)=some ag) (A:ai w R N a x []) (f:ah w R N c ((C.toList++m.toList).map ρ) []) :
  ag.eff=.keep/\mx=none/\∃cv,(Instr.sliceAt t x (C.map ρ) (m.map ρ) none).run P w=.ok cv w/\ai w R N ag.val cv []:=by
 have ax:∀(L H:Option ac),dT C m c=(L,H)->(∀v,H=some v->∃u,m.map ρ=some u/\ai w R N v u [])/\(H=none->m.map ρ=none) ∧
   (∀v,L=some v->∃u,C.map ρ=some u/\ai w R N v u [])/\(L=none->C.map ρ=none):=by
  intro L H g
  cases C with
  | none=>
   cases m with
   | none=>
    simp[dT] at g;obtain⟨rfl,rfl⟩:=g;simp
   | some y=>
    simp at f
    cases c with
    | nil=>simp[ah] at f
    | cons r c=>
     obtain⟨u,us,b1,Q,j,F,S,b⟩:=au f;simp at j;obtain⟨rfl,rfl⟩:=j;obtain⟨rfl,rfl⟩:=List.append_eq_nil_iff.1 F.symm
     cases c with
     | cons _ _=>simp[ah] at b
     | nil=>
      simp[dT] at g;obtain⟨rfl,rfl⟩:=g;simpa using S
  | some z=>
   cases m with
   | none=>
    simp at f
    cases c with
    | nil=>simp[ah] at f
    | cons r c=>
     obtain⟨u,us,b1,Q,j,F,S,b⟩:=au f;simp at j;obtain⟨rfl,rfl⟩:=j;obtain⟨rfl,rfl⟩:=List.append_eq_nil_iff.1 F.symm
     cases c with
     | cons _ _=>simp[ah] at b
     | nil=>
      simp[dT] at g;obtain⟨rfl,rfl⟩:=g;simpa using S
   | some y=>
    simp at f
    cases c with
    | nil=>simp[ah] at f
    | cons r c=>
     obtain⟨u,us,b1,Q,j,F,S,b⟩:=au f;simp at j;obtain⟨rfl,rfl⟩:=j;obtain⟨rfl,rfl⟩:=List.append_eq_nil_iff.1 F.symm
     cases c with
     | nil=>simp[ah] at b
     | cons r2 c=>
      obtain⟨u2,a0,p,q,f1,f2,g1,g2⟩:=au b;simp at f1;obtain⟨rfl,rfl⟩:=f1;obtain⟨rfl,rfl⟩:=List.append_eq_nil_iff.1 f2.symm
      cases c with
      | cons _ _=>simp[ah] at g2
      | nil=>
       simp[dT] at g;obtain⟨rfl,rfl⟩:=g;simp;exact⟨g1,S⟩
 obtain⟨k1,K,M,k4⟩:=ax (dT C m c).1 (dT C m c).2 rfl;unfold fF at h
 split at h
 ·rename_i s X T;obtain⟨rfl,rfl⟩:=List.cons.inj T;obtain⟨_,rfl,aq⟩:=aC A
  split at h
  ·rename_i D;have hu:=W.gA D
   cases k:qW E.pr 0 (dT C m c).1 (dT C m c).2 (.dat (.flat (.string s))) with
   | none=>simp[k,xj] at h
   | some v=>
    simp[k,xj] at h;subst h;have af:∃G Y,mR (dT C m c).2 s.size=some G/\mR (dT C m c).1 0=some Y/\(Y<=G/\G<=s.size)/\v=aeR (.string (s.extract Y G)):=by
     simp only[qW,W.nc,bW.nc] at k
     split at k
     ·rename_i l h hl G;rw[←gI hl,←gI G]
      split at k
      ·rename_i r B;simp at k
       split at B
       ·split at B
        ·rename_i S l1 j F J;simp at B;exact⟨_,_,j,F,J,by rw[←k,←B]⟩
        simp at B
       simp at B
      simp at k
     simp at k
    obtain⟨G,Y,j,F,J,rfl⟩:=af
    ·· 
      have hb:=sA (P:=P) (isSlice:=false) j F k1 K M k4 J.1 J.2;refine⟨rfl,rfl,.string (s.extract Y G),?_,bC (by simp[bJ] at aq ⊢;omega)⟩;simp[Instr.sliceAt,Instr.slice,aV hu,hb]
  simp at h
 ·rename_i es X T;obtain⟨rfl,rfl⟩:=List.cons.inj T;obtain⟨_,B⟩:=dG A
  split at h
  ·rename_i i ab;obtain⟨e,hu,U⟩:=fC W ab
   ·cases k:qW E.pr i.size (dT C m c).1 (dT C m c).2 (.dat (.slice es)) with
    | none=>simp[k,xj] at h
    | some v=>
     simp[k,xj] at h;subst h;have af:∃G Y,mR (dT C m c).2 es.length=some G/\mR (dT C m c).1 0=some Y/\(Y<=G/\G<=es.length)/\((∀d∈es,d.cells.length=i.size)/\0 < i.size)/\v=.dat (.slice ((es.take G).drop Y)):=by
      simp only[qW,W.nc,bW.nc] at k
      split at k
      ·rename_i l h hl G;rw[←gI hl,←gI G]
       split at k
       ·rename_i r B;simp at k
        split at B
        ·rename_i O
         split at B
         ·split at B
          ·rename_i S l1 j F J;simp at B;exact⟨_,_,j,F,J,O,by rw[←k,←B]⟩
          simp at B
         simp at B
        simp at B
       simp at k
      simp at k
     obtain⟨G,Y,j,F,J,O,rfl⟩:=af
     ·· 
       obtain⟨ad,cap,rfl,al,an⟩:=OQ B O.1 J.1 J.2;have hb:=sA (P:=P) (isSlice:=true) (cap:=cap) j F k1 K M k4 J.1 (by omega);refine⟨rfl,rfl,_,?_,bQ (d:=.slice _) an⟩;simp[Instr.sliceAt,Instr.slice,aV hu,hb,W.fT U]
  simp at h
 ·rename_i n s Z az X T;obtain⟨rfl,rfl⟩:=List.cons.inj T;simp only[ai] at A;obtain⟨_,bl,cap,hN,rfl,al,ae,am,O⟩:=A
  split at h
  ·rename_i i ab;obtain⟨e,hu,U⟩:=fC W ab
   split at h
   ·rename_i l0 o av ar
    split at h
    ·rename_i S l1 F j;rw[gI av] at j;rw[gI ar] at F
     split at h
     ·rename_i J;simp only[Bool.and_eq_true,Nat.ble_eq,Nat.beq_eq] at J;obtain⟨⟨ao,ay⟩,rfl⟩:=J;have hb:=sA (P:=P) (w:=w) (isSlice:=true) (cap:=cap) F j k1 K M k4 ao (by omega)
      split at h
      ·simp at h;subst h;refine⟨rfl,rfl,.slice (some ⟨bl,Z,none⟩) S cap,?_,?_⟩
       ·simp[Instr.sliceAt,Instr.slice,aV hu,hb,W.fT U,Addr.add]
       simp only[ai];exact⟨trivial,bl,cap,hN,rfl,by omega,ae,am,O⟩
      rename_i V
      split at h
      ·rename_i I;rw[Nat.blt_eq] at I;simp at h;subst h;have aw:¬cap=V+1:=by omega
       refine⟨rfl,rfl,.slice (some ⟨bl,Z+(V+1)*i.size,none⟩) (S - (V+1)) (cap - (V+1)),?_,?_⟩
       ·simp[Instr.sliceAt,Instr.slice,aV hu,hb,W.fT U,aw,add_plain]
       simp only[ai];refine⟨trivial,bl,cap - (V+1),hN,rfl,by omega,⟨ae.1,Nat.le_trans (Nat.sub_le _ _) ae.2⟩,am,?_⟩;rw[←O,Nat.sub_mul,Nat.add_assoc];congr 1
       have:(V+1)*i.size<=cap*i.size:=Nat.mul_le_mul_right _ (by omega)
       omega
      rename_i I;have I:¬V+1 < S:=fun h'=>I (by rw[Nat.blt_eq];exact h')
      simp at h;subst h;have he:S=V+1:=by omega
      subst he;refine⟨rfl,rfl,.slice (if cap=V+1 then some ⟨bl,Z,none⟩ else (some (⟨bl,Z,none⟩:Addr)).map (·.add ((V+1)*i.size))) 0 (cap - (V+1)),?_,bQ (d:=.slice _) (.nil _ _)⟩;simp[Instr.sliceAt,Instr.slice,aV hu,hb,W.fT U]
     simp at h
    simp at h
   simp at h
  simp at h
 simp at h
theorem gq {α:Type}:∀(b:Nat) (c l:List α) (k:Nat),(bI b c l)[k]?=if b<=k/\k < b+c.length/\k < l.length then c[k - b]? else l[k]?
 | b,[],l,k=>by
  have:¬(b<=k/\k < b+([]:List α).length/\k < l.length):=by grind
  rw[if_neg this];cases b <;> cases l <;> rfl
 | b,n::c,[],k=>by grind[bI]
 | 0,n::c,a::l,0=>by simp[bI]
 | 0,n::c,a::l,k+1=>by
  have:=gq 0 c l k
  grind[bI]
 | b+1,n::c,a::l,0=>by simp[bI]
 | b+1,n::c,a::l,k+1=>by
  have:=gq b (n::c) l k
  grind[bI]
theorem M4 (e:Nat) (v:Array Value) (d:Array Value) :
  ((v.zipIdx.foldl (fun c (x:Value×Nat)=>c.setIfInBounds (e+x.2) x.1) d))=(bI e v.toList d.toList).toArray:=by
 rw[←Array.foldl_toList,Array.toList_zipIdx];obtain⟨a,b⟩:=Great.foldl_set e v.toList 0 d
 apply Array.ext_getElem?
 grind[gq]
theorem zH:∀{ns d:List ac} {us f:List Value} {B:List Nat},ah w R N d f B->ns.length<=d.length->us.length=ns.length->
  ∃g c,B=g++c/\∀(b:List Nat) (j:World) (i:Own),bp w R j i c->ah j i N ns us b->ah j i N (bI 0 ns d) (bI 0 us f) (b++c)
 | [],d,us,f,B,h,_,m=>by
  obtain rfl:us=[]:=List.eq_nil_of_length_eq_zero (by grind);refine⟨[],B,by simp,fun b j i k r=>?_⟩;obtain⟨_,rfl⟩:=aM r;have E:bI 0 ([]:List ac) d=d:=by cases d <;> rfl
  have F:bI 0 ([]:List Value) f=f:=by cases f <;> rfl
  rw[E,F];simpa using h.keep k
 | n::ns,[],us,f,B,h,l,m=>by grind
 | n::ns,a::d,us,f,B,h,l,m=>by
  obtain⟨v,s,p,q,rfl,rfl,t,o⟩:=au h
  cases us with
  | nil=>grind
  | cons u us=>
   obtain⟨g,c,e,x⟩:=zH (ns:=ns) (us:=us) o (by grind) (by grind);grind[au,bI,aD]
theorem sB:∀(d:Nat) {ns i:List ac} {us j:List Value} {B:List Nat},ah w R N i j B->d+ns.length<=i.length->us.length=ns.length->
  ∃g f c,B=g++f++c/\∀(Q:List Nat) (o:World) (m:Own),bp w R o m (g++c)->ah o m N ns us Q->ah o m N (bI d ns i) (bI d us j) (g++Q++c)
 | 0,ns,i,us,j,B,h,l,r=>by
  obtain⟨f,c,e,t⟩:=zH h (by omega) r;exact⟨[],f,c,by grind,fun Q o m k s=>by grind⟩
 | d+1,[],i,us,j,B,h,l,r=>by
  obtain rfl:us=[]:=List.eq_nil_of_length_eq_zero (by grind);refine⟨B,[],[],by simp,fun Q o m k s=>?_⟩;obtain⟨_,rfl⟩:=aM s;have E:bI (d+1) ([]:List ac) i=i:=by cases i <;> rfl
  have F:bI (d+1) ([]:List Value) j=j:=by cases j <;> rfl
  rw[E,F];simpa using h.keep (k.sub (by simp))
 | d+1,n::ns,[],us,j,B,h,l,r=>by grind
 | d+1,n::ns,a::i,us,j,B,h,l,r=>by
  obtain⟨v,y,p,q,rfl,rfl,x,b⟩:=au h
  cases us with
  | nil=>grind
  | cons u us=>
   obtain⟨g,f,c,e,t⟩:=sB d (ns:=n::ns) (us:=u::us) b (by grind) r;refine⟨p++g,f,c,by grind,fun Q o m k s=>?_⟩
   have:=t Q o m (k.sub (by grind)) s
   simpa [bI] using aD (x.keep (k.sub (by grind))) this
theorem aZ (B:List Nat):bp w R w R B:=⟨Step.refl w R,fun _ _ _=>⟨rfl,fun _ h=>h⟩⟩
theorem FP {off:Nat} {b a:List ac} {d f:List Value} (h:ah w R N a f []) (g:ah w R N b d []) (l:off+b.length<=a.length) :
  ah w R N (bI off b a) (bI off d f) []:=by
 obtain⟨j,i,c,e,k⟩:=sB off h l g.length;simp_all[aZ]
theorem wm {l:Nat->Option (Nat×Nat)} {cplace:Nat->Option (Nat×Nat)} (H:∀k x,l k=some x->cplace k=some x) :
  ∀(p:List (Nat×ac)) (f:List (Nat×Value)) (d:List ac) (m:Array Value) (r:List ac),p.map (·.1)=f.map (·.1)->
   ah w R N (p.map (·.2)) (f.map (·.2)) []->ah w R N d m.toList []->C7 l p d=some r->
   ∃t:Array Value,Instr.fill cplace m f=some t/\ah w R N r t.toList []
 | [],f,d,m,r,o,_,s,h=>by
  have:f=[]:=by simp_all
  subst this;simp[C7] at h;subst h;exact⟨m,rfl,s⟩
 |(i,a)::p,f,d,m,r,o,B,s,h=>by
  cases f with
  | nil=>grind
  | cons q f=>
   obtain⟨j,v⟩:=q;simp at o;obtain⟨rfl,o⟩:=o;simp at B;obtain⟨u,t,K,Q,E,F,G,b⟩:=au B;obtain⟨rfl,rfl⟩:=List.cons.inj E;obtain⟨rfl,rfl⟩:=List.append_eq_nil_iff.1 F.symm;simp only[C7] at h
   split at h
   ·grind
   rename_i off C I
   split at h
   ·rename_i n;have g:=ia (qT G) n.2.2;have z:=g.length;have J:=s.length;have A:=FP (off:=off) s g (by omega);have e:(bI off v.cells.toList m.toList).toArray=v.cells.zipIdx.foldl (fun c (x:Value×Nat)=>c.setIfInBounds (off+x.2) x.1) m:=(M4 off v.cells m).symm;obtain⟨y,L,D⟩:=wm H p f _ (bI off v.cells.toList m.toList).toArray r o b (by grind) h;refine⟨y,?_,D⟩;unfold Instr.fill;grind
   grind
end
end Go.Tp
namespace Go.Tp
section
variable {P:Program} {E:bz} {w:World} {R:Own} {N:Name->Option Nat}
theorem Gu {α β:Type} (f:α->Option β):∀{l:List α} {r:List β},l.mapM f=some r->∀k:Nat,r[k]?=(l[k]?).bind f
 | [],r,h,k=>by grind
 | a::l,r,h,k=>by
  cases A:f a with
  | none=>grind
  | some b=>
   cases c:l.mapM f with
   | none=>grind
   | some d=>
    simp[A,c] at h;subst h
    cases k with
    | zero=>grind
    | succ k=>simpa using Gu f c k
theorem FA (W:E.Ok P) {t:TypeId} {l:Array (Nat×Operand)} {ρ:Operand->Value} {d:List ac} {s:Out} (h:Ke E t l.toList d=some s)
  (B:ah w R N d ((l.toList.map (·.2)).map ρ) []) :
  s.eff=.keep/\∃v,(Instr.build t (l.map fun (i,x)=>(i,ρ x))).run P w=.ok v w/\ai w R N s.val v []:=by
 unfold Ke at h
 split at h
 ·rename_i i S
  split at h
  ·rename_i fs D
   split at h
   ·rename_i r
    split at h
    ·rename_i c J;simp at h;subst h;obtain⟨⟨it,a,b,f,g,_⟩,y⟩:=W.ty t i S;rw[D] at y;obtain⟨p,T,hm,q,z⟩:=y;have O:=ia (gu (w:=w) (R:=R) (N:=N) i.zero) r.1;have n:=B.length;simp at n;have m:(parts l.toList d).map (·.1)=((l.map fun (i,x)=>(i,ρ x)).toList).map (·.1):=by
      unfold parts;rw[List.map_fst_zip (by simp;omega)];simp
     have o:(parts l.toList d).map (·.2)=d:=by
      unfold parts;rw[List.map_snd_zip (by simp;omega)]
     obtain⟨A,C,F⟩:=wm (cplace:=(q.toArray[·]?)) (fun k x X=>by
      unfold placeOf at X
      split at X
      ·rename_i ab j L;simp at X;subst X;obtain⟨u,G,H,V,Y,Z⟩:=oN W L;rw[T] at H;simp at H;subst H;obtain⟨⟨jt,Q,K,_⟩,_⟩:=W.ty _ _ Z
       have:=Gu _ z k
       have I:p.toList[k]?=some G:=by simpa using V
       rw[I] at this;simp[Q,K,Y] at this;simpa using this
      simp at X) _ ((l.map fun (i,x)=>(i,ρ x)).toList) _ i.zero.cells c m (by
      rw[o]
      have:(List.map (fun x=>x.2) (l.map fun (i,x)=>(i,ρ x)).toList)=(l.toList.map (·.2)).map ρ:=by simp
      rw[this];exact B) O J
     refine⟨rfl,.agg A,run_build w t _ A ?_,?_⟩
     ·unfold Program.built;simp only[a,T,g,z];exact C
     have:=kR F
     simpa using this
    simp at h
   simp at h
  ·rename_i ne e D
   split at h
   ·rename_i ie M
    split at h
    ·rename_i r
     split at h
     ·rename_i c J;simp at h;subst h;obtain⟨⟨it,a,b,f,g,_⟩,y⟩:=W.ty t i S;rw[D] at y;obtain⟨⟨U,Q,K,_⟩,_⟩:=W.ty e ie M;have O:=ia (gu (w:=w) (R:=R) (N:=N) i.zero) r.1;have n:=B.length;simp at n;have m:(parts l.toList d).map (·.1)=((l.map fun (i,x)=>(i,ρ x)).toList).map (·.1):=by
       unfold parts;rw[List.map_fst_zip (by simp;omega)];simp
      have o:(parts l.toList d).map (·.2)=d:=by
       unfold parts;rw[List.map_snd_zip (by simp;omega)]
      obtain⟨A,C,F⟩:=wm (cplace:=fun i=>some (i*U.size,U.size)) (fun k x X=>by rw[K];exact X) _ ((l.map fun (i,x)=>(i,ρ x)).toList) _ i.zero.cells c m (by
        rw[o]
        have:(List.map (fun x=>x.2) (l.map fun (i,x)=>(i,ρ x)).toList)=(l.toList.map (·.2)).map ρ:=by simp
        rw[this];exact B) O J
      refine⟨rfl,.agg A,run_build w t _ A ?_,?_⟩
      ·unfold Program.built;simp only[a,y,g,Q];exact C
      have:=kR F
      simpa using this
     simp at h
    simp at h
   simp at h
  simp at h
 simp at h
theorem Iv {v:Value} {a:List ak} (h:eU w R v (.slice a)):a.length<=lim:=by
 cases h <;> grind
theorem afT {n:Nat} (h:n<=lim):bJ (.int .i64 n)=true:=jl.2 (by simp[IntKind.min,IntKind.bits,IntKind.signed];grind[lim])
theorem zf (W:E.Ok P) {t ty:TypeId} {f:Array TypeId} (c:f[0]?=some t) {a:ac} {x:Value} {d:Out} (h:kb E t [a] none=some d) (A:ai w R N a x []) :
  d.eff=.keep/\∃v,(Builtin.len_ f ty #[x]).run P w=.ok v w/\ai w R N d.val v []:=by
 unfold kb at h
 split at h
 ·rename_i q b;simp at b;subst b;obtain⟨_,m⟩:=dG A
  split at h
  ·rename_i e D;simp[W.nc,bW.nc] at h;subst h;have o:=W.jo D;refine⟨rfl,.int .i64 q.length,?_,bC (afT (Iv m))⟩
   cases m with
   | nil=>simp[Builtin.len_,c,aV o,goInt]
   | slice=>simp[Builtin.len_,c,aV o,goInt]
  simp at h
 ·rename_i s b;simp at b;subst b;obtain⟨_,rfl,i⟩:=aC A
  split at h
  ·rename_i D;simp[W.nc,bW.nc] at h;subst h;exact⟨rfl,.int .i64 s.size,by simp[Builtin.len_,c,aV (W.gA D),goInt],bC (jl.2 (by simp[bJ] at i;simp[IntKind.min,IntKind.max,IntKind.bits,IntKind.signed];omega))⟩
  simp at h
 ·rename_i n s z g b;simp at b;subst b;simp only[ai] at A;obtain⟨_,B,p,C,rfl,j,u,r,y⟩:=A
  split at h
  ·rename_i e D
   split at h
   ·rename_i l;simp at h;subst h;have l:g<=lim:=by rwa [Nat.ble_eq] at l
    exact⟨rfl,.int .i64 g,by simp[Builtin.len_,c,aV (W.jo D),goInt],bC (afT l)⟩
   simp at h
  simp at h
 ·rename_i b;simp at b;subst b;obtain⟨_,rfl,_⟩:=aC A
  split at h
  ·rename_i k e D;simp at h;subst h;exact⟨rfl,.int .i64 0,by simp[Builtin.len_,c,aV (W.nE D),goInt],bC rfl⟩
  simp at h
 ·split at h <;> simp_all
 simp at h
theorem rU:∀{c:List (Value×ak)} {b:List MapEntry},dQ w R c b->b.length=c.length
 | [],_,h=>by grind[dQ]
 |(_,_)::c,_,⟨e,d,a,_,_,g⟩=>by simp[a,rU g]
theorem BK (W:E.Ok P) {t ty:TypeId} {g:Array TypeId} (m:g[0]?=some t) {n:Name} {l:List (Value×ak)} {f:Out} (h:kb E t [.map n] (some (.map l))=some f)
  {b a:Nat} {c:Array MapEntry} (d:w.heap[b]?=some (.map c a)) (p:dQ w R l c.toList) :
  f.eff=.keep/\∃v,(Builtin.len_ g ty #[.map (some b)]).run P w=.ok v w/\ai w R N f.val v []:=by
 simp only[kb] at h
 split at h
 ·rename_i k e o D i;simp at i;subst i
  split at h
  ·rename_i j;simp at h;subst h
   have:=rU p
   refine⟨rfl,.int .i64 l.length,?_,bC (afT j)⟩;simp at this;simp[Builtin.len_,m,aV (W.nE D),goInt,getObj,Sem.run,d,this]
  simp at h
 simp at h
theorem Jq (W:E.Ok P) {b:TypeId} {a:TypeDesc} (h:E.key b=some a):P.underlying b=some a/\(a=.string∨(∃k,a=.int k)∨a=.bool):=by
 unfold bz.key at h
 split at h
 ·rename_i i c;have d:=(W.ty b i c).2
  grind[LA]
 grind
theorem gy (m:TypeDesc) (k:Value):∀{n:List (Value×ak)} {c:List MapEntry} {i:Nat} {r:Option (Nat×ak)},dQ w R n c->findKey m k n i=some r->
  (match r with
   | some (j,d)=>∃e,c[j - i]?=some e/\i<=j/\Instr.findNow m k c i=some (some (j,e.val))/\ve w R e.val d/\Instr.sameNow m k e.key=some true/\n[j - i]?=some (e.key,d)
   | none=>Instr.findNow m k c i=some none)
 | [],c,i,r,h,l=>by
  subst h;simp[findKey] at l;subst l;rfl
 |(x,d)::n,c,i,r,⟨e,t,a,b,f,g⟩,l=>by
  subst a;subst b;simp only[findKey] at l
  split at l
  ·rename_i s;simp at l;subst l;exact⟨e,by simp,Nat.le_refl _,by simp[Instr.findNow,s],f,s,by simp⟩
  ·rename_i s;have o:=gy m k g l
   cases r with
   | none=>simpa [Instr.findNow,s] using o
   | some q=>
    obtain⟨j,z⟩:=q;obtain⟨p,A,B,u,v,y,C⟩:=o;refine⟨p,?_,by omega,by simpa [Instr.findNow,s] using u,v,y,?_⟩
    all_goals grind
  grind
theorem BO (n:Nat) {c:TypeId} {a:TypeDesc} (e:P.underlying c=some a) (d:a=.string∨(∃k,a=.int k)∨a=.bool) (b:Bool) (x:Value) :
  (Instr.checkKey b (n+1) c x).run P w=.ok () w:=by
 rcases d with rfl|⟨k,rfl⟩|rfl <;> cases x <;> simp[Instr.checkKey,aV e]
theorem run_checkKey {c:TypeId} {a:TypeDesc} (e:P.underlying c=some a) (d:a=.string∨(∃k,a=.int k)∨a=.bool) (b:Bool) (x:Value) :
  (Instr.checkKey b 10000 c x).run P w=.ok () w:=by grind[BO]
theorem rh (W:E.Ok P) {b:TypeDesc} {k:Value} {a:List (Value×ak)} {r:Option (Nat×ak)} (h:E.pr.key b k a=some r):findKey b k a 0=some r:=by
 rw[W.nc] at h;exact h
theorem run_findKey {b:TypeId} {c:TypeDesc} (d:P.underlying b=some c) {k:Value} {a:List MapEntry} {r:Option (Nat×Value)} (h:Instr.findNow c k a 0=some r) :
  (Instr.findKey b k a).run P w=.ok r w:=by
 simp[Instr.findKey,aV d,h]
theorem zC (W:E.Ok P) {t o n:TypeId} {j:TypeDesc} {l:TI} (h:P.underlying t=some (.map o n)) (i:E.ty n=some l) (e:P.underlying o=some j) (g:j=.string∨(∃k,j=.int k)∨j=.bool)
  {m k:Value} {c:Array MapEntry} (s:(m=.map none/\c=#[])∨∃b a,m=.map (some b)/\w.heap[b]?=some (.map c a)) {r:Option (Nat×Value)} (p:Instr.findNow j k c.toList 0=some r) (ok:Bool) :
  (Instr.lookup t m k ok).run P w=.ok (match r with|some (_,v)=>(if ok then .tuple #[v,.bool true] else v)|none=>(if ok then .tuple #[l.zero,.bool false] else l.zero)) w:=by
 have f:=run_findKey (w:=w) e p
 rcases s with⟨rfl,rfl⟩|⟨b,a,rfl,d⟩
 ·cases r with
  | none=>simp[Instr.lookup,aV h,run_checkKey e g,f,W.zA i]
  | some q=>simp[Instr.lookup,aV h,run_checkKey e g,f]
 cases r with
 | none=>simp[Instr.lookup,aV h,run_checkKey e g,f,W.zA i,getObj,Sem.run,d]
 | some q=>simp[Instr.lookup,aV h,run_checkKey e g,f,getObj,Sem.run,d]
theorem DN (W:E.Ok P) {t:TypeId} {ok:Bool} {m:ac} {I:ac} {K:Option aL} {i:Out} (h:uZ E t ok [m,I] K=some i) {s J:Value}
  (C:ai w R N I J []) (Q:ai w R N m s [])
  (S:∀n u,m=.map n->K=some (.map u)->∃b a c,s=.map (some b)/\w.heap[b]?=some (.map a c)/\dQ w R u a.toList) :
  i.eff=.keep/\∃v,(Instr.lookup t s J ok).run P w=.ok v w/\ai w R N i.val v []:=by
 unfold uZ at h
 split at h
 ·rename_i X k y;obtain⟨rfl,rfl⟩:=y;obtain⟨_,rfl,O⟩:=aC C
  split at h
  ·rename_i V U D
   split at h
   ·rename_i L G u B l f;obtain⟨p,o⟩:=Jq W B;have q:=W.nE D;have g:∃a:Array MapEntry,((s=.map none/\a=#[])∨∃b c,s=.map (some b)/\w.heap[b]?=some (.map a c))/\dQ w R u a.toList:=by
     unfold mapEntries at f
     split at f
     ·simp at f;subst f;obtain⟨_,rfl,_⟩:=aC Q;exact⟨#[],.inl ⟨rfl,rfl⟩,rfl⟩
     all_goals grind
    obtain⟨a,H,r⟩:=g
    split at h
    ·rename_i j d A;simp at h;subst h;obtain⟨e,_,_,x,M,_,_⟩:=gy L _ r (rh W A);refine⟨rfl,_,zC W q l p o H x ok,?_⟩
     cases ok
     ·grind[found,bQ]
     exact⟨[e.val,.bool true],rfl,aD (b1:=[]) (bQ M) (aD (b1:=[]) (b2:=[]) (bC rfl) aP)⟩
    ·rename_i A
     split at h
     ·rename_i z T;simp at h;subst h;have x:=gy L _ r (rh W A);have F:=wG (gu (w:=w) (R:=R) (N:=N) G.zero) T;refine⟨rfl,_,zC W q l p o H x ok,?_⟩
      cases ok
      ·grind[found,bQ]
      exact⟨[G.zero,.bool false],rfl,aD (b1:=[]) (bQ F) (aD (b1:=[]) (b2:=[]) (bC rfl) aP)⟩
     grind
    grind
   grind
  grind
 grind
end
end Go.Tp
namespace Go.Tp
section
variable {P:Program} {E:bz} {w:World} {R:Own} {N:Name->Option Nat}
theorem amS:∀{b a:List Value} {c S:List ak},dz w R b c->dz w R a S->dz w R (b++a) (c++S)
 | [],_,[],_,_,h=>h
 | _::_,_,_::_,_,h,k=>⟨h.1,amS h.2 k⟩
 | [],_,_::_,_,h,_=>h.elim
 | _::_,_,[],_,h,_=>h.elim
theorem qX:∀{d:List Value} {b:List ak} {j:Nat} {c:ak},dz w R d b->b[j]?=some c->∃v,d[j]?=some v/\eU w R v c
 | [],[],_,_,_,h=>by grind
 | v::_,c::_,0,_,h,a=>by simp at a;subst a;exact⟨v,by simp,h.1⟩
 | _::_,_::_,j+1,_,h,a=>by simpa using qX h.2 a
 | [],_::_,_,_,h,_=>h.elim
 | _::_,[],_,_,h,_=>h.elim
theorem sV {α:Type} {s:Nat} (d:0 < s) (f:Nat->List α) (b:∀i,(f i).length=s):∀(n a k:Nat),
  ((List.range' a n).flatMap f)[k]?=if k < n*s then (f (a+k / s))[k % s]? else none
 | 0,a,k=>by simp
 | n+1,a,k=>by
  simp only[List.range'_succ,List.flatMap_cons]
  by_cases c:k < s
  ·rw[List.getElem?_append_left (by grind),Nat.div_eq_of_lt c,Nat.mod_eq_of_lt c,if_pos (by grind),Nat.add_zero]
  have e:=sV d f b n (a+1) (k - s);rw[List.getElem?_append_right (by grind),b,e];have D:k / s=(k - s) / s+1:=by rw[←Nat.add_div_right _ d,Nat.sub_add_cancel (by omega)]
  have g:k % s=(k - s) % s:=by rw[←Nat.add_mod_right (k - s) s,Nat.sub_add_cancel (by omega)]
  grind
theorem dV {s:Nat}:∀{es:List ak},(∀d∈es,d.cells.length=s)->(es.flatMap ak.cells).length=es.length*s
 | [],_=>by simp
 | e::es,h=>by
  have:=dV (es:=es) (fun d D=>h d (List.mem_cons_of_mem _ D))
  grind
theorem flat_get {s:Nat} (c:0 < s):∀{es:List ak},(∀d∈es,d.cells.length=s)->∀i j e,es[i]?=some e->j < s->(es.flatMap ak.cells)[i*s+j]?=e.cells[j]?
 | [],_,i,j,e,h,_=>by grind
 | d::es,h,0,j,e,a,b=>by
  grind
 | d::es,h,i+1,j,e,a,b=>by
  have:=flat_get c (es:=es) (fun d D=>h d (List.mem_cons_of_mem _ D)) i j e a b
  grind
variable {a:List ak} {t:TypeId} {u v:Value}
theorem kP {g:List ak} (h:eU w R v (.slice g)) (E:g≠[]) {s:Nat} (H:∀d∈g,d.cells.length=s) :
  ∃b m o l,v=.slice (some ⟨b,m,none⟩) g.length o/\g.length<=o/\dz w R l (g.flatMap ak.cells)/\∀(j:Nat) u,l[j]?=some u->w.cell? ⟨b,m+j,none⟩=some u/\¬R b (m+j):=by
 cases h with
 | nil=>grind
 | slice b m o a g C f p r G q B=>
  obtain rfl:a=s:=by
   cases g <;> simp_all
  have t:∀i,((List.range a).map (C i)).length=a:=by simp
  refine⟨b,m,o,(List.range' 0 g.length).flatMap (fun i=>(List.range a).map (C i)),rfl,r,?_,?_⟩
  ·apply nV
   ·rw[dV p];induction g.length with
    | zero=>simp
    | succ n F=>rw[List.range'_concat,List.flatMap_append,List.length_append,F];grind
   intro k v c V e;rw[sV f _ t] at V
   split at V
   ·rename_i z;have A:k / a < g.length:=(Nat.div_lt_iff_lt_mul f).2 z;have x:k % a < a:=Nat.mod_lt _ f;simp[x] at V;subst V;have D:g[k / a]?=some g[k / a]:=by grind
    have:=flat_get f p (k / a) (k % a) _ D x
    rw[Nat.div_add_mod' k a] at this;grind
   grind
  intro k u y;rw[sV f _ t] at y
  split at y
  ·rename_i z;have A:k / a < g.length:=(Nat.div_lt_iff_lt_mul f).2 z;have x:k % a < a:=Nat.mod_lt _ f;simp[x] at y;subst y
   have:=q (k / a) (k % a) A x
   rw[Nat.add_assoc,Nat.div_add_mod' k a] at this;grind
  grind
theorem OR {b g s:Nat} {f:Array Value} {p:Nat×Nat} (x:w.heap[b]?=some (.cells f t p)) (m:0 < s) (o:∀d∈a,d.cells.length=s)
  {cells:List Value} (A:dz w R cells (a.flatMap ak.cells)) (r:∀(j:Nat) u,cells[j]?=some u->f[j]?=some u) (v:∀j,j < a.length*s->¬R b j) (h:a.length<=g) (k:a.length<=lim) :
  eU w R (.slice (some ⟨b,0,none⟩) a.length g) (.slice a):=by
 have l:=cZ A;rw[dV o] at l;refine .slice b 0 g s a (fun i j=>(cells[i*s+j]?).getD undef) m o h k (fun i j z q=>?_) (fun i j e c y B=>?_)
 ·have n:i*s+j < a.length*s:=by
   have:(i+1)*s<=a.length*s:=Nat.mul_le_mul_right _ z
   grind
  rw[Nat.zero_add];refine⟨?_,v _ n⟩;rw[cell_of_row w b (i*s+j) f t p x]
  grind
 have q:j < s:=by
  grind
 have:=flat_get m o i j e y q
 grind[qX]
theorem yX (o:Obj) {g:Own} (h:∀b c,b < w.heap.size->(g b c↔R b c)):Step w R (w.alloc o) g where
 os:=rfl
 tape:=rfl
 output:=rfl
 size:=by simp
 block b d f:=⟨heap_alloc_old w o b d,fun c e=>f c ((h b c d).1 e)⟩
 cell b c d f:=⟨fun e=>f ((h b c d).1 e),World.cell?_of_block (a:=⟨b,c,none⟩) (heap_alloc_old w o b d)⟩
 sizes b d:=fe (heap_alloc_old w o b d)
theorem gx (o:Obj) {R':Own} (h:∀b a,b < w.heap.size->(R' b a↔R b a)) (B:List Nat):bp w R (w.alloc o) R' B:=
 ⟨yX o h,fun b _ d=>⟨heap_alloc_old w o b d,fun a c=>(h b a d).2 c⟩⟩
def Own.cut (R:Own) (n:Nat):Own:=fun b a=>b≠n/\R b a
def Own.RB (R:Own) (n k:Nat):Own:=fun b a=>(b≠n/\R b a)∨(b=n/\k<=a)
theorem Own.Hn {R:Own} {n k b a:Nat} (d:b < n):(R.RB n k b a↔R b a):=⟨fun h=>by rcases h with h|h;all_goals grind,fun h=>.inl ⟨by omega,h⟩⟩
theorem Own.UP {R:Own} {n b a:Nat} (d:b < n):(R.cut n b a↔R b a):=⟨fun h=>h.2,fun h=>⟨by omega,h⟩⟩
theorem mo (W:E.Ok P) {e:TypeId} (c:P.underlying t=some (.slice e)) (h:amL E t a=true) (d:fy a=true):e=mQ:=by
 unfold amL at h;rw[d] at h;dsimp only at h
 split at h
 ·rename_i b D
  have:=W.jo D
  simp_all
 grind
def isS:ac->Bool
 | .own _=>true
 | .dat (.slice _)=>true
 | .dat (.flat (.slice none 0 0))=>true
 | _=>false
theorem gK {c:List ac}:cd c=true↔∃p q,c=[p,q]/\yw p=true/\isS q=true:=by
 constructor
 ·intro h;unfold cd at h
  split at h
  ·exact⟨_,_,rfl,h,rfl⟩
  ·exact⟨_,_,rfl,h,rfl⟩
  ·exact⟨_,_,rfl,h,rfl⟩
  grind
 rintro⟨p,q,rfl,h,a⟩;unfold isS at a
 split at a
 ·exact h
 ·exact h
 ·exact h
 grind
theorem ux {S:List ak} (h:fy (a++S)=true) (b:a≠[]):fy a=true:=by
 cases a with
 | nil=>grind
 | cons d a=>
  unfold fy at h ⊢
  grind
theorem Ga {b c s:Nat} {p:World} {h:Own} {e:Array Value} (q:p.heap[b]?=some (.cells e t (0,0))) {f:List ak} (l:0 < s) (r:∀d∈f,d.cells.length=s)
  {cells:List Value} (R:dz p h cells (f.flatMap ak.cells)) (k:∀(j:Nat) u,cells[j]?=some u->e[j]?=some u) (w:∀j,j < f.length*s->¬h b j)
  (m:∀j,f.length*s<=j->j < c*s->h b j) (g:f.length<=c) (y:f=[]->c=0) (n:c*s<=e.size) (i:f.length<=lim) (o:fy f=true->t=mQ/\∀x,e.size<=x->h b x) :
  ai p h N (.own f) (.slice (some ⟨b,0,none⟩) f.length c) [b]:=by
 exact .row b c s f e t q l r g y n (OR q l r R k w g i) (fun x a v=>m x a v) o
theorem D2 {b c s:Nat} {p:World} {m:Own} {e:Array Value} (v:p.heap[b]?=some (.cells e t (0,0))) {es:List ak} (n:0 < s) (y:∀d∈es,d.cells.length=s)
  {cells:List Value} (R:dz p m cells (es.flatMap ak.cells)) (l:∀(j:Nat) u,cells[j]?=some u->e[j]?=some u) (r:∀j,j < es.length*s->¬m b j)
  (g:∀j,es.length*s<=j->j < c*s∨e.size<=j->m b j) (f:es.length<=c) (w:es=[]->c=0) (i:c*s<=e.size) (k:es.length<=lim) (o:fy es=true->t=mQ) :
  ai p m N (.own es) (.slice (some ⟨b,0,none⟩) es.length c) [b]:=
 Ga v n y R l r (fun j a q=>g j a (.inl q)) f w i k (fun h=>⟨o h,fun x X=>g x (Nat.le_trans (Nat.le_trans (Nat.mul_le_mul_right _ f) i) X) (.inr X)⟩)
theorem jU {e:Nat}:∀{k:Nat} {i:List Nat} {c:List ac} {f:List Value} {S:List ak},i.length=c.length->ah w R N c f []->jb e k (i.zip c)=some S->
  i=List.range' k f.length/\dz w R (f.flatMap fun v=>v.cells.toList) (S.flatMap ak.cells)/\(∀d∈S,d.cells.length=e)/\(∀v∈f,v.cells.size=e)/\S.length=f.length
 | k,[],c,f,S,l,j,h=>by
  have:c=[]:=List.eq_nil_of_length_eq_zero (by simpa using l.symm)
  subst this;obtain⟨rfl,_⟩:=aM j;simp[jb] at h;subst h;exact⟨rfl,trivial,by simp,by simp,rfl⟩
 | k,p::i,[],f,S,l,j,h=>by simp at l
 | k,p::i,a::c,f,S,l,j,h=>by
  obtain⟨v,C,r,Q,rfl,F,A,b⟩:=au j;obtain⟨rfl,rfl⟩:=List.append_eq_nil_iff.1 F.symm;simp only[List.zip_cons_cons,jb] at h
  split at h
  ·rename_i B;subst B
   split at h
   ·rename_i d D
    split at h
    ·rename_i o
     split at h
     ·rename_i q m;simp at h;subst h;obtain⟨s,t,u,y,z⟩:=jU (by simpa using l) b m;have n:=wG A D;have g:=Iu n;refine⟨by simp[s,List.range'_succ],?_,?_,?_,by simp[z]⟩
      ·simpa using amS g t
      ·intro x X;rcases List.mem_cons.1 X with rfl|X
       ·exact o
       exact u x X
      intro x X;rcases List.mem_cons.1 X with rfl|X
      ·have:=cZ g;simp at this;omega
      exact y x X
     simp at h
    simp at h
   simp at h
  simp at h
theorem vu (W:E.Ok P) {f:Nat} {l:Array (Nat×Operand)} {ρ:Operand->Value} {y:List ac} {D:Out} (h:qR E t f l.toList y=some D)
  (hr:ah w R N y ((l.toList.map (·.2)).map ρ) []) (B:List Nat) :
  D.eff=.keep/\∃cv w' R',(Instr.buildSlice t f (l.map fun (i,x)=>(i,ρ x))).run P w=.ok cv w'/\bp w R w' R' B/\ai w' R' N D.val cv [w.heap.size]:=by
 unfold qR at h
 split at h
 ·rename_i i V;obtain⟨e,Z,O⟩:=fC W V
  split at h
  ·rename_i hc;obtain⟨n,af,ad⟩:=hc
   split at h
   ·rename_i S J
    split at h
    ·rename_i I;obtain⟨A,T⟩:=I;simp at h;subst h;refine⟨rfl,?_⟩;obtain⟨⟨ie,k1,K,M,k4,k5⟩,_⟩:=W.ty e i O;have ae:=hr.length;unfold parts at J;obtain⟨f1,f2,f3,f4,f5⟩:=jU (by rw[List.length_map];exact ad.symm) hr J;generalize Q:(l.toList.map (·.2)).map ρ=p at *;have ag:∀b c,b < w.heap.size->(R.cut w.heap.size b c↔R b c):=fun b c d=>Own.UP d
     have H:(l.map fun (i,x)=>(i,ρ x)).toList=(p.zipIdx 0).map fun x=>(x.2,x.1):=by
      apply List.ext_getElem?
      intro k;have F:(l.toList.map (·.1))[k]?=(List.range' 0 p.length)[k]?:=by rw[f1]
      have m:((l.toList.map (·.2)).map ρ)[k]?=p[k]?:=by rw[Q]
      simp only[Array.toList_map,List.getElem?_map,List.getElem?_zipIdx] at F m ⊢
      cases hk:l.toList[k]? with
      | none=>
       rw[hk] at m;simp at m
       have:p[k]?=none:=by simpa using m
       simp[this]
      | some q=>
       rw[hk] at F m;simp at F m;have X:k < p.length:=by
        rcases Nat.lt_or_ge k p.length with r|r
        ·exact r
        rw[List.getElem?_eq_none r] at m;simp at m
       rw[List.getElem?_range' X] at F;simp at F;rw[←m];simp[F]
     by_cases o:f=0
     ·subst o;have ab:p=[]:=List.eq_nil_of_length_eq_zero (by omega);have U:S=[]:=List.eq_nil_of_length_eq_zero A;subst ab;subst U;refine⟨.slice (some ⟨w.heap.size,0,none⟩) 0 0,w.alloc (.cells #[] e),R.RB w.heap.size 0,?_,gx _ (fun b c d=>Own.Hn d) B,?_⟩
      ·have hp:l=#[]:=by simpa using Q
       subst hp;have Y:Array.range 0=#[]:=by apply Array.eq_empty_of_size_eq_zero;simp
       simp[Instr.buildSlice,aV Z,W.fT O,Instr.fill,newRow,Y]
      exact D2 (es:=[]) (cells:=[]) (s:=i.size) (heap_alloc_new w _) n (by simp) trivial (by simp) (by simp) (fun j _ _=>.inr ⟨rfl,Nat.zero_le _⟩) (by simp) (by simp) (by simp) (by simp) (by simp[fy])
     have al:∃z,ie.zero=some z:=⟨_,k4⟩;have g:=Great.fill_whole (s:=i.size) n p ((Array.range (f*ie.size)).map (i.zero.cells[· % i.zero.cells.size]!)) f4 (by rw[K];simp;rw[←f5,A]);have L:=run_buildSlice w t e f (l.map fun (i,x)=>(i,ρ x)) _ ie i.zero Z k1 k4 (by rw[K];omega) (by rw[K];exact Nat.mul_ne_zero o (by omega)) (by rw[H,K];rw[K] at g;exact g);have G:=cZ f2;rw[dV f3] at G;have u:∀b c,b < w.heap.size->(R.RB w.heap.size (S.length*i.size) b c↔R b c):=fun b c d=>Own.Hn d
     refine⟨_,_,R.RB w.heap.size (S.length*i.size),L,gx _ u B,?_⟩;rw[←A];have C:Step w R (w.alloc (.cells (p.flatMap fun v=>v.cells.toList).toArray e)) (R.RB w.heap.size (S.length*i.size)):=yX _ u;refine D2 (s:=i.size) (heap_alloc_new w _) n f3 (f2.step C) (by simp) (fun j hj r=>by rcases r with r|r;exact r.1 rfl;omega) (fun j a h2=>.inr ⟨rfl,a⟩) (Nat.le_refl _) (fun hh=>by rw[hh];rfl) (by simp[G]) ?_ (mo W Z T);unfold lim
     have:f*1<=f*i.size:=Nat.mul_le_mul_left _ n
     omega
    simp at h
   simp at h
  simp at h
 simp at h
theorem zi (W:E.Ok P) {a:Nat} {m:Array (Nat×Operand)} {ρ:Operand->Value} {n:List ac} {H:Out} (h:wO E t a m.toList n=some H)
  (hr:ah w R N n ((m.toList.map (·.2)).map ρ) []) (B:List Nat) :
  ∃Z s I u,H=⟨.undef,match Nat.beq a 1 with|true=>.row Z s a|false=>.grow Z s a⟩/\(Instr.buildSlice t a (m.map fun (i,x)=>(i,ρ x))).run P w=.ok (.slice (some ⟨w.heap.size,0,none⟩) a a) I/\bp w R I u B/\aI I u N Z w.heap.size [] ∧
   (0 < s/\a<=jq)/\w.heap.size < I.heap.size/\a*s=eD I w.heap.size:=by
 unfold wO at h
 split at h
 ·rename_i i O;obtain⟨e,hu,V⟩:=fC W O
  split at h
  ·rename_i hc;obtain⟨p,ad,ae,X⟩:=hc
   split at h
   ·rename_i S D
    split at h
    ·rename_i C;obtain⟨A,L⟩:=C;simp at h;subst h;obtain⟨⟨ie,k1,K,M,k4,k5⟩,_⟩:=W.ty e i V;have ab:=hr.length;unfold parts at D;obtain⟨f1,f2,f3,f4,f5⟩:=jU (by rw[List.length_map];exact X.symm) hr D;generalize Y:(m.toList.map (·.2)).map ρ=g at *;have z:(m.map fun (i,x)=>(i,ρ x)).toList=(g.zipIdx 0).map fun x=>(x.2,x.1):=by
      apply List.ext_getElem?
      intro k;have r:(m.toList.map (·.1))[k]?=(List.range' 0 g.length)[k]?:=by rw[f1]
      have l:((m.toList.map (·.2)).map ρ)[k]?=g[k]?:=by rw[Y]
      simp only[Array.toList_map,List.getElem?_map,List.getElem?_zipIdx] at r l ⊢
      cases F:m.toList[k]? with
      | none=>
       rw[F] at l;simp at l
       have:g[k]?=none:=by simpa using l
       simp[this]
      | some q=>
       rw[F] at r l;simp at r l;have T:k < g.length:=by
        rcases Nat.lt_or_ge k g.length with J|J
        ·exact J
        rw[List.getElem?_eq_none J] at l;simp at l
       rw[List.getElem?_range' T] at r;simp at r;rw[←l];simp[r]
     have o:a≠0:=by omega
     have c:=Great.fill_whole (s:=i.size) p g ((Array.range (a*ie.size)).map (i.zero.cells[· % i.zero.cells.size]!)) f4 (by rw[K];simp;rw[←f5,A]);have G:=run_buildSlice w t e a (m.map fun (i,x)=>(i,ρ x)) _ ie i.zero hu k1 k4 (by rw[K];omega) (by rw[K];exact Nat.mul_ne_zero o (by omega)) (by rw[z,K];rw[K] at c;exact c)
     let u:Own:=fun b f=>b=w.heap.size∨R b f
     have U:∀b f,b < w.heap.size->(u b f↔R b f):=fun b f d=>⟨fun h=>by rcases h with h|h;exact absurd h (by omega);exact h,fun h=>.inr h⟩
     have F:=fun B=>gx (w:=w) (R:=R) (.cells (g.flatMap fun v=>v.cells.toList).toArray e) U B
     have Q:(w.alloc (.cells (g.flatMap fun v=>v.cells.toList).toArray e)).heap[w.heap.size]?=some (.cells (g.flatMap fun v=>v.cells.toList).toArray e (0,0)):=heap_alloc_new w _;have y:=cZ f2;rw[dV f3] at y;refine⟨_,_,_,u,rfl,G,F B,⟨_,e,0,Q,?_,fun j _=>.inl rfl,fun d=>by rw[L] at d;simp at d⟩,⟨p,by have:a*1<=a*i.size:=Nat.mul_le_mul_left _ p;unfold jq;omega⟩,bN Q,?_⟩
     ·have:=(jd (N:=N) f2).keep (F [])
      simpa using this
     rw[dF Q];simp only[List.size_toArray];rw[y,A]
    simp at h
   simp at h
  simp at h
 simp at h
theorem DS (g d:Nat) (e:TypeId) (b:List Value) (c:Array Value) (J:w.heap[g]?=some (.cells c e (0,0))) (f:d+b.length<=c.size) (a:∀u∈b,u.oneCell'=true) :
  (storeCells ⟨g,d,none⟩ b).run P w=.ok () (w.setRow g (c.toList.take d++b++c.toList.drop (d+b.length)).toArray):=by
 have h:=run_storeCells_at P g d e b 0 c w J (by grind) a;grind
theorem jH {g:Nat} {h:Array Value} (J:w.heap[g]?=some (.cells h t (0,0))) (i:Array Value) (n:i.size=h.size) {R':Own}
  (o:∀b c,R' b c->R b c) (l:∀b c,b≠g->(R b c->R' b c)) (q:∀c,¬R g c->i[c]?=h[c]?) (p:∃c,R g c) (B:List Nat) (d:g∉B) :
  bp w R (w.setRow g i) R' B where
 step:=
  {os:=rfl
   tape:=rfl
   output:=rfl
   size:=by simp
   block:=fun b d j=>by
    have f:b≠g:=fun e=>by grind
    exact⟨setRow_other w g b _ f,fun c k=>j c (o _ _ k)⟩
   cell:=fun b c d j=>by
    refine⟨fun k=>j (o _ _ k),?_⟩
    by_cases f:b=g
    ·subst f;rw[cell_of_row _ b c i t (0,0) (setRow_heap w b h _ t _ J),cell_of_row w b c h t (0,0) J];grind
    exact World.cell?_of_block (a:=⟨b,c,none⟩) (setRow_other w g b _ f)
   sizes:=fun b _=>by
    by_cases f:b=g
    ·subst f;rw[dF (setRow_heap w b h _ t _ J),dF J,n]
    exact fe (setRow_other w g b _ f)}
 same:=fun b m _=>by
  have f:b≠g:=fun e=>d (e ▸ m)
  exact⟨setRow_other w g b _ f,fun c k=>l b c f k⟩
theorem gV (o:Obj) {c:Own} (h:∀b a,b < w.heap.size->(c b a↔R b a)) (B:List Nat):bp w R (w.drew.alloc o) c B:=by
 have k:=gx (w:=w.drew) (R:=R) o h B;exact⟨⟨k.step.os,k.step.tape,k.step.output,k.step.size,k.step.block,k.step.cell,k.step.sizes⟩,k.same⟩
theorem xW (t g e:TypeId) (i:TypeInfo) (T:P.underlying t=some (.slice e)) (f:P.info? e=some i) (b a:Option Addr) (n d c:Nat) (h:n<=d) :
  (Builtin.append_ #[t,t] g #[.slice b n d,.slice a 0 c]).run P w=.ok (.slice b n d) w:=by
 cases b <;> cases a <;> simp[Builtin.append_,aV T,sizeOf,typeInfo,f,Builtin.lenOf,h,Builtin.firstCells,Go.loadCells,loadCellsFrom,storeCells]
theorem vA (t x e p:TypeId) (i:TypeInfo) (T:P.underlying t=some (.slice e)) (v:P.info? e=some i)
  (g d h:Nat) (f:Array Value) (J:w.heap[g]?=some (.cells f p (0,0)))
  (a:Addr) (m c:Nat) (b:List Value) (l:b.length=m*i.size) (k:∀j u,b[j]?=some u->w.cell? (a.add j)=some u) (r:∀u∈b,u.oneCell'=true)
  (n:d+m<=h) (q:d*i.size+b.length<=f.size) :
  (Builtin.append_ #[t,t] x #[.slice (some ⟨g,0,none⟩) d h,.slice (some a) m c]).run P w =
   .ok (.slice (some ⟨g,0,none⟩) (d+m) h) (w.setRow g (f.toList.take (d*i.size)++b++f.toList.drop (d*i.size+b.length)).toArray):=by
 have s:=run_firstCells_some (P:=P) w i.size m a m c b l k;have o:=run_storeCells_at P g (d*i.size) p b 0 f w J (by grind) r;simp[Builtin.append_,aV T,sizeOf,typeInfo,v,Builtin.lenOf,n,s,Addr.add_lit,o]
theorem vD:∀{a:List Value} {b:List ak},dz w R a b->∀v∈a,v.oneCell'=true
 | [],[],_,v,V=>by grind
 | u::a,c::b,h,v,V=>by
  rcases List.mem_cons.1 V with rfl|V
  ·exact (fL h.1).2
  exact vD h.2 v V
 | [],_::_,h,_,_=>h.elim
 | _::_,[],h,_,_=>h.elim
theorem lg {d:List ak} {B:List Nat} (h:iV w R v d B):(v=.slice none 0 0/\d=[]/\B=[]) ∨
  ∃b c s i t,v=.slice (some ⟨b,0,none⟩) d.length c/\B=[b]/\w.heap[b]?=some (.cells i t (0,0))/\0 < s/\(∀e∈d,e.cells.length=s)/\d.length<=c/\(d=[]->c=0)/\c*s<=i.size ∧
   eU w R (.slice (some ⟨b,0,none⟩) d.length c) (.slice d)/\(∀x,d.length*s<=x->x < c*s->R b x)/\(fy d=true->t=mQ/\∀x,i.size<=x->R b x):=by
 cases h with
 | nil=>grind
 | row b c s d i t a j f g G k l m n=>exact .inr ⟨b,c,s,i,t,rfl,rfl,a,j,f,g,G,k,l,m,n⟩
theorem jD {i:TI} {r:List ak} {x:ac} (h:gS bW.nc i a x=some r) :
  ∃S,x=.dat (.slice S)/\0 < i.size/\(∀d∈S,d.cells.length=i.size)/\(∀d∈a,d.cells.length=i.size)/\0 < i.bytes/\(a.length+S.length)*i.bytes<=140737488355328/\a.length+S.length<=lim/\r=a++S:=by
 unfold gS at h
 grind[bW.nc]
theorem vJ {e:TypeId} {s:Nat} (t:0 < s) {g:List ak} (z:∀d∈g,d.cells.length=s) {cells:List Value} (y:dz w R cells (g.flatMap ak.cells)) (r:g≠[]) (q:g.length<=lim)
  (i:Nat) (p:g.length<=i) (c:Array Value) (m:c.size=(i - g.length)*s) (x:fy g=true->e=mQ) (B:List Nat) :
  ∃n,bp w R (w.drew.alloc (.cells (cells.toArray++c) e)) n B/\ai (w.drew.alloc (.cells (cells.toArray++c) e)) n N (.own g) (.slice (some ⟨w.heap.size,0,none⟩) g.length i) [w.heap.size]:=by
 have l:=cZ y;rw[dV z] at l
 let n:Own:=fun b f=>(b≠w.heap.size/\R b f)∨(b=w.heap.size/\g.length*s<=f)
 have v:∀b f,b < w.heap.size->(n b f↔R b f):=fun b f C=>
  ⟨fun h=>by grind,fun h=>.inl ⟨by omega,h⟩⟩
 have k:=gV (w:=w) (R:=R) (.cells (cells.toArray++c) e) v B;refine⟨n,k,D2 (s:=s) (heap_alloc_new w.drew _) t z (y.step k.step) (fun j u A=>?_) (fun j A o=>?_) (fun j a _=>.inr ⟨rfl,a⟩) p (fun o=>absurd o r) ?_ q x⟩
 ·grind
 ·rcases o with o|o
  ·simp_all
  omega
 simp only[Array.size_append,List.size_toArray,m,l];rw[←Nat.add_mul];grind
theorem rH (t c g e:TypeId) (i:TypeInfo) (T:P.underlying t=some (.slice e)) (f:P.info? e=some i) (a:Option Addr) (n b:Nat) (h:n<=b) (s:Src P i.size c u 0 [] w) :
  (Builtin.append_ #[t,c] g #[.slice a n b,u]).run P w=.ok (.slice a n b) w:=by
 have d:=s.cells
 rcases s.kind with⟨j,k⟩|k <;> cases a <;> simp[Builtin.append_,aV T,aV k,sizeOf,typeInfo,f,s.len,h,d,storeCells]
theorem pV (t n p e j:TypeId) (i:TypeInfo) (T:P.underlying t=some (.slice e)) (o:P.info? e=some i)
  (g a d:Nat) (c:Array Value) (J:w.heap[g]?=some (.cells c j (0,0))) (m:Nat) (b:List Value) (s:Src P i.size n u m b w)
  (f:a+m<=d) (l:a*i.size+b.length<=c.size) :
  (Builtin.append_ #[t,n] p #[.slice (some ⟨g,0,none⟩) a d,u]).run P w =
   .ok (.slice (some ⟨g,0,none⟩) (a+m) d) (w.setRow g (c.toList.take (a*i.size)++b++c.toList.drop (a*i.size+b.length)).toArray):=by
 have h:=run_storeCells_at P g (a*i.size) j b 0 c w J (by grind) s.one;rcases s.kind with⟨F,k⟩|k <;> simp[Builtin.append_,aV T,aV k,sizeOf,typeInfo,o,s.len,f,s.cells,Addr.add_lit,h]
theorem ja (W:E.Ok P) {t2 ty:TypeId} {i:TI} {f S:List ak} {news:List Value} {ab:List Nat} (bd:elemOf E t=some i) (V:0 < i.size) (ad:∀d∈S,d.cells.length=i.size) (ae:∀d∈f,d.cells.length=i.size)
  (r:(f.length+S.length)*i.bytes<=140737488355328) (C:f.length+S.length<=lim) (A:ai w R N (.own f) v ab) (T:dz w R news (S.flatMap ak.cells)) (a8:Src P i.size t2 u S.length news w) (ar:amL E t (f++S)=true)
  (B:List Nat) (D:∀b∈ab,b∉B) :
  ∃cv w' R' an,(Builtin.append_ #[t,t2] ty #[v,u]).run P w=.ok cv w'/\bp w R w' R' B/\ai w' R' N (.own (f++S)) cv an/\an.Nodup/\(∀b∈an,b∈ab∨w.heap.size<=b):=by
 obtain⟨e,hu,bh⟩:=fC W bd;obtain⟨⟨ie,k1,K,M,k4,k5⟩,_⟩:=W.ty e i bh;have m:Src P ie.size t2 u S.length news w:=by rw[K];exact a8
 have U:=cy A;have ax:=cZ T;rw[dV ad] at ax
 by_cases Q:S=[]
 ·subst Q;have bg:news=[]:=by cases news with|nil=>rfl|cons _ _=>simp at ax
  subst bg;have bi:∃J g,v=.slice J f.length g/\f.length<=g:=by
   cases U with
   | nil=>exact⟨_,_,rfl,Nat.le_refl _⟩
   | row b g=>exact⟨_,_,rfl,by assumption⟩
  obtain⟨J,g,rfl,ag⟩:=bi;refine⟨_,w,R,ab,rH t t2 ty e ie hu k1 J _ g ag m,aZ _,by simpa using A,?_,fun b hb=>.inl hb⟩
  rcases lg U with⟨_,_,rfl⟩|⟨b,_,_,_,_,_,rfl,_⟩ <;> simp
 have bb:0 < S.length:=by cases S with|nil=>exact absurd rfl Q|cons _ _=>simp
 have ao:f.length+S.length<=9223372036854775807:=by unfold lim at C;omega
 have a5:∀d∈f++S,d.cells.length=i.size:=fun d D=>by rcases List.mem_append.1 D with y|y;exact ae d y;exact ad d y
 have a3:∀(z:Array Value) (n:Nat),(Builtin.zeroCells z n).size=n*z.size:=fun z n=>size_zeroCells z n
 rcases lg U with⟨rfl,rfl,rfl⟩|⟨b,g,s,Z,t',rfl,rfl,H,bm,hs,ag,he,be,a7,a2,am⟩
 ·have l:=run_append_grow_src (P:=P) w t t2 ty e ie i.zero hu k1 k4 none 0 0 [] (by simp[Builtin.firstCells]) u S.length news m (by omega) (by simp at ao ⊢;omega) (growslice_fits (by omega) (by rw[M];simpa using r));have L:=grownCap_ge w S.length 0 e;obtain⟨R',g1,g2⟩:=vJ (N:=N) (e:=e) V ad T Q (by simpa using C) (grownCap w S.length 0 e) L (Builtin.zeroCells i.zero.cells (grownCap w S.length 0 e - S.length)) (by rw[a3,k5]) (mo W hu (by simpa using ar)) B;refine⟨_,_,R',[w.heap.size],l,?_,?_,by simp,by simp⟩
  ·simpa using g1
  simpa using g2
 by_cases p:f=[]
 ·subst p;have ba:=he rfl;subst ba;have l:=run_append_grow_src (P:=P) w t t2 ty e ie i.zero hu k1 k4 (some ⟨b,0,none⟩) 0 0 [] (by simp[Builtin.firstCells,Go.loadCells,loadCellsFrom]) u S.length news m (by omega) (by simp at ao ⊢;omega) (growslice_fits (by omega) (by rw[M];simpa using r));have L:=grownCap_ge w S.length 0 e;obtain⟨R',g1,g2⟩:=vJ (N:=N) (e:=e) V ad T Q (by simpa using C) (grownCap w S.length 0 e) L (Builtin.zeroCells i.zero.cells (grownCap w S.length 0 e - S.length)) (by rw[a3,k5]) (mo W hu (by simpa using ar)) B;refine⟨_,_,R',[w.heap.size],l,?_,?_,by simp,by simp⟩
  ·simpa using g1
  simpa using g2
 obtain rfl:s=i.size:=by
  cases f with
  | nil=>exact absurd rfl p
  | cons d f=>rw[←hs d (by simp),ae d (by simp)]
 obtain⟨b',bn,bk,o,a9,_,a1,ay⟩:=kP a7 p ae;simp at a9;obtain⟨⟨rfl,rfl⟩,rfl⟩:=a9;have az:=cZ a1;rw[dV ae] at az
 by_cases F:f.length+S.length<=g
 ·
  have bl:(f.length+S.length)*i.size<=g*i.size:=Nat.mul_le_mul_right _ F;have bf:(f.length+S.length)*i.size=f.length*i.size+S.length*i.size:=Nat.add_mul ..;have bc:0 < S.length*i.size:=Nat.mul_pos bb V;have l:=pV (P:=P) (w:=w) t t2 ty e t' ie hu k1 b f.length g Z H S.length news m F (by rw[K,ax];omega);rw[K] at l;generalize G:(Z.toList.take (f.length*i.size)++news++Z.toList.drop (f.length*i.size+news.length)).toArray=I at l
  let R':Own:=fun c x=>R c x/\¬(c=b/\f.length*i.size<=x/\x < (f.length+S.length)*i.size)
  have al:∀k:Nat,I[k]?=if k < f.length*i.size then Z[k]? else if k < f.length*i.size+news.length then news[k - f.length*i.size]? else Z[k]?:=by
   intro k;rw[←G];simp only[List.getElem?_toArray];have a6:(Z.toList.take (f.length*i.size)).length=f.length*i.size:=by simp;omega
   by_cases q1:k < f.length*i.size
   ·rw[if_pos q1,List.append_assoc,List.getElem?_append_left (by omega),List.getElem?_take_of_lt q1];simp
   rw[if_neg q1]
   by_cases q2:k < f.length*i.size+news.length
   ·rw[if_pos q2,List.getElem?_append_left (by simp;omega),List.getElem?_append_right (by omega),a6]
   rw[if_neg q2,List.getElem?_append_right (by simp;omega),List.getElem?_drop];simp only[List.length_append,a6,Array.getElem?_toList];congr 1;omega
  have O:=jH (R:=R) (R':=R') H I (by rw[←G];simp;omega) (fun c x h=>h.1) (fun c x hc h=>⟨h,fun y=>hc y.1⟩) (fun a4 aw=>by
   rw[al]
   by_cases q1:a4 < f.length*i.size
   ·rw[if_pos q1]
   rw[if_neg q1]
   by_cases q2:a4 < f.length*i.size+news.length
   ·exact absurd (a2 a4 (by omega) (by omega)) aw
   rw[if_neg q2]) ⟨f.length*i.size,a2 _ (Nat.le_refl _) (by omega)⟩ B (D b (by simp))
  have af:I.size=Z.size:=by rw[←G];simp;omega
  have aq:(w.setRow b I).heap[b]?=some (.cells I t' (0,0)):=setRow_heap w b Z _ t' _ H;have av:dz w R (o++news) ((f++S).flatMap ak.cells):=by rw[List.flatMap_append];exact amS a1 T
  refine⟨_,_,R',[b],l,O,?_,by simp,fun c hc=>.inl hc⟩;rw[show f.length+S.length=(f++S).length by simp];refine Ga (s:=i.size) aq V a5 (av.step O.step) (fun j z Y=>?_) (fun j Y y=>y.2 ⟨rfl,?_,?_⟩) (fun j a h2=>⟨a2 j (by simp at a;omega) h2,fun y=>by simp at a;omega⟩) (by simpa using F) (fun y=>by simp at y;exact absurd y.1 p) ?_ (by simpa using C) (fun hb=>⟨(am (ux hb p)).1,fun x X=>⟨(am (ux hb p)).2 x (by rw[←af];exact X),fun y=>by rw[af] at X;have:=y.2.2;omega⟩⟩)
  ·rw[al]
   by_cases q1:j < f.length*i.size
   ·rw[if_pos q1];rw[List.getElem?_append_left (by omega)] at Y
    have:=(ay j z Y).1
    rw[cell_of_row w b (0+j) Z t' (0,0) H] at this;simpa using this
   rw[if_neg q1];rw[List.getElem?_append_right (by omega),az] at Y;have bo:j - f.length*i.size < news.length:=by
    rcases Nat.lt_or_ge (j - f.length*i.size) news.length with y|y
    ·exact y
    rw[List.getElem?_eq_none y] at Y;simp at Y
   rw[if_pos (by omega)];exact Y
  ·have aw:=y.1
   rcases Nat.lt_or_ge j (f.length*i.size) with q|q
   ·exfalso
    have hz:o[j]?=some o[j]:=by simp
    exact (ay j _ hz).2 (by simpa using aw)
   exact q
  ·simpa using Y
  have:I.size=Z.size:=by
   rw[←G];simp;omega
  rw[this];exact be
 have a0:∀(j:Nat) z,o[j]?=some z->w.cell? ((⟨b,0,none⟩:Addr).add j)=some z:=fun j z Y=>by rw[add_plain];exact (ay j z Y).1
 have l:=run_append_grow_src (P:=P) w t t2 ty e ie i.zero hu k1 k4 (some ⟨b,0,none⟩) f.length g o (run_firstCells_some w.drew ie.size f.length ⟨b,0,none⟩ f.length g o (by rw[K];exact az) (by simpa using a0)) u S.length news m (by omega) (by simp at ao ⊢;omega) (growslice_fits (by omega) (by rw[M];exact r));have L:=grownCap_ge w (f.length+S.length) g e;have av:dz w R (o++news) ((f++S).flatMap ak.cells):=by rw[List.flatMap_append];exact amS a1 T
 obtain⟨R',g1,g2⟩:=vJ (N:=N) (e:=e) V a5 av (by simp[Q]) (by simpa using C) (grownCap w (f.length+S.length) g e) (by simpa using L) (Builtin.zeroCells i.zero.cells (grownCap w (f.length+S.length) g e - (f.length+S.length))) (by rw[a3,k5];simp) (mo W hu ar) B;refine⟨_,_,R',[w.heap.size],l,?_,?_,by simp,by simp⟩
 ·simpa using g1
 simpa using g2
theorem DP (W:E.Ok P) {ty:TypeId} {i:TI} {J r:List ak} {x:ac} {k:List Nat} (m:elemOf E t=some i) (y:gS E.pr i J x=some r) (z:amL E t r=true) (A:ai w R N (.own J) v k) (X:ai w R N x u [])
  (B:List Nat) (D:∀b∈k,b∉B) :
  ∃U O T l,(Builtin.append_ #[t,t] ty #[v,u]).run P w=.ok U O/\bp w R O T B/\ai O T N (.own r) U l/\l.Nodup/\(∀b∈l,b∈k∨w.heap.size<=b):=by
 obtain⟨e,L,_⟩:=fC W m;obtain⟨S,rfl,H,f,C,Y,d,g,rfl⟩:=jD (by rw[W.nc] at y;exact y);obtain⟨_,I⟩:=dG X
 by_cases F:S=[]
 ·subst F;have M:∃p c,u=.slice p 0 c:=by cases I with|nil a c=>exact⟨a,c,rfl⟩|slice b ab V s J vs=>exact⟨_,_,rfl⟩
  obtain⟨p,c,rfl⟩:=M;refine ja (news:=[]) W m H f C d g A (by simp[dz]) ?_ z B D
  cases p with
  | none=>exact Src.ofNil w L c
  | some p=>exact Src.ofSlice w L p 0 c [] (by simp) (by simp) (by simp)
 obtain⟨Q,h,q,news,rfl,_,o,K⟩:=kP I F f;have G:=cZ o;rw[dV f] at G;have n:∀(j:Nat) u,news[j]?=some u->w.cell? ((⟨Q,h,none⟩:Addr).add j)=some u:=fun j u Z=>by rw[add_plain];exact (K j u Z).1
 exact ja W m H f C d g A o (Src.ofSlice w L ⟨Q,h,none⟩ S.length q news G n (vD o)) z B D
theorem ap5:∀l:List UInt8,dz w R (l.map fun b=>Value.int .u8 b.toNat) ((oX l).flatMap ak.cells)
 | []=>by simp[dz,oX]
 | b::r=>by
  refine⟨.flat ?_,ap5 r⟩
  have:=b.toNat_lt
  simp only[bJ,Bool.and_eq_true,decide_eq_true_eq];have a:IntKind.u8.min=0:=by decide
  have c:IntKind.u8.max=255:=by decide
  grind
theorem sh:∀l:List UInt8,(oX l).length=l.length
 | []=>rfl
 | b::r=>by simp[oX,sh r]
theorem vv (W:E.Ok P) {L ty:TypeId} {M:List ak} {s:ByteArray} {k:Out} {j:List Nat} (h:fS E t L [.own M,.dat (.flat (.string s))]=some k) (A:ai w R N (.own M) v j) (X:ai w R N (.dat (.flat (.string s))) u [])
  (B:List Nat) (D:∀b∈j,b∉B) :
  ∃y q x c,(Builtin.append_ #[t,L] ty #[v,u]).run P w=.ok y q/\bp w R q x B/\ai q x N k.val y c/\k.eff=.keep/\c.Nodup/\(∀b∈c,b∈j∨w.heap.size<=b):=by
 unfold fS at h;simp only at h
 split at h
 ·rename_i i C H
  split at h
  ·rename_i K;have p:i.size=1:=by simpa using K
   split at h
   ·rename_i r l
    split at h
    rotate_left
    ·simp at h
    rename_i z;simp at h;subst h;obtain⟨S,e,J,F,I,Q,d,n,rfl⟩:=jD (by rw[W.nc] at l;exact l);simp at e;subst e;obtain⟨_,rfl,_⟩:=aC X;have m:(oX s.data.toList).length=s.size:=by rw[sh,Array.length_toList];rfl
    have o:Src P i.size L (.string s) (oX s.data.toList).length (s.data.toList.map fun b=>Value.int .u8 b.toNat) w:=by
     rw[p,m];exact Src.ofString w (W.gA C) s
    obtain⟨y,q,x,c,a,O,f,g,G⟩:=ja (ty:=ty) W H J F I d n A (ap5 _) o z B D;exact⟨y,q,x,c,a,O,f,rfl,g,G⟩
   simp at h
  simp at h
 simp at h
end
end Go.Tp
namespace Go.Tp
section
variable {P:Program} {E:bz} {w:World} {R:Own} {N:Name->Option Nat}
theorem ib {α:Type}:∀(b:Nat) (c l:List α),(bI b c l).length=l.length
 | b,[],l=>by cases b <;> cases l <;> rfl
 | b,n::c,[]=>by cases b <;> rfl
 | 0,n::c,a::l=>by simp[bI,ib 0 c l]
 | b+1,n::c,a::l=>by simp[bI,ib b (n::c) l]
variable {c:List ac}
theorem Fv (a:Nat) (b l:List Value) (h:a+b.length<=l.length):l.take a++b++l.drop (a+b.length)=bI a b l:=by
 apply List.ext_getElem?
 intro k;rw[gq];have c:(l.take a).length=a:=by grind
 grind
theorem Pn {a:Nat} {b d:List ac} (h:a+b.length<=c.length):bI a b (c++d)=bI a b c++d:=by
 apply List.ext_getElem?
 grind[gq,ib]
theorem xH {d:Nat} {i g:List ak} (f:c[d]?=some (.own g)) (h:cd (bI d [.dat (.slice i)] c)=true):cd c=true:=by
 obtain⟨p,q,e,w,j⟩:=gK.1 h;have l:=congrArg List.length e;rw[ib] at l
 match c,d,l with
 | [a,b],0,_=>
  grind[bI,yw]
 | [a,b],1,_=>
  simp[bI] at e f;subst f;exact gK.2 ⟨a,_,rfl,by grind,rfl⟩
 | [a,b],d+2,_=>grind
theorem Fw (W:E.Ok P) {t:TypeId} {n:Name} {g b:Nat} {v:ac} {x:Value} {C:Out} (h:cG E t [.ptr n g,v] (some (.cells c))=some C)
  {r l:List Nat} (O:aI w R N (.cells c) b r) (V:ai w R N v x l) (B:List Nat) (d:b∉B) (af:b∉r) (J:b∉l) :
  C.val=.undef/\∃D,C.eff=.set (.cells D)/\∃U q A k,(Instr.storeAt t (.pointer (some ⟨b,g,none⟩)) x).run P w=.ok () U/\bp w R U R B/\r=q++A++k/\aI U R N (.cells D) b (q++l++k):=by
 simp only[cG] at h
 split at h
 ·rename_i i ae T F;simp at F;subst F
  split at h
  ·rename_i hc;obtain⟨ab,Z,G,ad,Y⟩:=hc;simp at h;subst h;refine⟨rfl,_,rfl,?_⟩;obtain⟨s,m,sp,p,hr,X,Q⟩:=O;have a:=ia V G;have K:=a.length;have al:=hr.length;have H:=xh a G;have y:g+x.cells.toList.length<=s.size:=by grind
   have u:=DS (P:=P) (w:=w) b g m x.cells.toList s p y H;rw[Fv g x.cells.toList s.toList (by grind)] at u;have S:(bI g x.cells.toList s.toList).toArray.size=s.size:=by simp[ib]
   have z:0 < s.size:=by omega
   have f:∀B:List Nat,b∉B->bp w R (w.setRow b (bI g x.cells.toList s.toList).toArray) R B:=fun B d=>
    jH p _ S (fun _ _ h=>h) (fun _ _ _ h=>h) (fun o ag=>by
     grind) ⟨0,X 0 z⟩ B d
   obtain⟨q,A,k,e,I⟩:=sB g (ns:=aY v) (us:=x.cells.toList) hr (by grind) K;refine⟨_,q,A,k,?_,f B d,e,?_⟩
   ·have:x.cells.size=i.size:=by grind
    simp[Instr.storeAt,Instr.sureAddr,storeVar,W.fT T,this,u]
   refine⟨(bI g x.cells.toList s.toList).toArray,m,sp,setRow_heap w b s _ m _ p,?_,fun j hj=>X j (by omega),fun d=>Q (by grind)⟩;have L:=f (q++k) (by grind);have M:=f l J;rw[←Pn (by omega)];simpa using I l _ _ L (a.keep M)
  grind
 grind
def Own.more (R:Own) (n:Nat):Own:=fun b a=>b=n∨R b a
theorem Own.qj {R:Own} {n b a:Nat} (d:b < n):(R.more n b a↔R b a):=⟨fun h=>by rcases h with h|h;omega;grind,fun h=>.inr h⟩
theorem CQ {f:Array Value} {e:List Nat} (i:ah w R N c f.toList e) (a:TypeId) (g:cd c=true->a=sj) (B:List Nat) :
  bp w R (w.alloc (.cells f a)) (R.more w.heap.size) B/\aI (w.alloc (.cells f a)) (R.more w.heap.size) N (.cells c) w.heap.size e:=by
 have k:=fun B=>gx (w:=w) (R:=R) (.cells f a) (R':=R.more w.heap.size) (fun b l d=>Own.qj d) B
 exact⟨k B,f,a,0,heap_alloc_new w _,by simpa using i.keep (k e),fun j _=>.inl rfl,fun h=>⟨g h,rfl⟩⟩
theorem HD:xO #[] 0:=⟨by simp,by simp⟩
theorem J7 {d:Array MapEntry} {c:Nat} (h:xO d c) {k v:Value}:xO (d.push {key:=k,val:=v,born:=c }) (c+1):=by
 obtain⟨a,b⟩:=h
 constructor
 all_goals grind
theorem pv (f:MapEntry->MapEntry) (a:∀e,(f e).born=e.born):∀(l:List MapEntry) (i:Nat),(l.modify i f).map (·.born)=l.map (·.born)
 | [],i=>by grind
 | e::l,0=>by grind
 | e::l,i+1=>by simpa using pv f a l i
theorem EW {c:Array MapEntry} {d:Nat} (h:xO c d) (i:Nat) (f:MapEntry->MapEntry) (g:∀e,(f e).born=e.born):xO (c.modify i f) d:=by
 obtain⟨a,b⟩:=h;have k:=pv f g c.toList i;refine⟨?_,by grind⟩;intro x X;have j:x.born∈(c.toList.modify i f).map (·.born):=List.mem_map.2 ⟨x,by grind,rfl⟩;grind
theorem HC {c:Array MapEntry} {d:Nat} (h:xO c d) (i:Nat):xO (c.eraseIdxIfInBounds i) d:=by
 obtain⟨a,b⟩:=h;have s:(c.eraseIdxIfInBounds i).toList.Sublist c.toList:=by
  simp;grind
 exact⟨fun x X=>a x (s.subset X),b.sublist (s.map _)⟩
theorem TE (B:List Nat) :
  bp w R (w.alloc (.map #[] 0)) (R.more w.heap.size) B/\aI (w.alloc (.map #[] 0)) (R.more w.heap.size) N (.map []) w.heap.size []:=by
 have k:=fun B=>gx (w:=w) (R:=R) (.map #[] 0) (R':=R.more w.heap.size) (fun b a d=>Own.qj d) B
 exact⟨k B,rfl,.inl rfl,#[],0,heap_alloc_new w _,rfl,HD⟩
theorem fI {b i clock':Nat} {j ents':Array MapEntry} (d:w.heap[b]?=some (.map j i)) (p:R b 0) (B:List Nat) (m:b∉B) :
  bp w R {w with heap:=w.heap.setIfInBounds b (.map ents' clock')} R B:=by
 have f:∀c,c≠b->(w.heap.setIfInBounds b (.map ents' clock'))[c]?=w.heap[c]?:=fun c k=>by grind
 refine⟨⟨rfl,rfl,rfl,by simp,fun c k g=>⟨f c (fun e=>g 0 (e ▸ p)),g⟩,fun c n k g=>⟨g,?_⟩,fun c k=>?_⟩,fun c k _=>⟨f c (fun e=>m (e ▸ k)),fun _ h=>h⟩⟩
 ·by_cases l:c=b
  ·subst l;have o:(w.heap.setIfInBounds c (.map ents' clock'))[c]?=some (.map ents' clock'):=by grind
   simp only[World.cell?,d,o]
  exact World.cell?_of_block (a:=⟨c,n,none⟩) (f c l)
 grind[eD]
theorem J5 (a b:ByteArray):(a==b)=true↔a=b:=by
 constructor
 ·intro h;obtain⟨a⟩:=a;obtain⟨b⟩:=b
  have:(a==b)=true:=h
  grind
 rintro rfl;obtain⟨a⟩:=a;show (a==a)=true;simp
theorem Oz {a:TypeDesc} (c:a=.string∨(∃k,a=.int k)∨a=.bool) {x y:Value} (h:Instr.sameNow a x y=some true):x=y/\∀n,Instr.sameBits n y x=true:=by
 rcases c with rfl|⟨k,rfl⟩|rfl
 ·cases x <;> cases y <;> simp[Instr.sameNow] at h
  have b:=(J5 _ _).1 h;subst b;exact⟨rfl,fun n=>by cases n <;> simpa [Instr.sameBits] using h⟩
 ·cases x <;> cases y <;> simp[Instr.sameNow] at h
  obtain⟨rfl,rfl⟩:=h;exact⟨rfl,fun n=>by cases n <;> simp[Instr.sameBits]⟩
 cases x <;> cases y <;> simp[Instr.sameNow] at h
 subst h;exact⟨rfl,fun n=>by cases n <;> simp[Instr.sameBits]⟩
theorem zK:∀{m:List (Value×ak)} {c:List MapEntry} {i:Nat} {e:MapEntry} {d:ak} {f:MapEntry->MapEntry},dQ w R m c->c[i]?=some e->(f e).key=e.key->ve w R (f e).val d->
  dQ w R (setAt i d m) (c.modify i f)
 | [],_,i,e,d,f,h,l,_,_=>by grind[dQ]
 |(k,x)::m,_,0,e,d,f,⟨n,j,a,b,o,g⟩,l,p,D=>by
  subst a;simp at l;subst l;exact⟨f n,j,by simp,by grind,D,g⟩
 |(k,x)::m,_,i+1,e,d,f,⟨n,j,a,b,o,g⟩,l,p,D=>by
  subst a;exact⟨n,j.modify i f,by simp,b,o,zK g l p D⟩
theorem zL:∀{e:List (Value×ak)} {c:List MapEntry} {i:Nat},dQ w R e c->dQ w R (Hm i e) (c.eraseIdx i)
 | [],_,i,h=>by grind[dQ,Hm]
 |(k,x)::e,_,0,⟨j,d,a,b,f,g⟩=>by grind[Hm]
 |(k,x)::e,_,i+1,⟨j,d,a,b,f,g⟩=>by subst a;exact⟨j,d.eraseIdx i,by simp,b,f,zL g⟩
theorem ap4:∀{i:List (Value×ak)} {c:List MapEntry} {e:MapEntry} {k:Value} {d:ak},dQ w R i c->e.key=k->ve w R e.val d->dQ w R (i++[(k,d)]) (c++[e])
 | [],_,e,k,d,h,l,D=>by grind[dQ]
 |(x,y)::i,_,e,k,d,⟨m,j,a,b,f,g⟩,l,D=>by subst a;exact⟨m,j++[e],by simp,b,f,ap4 g l D⟩
theorem pj (W:E.Ok P) {t:TypeId} {n:Name} {b:Nat} {Z v:ac} {j x:Value} {X:List (Value×ak)} {A:Out} (h:gE E t [.map n,Z,v] (some (.map X))=some A)
  (T:aI w R N (.map X) b []) (hk:ai w R N Z j []) {L:List Nat} (V:ai w R N v x L) (B:List Nat) (Y:b∉B) :
  A.val=.undef/\∃F,A.eff=.set (.map F)/\∃U,(Instr.mapUpdate t (.map (some b)) j x).run P w=.ok () U/\bp w R U R B/\aI U R N (.map F) b []:=by
 unfold gE at h
 split at h
 ·rename_i n' k v' J;obtain⟨rfl,rfl,rfl⟩:=J;obtain⟨_,rfl,_⟩:=aC hk
  split at h
  ·rename_i kt et ab D p;simp at p;subst p
   split at h
   ·rename_i td d S H;obtain⟨l,y⟩:=Jq W S;have K:=W.nE D;obtain⟨_,C,c,a,g,m,G⟩:=T;have I:=wG V H;have r:∀o,(setObj b o).run P w=.ok () {w with heap:=w.heap.setIfInBounds b o }:=fun o=>by simp[setObj,Sem.run,g]
    have q:(getObj b).run P w=.ok (.map c a) w:=by simp[getObj,Sem.run,g]
    split at h
    ·rename_i i d0 Q;simp at h;subst h;refine⟨rfl,_,rfl,?_⟩;obtain⟨e,M,f2,O,f4,f5,f6⟩:=gy td _ m (rh W Q);simp at M;obtain⟨z,s⟩:=Oz y f5;refine⟨{w with heap:=w.heap.setIfInBounds b (.map (c.modify i fun e=>{e with key:=j,val:=x }) a)},?_,fI g C B Y,?_⟩
     ·simp[Instr.mapUpdate,aV K,q,run_checkKey l y,run_findKey l O,Instr.keyThatStays,M,s,r]
     have u:=fI (R:=R) (ents':=c.modify i fun e=>{e with key:=j,val:=x }) (clock':=a) g C [] (by simp);refine⟨rfl,C,c.modify i (fun e=>{e with key:=j,val:=x }),a,by simp[bN g],?_,EW G i _ fun _=>rfl⟩
     have:=zK (f:=fun e=>{e with key:=j,val:=x }) m (by simpa using M) (by simpa using z) I
     simpa using this.step u.step
    ·rename_i Q;simp at h;subst h;refine⟨rfl,_,rfl,?_⟩;have O:=gy td _ m (rh W Q);refine⟨{w with heap:=w.heap.setIfInBounds b (.map (c.push {key:=j,val:=x,born:=a }) (a+1))},?_,fI g C B Y,?_⟩
     ·simp[Instr.mapUpdate,aV K,q,run_checkKey l y,run_findKey l O,r]
     have u:=fI (R:=R) (ents':=c.push {key:=j,val:=x,born:=a }) (clock':=a+1) g C [] (by simp);refine⟨rfl,C,c.push {key:=j,val:=x,born:=a },a+1,by simp[bN g],?_,J7 G⟩
     have:=ap4 (e:={key:=j,val:=x,born:=a }) m rfl I
     simpa using this.step u.step
    simp at h
   simp at h
  simp at h
 simp at h
theorem DO (W:E.Ok P) {t ty:TypeId} {x:Array TypeId} (z:x[0]?=some t) {n:Name} {b:Nat} {O:ac} {Q:Value} {M:List (Value×ak)} {r:Out} (h:vd E t [.map n,O] (some (.map M))=some r)
  (L:aI w R N (.map M) b []) (U:ai w R N O Q []) (B:List Nat) (d:b∉B) :
  ∃v s,(Builtin.delete_ x ty #[.map (some b),Q]).run P w=.ok v s/\bp w R s R B/\ai s R N r.val v [] ∧
   ∃y,r.eff=.set (.map y)/\aI s R N (.map y) b []:=by
 unfold vd at h
 split at h
 ·rename_i n' k H;obtain⟨rfl,rfl⟩:=H;obtain⟨_,rfl,_⟩:=aC U
  split at h
  ·rename_i kt X T D l;simp at l;subst l
   split at h
   ·rename_i S K;obtain⟨g,C⟩:=Jq W K;have F:=W.nE D;obtain⟨_,u,c,a,f,j,A⟩:=L;have p:∀o,(setObj b o).run P w=.ok () {w with heap:=w.heap.setIfInBounds b o }:=fun o=>by simp[setObj,Sem.run,f]
    have m:(getObj b).run P w=.ok (.map c a) w:=by simp[getObj,Sem.run,f]
    have q:∀s,ai s R N (.tup []) (.tuple #[]) []:=fun s=>by grind[ai,aP]
    split at h
    ·rename_i i V I;simp at h;subst h;obtain⟨e,Y,Z,G,f4,f5,f6⟩:=gy S _ j (rh W I);refine⟨.tuple #[],{w with heap:=w.heap.setIfInBounds b (.map (c.eraseIdxIfInBounds i) a)},?_,fI f u B d,q _,⟨_,rfl,rfl,u,c.eraseIdxIfInBounds i,a,by grind,?_,HC A i⟩⟩
     ·simp[Builtin.delete_,z,aV F,m,run_checkKey g C,run_findKey g G,p]
     have J:=fI (R:=R) (ents':=c.eraseIdxIfInBounds i) (clock':=a) f u [] (by simp)
     have:=(zL (i:=i) j).step J.step
     simp_all
    ·rename_i I;simp at h;subst h;have G:=gy S _ j (rh W I);refine⟨.tuple #[],{w with heap:=w.heap.setIfInBounds b (.map c a)},?_,fI f u B d,q _,⟨_,rfl,rfl,u,c,a,by grind,?_,A⟩⟩
     ·simp[Builtin.delete_,z,aV F,m,run_checkKey g C,run_findKey g G,p]
     exact j.step (fI (R:=R) (ents':=c) (clock':=a) f u [] (by simp)).step
    grind
   grind
  grind
 grind
end
end Go.Tp
namespace Go.Tp
mutual
def pB:ac->Bool
 | .ptr (.loc _) _=>false
 | .map (.loc _)=>false
 | .win (.loc _) _ _ _=>false
 | .fn _ d b=>aW d&&aW b
 | .agg c=>aW c
 | .tup c=>aW c
 | _=>true
def aW:List ac->Bool
 | []=>true
 | a::r=>pB a&&aW r
end
mutual
def mentions (n:Name):ac->Bool
 | .ptr m _=>decide (m=n)
 | .map m=>decide (m=n)
 | .win m _ _ _=>decide (m=n)
 | .fn _ d b=>aU n d||aU n b
 | .agg c=>aU n c
 | .tup c=>aU n c
 | _=>false
def aU (n:Name):List ac->Bool
 | []=>false
 | a::r=>mentions n a||aU n r
end
def dD (n:Name):List ac->List ac
 | []=>[]
 | a::r=>(if mentions n a=true then .undef else a)::dD n r
def lj (n:Name):List (Name×aL)->List (Name×aL)
 | []=>[]
 |(m,.cells c)::r=>if m=n then lj n r else (m,.cells (dD n c))::lj n r
 |(m,.map a)::r=>if m=n then lj n r else (m,.map a)::lj n r
def bq (l:List ac) (t:Nat):ac:=match l[t]? with|some v=>v|none=>.undef
def aa.put (s:aa) (a:Option Tmp) (v:ac):aa:=
 match a with
 | some d=>{s with tmps:=s.tmps.set d v }
 | none=>s
def aa.obj (s:aa) (n:Name):Option aL:=
 match n with
 | .loc i=>eA (.loc i) s.locs
 | .out o=>eA (.out o) s.heap
def bh:aL->Bool
 | .cells c=>aW c
 | .map _=>true
def aa.setObj (s:aa) (n:Name) (o:aL):Option aa:=
 match n with
 | .loc i=>some {s with locs:=iX (.loc i) o s.locs }
 | .out k=>if bh o=true then some {s with heap:=iX (.out k) o s.heap } else none
section
variable (E:bz) (G:bA)
def fm (s:aa):Operand->ac
 | .tmp t=>bq s.tmps t
 | .const v=>bE v
 | .global g=>match G g with|some c=>.ref c|none=>.undef
 | .func f=>.fn (.func f) [] []
def opsL:Op->List Operand
 | .move x|.assign x|.box _ x|.load _ x|.nilCheck x|.unOp _ _ x|.convert _ _ x|.fieldAddr _ x _|.field _ x _|.extract x _=>[x]
 | .pick c a b=>[c,a,b]
 | .build _ f|.buildSlice _ _ f=>f.toList.map (·.2)
 | .store _ a v|.binOp _ _ a v _|.indexAddr _ a v|.index _ a v|.lookup _ a v _=>[a,v]
 | .makeFunc _ e d=>e.toList++d.toList
 | .slice _ x l h _=>x::(l.toList++h.toList)
 | .mapUpdate _ m k v=>[m,k,v]
 | .makeSlice _ l c=>[l,c]
 | .insert _ m k v=>[m,k,v]
 | .call c=>c.args.toList
 | _=>[]
def aE (s:aa) (a:Option Nat):Nat->List Operand->List ac
 | _,[]=>[]
 | k,x::r=>(if a=some k then fm G s x else de (fm G s x))::aE s a (k+1) r
def bF (s:aa) (a:Option Nat) (b:List Operand):aa:=
 match a with
 | none=>s
 | some k=>match b[k]? with
  | some (.tmp t)=>{s with tmps:=s.tmps.set t (de (bq s.tmps t))}
  | _=>s
def As (d:Nat):aL->ac
 | .cells _=>.ptr (.loc d) 0
 | .map _=>.map (.loc d)
def newObj (s:aa) (d:Nat) (o:aL):aa:=
 {s with tmps:=(dD (.loc d) s.tmps).set d (As d o),locs:=(.loc d,o)::lj (.loc d) s.locs }
def om (s:aa) (d:Nat) (o:aL) (b a:Nat):aa:=
 {s with tmps:=(dD (.loc d) s.tmps).set d (.win (.loc d) b 0 a),locs:=(.loc d,o)::lj (.loc d) s.locs }
def sI (k:Nat):aL->ac
 | .cells _=>.ptr (.out k) 0
 | .map _=>.map (.out k)
def nu (d:Nat):aL->Bool
 | .cells c=>!aU (.loc d) c
 | .map _=>true
def kp (q:Bool) (o:Op):Option Nat:=if q=true then none else KY o
def aX (s:aa) (o:Op) (a:List ac):Option aL:=match looks o a with|some n=>s.obj n|none=>none
def dW (o:Oper) (n:Option Name) (s:aa) (out:Out):Option aa:=
 match out.eff with
 | .keep=>some (s.put o.dst out.val)
 | .set a=>(match n with
  | some n=>(match s.setObj n a with|some s=>some (s.put o.dst out.val)|none=>none)
  | none=>none)
 | .new a=>(match o.dst with
  | some d=>if nu d a=true then some (newObj s d a) else none
  | none=>none)
 | .fresh a=>if bh a=true then some (({s with heap:=(.out s.next,a)::s.heap,next:=s.next+1 }:aa).put o.dst (sI s.next a)) else none
 | .row a c b=>(match o.dst with
  | some d=>if nu d a=true then some (om s d a c b) else none
  | none=>none)
 | .grow a c b=>(match n with
  | some (.loc k)=>if bh a=true then some (({s with locs:=iY (.loc k) s.locs,heap:=(.out s.next,a)::s.heap,next:=s.next+1 }:aa).put o.dst (.win (.out s.next) c 0 b)) else none
  | some (.out k)=>if bh a=true then some (({s with heap:=(.out s.next,a)::iY (.out k) s.heap,next:=s.next+1 }:aa).put o.dst (.win (.out s.next) c 0 b)) else none
  | none=>if bh a=true then some (({s with heap:=(.out s.next,a)::s.heap,next:=s.next+1 }:aa).put o.dst (.win (.out s.next) c 0 b)) else none)
def aa4 (q a:Bool) (o:Oper) (s:aa):Option aa:=
 match jE E a o.op (aE G s (kp q o.op) 0 (opsL o.op)) (aX s o.op (aE G s (kp q o.op) 0 (opsL o.op))) with
 | none=>none
 | some b=>dW o (looks o.op (aE G s (kp q o.op) 0 (opsL o.op))) (bF s (kp q o.op) (opsL o.op)) b
end
end Go.Tp
namespace Go.Tp
section
variable {P:Program} {E:bz} {G:bA} {w:World} {R:Own} {N N':Name->Option Nat}
theorem rW:∀(l m:List ac),aW (l++m)=(aW l&&aW m)
 | [],m=>by simp[aW]
 | a::l,m=>by simp[aW,rW l m,Bool.and_assoc]
theorem tU:∀k:Nat,aW (List.replicate k .undef)=true
 | 0=>rfl
 | k+1=>by simp[List.replicate_succ,aW,pB,tU k]
theorem ji (c:List ac) (k:Nat):aW (c++List.replicate k .undef)=aW c:=by grind[rW,tU]
theorem nn (n:Name):∀(l m:List ac),aU n (l++m)=(aU n l||aU n m)
 | [],m=>by simp[aU]
 | a::l,m=>by simp[aU,nn n l m,Bool.or_assoc]
theorem pu (n:Name):∀k:Nat,aU n (List.replicate k .undef)=false
 | 0=>rfl
 | k+1=>by simp[List.replicate_succ,aU,mentions,pu n k]
theorem BT (n:Name) (c:List ac) (k:Nat):aU n (c++List.replicate k .undef)=aU n c:=by grind[nn,pu]
theorem HE {n:Name} {c:List ac} (h:cd (dD n c)=true):cd c=true:=by
 obtain⟨p,q,e,w,d⟩:=gK.1 h
 match c with
 | []=>grind[dD]
 | [a]=>grind[dD]
 | [a,b]=>
  grind[dD,yw,isS]
 | _::_::_::_=>grind[dD]
theorem rV (n:Name):∀(l m:List ac),dD n (l++m)=dD n l++dD n m
 | [],m=>by simp[dD]
 | a::l,m=>by simp[dD,rV n l m]
theorem tM (n:Name):∀k:Nat,dD n (List.replicate k .undef)=List.replicate k .undef
 | 0=>rfl
 | k+1=>by simp[List.replicate_succ,dD,tM n k]
theorem IF (n:Name) (c:List ac) (k:Nat):dD n (c++List.replicate k .undef)=dD n c++List.replicate k .undef:=by rw[rV,tM]
theorem eL:∀{as c:List ac} {i:List Value} {B:List Nat},ah w R N (as++c) i B->∃d e r Q,i=d++e/\B=r++Q/\ah w R N as d r/\ah w R N c e Q
 | [],_,i,B,h=>⟨[],i,[],B,rfl,rfl,aP,h⟩
 | a::as,c,_,_,h=>by
  obtain⟨v,j,r,Q,rfl,rfl,k,b⟩:=au (as:=as++c) h;obtain⟨d,e,p,q,rfl,rfl,f,g⟩:=eL b;grind[aD]
theorem iV.lt {v:Value} {a:List ak} {B:List Nat} (h:iV w R v a B):∀b∈B,b < w.heap.size:=by
 grind[lg]
mutual
theorem ai.lt:∀{a:ac} {v:Value} {B:List Nat},ai w R N a v B->∀b∈B,b < w.heap.size
 | .dat _,_,_,h=>by grind[ai]
 | .own _,_,_,h=>by simp only[ai] at h;exact h.lt
 | .ref _,_,_,h=>by grind[ai]
 | .ptr _ _,_,_,h=>by grind[ai]
 | .map _,_,_,h=>by grind[ai]
 | .win _ _ _ _,_,_,h=>by grind[ai]
 | .fn _ _ _,_,_,h=>by grind[ai]
 | .agg c,_,_,h=>by obtain⟨e,_,h⟩:=h;exact ah.lt (as:=c) h
 | .tup c,_,_,h=>by obtain⟨e,_,h⟩:=h;exact ah.lt (as:=c) h
 | .undef,_,_,h=>by grind[ai]
theorem ah.lt:∀{as:List ac} {e:List Value} {B:List Nat},ah w R N as e B->∀b∈B,b < w.heap.size
 | [],_,_,h=>by grind[ah]
 | a::as,_,_,h=>by
  obtain⟨v,i,r,Q,_,rfl,f,g⟩:=h;intro b d
  rcases List.mem_append.1 d with d|d
  ·exact ai.lt (a:=a) f b d
  exact ah.lt (as:=as) g b d
end
theorem aI.lt {o:aL} {b:Nat} {B:List Nat} (h:aI w R N o b B):b < w.heap.size/\∀c∈B,c < w.heap.size:=by
 cases o with
 | cells i=>obtain⟨l,e,k,d,f,_⟩:=h;exact⟨bN d,f.lt⟩
 | map j=>obtain⟨rfl,_,a,g,d,_⟩:=h;grind
theorem aj.lt:∀{g:List (Name×aL)} {B:List Nat},aj w R N g B->∀b∈B,b < w.heap.size
 | [],_,h=>by grind[aj]
 |(_,_)::_,_,⟨b,r,Q,e,_,a,f⟩=>by
  subst e;intro c d;obtain⟨i,j⟩:=a.lt;simp at d
  rcases d with rfl|d|d
  ·grind
  ·grind
  exact aj.lt f c d
mutual
theorem ai.yi:∀{a:ac} {v:Value} {B:List Nat},ai w R N a v B->pB a=true->(∀o,N' (.out o)=N (.out o))->ai w R N' a v B
 | .dat _,_,_,h,_,_=>by exact h
 | .own _,_,_,h,_,_=>by exact h
 | .ref _,_,_,h,_,_=>by exact h
 | .ptr (.loc _) _,_,_,_,d,_=>by grind[pB]
 | .ptr (.out _) _,_,_,h,_,g=>by grind[ai]
 | .map (.loc _),_,_,_,d,_=>by grind[pB]
 | .map (.out _),_,_,h,_,g=>by grind[ai]
 | .win (.loc _) _ _ _,_,_,_,d,_=>by grind[pB]
 | .win (.out _) _ _ _,_,_,h,_,g=>by grind[ai]
 | .fn _ x y,_,_,h,d,g=>by
  simp only[pB,Bool.and_eq_true] at d;obtain⟨k,i,m,e,b,f⟩:=h;exact⟨k,i,m,e,ah.yi (as:=x) b d.1 g,ah.yi (as:=y) f d.2 g⟩
 | .agg c,_,_,h,d,g=>by
  obtain⟨i,e,h⟩:=h;exact⟨i,e,ah.yi (as:=c) h d g⟩
 | .tup c,_,_,h,d,g=>by
  obtain⟨i,e,h⟩:=h;exact⟨i,e,ah.yi (as:=c) h d g⟩
 | .undef,_,_,h,_,_=>by exact h
theorem ah.yi:∀{as:List ac} {i:List Value} {B:List Nat},ah w R N as i B->aW as=true->(∀o,N' (.out o)=N (.out o))->ah w R N' as i B
 | [],_,_,h,_,_=>by exact h
 | a::as,_,_,h,d,g=>by
  simp only[aW,Bool.and_eq_true] at d;obtain⟨v,l,r,Q,E,F,k,b⟩:=h;exact⟨v,l,r,Q,E,F,ai.yi (a:=a) k d.1 g,ah.yi (as:=as) b d.2 g⟩
end
mutual
theorem ai.bY:∀{a:ac} {v:Value} {k:List Nat},ai w R (outs N) a v k->pB a=true
 | .dat _,_,_,_=>by simp[pB]
 | .own _,_,_,_=>by simp[pB]
 | .ref _,_,_,_=>by simp[pB]
 | .ptr (.loc _) _,_,_,h=>by simp[ai,Tp.outs] at h
 | .ptr (.out _) _,_,_,_=>by simp[pB]
 | .map (.loc _),_,_,h=>by simp[ai,Tp.outs] at h
 | .map (.out _),_,_,_=>by simp[pB]
 | .win (.loc _) _ _ _,_,_,h=>by simp[ai,Tp.outs] at h
 | .win (.out _) _ _ _,_,_,_=>by simp[pB]
 | .fn _ x y,_,_,h=>by
  obtain⟨m,j,n,e,l,f⟩:=h;simp only[pB,Bool.and_eq_true];exact⟨ah.bY (as:=x) l,ah.bY (as:=y) f⟩
 | .agg c,_,_,h=>by
  obtain⟨j,e,h⟩:=h;simpa only[pB] using ah.bY (as:=c) h
 | .tup c,_,_,h=>by
  obtain⟨j,e,h⟩:=h;simpa only[pB] using ah.bY (as:=c) h
 | .undef,_,_,_=>by simp[pB]
theorem ah.bY:∀{as:List ac} {d:List Value} {B:List Nat},ah w R (outs N) as d B->aW as=true
 | [],_,_,_=>by simp[aW]
 | a::as,_,_,h=>by
  obtain⟨v,i,r,Q,E,F,g,b⟩:=h;simp only[aW,Bool.and_eq_true];exact⟨ai.bY (a:=a) g,ah.bY (as:=as) b⟩
end
theorem ai.Kk {a:ac} {v:Value} {B:List Nat} (h:ai w R N a v B) (b:pB a=true):ai w R (outs N) a v B:=h.yi b (fun _=>rfl)
theorem aI.yi {o:aL} {b:Nat} {B:List Nat} (h:aI w R N o b B) (i:bh o=true) (f:∀o,N' (.out o)=N (.out o)):aI w R N' o b B:=by
 cases o with
 | cells c=>obtain⟨l,e,k,d,j,g⟩:=h;exact⟨l,e,k,d,ah.yi j (by rw[ji];exact i) f,g⟩
 | map m=>exact h
theorem aj.tO:∀{g:List (Name×aL)} {B:List Nat},aj w R (Tp.outs N) g B->(∀o,N' (.out o)=N (.out o))->aj w R (Tp.outs N') g B
 | [],_,h,_=>h
 |(n,o)::g,_,⟨b,r,Q,e,j,a,m⟩,f=>by
  refine⟨b,r,Q,e,?_,?_,aj.tO m f⟩
  ·cases n with
   | loc i=>simp[Tp.outs] at j
   | out k=>simpa [Tp.outs,f] using j
  cases o with
  | cells c=>
   obtain⟨s,e,q,d,l,p⟩:=a;exact⟨s,e,q,d,ah.yi l l.bY (by intro o;simp[Tp.outs,f]),p⟩
  | map t=>exact a
mutual
theorem ai.other {n:Name}:∀{a:ac} {v:Value} {B:List Nat},ai w R N a v B->mentions n a=false->(∀m,m≠n->N' m=N m)->ai w R N' a v B
 | .dat _,_,_,h,_,_=>by exact h
 | .own _,_,_,h,_,_=>by exact h
 | .ref _,_,_,h,_,_=>by exact h
 | .ptr m _,_,_,h,d,g=>by
  grind[mentions,ai]
 | .map m,_,_,h,d,g=>by
  grind[mentions,ai]
 | .win m _ _ _,_,_,h,d,g=>by
  grind[mentions,ai]
 | .fn _ x y,_,_,h,d,g=>by
  simp only[mentions,Bool.or_eq_false_iff] at d;obtain⟨k,i,o,e,b,f⟩:=h;exact⟨k,i,o,e,ah.other (as:=x) b d.1 g,ah.other (as:=y) f d.2 g⟩
 | .agg c,_,_,h,d,g=>by
  obtain⟨i,e,h⟩:=h;exact⟨i,e,ah.other (as:=c) h d g⟩
 | .tup c,_,_,h,d,g=>by
  obtain⟨i,e,h⟩:=h;exact⟨i,e,ah.other (as:=c) h d g⟩
 | .undef,_,_,h,_,_=>by exact h
theorem ah.other {n:Name}:∀{as:List ac} {i:List Value} {B:List Nat},ah w R N as i B->aU n as=false->(∀m,m≠n->N' m=N m)->ah w R N' as i B
 | [],_,_,h,_,_=>by exact h
 | a::as,_,_,h,d,g=>by
  simp only[aU,Bool.or_eq_false_iff] at d;obtain⟨v,l,r,Q,E,F,k,b⟩:=h;exact⟨v,l,r,Q,E,F,ai.other (a:=a) k d.1 g,ah.other (as:=as) b d.2 g⟩
end
theorem ah.pZ {n:Name} (f:∀m,m≠n->N' m=N m):∀{d:List ac} {g:List Value} {B:List Nat},ah w R N d g B->∃c,ah w R N' (dD n d) g c/\c.Sublist B
 | [],_,_,h=>by obtain⟨rfl,rfl⟩:=aM h;exact⟨[],aP,.refl _⟩
 | a::d,_,_,h=>by
  obtain⟨v,l,r,Q,rfl,rfl,k,b⟩:=au h;obtain⟨c,e,j⟩:=ah.pZ f b;unfold dD
  split
  ·exact⟨[]++c,aD (aJ v) e,by grind⟩
  rename_i o;exact⟨r++c,aD (k.other (by grind) f) e,List.Sublist.append (.refl _) j⟩
theorem aj.pZ {n:Name} (l:∀m,m≠n->N' m=N m):∀{g:List (Name×aL)} {B:List Nat},aj w R N g B->∃f,aj w R N' (lj n g) f/\f.Sublist B
 | [],_,h=>⟨_,h,.refl _⟩
 |(m,.cells c)::g,_,⟨b,r,Q,e,v,a,k⟩=>by
  subst e;obtain⟨f,i,j⟩:=aj.pZ l k;unfold lj
  split
  ·grind
  rename_i u;obtain⟨z,t,y,d,x,o⟩:=a;obtain⟨p,q,K⟩:=ah.pZ l x;rw[IF] at q;exact⟨b::(p++f),⟨b,p,f,rfl,by grind,⟨z,t,y,d,q,o.1,fun h=>o.2 (HE h)⟩,i⟩,(List.Sublist.append K j).cons_cons _⟩
 |(m,.map A)::g,_,⟨b,r,Q,e,v,a,k⟩=>by
  subst e;obtain⟨f,i,j⟩:=aj.pZ l k;unfold lj
  split
  ·grind
  rename_i u;exact⟨b::(r++f),⟨b,r,f,rfl,by grind,a,i⟩,(List.Sublist.append (.refl _) j).cons_cons _⟩
end
end Go.Tp
