/- Part 3 of what the last text proves. -/
import Derived.Scope
import Derived.Test.YtmpmgmmcaghacaaGreatDoorQ02
set_option linter.unusedVariables false
set_option linter.unusedSimpArgs false
open Int (ofNat)
set_option maxRecDepth 100000
set_option maxHeartbeats 4000000
namespace Go.Tp
def jP:List UInt8->List UInt8->Bool
 | [],[]=>true
 | a::x,b::y=>(match Nat.beq a.toNat b.toNat with|true=>jP x y|false=>false)
 | _,_=>false
def ML:List UInt8->List UInt8->Bool
 | _,[]=>false
 | [],_::_=>true
 | a::x,b::y=>(match Nat.blt a.toNat b.toNat with
  | true=>true
  | false=>(match Nat.beq a.toNat b.toNat with|true=>ML x y|false=>false))
theorem R6 (a b:UInt8):Nat.beq a.toNat b.toNat=(a==b):=by
 rw[Bool.eq_iff_iff,Nat.beq_eq,beq_iff_eq];exact⟨UInt8.toNat_inj.1,fun h=>by rw[h]⟩
theorem ZY (a b:UInt8):Nat.blt a.toNat b.toNat=decide (a < b):=by
 rw[Bool.eq_iff_iff,Nat.blt_eq,decide_eq_true_eq];exact UInt8.lt_iff_toNat_lt.symm
theorem wu:∀x y,jP x y=(x==y)
 | [],[]=>rfl
 | [],_::_=>rfl
 | _::_,[]=>rfl
 | a::x,b::y=>by
  simp only[jP,R6,wu x y]
  grind
theorem Qo:∀x y,ML x y=Op.bytesLess x y
 | [],[]=>rfl
 | [],_::_=>rfl
 | _::_,[]=>rfl
 | a::x,b::y=>by
  simp only[ML,ZY,R6,Qo x y,Op.bytesLess]
  grind
theorem toList_data (x:ByteArray):x.toList=x.data.toList:=ByteArray.toList_eq x
def an (k:IntKind) (n:Int):Int:=
 match k with
 | .i64=>(match n with
  | .ofNat m=>(match Nat.blt m 9223372036854775808 with|true=>.ofNat m|false=>k.wrap n)
  | .negSucc m=>(match Nat.blt m 9223372036854775808 with|true=>.negSucc m|false=>k.wrap n))
 | .u8=>(match n with
  | .ofNat m=>(match Nat.blt m 256 with|true=>.ofNat m|false=>k.wrap n)
  | .negSucc _=>k.wrap n)
 | .u64=>(match n with
  | .ofNat m=>(match Nat.blt m 18446744073709551616 with|true=>.ofNat m|false=>k.wrap n)
  | .negSucc _=>k.wrap n)
 | _=>k.wrap n
theorem gC {a b:Nat} (h:a<=b):Nat.ble a b=true:=by simp_all
theorem fD {a b:Nat} (h:Nat.ble a b=true):a<=b:=by simp_all
theorem oY {a b:Nat} (h:Nat.blt a b=true):a < b:=by simp_all
theorem cQ (k:IntKind) (n:Int):an k n=k.wrap n:=by
 unfold an
 split
 ·split
  ·split
   ·rename_i m h;have h:=oY h;simp[IntKind.wrap,IntKind.signed,IntKind.bits];omega
   rfl
  rename_i m
  split
  ·rename_i h;have h:=oY h;grind[wrap_i64]
  rfl
 ·split
  ·split
   ·rename_i m h;have h:=oY h;simp[IntKind.wrap,IntKind.signed,IntKind.bits];omega
   rfl
  rfl
 ·split
  ·split
   ·rename_i m h;have h:=oY h;simp[IntKind.wrap,IntKind.signed,IntKind.bits];omega
   rfl
  rfl
 rfl
def aF (a b:Int):Bool:=
 match a,b with
 | .ofNat x,.ofNat y=>Nat.blt x y
 | .negSucc x,.negSucc y=>Nat.blt y x
 | .negSucc _,.ofNat _=>true
 | .ofNat _,.negSucc _=>false
theorem dA (a b:Int):aF a b=decide (a < b):=by
 cases a <;> cases b <;> simp only[aF] <;> rw[Bool.eq_iff_iff] <;> simp[Nat.blt_eq] <;> omega
def aB (a b:Int):Bool:=
 match a,b with
 | .ofNat x,.ofNat y=>Nat.beq x y
 | .negSucc x,.negSucc y=>Nat.beq x y
 | .negSucc _,.ofNat _=>false
 | .ofNat _,.negSucc _=>false
theorem cN (a b:Int):aB a b=(a==b):=by
 cases a <;> cases b <;> simp only[aB] <;> rw[Bool.eq_iff_iff] <;> simp <;> omega
def OB:TypeDesc->Value->Value->Option Bool
 | .string,.string a,.string b=>some (jP a.data.toList b.data.toList)
 | c,a,b=>Instr.sameNow c a b
theorem OA (c:TypeDesc) (a b:Value):OB c a b=Instr.sameNow c a b:=by
 unfold OB
 split
 ·rename_i x y;simp only[Instr.sameNow,wu,Option.some.injEq];obtain⟨⟨a⟩⟩:=x;obtain⟨⟨b⟩⟩:=y;have e:((⟨⟨a⟩⟩:ByteArray)==⟨⟨b⟩⟩)=((Array.mk a)==(Array.mk b)):=rfl;grind
 rfl
def findF (a:TypeDesc) (k:Value):List (Value×ak)->Nat->Option (Option (Nat×ak))
 | [],_=>some none
 |(x,d)::b,i=>
  match OB a k x with
  | some true=>some (some (i,d))
  | some false=>findF a k b (i+1)
  | none=>none
theorem G4 (c:TypeDesc) (k:Value):∀a i,findF c k a i=findKey c k a i
 | [],_=>rfl
 |(x,d)::a,i=>by
  simp only[findF,findKey,OA]
  cases h:Instr.sameNow c k x with
  | none=>rfl
  | some b=>cases b <;> simp[G4 c k a]
def sizedB (a:Nat):List ak->Bool
 | []=>true
 | d::r=>(match Nat.beq d.cells.length a with|true=>sizedB a r|false=>false)
theorem gm {a:Nat}:∀{l:List ak},sizedB a l=true↔∀d∈l,d.cells.length=a
 | []=>by simp[sizedB]
 | d::r=>by
  simp only[sizedB]
  split
  ·rename_i h;rw[Nat.beq_eq] at h;rw[gm];grind
  rename_i h
  have:¬d.cells.length=a:=fun e=>by simp_all
  grind
def Ex {α:Type}:List α->Nat->Option α
 | [],_=>none
 | a::_,0=>some a
 | _::r,n+1=>Ex r n
theorem uC {α:Type}:∀(l:List α) (n:Nat),Ex l n=l[n]?
 | [],_=>by simp[Ex]
 | _::_,0=>by simp[Ex]
 | _::r,n+1=>by simp[Ex,uC r n]
def bW.nA:bW where
 wrap:=an
 add k a b:=an k (a+b)
 dif k a b:=an k (a - b)
 mul k a b:=an k (a*b)
 lt:=aF
 eq:=aB
 slt x y:=ML x.data.toList y.data.toList
 seq x y:=jP x.data.toList y.data.toList
 cat x y:=(match Nat.ble (x.size+y.size) 9223372036854775807 with|true=>some ⟨⟨x.data.toList++y.data.toList⟩⟩|false=>none)
 elt es i:=(match i with|.ofNat n=>Ex es n|.negSucc _=>none)
 byte s i:=(match i with|.ofNat n=>Ex s.data.toList n|.negSucc _=>none)
 sub size es lo hi:=(match sizedB size es,Nat.blt 0 size with
   | true,true=>(match eJ hi es.length,eJ lo 0 with
    | some h,some l=>(match Nat.ble l h,Nat.ble h es.length with|true,true=>some ((es.take h).drop l)|_,_=>none)
    | _,_=>none)
   | _,_=>none)
 ssub:=bW.nc.ssub
 app size bytes es ds:=(match size with
   | 0=>none
   | s+1=>(match sizedB (s+1) ds,sizedB (s+1) es,Nat.blt 0 bytes,Nat.ble ((es.length+ds.length)*bytes) 140737488355328,Nat.ble (es.length+ds.length) lim with
    | true,true,true,true,true=>some (es++ds)
    | _,_,_,_,_=>none))
 key td k es:=findF td k es 0
 len:=List.length
 slen:=ByteArray.size
 rem:=Int.tmod
 quo:=Int.tdiv
 mx x y:=(match aF x y with|true=>y|false=>x)
theorem Ri:bW.nA=bW.nc:=by
 unfold bW.nA bW.nc;congr 1
 ·grind[cQ]
 ·grind[cQ]
 ·grind[cQ]
 ·grind[cQ]
 ·grind[dA]
 ·grind[cN]
 ·grind[Qo,toList_data]
 ·grind[wu,toList_data]
 ·funext x y
  have z:IntKind.i64.max=9223372036854775807:=by decide
  have m:(⟨⟨x.data.toList++y.data.toList⟩⟩:ByteArray)=x++y:=by
   have e:x++y=⟨x.data++y.data⟩:=by
    cases x;cases y;simp[ByteArray.ext_iff]
   simp_all
  rw[m,z]
  split
  ·rename_i h;rw[Nat.ble_eq] at h;rw[if_neg (by omega)]
  rename_i h
  have:¬x.size+y.size<=9223372036854775807:=fun e=>by rw[←Nat.ble_eq] at e;rw[e] at h;simp at h
  rw[if_pos (by omega)]
 ·funext j i
  cases i with
  | ofNat n=>simp[uC]
  | negSucc n=>rfl
 ·funext s i
  cases i with
  | ofNat n=>
   simp only[uC];rw[if_pos (show (0:Int)<=ofNat n from Int.natCast_nonneg n)]
   by_cases h:n < s.size
   ·rw[show (ofNat n).toNat=n from rfl,getElem?_pos s n h];have o:n < s.data.toList.length:=by simpa using h
    rw[List.getElem?_eq_getElem o];simp[ByteArray.getElem_eq_getElem_data]
   rw[show (ofNat n).toNat=n from rfl,getElem?_neg s n h,List.getElem?_eq_none (by simpa using h)]
  | negSucc n=>rfl
 ·funext c j A w
  by_cases p:∀d∈j,d.cells.length=c
  ·rw[gm.2 p]
   by_cases o:0 < c
   ·rw[if_pos ⟨p,o⟩,show Nat.blt 0 c=true from by rw[Nat.blt_eq];exact o];dsimp only
    cases eJ w j.length with
    | none=>rfl
    | some h=>
     cases eJ A 0 with
     | none=>rfl
     | some l=>
      dsimp only
      by_cases f:l<=h <;> by_cases g:h<=j.length
      ·rw[if_pos ⟨f,g⟩,gC f,gC g]
      ·rw[if_neg (fun h=>g h.2),gC f,show Nat.ble h j.length=false from by rw[Bool.eq_false_iff];intro e;exact g (fD e)]
      ·rw[if_neg (fun h=>f h.1),show Nat.ble l h=false from by rw[Bool.eq_false_iff];intro e;exact f (fD e)]
      rw[if_neg (fun h=>f h.1),show Nat.ble l h=false from by rw[Bool.eq_false_iff];intro e;exact f (fD e)]
   rw[if_neg (fun h=>o h.2),show Nat.blt 0 c=false from by rw[Bool.eq_false_iff];intro e;exact o (by rwa [Nat.blt_eq] at e)]
  rw[if_neg (fun h=>p h.1),show sizedB c j=false from by rw[Bool.eq_false_iff];intro e;exact p (gm.1 e)]
 ·funext c bytes j S
  cases c with
  | zero=>rfl
  | succ s=>
   dsimp only
   by_cases m:(∀d∈S,d.cells.length=s+1)/\(∀d∈j,d.cells.length=s+1)/\0 < bytes/\(j.length+S.length)*bytes<=140737488355328/\j.length+S.length<=lim
   ·rw[gm.2 m.1,gm.2 m.2.1,show Nat.blt 0 bytes=true from by rw[Nat.blt_eq];exact m.2.2.1,gC m.2.2.2.1,gC m.2.2.2.2];exact (if_pos m).symm
   rw[if_neg m]
   split
   ·rename_i r t q u v;rw[Nat.blt_eq] at q;exact absurd ⟨gm.1 r,gm.1 t,q,fD u,fD v⟩ m
   rfl
 ·funext B k j;exact G4 B k j 0
 funext x y
 rw[dA]
 by_cases h:x < y <;> simp[h]
end Go.Tp
namespace Go.Tp
abbrev Sl:=List (Nat×ac)
structure ab where
 sl:Sl
 locs:Heap
 heap:Heap
 next:Nat
noncomputable def rJ (l:Sl) (t:Nat):ac:=
 @List.rec (Nat×ac) (fun _=>ac) .undef (fun p _ a=>@Bool.rec (fun _=>ac) a p.2 (Nat.beq p.1 t)) l
theorem AM (t:Nat):rJ [] t=.undef:=rfl
theorem ij (d:Nat) (v:ac) (r:Sl) (t:Nat):rJ ((d,v)::r) t=if d=t then v else rJ r t:=by
 have e:rJ ((d,v)::r) t=@Bool.rec (fun _=>ac) (rJ r t) v (Nat.beq d t):=rfl;by_cases h:d=t
 ·simp_all
 have:Nat.beq d t=false:=by rw[Bool.eq_false_iff];simp_all
 simp_all
noncomputable def Gn:Nat->Nat->Sl->List ac
 | 0,_,_=>[]
 | n+1,k,l=>rJ l k::Gn n (k+1) l
theorem oq:∀(n k:Nat) (l:Sl),(Gn n k l).length=n
 | 0,_,_=>rfl
 | n+1,k,l=>by simp[Gn,oq n]
theorem kq:∀(n k:Nat) (l:Sl) (t:Nat),(Gn n k l)[t]?=if t < n then some (rJ l (k+t)) else none
 | 0,_,_,_=>by simp[Gn]
 | n+1,k,l,0=>by simp[Gn]
 | n+1,k,l,t+1=>by
  simp only[Gn,List.getElem?_cons_succ,kq n (k+1) l t];grind
theorem Ei (n:Nat) (l:Sl) (d:Nat) (v:ac):(Gn n 0 l).set d v=Gn n 0 ((d,v)::l):=by
 apply List.ext_getElem?
 grind[oq,kq,ij]
noncomputable def BU (f:ac->ac) (l:Sl):Sl:=@List.rec (Nat×ac) (fun _=>Sl) [] (fun p _ a=>(p.1,f p.2)::a) l
theorem Gt {f:ac->ac} (a:f .undef=.undef) (t:Nat):∀l:Sl,rJ (BU f l) t=f (rJ l t)
 | []=>by grind[BU,AM]
 |(d,v)::r=>by
  have e:BU f ((d,v)::r)=(d,f v)::BU f r:=rfl;rw[e,ij,ij]
  split
  ·rfl
  exact Gt a t r
theorem ra {f:ac->ac} (a:f .undef=.undef):∀(n k:Nat) (l:Sl),(Gn n k l).map f=Gn n k (BU f l)
 | 0,_,_=>rfl
 | n+1,k,l=>by simp only[Gn,List.map_cons,Gt a,ra a n]
def sE (n:Name) (a:ac):ac:=if mentions n a=true then .undef else a
theorem sF (n:Name):∀l,dD n l=l.map (sE n)
 | []=>rfl
 | a::r=>by rw[dD,sF n r];rfl
theorem GV (n:Name) (S:List ak):∀l,aiZ n S l=l.map (yb n S)
 | []=>by simp[aiZ]
 | a::r=>by simp[aiZ,GV n S r]
theorem zP (n m:Name):∀l,ff n m l=l.map (tH n m)
 | []=>by simp[ff]
 | a::r=>by simp[ff,zP n m r]
noncomputable def ab.al (n:Nat) (f:ab):aa:=⟨Gn n 0 f.sl,f.locs,f.heap,f.next⟩
section
variable (E:bz) (G:bA) (H:Hints) (n:Nat)
noncomputable def rK (f:ab) (t:Nat):ac:=@Bool.rec (fun _=>ac) .undef (rJ f.sl t) (Nat.blt t n)
theorem jC (f:ab) (t:Nat):bq (f.al n).tmps t=rK n f t:=by
 unfold bq rK ab.al;rw[kq]
 by_cases h:t < n
 ·have:Nat.blt t n=true:=by simp_all
  rw[if_pos h,this,Nat.zero_add]
 have:Nat.blt t n=false:=by rw[Bool.eq_false_iff];simp_all
 rw[if_neg h,this]
def iW (f:ab) (e:Option Tmp) (v:ac):ab:=
 match f,e with
 | ⟨g,b,a,c⟩,some d=>⟨(d,v)::g,b,a,c⟩
 | f,none=>f
theorem eT (f:ab) (a:Option Tmp) (v:ac):(iW f a v).al n=(f.al n).put a v:=by
 cases a <;> simp_all[iW,ab.al,aa.put,Ei]
noncomputable def py (f:ab):Operand->ac
 | .tmp t=>rK n f t
 | .const v=>bE v
 | .global g=>match G g with|some c=>.ref c|none=>.undef
 | .func g=>.fn (.func g) [] []
theorem nv (f:ab) (x:Operand):fm G (f.al n) x=py G n f x:=by
 cases x with
 | tmp t=>exact jC n f t
 | const v=>rfl
 | global g=>rfl
 | func g=>rfl
def QS (a:Option Nat) (k:Nat):Bool:=match a with|none=>false|some j=>Nat.beq j k
theorem LC (a:Option Nat) (k:Nat):(QS a k=true)↔a=some k:=by
 cases a <;> simp_all[QS]
noncomputable def H0 (f:ab) (a:Option Nat):Nat->List Operand->List ac
 | _,[]=>[]
 | k,x::r=>(match QS a k with|true=>py G n f x|false=>de (py G n f x))::H0 f a (k+1) r
theorem qv (f:ab) (a:Option Nat):∀(b:List Operand) (k:Nat),aE G (f.al n) a k b=H0 G n f a k b
 | [],_=>rfl
 | x::r,k=>by
  simp only[aE,H0,nv,qv f a r (k+1)]
  grind[LC]
noncomputable def uK (f:ab) (a:Option Nat) (b:List Operand):ab:=
 match a with
 | none=>f
 | some k=>match b[k]? with
  | some (.tmp t)=>iW f (some t) (de (rK n f t))
  | _=>f
theorem AX (f:ab) (a:Option Nat) (b:List Operand):(uK n f a b).al n=bF (f.al n) a b:=by
 unfold uK bF
 grind[eT,aa.put,jC]
def tX:Name->Name->Bool
 | .loc i,.loc j=>Nat.beq i j
 | .out i,.out j=>Nat.beq i j
 | _,_=>false
theorem kQ (a b:Name):tX a b=true↔a=b:=by
 cases a <;> cases b <;> simp[tX]
def qJ (k:Name):Heap->Option aL
 | []=>none
 |(m,o)::r=>match tX m k with|true=>some o|false=>qJ k r
theorem jS (k:Name):∀l,qJ k l=eA k l
 | []=>rfl
 |(m,o)::r=>by
  simp only[qJ,eA,jS k r]
  grind[kQ]
def qG (k:Name) (a:aL):Heap->Heap
 | []=>[]
 |(m,o)::r=>match tX m k with|true=>(m,a)::r|false=>(m,o)::qG k a r
def qL (k:Name):Heap->Heap
 | []=>[]
 |(m,o)::r=>match tX m k with|true=>qL k r|false=>(m,o)::qL k r
theorem nI (k:Name) (a:aL):∀l,qG k a l=iX k a l
 | []=>rfl
 |(m,o)::r=>by
  simp only[qG,iX,nI k a r]
  grind[kQ]
theorem lE (k:Name):∀l,qL k l=iY k l
 | []=>rfl
 |(m,o)::r=>by
  simp only[qL,iY,lE k r]
  grind[kQ]
def Rc (f:ab) (k:Name):Option aL:=
 match k with
 | .loc i=>qJ (.loc i) f.locs
 | .out o=>qJ (.out o) f.heap
theorem EC (f:ab) (k:Name):(f.al n).obj k=Rc f k:=by
 cases k <;> simp[aa.obj,Rc,ab.al,jS]
def rq (f:ab) (o:Op) (a:List ac):Option aL:=match looks o a with|some k=>Rc f k|none=>none
theorem AR (f:ab) (o:Op) (a:List ac):aX (f.al n) o a=rq f o a:=by
 grind[aX,rq,EC]
def api (f:ab) (k:Name) (o:aL):Option ab:=
 match f,k with
 | ⟨d,b,a,c⟩,.loc i=>some ⟨d,qG (.loc i) o b,a,c⟩
 | ⟨d,b,a,c⟩,.out i=>if bh o=true then some ⟨d,b,qG (.out i) o a,c⟩ else none
theorem JF (f:ab) (k:Name) (o:aL):(f.al n).setObj k o=(api f k o).map (·.al n):=by
 obtain⟨d,b,a,c⟩:=f
 cases k <;> grind[aa.setObj,api,ab.al,nI]
noncomputable def UG (f:ab) (d:Nat) (o:aL):ab:=
 match f with
 | ⟨e,b,a,c⟩=>⟨(d,As d o)::BU (sE (.loc d)) e,(.loc d,o)::lj (.loc d) b,a,c⟩
theorem LM (f:ab) (d:Nat) (o:aL):(UG f d o).al n=newObj (f.al n) d o:=by
 simp_all[UG,newObj,ab.al,sF,ra,sE,Ei]
noncomputable def ED (f:ab) (d:Nat) (o:aL) (h e:Nat):ab:=
 match f with
 | ⟨g,b,a,c⟩=>⟨(d,.win (.loc d) h 0 e)::BU (sE (.loc d)) g,(.loc d,o)::lj (.loc d) b,a,c⟩
theorem JI (f:ab) (d:Nat) (o:aL) (b a:Nat):(ED f d o b a).al n=om (f.al n) d o b a:=by
 simp_all[ED,om,ab.al,sF,ra,sE,Ei]
noncomputable def ly (o:Oper) (k:Option Name) (f:ab) (out:Out):Option ab:=
 match out with
 | ⟨l,m⟩=>match m with
  | .keep=>some (iW f o.dst l)
  | .set b=>(match k with
   | some k=>(match api f k b with|some f=>some (iW f o.dst l)|none=>none)
   | none=>none)
  | .new b=>(match o.dst with
   | some d=>if nu d b=true then some (UG f d b) else none
   | none=>none)
  | .row b i g=>(match o.dst with
   | some d=>if nu d b=true then some (ED f d b i g) else none
   | none=>none)
  | .fresh b=>(match f with
   | ⟨h,e,c,a⟩=>if bh b=true then some (iW ⟨h,e,(.out a,b)::c,a+1⟩ o.dst (sI a b)) else none)
  | .grow b i g=>(match f with
   | ⟨h,e,c,a⟩=>match k with
    | some (.loc j)=>if bh b=true then some (iW ⟨h,qL (.loc j) e,(.out a,b)::c,a+1⟩ o.dst (.win (.out a) i 0 g)) else none
    | some (.out j)=>if bh b=true then some (iW ⟨h,e,(.out a,b)::qL (.out j) c,a+1⟩ o.dst (.win (.out a) i 0 g)) else none
    | none=>if bh b=true then some (iW ⟨h,e,(.out a,b)::c,a+1⟩ o.dst (.win (.out a) i 0 g)) else none)
theorem GU (o:Oper) (k:Option Name) (f:ab) (out:Out):dW o k (f.al n) out=(ly o k f out).map (·.al n):=by
 obtain⟨m,g⟩:=out;unfold dW ly
 cases g with
 | keep=>simp[eT]
 | set a=>
  grind[JF,eT]
 | new a=>
  grind[LM]
 | row a l h=>
  grind[JI]
 | fresh a=>
  obtain⟨i,c,b,e⟩:=f;dsimp only
  split
  ·simp only[Option.map_some,eT];rfl
  rfl
 | grow a l h=>
  obtain⟨i,c,b,e⟩:=f;cases k with
  | none=>
   dsimp only
   split
   ·simp only[Option.map_some,eT];rfl
   rfl
  | some k=>
   cases k with
   | loc j=>
    dsimp only
    split
    ·simp only[Option.map_some,eT,lE];rfl
    rfl
   | out j=>
    dsimp only
    split
    ·simp only[Option.map_some,eT,lE];rfl
    rfl
noncomputable def Ez (o:Oper) (d:Option Nat) (e:List Operand) (b:Bool) (f:ab) (a:List ac):Option ab:=
 match jE E b o.op a (rq f o.op a) with
 | none=>none
 | some c=>ly o (looks o.op a) (uK n f d e) c
noncomputable def xp (q a:Bool) (o:Oper) (f:ab):Option ab:=
 Ez E n o (kp q o.op) (opsL o.op) a f (H0 G n f (kp q o.op) 0 (opsL o.op))
theorem uE (q a:Bool) (o:Oper) (f:ab):aa4 E G q a o (f.al n)=(xp E G n q a o f).map (·.al n):=by
 grind[aa4,xp,Ez,qv,AR,AX,GU]
noncomputable def px:ab->List Operand->List ac×ab
 | f,[]=>([],f)
 | f,x::r=>
  match px (uK n f (some 0) [x]) r with
  |(b,a)=>(py G n f x::b,a)
theorem AQ:∀(a:List Operand) (f:ab),cR G (f.al n) a=((px G n f a).1,(px G n f a).2.al n)
 | [],f=>rfl
 | x::r,f=>by
  simp only[cR,px,←AX,AQ r,nv]
noncomputable def wj (i:Bool) (k:Name) (f:ab) (b:List ac):Option (ab×List ac):=
 match f with
 | ⟨g,d,e,a⟩=>match k,qJ k d with
  | .loc _,some (.cells c)=>
   match uF i k b c with
   | some S=>some (⟨BU (yb k S) g,sM (aiZ k S) (iY k d),e,a⟩,aiZ k S b)
   | none=>if aW (ff k (.out a) c)=true then
    some (⟨BU (tH k (.out a)) g,sM (ff k (.out a)) (iY k d),(.out a,.cells (ff k (.out a) c))::e,a+1⟩,ff k (.out a) b)
   else none
  | .loc _,some (.map h)=>
   some (⟨BU (tH k (.out a)) g,sM (ff k (.out a)) (iY k d),(.out a,.map h)::e,a+1⟩,ff k (.out a) b)
  | _,_=>none
theorem C5 (d:Bool) (k:Name) (f:ab) (a:List ac):tN d k (f.al n) a=(wj d k f a).map (fun x=>(x.1.al n,x.2)):=by
 obtain⟨l,b,e,g⟩:=f;unfold tN wj;simp only[ab.al,jS]
 grind[GV,ra,yb,zP,tH]
noncomputable def xt (c:Bool):List Name->ab->List ac->ab×List ac
 | [],f,a=>(f,a)
 | k::d,f,a=>
  match wj c k f a with
  | some (e,b)=>xt c d e b
  | none=>xt c d f a
theorem uI (b:Bool):∀(c:List Name) (f:ab) (a:List ac),vI b c (f.al n) a=((xt b c f a).1.al n,(xt b c f a).2)
 | [],_,_=>rfl
 | k::c,f,a=>by
  simp only[vI,xt,C5]
  cases wj b k f a with
  | none=>exact uI b c f a
  | some x=>exact uI b c x.1 x.2
def uJ (f:ab) (a:List ac):List Name:=
 match tb (qi a) [] with
 | []=>[]
 | l=>Vh (Bf f.locs f.locs.length l)
theorem JJ (f:ab) (a:List ac):Jf (f.al n) a=uJ f a:=rfl
noncomputable def ru (c:Call) (f:ab):Option (FuncId×List ac×ab):=
 match c.callee with
 | .value x=>(match py G n f x with
  | .fn (.func g) b a=>
   if E.fn g=true then
    match (match H.moves g with|true=>px G n f c.args.toList|false=>(H0 G n f none 0 c.args.toList,f)) with
    |(h,e)=>(match xt (!H.caps g) (uJ e (b++h++a)) e (b++h++a) with
     |(i,d)=>if aW d=true then some (g,d,i) else none)
   else none
  | _=>none)
 | _=>none
theorem AY (c:Call) (f:ab):mw E G H c (f.al n)=(ru E G H n c f).map (fun x=>(x.1,x.2.1,x.2.2.al n)):=by
 unfold mw ru
 cases c.callee with
 | builtin b=>rfl
 | invoke a b=>rfl
 | value x=>
  dsimp only;rw[nv]
  cases py G n f x with
  | fn p h d=>
   cases p with
   | func g=>
    dsimp only
    by_cases i:E.fn g=true
    ·rw[if_pos i,if_pos i];have e:(if H.moves g=true then cR G (f.al n) c.args.toList else (aE G (f.al n) none 0 c.args.toList,f.al n)) =
       ((match H.moves g with|true=>px G n f c.args.toList|false=>(H0 G n f none 0 c.args.toList,f)).1,(match H.moves g with|true=>px G n f c.args.toList|false=>(H0 G n f none 0 c.args.toList,f)).2.al n):=by
      cases r:H.moves g with
      | true=>rw[if_pos rfl,AQ]
      | false=>rw[if_neg (by simp),qv]
     rw[e];generalize (match H.moves g with|true=>px G n f c.args.toList|false=>(H0 G n f none 0 c.args.toList,f))=l;obtain⟨o,m⟩:=l;dsimp only;rw[JJ,uI];generalize xt (!H.caps g) (uJ m (h++o++d)) m (h++o++d)=l;obtain⟨q,k⟩:=l;dsimp only
     by_cases j:aW k=true
     ·rw[if_pos j,if_pos j];rfl
     rw[if_neg j,if_neg j];rfl
    rw[if_neg i,if_neg i];rfl
   | _=>rfl
  | _=>rfl
noncomputable def ny (c:Call) (f:ab):Option (FuncId×List ac×ab):=
 match c.callee with
 | .value x=>(match py G n f x with
  | .fn (.func g) b a=>
   if E.fn g=true then
    match (match H.moves g with|true=>px G n f c.args.toList|false=>(H0 G n f none 0 c.args.toList,f)) with
    |(d,e)=>if aW (b++d++a)=true then some (g,b++d++a,e) else none
   else none
  | _=>none)
 | _=>none
theorem xz (c:Call) (f:ab):dX E G H c (f.al n)=(ny E G H n c f).map (fun x=>(x.1,x.2.1,x.2.2.al n)):=by
 grind[dX,ny,nv,AQ,qv]
noncomputable def gW (c:List Oper) (f:ab) (g:Option (Nat×Bool)):Option Bool:=
 match g with
 | none=>some true
 | some (j,a)=>(match c[j]? with
  | some o=>(match o.dst with
   | some t=>(match rK n f t with
    | .dat (.flat (.bool b))=>some (b==a)
    | .tup []=>some false
    | _=>none)
   | none=>none)
  | none=>none)
theorem lx (a:List Oper) (f:ab) (g:Option (Nat×Bool)):dC a (f.al n) g=gW n a f g:=by
 unfold dC gW
 grind[jC]
noncomputable def qt (d:Bool) (c:List Oper) (o:Oper) (f:ab):Option ac:=
 match gW n c f o.guard with
 | none=>none
 | some b=>
  if b=true then
   if oE o.op=true then (match jE E false o.op [] none with|some _=>some .undef|none=>none)
   else (match lK o.op with
    | some _=>none
    | none=>
     if (jf o.op&&qk d (looks o.op (H0 G n f none 0 (opsL o.op))))=true then
      (match jE E false o.op (H0 G n f none 0 (opsL o.op)) (rq f o.op (H0 G n f none 0 (opsL o.op))) with
       | some a=>(match a.eff with|.keep=>some a.val|_=>none)
       | none=>none)
     else none)
  else some (.tup [])
theorem wh (b:Bool) (a:List Oper) (o:Oper) (f:ab):eK E G b a o (f.al n)=qt E G n b a o f:=by
 grind[eK,qt,lx,qv,AR]
def Rb (f:ab) (k:Name) (o:aL):ab:=
 match f,k with
 | ⟨d,b,a,c⟩,.loc i=>⟨d,qG (.loc i) o b,a,c⟩
 | ⟨d,b,a,c⟩,.out i=>⟨d,b,qG (.out i) o a,c⟩
theorem Ra (f:ab) (k:Name) (o:aL):(Rb f k o).al n=(f.al n).kn k o:=by
 obtain⟨d,b,a,c⟩:=f
 cases k <;> simp[Rb,ab.al,aa.kn,nI]
noncomputable def mf (e:Bool) (a:List Oper):List Nat->ab->Option ab
 | [],f=>some f
 | i::r,f=>
  match a[i]? with
  | some o=>(match o.op,o.dst,o.guard with
   | .load _ (.tmp u),some t,none=>(match rK n f u with
    | .ptr k b=>if Eh e k=true then (match Rc f k with
     | some (.cells c)=>(match c[b]? with
      | some (.own d)=>(match rK n f t with
       | .dat (.slice _)=>mf e a r (Rb (iW f (some t) (.own d)) k (.cells (bI b [.dat (.slice d)] c)))
       | _=>none)
      | _=>none)
     | _=>none) else none
    | _=>none)
   | _,_,_=>none)
  | none=>none
theorem oL (d:Bool) (a:List Oper):∀(p:List Nat) (f b:ab),mf n d a p f=some b->dM d a p (f.al n)=some (b.al n)
 | [],f,b,h=>by simp[mf] at h;subst h;rfl
 | i::r,f,b,h=>by
  simp only[mf] at h
  split at h
  ·rename_i o O
   split at h
   ·rename_i T u t l D J
    split at h
    ·rename_i k w v
     split at h
     ·rename_i j
      split at h
      ·rename_i c g
       split at h
       ·rename_i x e
        split at h
        ·rename_i q s;have m:=oL d a r _ _ h;rw[Ra,eT] at m;simp only[dM,O,l,D,J];rw[jC,v];dsimp only;rw[if_pos j,EC,g];dsimp only;rw[e];rw[jC,s];exact m
        grind
       grind
      grind
     grind
    grind
   grind
  grind
noncomputable def Qn (m:Name) (l:Sl):Bool:=@List.rec (Nat×ac) (fun _=>Bool) false (fun p _ a=>mentions m p.2||a) l
theorem Gp {m:Name} (t:Nat):∀{l:Sl},Qn m l=false->mentions m (rJ l t)=false
 | [],_=>by grind[AM,mentions]
 |(d,v)::r,h=>by
  have e:Qn m ((d,v)::r)=(mentions m v||Qn m r):=rfl;rw[e,Bool.or_eq_false_iff] at h;rw[ij]
  split
  ·grind
  exact Gp t h.2
theorem KZ {m:Name} {l:Sl} (h:Qn m l=false):∀n k:Nat,aU m (Gn n k l)=false
 | 0,_=>by simp[Gn,aU]
 | n+1,k=>by simp only[Gn,aU,Gp k h,KZ h n (k+1),Bool.or_self]
noncomputable def oM (a:List Oper) (c:Option Nat) (f:ab):Option ab:=
 match c with
 | none=>some f
 | some i=>(match a[i]? with
  | some o=>(match o.op,o.dst,o.guard with
   | .alloc t,some d,none=>(match E.ty t with
    | some b=>if dU (aY (bE b.zero))=true/\aU (.loc d) (aY (bE b.zero))=false/\d < n/\Qn (.loc d) f.sl=false then some (UG f d (.cells (aY (bE b.zero)))) else none
    | none=>none)
   | _,_,_=>none)
  | none=>none)
theorem kz (a:List Oper) (g:Option Nat) (f j:ab) (h:oM E n a g f=some j):iA E a g (f.al n)=some (j.al n):=by
 unfold oM at h;unfold iA;have l:(f.al n).tmps.length=n:=oq n 0 f.sl
 cases g with
 | none=>grind
 | some i=>
  dsimp only at h ⊢
  cases k:a[i]? with
  | none=>grind
  | some o=>
   rw[k] at h;dsimp only at h ⊢
   split at h
   ·rename_i t d b D J;rw[b,D,J];dsimp only
    cases c:E.ty t with
    | none=>grind
    | some m=>
     rw[c] at h;dsimp only at h ⊢;rw[l]
     split at h
     ·rename_i e;rw[if_pos ⟨e.1,e.2.1,e.2.2.1,KZ e.2.2.2 n 0⟩];grind[LM]
     grind
   grind
end
end Go.Tp
namespace Go.Tp
def dK:ac->Option ak
 | .dat (.flat v)=>some (.flat v)
 | .dat (.slice a)=>some (.slice a)
 | .own a=>some (.slice a)
 | _=>none
def nG:Nat->List ac->Option (List ak)
 | 0,_=>some []
 | n+1,a::r=>(match dK a with|some d=>(match nG n r with|some l=>some (d::l)|none=>none)|none=>none)
 | _+1,[]=>none
def DU (n a:Nat) (d:Option aL):Option (Nat×List ak):=
 match d with
 | some (.cells c)=>(match Nat.ble a 4294967296 with
  | true=>(match nG a c with|some (e::b)=>some (n,e::b)|_=>none)
  | false=>none)
 | _=>none
def rowOf (a:ac):Option (Nat×Nat):=
 match a with
 | .win (.out n) 1 0 b=>some (n,b)
 | _=>none
def yh (a:ac) (b:List (Name×aL)):Option (Nat×List ak):=
 match rowOf a with
 | some x=>DU x.1 x.2 (eA (.out x.1) b)
 | none=>none
def DV (t:Nat) (s:aa):Option aa:=
 match yh (bq s.tmps t) s.heap with
 | some (n,a)=>some {s with tmps:=s.tmps.set t (.dat (.slice a)),heap:=iY (.out n) s.heap }
 | none=>none
def gF (G:bA) (s h:aa):Prop:=
 ∀(w:World) (R:Own) (N:Name->Option Nat) (a:List Value) (Z U H z:List Nat),dw G w R N a s undef .undef [] Z U H z->
  ∃g f e d c,dw G w g f a h undef .undef [] e d c z/\bp w R w g z/\(∀o b,N (.out o)=some b->f (.out o)=some b)
theorem gF.refl (G:bA) (s:aa):gF G s s:=fun _ R N _ Z U H _ h=>⟨R,N,Z,U,H,h,aZ _,fun _ _ h=>h⟩
theorem gF.trans {G:bA} {s d e:aa} (h:gF G s d) (k:gF G d e):gF G s e:=fun w R N c Z U H z m=>by
 obtain⟨i,f,y,n,a,u,v,x⟩:=h w R N c Z U H z m;obtain⟨j,g,A,p,l,q,r,t⟩:=k w i f c y n a z u;exact⟨j,g,A,p,l,q,v.trans r,fun o b O=>t o b (x o b O)⟩
theorem sf:∀{n:Nat} {c:List ac} {e:List ak},nG n c=some e->e.length=n/\∀(i:Nat) (d:ak),e[i]?=some d->∃a,c[i]?=some a/\dK a=some d
 | 0,_,e,h=>by grind[nG]
 | n+1,[],e,h=>by grind[nG]
 | n+1,a::r,e,h=>by
  unfold nG at h
  split at h
  ·rename_i d D
   split at h
   ·rename_i l f;simp at h;obtain⟨g,b⟩:=sf f;grind
   grind
  grind
theorem mn {w:World} {R:Own} {N:Name->Option Nat} {a:ac} {d:ak} (h:dK a=some d) {v:Value} {B:List Nat} (b:ai w R N a v B):eU w R v d/\d.cells.length=1:=by
 unfold dK at h
 split at h
 ·simp at h;subst h;exact⟨(cB b).2,rfl⟩
 ·simp at h;subst h;exact⟨(cB b).2,rfl⟩
 ·simp at h;subst h;exact⟨(cy b).rep,rfl⟩
 grind
theorem MX {G:bA} {t:Nat} {s s2:aa} (h:DV t s=some s2):gF G s s2:=by
 unfold DV at h
 split at h
 rotate_left
 ·grind
 rename_i n es V;simp at h;subst h;unfold yh at V
 split at V
 rotate_left
 ·grind
 rename_i x L;obtain⟨m,F⟩:=x;have a2:bq s.tmps t=.win (.out m) 1 0 F:=by
  unfold rowOf at L
  grind
 unfold DU at V
 split at V
 rotate_left
 ·simp at V
 rename_i cs ba
 split at V
 rotate_left
 ·simp at V
 rename_i S;have S:=Nat.le_of_ble_eq_true S
 split at V
 rotate_left
 ·simp at V
 rename_i Q f a6;simp only[Option.some.injEq,Prod.mk.injEq] at V;obtain⟨rfl,rfl⟩:=V;obtain⟨a9,a7⟩:=sf a6;intro w R N ae Z U H z W;have bc:=wc a2 (by simp);obtain⟨v,bk,g1,g2,_⟩:=dY W.tmps bc;simp only[ai] at g2;obtain⟨_,b,O,hb,rfl,av,_,bf,bg⟩:=g2;obtain⟨a3,y,r,ad,E,af,a0,_,M,ax,Y⟩:=aj.kK W.heap ba
 have:y=b:=by simp only[outs] at af;rw[hb] at af;simpa using af.symm
 subst this;obtain⟨vs,aq,sp,ar,bb,bl,_⟩:=a0;obtain⟨R',P⟩:∃R':Own,R'=fun c I=>c≠y/\R c I:=⟨_,rfl⟩
 have p:Step w R w R':=⟨rfl,rfl,rfl,Nat.le_refl _,fun c _ u=>⟨rfl,fun I h=>by subst P;exact u I h.2⟩,fun c I _ u=>⟨fun h=>by subst P;exact u h.2,rfl⟩,fun _ _=>rfl⟩;have k:∀B,y∉B->bp w R w R' B:=fun B a4=>⟨p,fun c hc _=>⟨rfl,fun I h=>by subst P;exact⟨fun e=>a4 (e ▸ hc),h⟩⟩⟩
 have az:=W.nodup;simp only[List.nil_append] at az;subst E;have hp:(Z++(U++((a3++(y::r)++ad)++z))).Perm (y::(r++(Z++(U++((a3++ad)++z))))):=by
  rw[List.perm_iff_count];intro q;simp only[List.count_append,List.count_cons];omega
 have T:=List.nodup_cons.1 (hp.nodup_iff.1 az);have u:=T.1;simp only[List.mem_append,not_or] at u;obtain⟨_,n1,n2,⟨n3,be⟩,n4⟩:=u;have n5:y∉M:=fun hm=>by
  rcases List.mem_append.1 (Y.subset hm) with h|h
  ·exact n3 h
  exact be h
 have a1:eU w R' (.slice (some ⟨y,0,none⟩) F O) (.slice (Q::f)):=by
  have l:(Q::f).length=F:=a9;rw[←l];have o:∀i,i < (Q::f).length->∃a x bx,cs[i]?=some a/\dK a=some (Q::f)[i]! /\ vs[i]?=some x/\ai w R (outs N) a x bx:=by
   intro i C;obtain⟨a,A,D⟩:=a7 i _ (List.getElem?_eq_getElem C);obtain⟨x,bx,q1,q2,_⟩:=dY bb (rj A);exact⟨a,x,bx,A,by rw[D,getElem!_pos _ i C],by rw[←Array.getElem?_toList];exact q1,q2⟩
  refine .slice y 0 O 1 _ (fun i _=>vs[i]?.getD default) (by omega) ?_ (by rw[l];exact av) (by rw[l];simp only[lim];omega) ?_ ?_
  ·intro e he;obtain⟨i,C,rfl⟩:=List.getElem_of_mem he;obtain⟨a,x,bx,_,D,_,L⟩:=o i C;rw[getElem!_pos _ i C] at D;exact (mn D L).2
  ·intro i j C hj;obtain⟨a,x,bx,_,D,al,L⟩:=o i C
   have:j=0:=by omega
   subst this;refine⟨?_,fun h=>by subst P;exact h.1 rfl⟩;rw[cell_of_row w y _ vs aq (0,0) ar];simp[al]
  ·intro i j e c he hc;have C:i < (Q::f).length:=(List.getElem?_eq_some_iff.1 he).1;obtain⟨a,x,bx,_,D,al,L⟩:=o i C;have a8:(Q::f)[i]! = e:=by
    rw[getElem!_pos _ i C];rw[List.getElem?_eq_getElem C] at he;simpa using he
   rw[a8] at D;obtain⟨k1,K⟩:=mn D L;have a5:c=e:=by
    unfold dK at D
    split at D
    all_goals first
     |(simp at D;subst D;cases j with
      | zero=>simpa [ak.cells] using hc.symm
      | succ j=>simp[ak.cells] at hc)
     |simp at D
   subst a5;rw[al];exact k1.step p
 obtain⟨am,p1,p2⟩:=ng (a:=.dat (.slice (Q::f))) (v:=.slice (some ⟨y,0,none⟩) F O) (b:=[]) (X:=U++(M++z)) t (W.tmps.keep (k Z n1)) (bQ (d:=.slice (Q::f)) a1) (by
  have h2:=(List.nodup_append.1 T.2).2.1;rw[List.nil_append];refine List.Nodup.sublist ?_ h2;exact List.Sublist.append (.refl _) (List.Sublist.append (.refl _) (List.Sublist.append Y (.refl _))))
 have ag:ae.set t (.slice (some ⟨y,0,none⟩) F O)=ae:=by
  apply List.ext_getElem?
  intro j;rw[List.getElem?_set]
  split
  ·rename_i hj;subst hj;split
   ·exact g1.symm
   rename_i l;rw[List.getElem?_eq_none (by omega)]
  rfl
 rw[ag] at p1;exact⟨R',N,am,U,M,⟨aJ _,p1,W.locs.keep (k U n2),ax.keep (k M n5),by simpa using p2,W.next,fun g cs J=>(W.glob g cs J).step p,W.frame⟩,k z n4,fun _ _ h=>h⟩
theorem JD {G:bA} (i:List Name) (s:aa):gF G s (vI false i s []).1:=by
 intro w R N h Z U H z c;have j:dw G w R N h s (.tuple ([]:List Value).toArray) (.tup []) [] Z U H z:=⟨by simp[ai,ah],c.tmps,c.locs,c.heap,c.nodup,c.next,c.glob,c.frame⟩;have n:vI false i s []=((vI false i s []).1,(vI false i s []).2):=rfl;obtain⟨m,l,k,g,e,d,a,b,f,_⟩:=nX n j;refine⟨m,l,g,e,d,⟨aJ _,a.tmps,a.locs,a.heap,?_,a.next,a.glob,a.frame⟩,b,f⟩
 have:=a.nodup
 grind
end Go.Tp
namespace Go.Tp
noncomputable def eE (l:Sl):Nat->Sl:=
 @List.rec (Nat×ac) (fun _=>Nat->Sl) (fun _=>[]) (fun p _ a m=>@Bool.rec (fun _=>Sl) (p::a (Nat.xor m (Nat.pow 2 p.1))) (a m) (Nat.beq (Nat.land 1 (Nat.shiftRight m p.1)) 0)) l
theorem afg (m d:Nat):Nat.beq (Nat.land 1 (Nat.shiftRight m d)) 0=!(m.testBit d):=by
 have e:m.testBit d=(Nat.land 1 (Nat.shiftRight m d) != 0):=rfl;rw[e];generalize Nat.land 1 (Nat.shiftRight m d)=x
 by_cases h:x=0
 ·simp_all
 have a:Nat.beq x 0=false:=by rw[Bool.eq_false_iff];simp_all
 grind
theorem xe (d:Nat) (v:ac) (r:Sl) (m:Nat):eE ((d,v)::r) m=if m.testBit d=true then (d,v)::eE r (m ^^^ 2 ^ d) else eE r m:=by
 have e:eE ((d,v)::r) m=@Bool.rec (fun _=>Sl) ((d,v)::eE r (m ^^^ 2 ^ d)) (eE r m) (Nat.beq (Nat.land 1 (Nat.shiftRight m d)) 0):=rfl;rw[e,afg]
 cases m.testBit d <;> simp
theorem sG:∀(l:Sl) (m t:Nat),m.testBit t=false->rJ (eE l m) t=.undef
 | [],_,_,_=>rfl
 |(d,v)::r,m,t,h=>by
  rw[xe]
  split
  ·rename_i D;have a:d≠t:=fun e=>by grind
   rw[ij,if_neg a]
   apply sG
   grind
  exact sG r m t h
theorem sH:∀(l:Sl) (m t:Nat),rJ (eE l m) t=rJ l t∨rJ (eE l m) t=.undef
 | [],_,_=>.inl rfl
 |(d,v)::r,m,t=>by
  rw[xe,ij]
  split
  ·rw[ij]
   split
   ·grind
   exact sH r _ t
  rename_i D
  split
  ·grind[sG]
  exact sH r m t
theorem Gs {w:World} {R:Own} {N:Name->Option Nat}:∀{as as':List ac} {d:List Value} {B:List Nat},as'.length=as.length->(∀i:Nat,as'[i]?=as[i]?∨as'[i]?=some .undef)->ah w R N as d B->∃c,ah w R N as' d c/\c.Sublist B
 | [],[],_,B,_,_,h=>⟨B,h,.refl _⟩
 | [],_::_,_,_,l,_,_=>by grind
 | _::_,[],_,_,l,_,_=>by grind
 | a::as,k::as',d,B,l,e,h=>by
  obtain⟨v,j,r,Q,rfl,rfl,g,b⟩:=au h;obtain⟨c,f,K⟩:=Gs (as:=as) (as':=as') (by grind) (fun i=>by simpa using e (i+1)) b
  rcases e 0 with o|o
  ·simp at o;subst o;exact⟨r++c,aD g f,List.Sublist.append (.refl _) K⟩
  simp at o;subst o;exact⟨[]++c,aD (aJ _) f,List.Sublist.append (List.nil_sublist _) K⟩
def iL (f:ab) (m:Sl->Sl):ab:=match f with|⟨d,b,a,c⟩=>⟨m d,b,a,c⟩
theorem dw.prune {G:bA} {w:World} {R:Own} {N:Name->Option Nat} {b:List Value} {n:Nat} {f:ab} {Z U H z:List Nat} (h:dw G w R N b (f.al n) undef .undef [] Z U H z) (m:Nat) :
  ∃a,dw G w R N b ((iL f (fun l=>eE l m)).al n) undef .undef [] a U H z:=by
 obtain⟨j,d,c,e⟩:=f;obtain⟨a,g,K⟩:=Gs (as':=Gn n 0 (eE j m)) (by simp[ab.al,oq]) (fun i=>by
  grind[ab.al,kq,sH]) h.tmps
 exact⟨a,aJ _,g,h.locs,h.heap,List.Nodup.sublist (List.Sublist.append (.refl _) (List.Sublist.append K (.refl _))) h.nodup,h.next,h.glob,h.frame⟩
mutual
def iq (k:Nat):ac->Bool
 | .ptr (.out o) _=>Nat.ble k o
 | .ptr (.loc _) _=>true
 | .map (.out o)=>Nat.ble k o
 | .map (.loc _)=>true
 | .win (.out o) _ _ _=>Nat.ble k o
 | .win (.loc _) _ _ _=>true
 | .fn _ a b=>gZ k a||gZ k b
 | .agg c=>gZ k c
 | .tup c=>gZ k c
 | _=>false
def gZ (k:Nat):List ac->Bool
 | []=>false
 | a::r=>iq k a||gZ k r
end
def mb (k:Nat):Name->Bool
 | .out o=>Nat.blt o k
 | .loc _=>false
def jz (k:Nat):Heap->Heap
 | []=>[]
 |(m,o)::r=>match mb k m with|true=>(m,o)::jz k r|false=>jz k r
def BS (k:Nat):aL->Bool
 | .cells c=>gZ k c
 | .map _=>false
def gH (k:Nat):Heap->Bool
 | []=>false
 |(_,o)::r=>BS k o||gH k r
mutual
def KM:ac->List Nat
 | .ptr (.out o) _=>[o]
 | .map (.out o)=>[o]
 | .win (.out o) _ _ _=>[o]
 | .fn _ a b=>CM a++CM b
 | .agg c=>CM c
 | .tup c=>CM c
 | _=>[]
def CM:List ac->List Nat
 | []=>[]
 | a::r=>KM a++CM r
end
def ot (o:Nat):List Nat->Bool
 | []=>false
 | x::r=>match Nat.beq x o with|true=>true|false=>ot o r
def addN:List Nat->List Nat->List Nat
 | [],l=>l
 | n::a,l=>match ot n l with|true=>addN a l|false=>addN a (n::l)
def rc (k:Nat) (l:List Nat):Heap->List Nat
 | []=>l
 |(.out o,.cells c)::r=>(match Nat.blt o k||ot o l with|true=>rc k (addN (CM c) l) r|false=>rc k l r)
 | _::r=>rc k l r
def EM (k:Nat) (h:Heap):Nat->List Nat->List Nat
 | 0,l=>l
 | n+1,l=>EM k h n (rc k l h)
def nr (k:Nat) (l:List Nat):Heap->Heap
 | []=>[]
 |(.out o,x)::r=>(match Nat.blt o k||ot o l with|true=>(.out o,x)::nr k l r|false=>nr k l r)
 | _::r=>nr k l r
def M0 (k:Nat) (r:eX):eX:=
 match r with
 | ⟨b,a,c⟩=>match iq k b||gH k (jz k a) with
  | false=>⟨b,jz k a,k⟩
  | true=>⟨b,nr k (EM k a 3 (KM b)) a,c⟩
section
variable {w:World} {R:Own} {M M2:Name->Option Nat}
theorem qd (k:Nat):∀{c:Heap} {B:List Nat},aj w R M c B->∃a,aj w R M (jz k c) a/\a.Sublist B
 | [],B,h=>⟨B,h,.refl _⟩
 |(m,o)::c,_,⟨b,r,Q,e,N,O,d⟩=>by
  subst e;obtain⟨a,f,K⟩:=qd k d;simp only[jz]
  split
  ·exact⟨b::(r++a),⟨b,r,a,rfl,N,O,f⟩,(List.Sublist.append (.refl _) K).cons_cons _⟩
  grind
theorem ky (k:Nat) (l:List Nat):∀{c:Heap} {B:List Nat},aj w R M c B->∃a,aj w R M (nr k l c) a/\a.Sublist B
 | [],B,h=>⟨B,h,.refl _⟩
 |(.out m,o)::c,_,⟨b,r,Q,e,N,O,d⟩=>by
  subst e;obtain⟨a,f,K⟩:=ky k l d;simp only[nr]
  split
  ·exact⟨b::(r++a),⟨b,r,a,rfl,N,O,f⟩,(List.Sublist.append (.refl _) K).cons_cons _⟩
  grind
 |(.loc m,o)::c,_,⟨b,r,Q,e,N,O,d⟩=>by
  subst e;obtain⟨a,f,K⟩:=ky k l d;exact⟨a,f,K.trans ((List.sublist_append_right r Q).cons _)⟩
variable (hM:∀m b,(∃o,m=.out o)->M m=some b->M2 m=some b)
mutual
theorem ai.low {k:Nat} (l:∀o b,o < k->M (.out o)=some b->M2 (.out o)=some b):∀{a:ac} {v:Value} {B:List Nat},iq k a=false->ai w R M a v B->ai w R M2 a v B
 | .dat _,_,_,_,h=>by exact h
 | .own _,_,_,_,h=>by exact h
 | .ref _,_,_,_,h=>by exact h
 | .ptr (.loc _) _,_,_,N,_=>by grind[iq]
 | .ptr (.out o) _,_,_,N,h=>by
  grind[iq,ai,gC]
 | .map (.loc _),_,_,N,_=>by grind[iq]
 | .win (.loc _) _ _ _,_,_,N,_=>by grind[iq]
 | .win (.out o) _ _ _,_,_,N,h=>by
  grind[iq,ai,gC]
 | .map (.out o),_,_,N,h=>by
  grind[iq,ai,gC]
 | .fn _ i g,_,_,N,h=>by
  simp only[iq,Bool.or_eq_false_iff] at N;obtain⟨q,d,r,e,j,f⟩:=h;exact⟨q,d,r,e,ah.low l (as:=i) N.1 j,ah.low l (as:=g) N.2 f⟩
 | .agg c,_,_,N,h=>by
  obtain⟨d,e,j⟩:=h;exact⟨d,e,ah.low l (as:=c) N j⟩
 | .tup c,_,_,N,h=>by
  obtain⟨d,e,j⟩:=h;exact⟨d,e,ah.low l (as:=c) N j⟩
 | .undef,_,_,_,h=>by exact h
theorem ah.low {k:Nat} (l:∀o b,o < k->M (.out o)=some b->M2 (.out o)=some b):∀{as:List ac} {s:List Value} {B:List Nat},gZ k as=false->ah w R M as s B->ah w R M2 as s B
 | [],_,_,_,h=>by exact h
 | a::as,_,_,N,h=>by
  simp only[gZ,Bool.or_eq_false_iff] at N;obtain⟨t,d,n,p,E,F,q,j⟩:=h;exact⟨t,d,n,p,E,F,ai.low l (a:=a) N.1 q,ah.low l (as:=as) N.2 j⟩
end
theorem qh (k:Nat):∀(l m:List ac),gZ k (l++m)=(gZ k l||gZ k m)
 | [],m=>by simp[gZ]
 | a::l,m=>by simp[gZ,qh k l m,Bool.or_assoc]
theorem Qh (k:Nat) (c:List ac) (j:Nat):gZ k (c++List.replicate j .undef)=gZ k c:=by
 rw[qh]
 have:gZ k (List.replicate j .undef)=false:=by
  induction j <;> grind[gZ,iq]
 grind
theorem aj.low {k:Nat} (i:∀o b,o < k->M (.out o)=some b->M2 (.out o)=some b):∀{f:Heap} {B:List Nat},(∀p∈f,mb k p.1=true)->gH k f=false->aj w R M f B->aj w R M2 f B
 | [],_,_,_,h=>h
 |(m,o)::f,_,s,N,⟨b,r,Q,e,d,O,q⟩=>by
  simp only[gH,Bool.or_eq_false_iff] at N;have x:=s (m,o) (by simp);refine⟨b,r,Q,e,?_,?_,aj.low i (fun p y=>s p (by grind)) N.2 q⟩
  ·cases m <;> grind[mb,oY]
  cases o with
  | cells c=>
   obtain⟨u,l,t,a,g,n⟩:=O;exact⟨u,l,t,a,g.low i (by grind[Qh,BS]),n⟩
  | map v=>exact O
theorem ma (k:Nat):∀a:Heap,∀p∈jz k a,mb k p.1=true
 | [],p,h=>by grind[jz]
 |(m,o)::a,p,h=>by
  simp only[jz] at h
  split at h
  ·rename_i b
   rcases List.mem_cons.1 h with rfl|h
   ·grind
   exact ma k a p h
  exact ma k a p h
end
theorem ay.gc {P:Program} {G:bA} {f:FuncId} {j:List ac} {l:Heap} {a:Nat} {r:eX} (h:ay P G f j l a (XQ r)):ay P G f j l a (XQ (M0 a r)):=by
 intro w R N q C H z A T D E J Q;refine (h w R N q C H z A T D E J Q).mono ?_;rintro e V ⟨U,v,c,g,L,B,t,M,rfl,⟨rfl,rfl,rfl⟩,y,u,n,x,k,S⟩;obtain⟨s,c,g⟩:=r;unfold M0;dsimp only
 split
 ·rename_i d;simp at d;obtain⟨p,F,K⟩:=qd a u
  let I:Name->Option Nat:=fun m=>match m with|.loc i=>B (.loc i)|.out o=>if o < a then B (.out o) else none
  have O:∀o b,o < a->outs B (.out o)=some b->outs I (.out o)=some b:=by
   grind[outs]
  refine⟨s,v,jz a c,a,L,I,t,p,rfl,⟨rfl,rfl,rfl⟩,y.low O d.1,F.low O (ma a c) d.2,?_,?_,k,?_⟩
  ·exact List.Nodup.sublist (List.Sublist.append (.refl _) (List.Sublist.append K (.refl _))) n
  all_goals grind
 obtain⟨p,F,K⟩:=ky a (EM a c 3 (KM s)) u;exact⟨s,v,_,g,L,B,t,p,rfl,⟨rfl,rfl,rfl⟩,y,F,List.Nodup.sublist (List.Sublist.append (.refl _) (List.Sublist.append K (.refl _))) n,x,k,S⟩
section
variable (X:lH) (E:bz) (G:bA) (H:Hints) (n:Nat)
def uM (f:ab) (r:eX) (d:Option Tmp):ab:=
 match f,r with
 | ⟨e,b,_,_⟩,⟨v,a,c⟩=>iW ⟨e,b,a,c⟩ d v
variable {Q:Exit->aa->Prop} {c:Code} {f:ab}
theorem aeO (f:ab) (r:eX) (a:Option Tmp):(uM f r a).al n=({f.al n with heap:=r.heap,next:=r.next }:aa).put a r.val:=by
 obtain⟨c,b,heap,next⟩:=f;obtain⟨v,h,k⟩:=r;simp only[uM,eT];rfl
noncomputable def JH (a:List Oper) (o:Oper) (f:ab):Option ab:=
 match gW n a f o.guard with
 | none=>none
 | some b=>match b with
  | true=>
   (match lK o.op with
    | some c=>(match ru E G H n c f with
     | some (g,d,e)=>(match X g d e.heap e.next with
      | some r=>some (uM e r o.dst)
      | none=>none)
     | none=>none)
    | none=>xp E G n (readOnly H.moves a o) (lQ H a o) o f)
  | false=>some (iW f o.dst (.tup []))
theorem wl {d:List Oper} {o:Oper} {j:ab} (h:JH X E G H n d o f=some j):HP X E G H d o (f.al n)=some (j.al n):=by
 unfold JH at h;unfold HP;rw[lx]
 cases m:gW n d f o.guard with
 | none=>grind
 | some b=>
  rw[m] at h
  cases b with
  | false=>grind[eT]
  | true=>
   dsimp only at h ⊢;cases k:lK o.op with
   | none=>
    rw[k] at h;dsimp only at h ⊢;rw[uE,h];rfl
   | some c=>
    rw[k] at h;dsimp only at h ⊢;rw[AY]
    cases a:ru E G H n c f with
    | none=>rw[a] at h;simp at h
    | some x=>
     obtain⟨g,i,e⟩:=x;rw[a] at h;dsimp only[Option.map_some] at h ⊢;have p:(e.al n).heap=e.heap:=rfl;have F:(e.al n).next=e.next:=rfl;rw[p,F]
     cases l:X g i e.heap e.next with
     | none=>rw[l] at h;simp at h
     | some r=>
      rw[l] at h;simp at h;subst h;simp[aeO]
noncomputable def EB (a:List Oper) (b:List Oper):ab->Option ab:=
 @List.rec Oper (fun _=>ab->Option ab) (fun f=>some f) (fun o _ d f=>match JH X E G H n a o f with|some c=>d c|none=>none) b
theorem rp {a:List Oper}:∀{d:List Oper} {f c:ab},EB X E G H n a d f=some c->E3 X E G H a d (f.al n)=some (c.al n)
 | [],f,c,h=>by
  have e:EB X E G H n a [] f=some f:=rfl;rw[e] at h;simp at h;subst h;rfl
 | o::b,f,c,h=>by
  have e:EB X E G H n a (o::b) f=(match JH X E G H n a o f with|some c=>EB X E G H n a b c|none=>none):=rfl;rw[e] at h;simp only[E3]
  cases O:JH X E G H n a o f with
  | none=>grind
  | some g=>
   rw[O] at h;rw[wl X E G H n O];exact rp h
noncomputable def wg (a:List Nat) (t:Tmp) (f:ab):List Nat:=match Jw (rK n f t) with|true=>[]|false=>a
theorem C4 (a:List Nat) (t:Tmp) (f:ab):ae5 a t (f.al n)=wg n a t f:=by
 grind[ae5,wg,jC]
noncomputable def JG (i:Bool) (j:List Nat) (a:List Oper) (o:Oper) (f:ab):Option ab:=
 match gW n a f o.guard with
 | none=>none
 | some b=>match b with
  | true=>
   (match lK o.op with
    | some c=>(match ny E G H n c f with
     | some (g,d,e)=>(match hO H o with
      | true=>(match X g d [] e.next with
       | some ⟨v,[],k⟩=>some (uM e ⟨v,e.heap,k⟩ o.dst)
       | _=>none)
      | false=>(match X g d e.heap e.next with
       | some r=>(match !mK H o||vn e.heap r.heap with
        | true=>some (uM e r o.dst)
        | false=>none)
       | none=>none))
     | none=>none)
    | none=>(match fk o.op with
     | some t=>(match mf n i a (gk a t (wg n j t f)) f with
      | some h=>xp E G n false false o h
      | none=>none)
     | none=>(match iI o.op with
      | true=>xp E G n (readOnly H.moves a o) (lQ H a o) o f
      | false=>none)))
  | false=>some (iW f o.dst (.tup []))
theorem wk {m:Bool} {s:List Nat} {a:List Oper} {o:Oper} {u:ab} (h:JG X E G H n m s a o f=some u):HO X E G H m s a o (f.al n)=some (u.al n):=by
 unfold JG at h;unfold HO;rw[lx]
 cases y:gW n a f o.guard with
 | none=>grind
 | some b=>
  rw[y] at h
  cases b with
  | false=>grind[eT]
  | true=>
   dsimp only at h ⊢;rw[if_pos rfl]
   cases w:lK o.op with
   | none=>
    rw[w] at h;dsimp only at h ⊢
    cases T:fk o.op with
    | none=>
     rw[T] at h;dsimp only at h ⊢
     cases d:iI o.op with
     | false=>rw[d] at h;simp at h
     | true=>
      rw[d] at h;dsimp only at h ⊢;rw[uE,h];rfl
    | some t=>
     rw[T] at h;dsimp only at h ⊢;rw[C4]
     cases q:mf n m a (gk a t (wg n s t f)) f with
     | none=>rw[q] at h;simp at h
     | some A=>
      rw[q] at h;rw[oL n m a _ _ _ q];dsimp only at h ⊢;rw[uE,h];rfl
   | some c=>
    rw[w] at h;dsimp only at h ⊢;rw[xz]
    cases e:ny E G H n c f with
    | none=>rw[e] at h;simp at h
    | some x=>
     obtain⟨g,j,i⟩:=x;rw[e] at h;dsimp only[Option.map_some] at h ⊢;have z:(i.al n).heap=i.heap:=rfl;have F:(i.al n).next=i.next:=rfl;rw[z,F]
     cases l:hO H o with
     | true=>
      rw[l] at h;dsimp only at h ⊢
      split at h
      ·rename_i v k p;simp at h;subst h;simp[aeO,p]
      simp at h
     | false=>
      rw[l] at h;dsimp only at h ⊢
      cases p:X g j i.heap i.next with
      | none=>rw[p] at h;simp at h
      | some r=>
       rw[p] at h;dsimp only at h ⊢
       cases d:(!mK H o||vn i.heap r.heap) with
       | false=>rw[d] at h;simp at h
       | true=>
        rw[d] at h;simp at h;subst h;simp[aeO]
noncomputable def G0 (h:List Nat) (c:Bool) (g:Nat->Bool) (b:List Oper) (l:List (Nat×Bool)):ab->Option ab:=
 @List.rec (Nat×Bool) (fun _=>ab->Option ab) (fun f=>some f) (fun p _ d f=>
  match b[p.1]? with
  | none=>none
  | some o=>match p.2 with
   | true=>(match JG X E G H n c h b o f with|some e=>d e|none=>none)
   | false=>(match qt E G n (c||g p.1) b o f with
    | some a=>d (iW f o.dst a)
    | none=>none)) l
theorem M3 {g:List Nat} {d:Bool} {e:Nat->Bool} {b:List Oper} {i:Nat} {lone:Bool} {c:List (Nat×Bool)}:G0 X E G H n g d e b ((i,lone)::c) f=(match b[i]? with
   | none=>none
   | some o=>match lone with
    | true=>(match JG X E G H n d g b o f with|some h=>G0 X E G H n g d e b c h|none=>none)
    | false=>(match qt E G n (d||e i) b o f with
     | some a=>G0 X E G H n g d e b c (iW f o.dst a)
     | none=>none)):=rfl
theorem rm {j:List Nat} {c:Bool} {g:Nat->Bool} {b:List Oper}:∀{l:List (Nat×Bool)} {f d:ab},G0 X E G H n j c g b l f=some d->Dy X E G H j c g b l (f.al n)=some (d.al n)
 | [],f,d,h=>by
  have e:G0 X E G H n j c g b [] f=some f:=rfl;rw[e] at h;simp at h;subst h;rfl
 |(i,lone)::k,f,d,h=>by
  rw[M3] at h;simp only[Dy]
  cases m:b[i]? with
  | none=>grind
  | some o=>
   rw[m] at h
   cases lone
   ·dsimp only at h ⊢;rw[if_neg (by simp),wh]
    cases O:qt E G n (c||g i) b o f with
    | none=>grind
    | some a=>
     rw[O] at h;dsimp only at h ⊢;rw[←eT];exact rm h
   dsimp only at h ⊢;cases O:JG X E G H n c j b o f with
   | none=>grind
   | some p=>
    rw[O] at h;rw[wk X E G H n O];exact rm h
noncomputable def AW (b:List Oper):Nat->Array Bool->ab->Option ab
 | 0,_,f=>some f
 | m+1,a,f=>match Region.ready .any b.toArray a with
  | []=>some f
  | i::_=>(match b[i]? with
   | some o=>(match JH X E G H n b o f with|some c=>AW b m (bK a i) c|none=>none)
   | none=>none)
noncomputable def EG (all:List Oper) (k:Nat) (b:aa):Nat->Array Bool->ab->Bool
 | 0,a,f=>(Region.ready .any all.toArray a).isEmpty&&Mu k b (f.al n)
 | m+1,a,f=>match Region.ready .any all.toArray a with
  | []=>Mu k b (f.al n)
  | i::l=>(i::l).all fun i=>match all[i]? with
   | some o=>(match JH X E G H n all o f with|some c=>EG all k b m (bK a i) c|none=>false)
   | none=>false
theorem xx {b:List Oper}:∀(m:Nat) (a:Array Bool) (f c:ab),AW X E G H n b m a f=some c->DA X E G H b m a (f.al n)=some (c.al n)
 | 0,a,f,c,h=>by simp only[AW,Option.some.injEq] at h;subst h;rfl
 | m+1,a,f,c,h=>by
  simp only[AW] at h;simp only[DA]
  split at h
  ·grind
  rename_i i l g;rw[g];dsimp only
  split at h
  ·rename_i o O;rw[O];dsimp only
   split at h
   ·rename_i e d;rw[wl X E G H n d];exact xx m _ e c h
   grind
  grind
theorem xy {c:List Oper} {k:Nat} {e:aa}:∀(m:Nat) (b:Array Bool) (f:ab),EG X E G H n c k e m b f=true->sr X E G H c k e m b (f.al n)=true
 | 0,b,f,h=>h
 | m+1,b,f,h=>by
  simp only[EG] at h;simp only[sr]
  split at h
  ·grind
  rename_i i l p;rw[p];refine List.all_eq_true.2 fun j q=>?_
  have a:=List.all_eq_true.1 h j q
  split at a
  ·rename_i o O;rw[O];dsimp only
   split at a
   ·rename_i g d;rw[wl X E G H n d];exact xy m _ g a
   grind
  grind
noncomputable def AS (h:aw) (b:List Oper):Nat->Array Bool->ab->Option ab
 | 0,_,f=>some f
 | m+1,a,f=>match Region.ready .any b.toArray a with
  | []=>none
  | i::_=>(match b[i]? with
   | some o=>(match JG X E G H n (aK H b h.pre) h.tk b o f with|some c=>AS h b m (bK a i) c|none=>none)
   | none=>none)
noncomputable def EE (h:aw) (all:List Oper) (p:Array Bool) (b:aa):Nat->Array Bool->ab->Bool
 | 0,a,f=>rL a.toList p.toList&&Cx b (f.al n)
 | m+1,a,f=>!rL a.toList p.toList&&!(Region.ready .any all.toArray a).isEmpty&&(Region.ready .any all.toArray a).all fun i=>h.pre.contains (i,true)&&(match all[i]? with
   | some o=>(match JG X E G H n (aK H all h.pre) h.tk all o f with|some c=>EE h all p b m (bK a i) c|none=>false)
   | none=>false)
noncomputable def JP (a:List Oper) (h:aw) (f:ab):Option ab:=
 match G0 X E G H n h.tk (aK H a h.pre) (quietAt H a h.pre) a (lA h.pre) f with
 | some c=>(match AS X E G H n h a (h.pre.length - (lA h.pre).length) (eR (lA h.pre) (Array.replicate a.length false)) c with
  | some b=>(match EE X E G H n h a (eR h.pre (Array.replicate a.length false)) (b.al n) (h.pre.length - (lA h.pre).length) (eR (lA h.pre) (Array.replicate a.length false)) c with
   | true=>(match oM E n a h.nw b with
    | some d=>EB X E G H n a (dZ a h.tail) d
    | none=>none)
   | false=>none)
  | none=>none)
 | none=>none
theorem xu {h:aw} {c:List Oper}:∀(m:Nat) (a:Array Bool) (f d:ab),AS X E G H n h c m a f=some d->Dz X E G H h c m a (f.al n)=some (d.al n)
 | 0,a,f,d,b=>by simp only[AS,Option.some.injEq] at b;subst b;rfl
 | m+1,a,f,d,b=>by
  simp only[AS] at b;simp only[Dz]
  split at b
  ·grind
  rename_i i l j;rw[j];dsimp only
  split at b
  ·rename_i o O;rw[O];dsimp only
   split at b
   ·rename_i g e;rw[wk X E G H n e];exact xu m _ g d b
   grind
  grind
theorem xv {h:aw} {d:List Oper} {p:Array Bool} {i:aa}:∀(m:Nat) (c:Array Bool) (f:ab),EE X E G H n h d p i m c f=true->sq X E G H h d p i m c (f.al n)=true
 | 0,c,f,e=>e
 | m+1,c,f,e=>by
  simp only[EE,Bool.and_eq_true] at e;simp only[sq,Bool.and_eq_true];refine⟨e.1,List.all_eq_true.2 fun j l=>?_⟩;have a:=List.all_eq_true.1 e.2 j l;simp only[Bool.and_eq_true] at a ⊢;refine⟨a.1,?_⟩;have b:=a.2
  split at b
  ·rename_i o O;rw[O];dsimp only
   split at b
   ·rename_i k g;rw[wk X E G H n g];exact xv m _ k b
   grind
  grind
theorem G7 {b:List Oper} {h:aw} {c:ab} (d:JP X E G H n b h f=some c):yF X E G H b h (f.al n)=some (c.al n):=by
 unfold JP at d;unfold yF
 split at d
 ·rename_i e a;rw[rm X E G H n a];grind[xu,xv,kz,rp]
 grind
noncomputable def G8 (a:List Oper) (h:aw) (f:ab):Option ab:=
 match gz h with
 | true=>(match AW X E G H n a a.length (Array.replicate a.length false) f with
  | some b=>(match EG X E G H n a f.next (b.al n) a.length (Array.replicate a.length false) f with|true=>some b|false=>none)
  | none=>none)
 | false=>
 match gP h with
 | true=>JP X E G H n a (aar h) f
 | false=>
 match G0 X E G H n h.tk (aK H a h.pre) (quietAt H a h.pre) a h.pre f with
 | some c=>(match oM E n a h.nw c with
  | some d=>EB X E G H n a (dZ a h.tail) d
  | none=>none)
 | none=>none
theorem JO {c:List Oper} {h:aw} {i:ab} (d:G8 X E G H n c h f=some i):Kh X E G H c h (f.al n)=some (i.al n):=by
 unfold G8 at d;unfold Kh
 cases j:gz h with
 | true=>
  rw[j] at d;dsimp only at d;split at d
  ·rename_i l o;rw[xx X E G H n _ _ _ _ o];split at d
   ·rename_i b;simp at d;have:=xy X E G H n _ _ _ b
    have e:(f.al n).next=f.next:=rfl;grind
   grind
  grind
 | false=>
 cases g:gP h with
 | true=>
  grind[G7]
 | false=>
 cases a:G0 X E G H n h.tk (aK H c h.pre) (quietAt H c h.pre) c h.pre f with
 | none=>grind
 | some k=>
  rw[a] at d;rw[rm X E G H n a];dsimp only at d ⊢
  cases b:oM E n c h.nw k with
  | none=>grind
  | some m=>
   simp_all[kz,rp]
noncomputable def C6 (a:ab->Option (Exit×ab)) (b:Nat):ab->Option (Exit×ab):=
 @Nat.rec (fun _=>ab->Option (Exit×ab)) (fun _=>none) (fun _ d f=>match a f with
  | some (.normal,c)=>d c
  | r=>r) b
def uV:Nat->Nat->Nat->List Nat
 | 0,_,_=>[]
 | m+1,k,g=>match Nat.beq g 0 with
  | true=>[]
  | false=>(match Nat.beq (Nat.land g 1) 1 with|true=>k::uV m (k+1) (Nat.shiftRight g 1)|false=>uV m (k+1) (Nat.shiftRight g 1))
def zD (a:ac) (b:Heap):Option (Nat×List ak):=
 match rowOf a with
 | some x=>DU x.1 x.2 (qJ (.out x.1) b)
 | none=>none
theorem FL (a:ac) (b:Heap):zD a b=yh a b:=by
 grind[zD,yh,jS]
noncomputable def Zw (n t:Nat) (f:ab):Option ab:=
 match zD (rK n f t) f.heap with
 | some (m,d)=>(match iW f (some t) (.dat (.slice d)) with
  | ⟨e,b,a,c⟩=>some ⟨e,b,qL (.out m) a,c⟩)
 | none=>none
noncomputable def G5 (n:Nat):List Nat->ab->Option ab
 | [],f=>some f
 | t::r,f=>(match Zw n t f with|some a=>G5 n r a|none=>none)
noncomputable def EA (n:Nat):List Nat->ab->ab
 | [],f=>f
 | t::r,f=>EA n r (xt false (uJ f [rK n f t]) f []).1
noncomputable def aeN (n a:Nat) (f:ab):Option ab:=
 match Nat.beq (Nat.shiftRight a 4096) 0 with
 | true=>some f
 | false=>G5 n (uV 1000 0 (Nat.land (Nat.shiftRight a 4096) (2 ^ 1024 - 1))) (EA n (uV 1000 0 (Nat.shiftRight a 5120)) f)
theorem JN {n t:Nat} {a:ab} (h:Zw n t f=some a):gF G (f.al n) (a.al n):=by
 unfold Zw at h;rw[FL] at h
 split at h
 ·rename_i m b V;have e:DV t (f.al n)=some (a.al n):=by
   unfold DV;rw[jC];have F:(f.al n).heap=f.heap:=rfl;have w:=eT (n:=n) f (some t) (.dat (.slice b));generalize iW f (some t) (.dat (.slice b))=g at h w;obtain⟨i,c,heap,d⟩:=g;simp at h;subst h;simp_all[ab.al,aa.put,lE]
  exact MX e
 grind
theorem xw {n:Nat}:∀(l:List Nat) {f b:ab},G5 n l f=some b->gF G (f.al n) (b.al n)
 | [],f,b,h=>by simp[G5] at h;subst h;exact .refl _ _
 | t::r,f,b,h=>by
  simp only[G5] at h
  split at h
  ·rename_i c a;exact (JN G a).trans (xw r h)
  grind
theorem uH {n:Nat}:∀(l:List Nat) (f:ab),gF G (f.al n) ((EA n l f).al n)
 | [],f=>.refl _ _
 | t::r,f=>by
  refine gF.trans ?_ (uH r _);have h:=JD (G:=G) (uJ f [rK n f t]) (f.al n);grind[uI]
theorem oO {n a:Nat} {b:ab} (h:aeN n a f=some b):gF G (f.al n) (b.al n):=by
 unfold aeN at h
 split at h
 ·simp at h;subst h;exact .refl _ _
 exact (uH G _ _).trans (xw G _ h)
noncomputable def iO (a:Nat->Nat) (h:Nat) (c:Code):ab->Option (Exit×ab):=
 Code.rec (motive:=fun _=>ab->Option (Exit×ab))
  (skip:=fun f=>some (.normal,f))
  (region:=fun id d g f=>
   (match (match g with|true=>G8 X E G H n d.toList (H.ord id) f|false=>EB X E G (H.at id) n d.toList d.toList f) with
    | some e=>(match aeN n (a id) (iL e (fun l=>eE l (a id))) with|some m=>some (.normal,m)|none=>none)
    | none=>none))
  (seq:=fun _ _ x k f=>(match x f with
   | some (.normal,e)=>k e
   | r=>r))
  (cond:=fun c _ _ x k f=>(match py G n f c with
   | .dat (.flat (.bool b))=>(match b with|true=>x f|false=>k f)
   | _=>none))
  (block:=fun id _ j f=>(match j f with
   | some (.exit i,e)=>(match Nat.beq i id with|true=>some (.normal,e)|false=>some (.exit i,e))
   | r=>r))
  (loop:=fun _ j f=>C6 j h f)
  (rangeFunc:=fun _ _ _ _ _ _ _=>none)
  (exit:=fun id f=>some (.exit id,f))
  (scope:=fun _ j f=>(match j f with
   | some (.goto _,_)=>none
   | r=>r))
  (label:=fun _ f=>some (.normal,f))
  (goto:=fun _ _=>none)
  (ret:=fun f=>some (.ret,f))
  (refuse:=fun _ _=>none) c
theorem Ha {b:Nat->Nat} {a:Nat}:iO X E G H n b a (.scope c) f=(match iO X E G H n b a c f with
   | some (.goto _,_)=>none
   | r=>r):=rfl
theorem M6 {b:Nat->Nat} {a:Nat} {x y:Code}:iO X E G H n b a (.seq x y) f=(match iO X E G H n b a x f with
   | some (.normal,c)=>iO X E G H n b a y c
   | r=>r):=rfl
theorem Hb {b:Nat->Nat} {a:Nat} {id:Nat}:iO X E G H n b a (.block id c) f=(match iO X E G H n b a c f with
   | some (.exit i,d)=>(match Nat.beq i id with|true=>some (.normal,d)|false=>some (.exit i,d))
   | r=>r):=rfl
theorem JQ {d:Nat->Nat} {a:Nat} {c:Operand} {x y:Code}:iO X E G H n d a (.cond c x y) f=(match py G n f c with
   | .dat (.flat (.bool b))=>(match b with|true=>iO X E G H n d a x f|false=>iO X E G H n d a y f)
   | _=>none):=rfl
theorem EH {a:Nat->Nat} {d:Nat} {id:Nat} {b:Array Oper} {c:Bool}:iO X E G H n a d (.region id b c) f =
   (match (match c with|true=>G8 X E G H n b.toList (H.ord id) f|false=>EB X E G (H.at id) n b.toList b.toList f) with
    | some e=>(match aeN n (a id) (iL e (fun l=>eE l (a id))) with|some g=>some (.normal,g)|none=>none)
    | none=>none):=rfl
theorem G1 {P:Program} {g:ab->Option (Exit×ab)} (d:∀f e m,g f=some (e,m)->∀Q:Exit->aa->Prop,Q e (m.al n)->cL P G c Q (f.al n)) {k:Nat} {m:ab} {e:Exit}
  (h:C6 g k f=some (e,m)) (hQ:Q e (m.al n)):cL P G (.loop c) Q (f.al n):=by
 intro w R N ad Z U H z hr D hd;refine S6 (I:=fun k a x=>∃p A y l j i,C6 g k p=some (e,m)/\dw G x A y a.tmps.toList (p.al n) undef .undef [] l j i z/\a.defers=D/\bp w R x A z/\(∀o b,N (.out o)=some b->y (.out o)=some b)) (n0:=k) ?_ ?_
 ·grind[aZ]
 rintro k a x ⟨p,A,y,l,j,i,X,T,O,hk,hN⟩
 cases k with
 | zero=>exact absurd X (by intro X;cases X)
 | succ k=>
  have X:(match g p with
   | some (.normal,m)=>C6 g k m
   | r=>r)=some (e,m):=X
  have L:∀E v,g p=some (E,v)->(E=.normal->C6 g k v=some (e,m))->(E≠.normal->E=e/\v=m)->c.wpR P (Exit.then (fun a' x=>∃n',n' < k+1/\∃p A y l j i,C6 g n' p=some (e,m)/\dw G x A y a'.tmps.toList (p.al n) undef .undef [] l j i z/\a'.defers=D/\bp w R x A z/\(∀o b,N (.out o)=some b->y (.out o)=some b)) (Dx G D Q w R N z)) a x:=by
   intro E v B h1 h2;refine lp (d p E v B (fun e' V=>e'=E/\V=v.al n) ⟨rfl,rfl⟩ x A y a l j i z T O) ?_;rintro M a3 w3 ⟨s3,Y,W,u,t,s,⟨rfl,rfl⟩,K,F,J,C⟩
   by_cases S:M=.normal
   ·subst S;exact⟨k,Nat.lt_succ_self k,v,Y,W,u,t,s,h1 rfl,K,F,hk.trans J,fun o b h=>C o b (hN o b h)⟩
   obtain⟨rfl,rfl⟩:=h2 S
   have:Dx G D Q w R N z M a3 w3:=⟨_,Y,W,u,t,s,hQ,K,F,hk.trans J,fun o b h=>C o b (hN o b h)⟩
   cases M with
   | normal=>grind
   | _=>exact this
  cases q:g p with
  | none=>rw[q] at X;simp at X
  | some r=>
   obtain⟨E,v⟩:=r;rw[q] at X
   cases E with
   | normal=>exact L _ _ q (fun _=>X) (fun h=>(h rfl).elim)
   | _=>simp at X;exact L _ _ q (fun h=>by simp at h) (fun _=>X)
theorem xL {P:Program} {s r:aa} (h:cL P G c (fun e q=>e=.normal/\q=r) s) {l:aa} (J:gF G r l) (y:Q .normal l):cL P G c Q s:=by
 intro w R N d Z U H z C D A;refine lp (h w R N d Z U H z C A) ?_;rintro e a L ⟨q,K,I,p,n,m,⟨rfl,rfl⟩,j,g,B,x⟩;obtain⟨u,t,F,E,v,k,i,f⟩:=J _ _ _ _ _ _ _ _ j;exact⟨l,u,t,F,E,v,y,k,g,B.trans i,fun o b O=>f o b (x o b O)⟩
theorem BA {P:Program} {s p:aa} (h:cL P G c (fun e o=>e=.normal/\o=p) s) {n:aa}
  (A:∀(w:World) (R:Own) (N:Name->Option Nat) (d:List Value) (Z U H z:List Nat),dw G w R N d p undef .undef [] Z U H z->∃b,dw G w R N d n undef .undef [] b U H z) (u:Q .normal n):cL P G c Q s:=by
 intro w R N j Z U H z y D v;refine lp (h w R N j Z U H z y v) ?_;rintro e a B ⟨o,r,q,b,g,f,⟨rfl,rfl⟩,l,k,x,t⟩;obtain⟨i,m⟩:=A _ _ _ _ _ _ _ _ l;exact⟨n,r,q,i,g,f,u,m,k,x,t⟩
theorem fj {P:Program} (W:E.Ok P) (J:Kg P G X) (g:Nat->Nat) (j:Nat):∀(c:Code) (f m:ab) (e:Exit),dh H c=true->iO X E G H n g j c f=some (e,m)->∀Q:Exit->aa->Prop,Q e (m.al n)->cL P G c Q (f.al n)
 | .skip,f,m,e,_,h,Q,k=>by
  have h:some (Exit.normal,f)=some (e,m):=h;obtain⟨rfl,rfl⟩:=h;exact gD amX k
 | .region id O ad,f,m,e,o,h,Q,k=>by
  rw[EH] at h
  cases ad
  ·cases L:EB X E G (H.at id) n O.toList O.toList f with
   | none=>rw[L] at h;simp at h
   | some A=>
    rw[L] at h;dsimp only at h
    cases M:aeN n (g id) (iL A (fun l=>eE l (g id))) with
    | none=>rw[M] at h;simp at h
    | some f2=>
    rw[M] at h;simp at h;obtain⟨rfl,rfl⟩:=h;refine xL G (BA G (uY W (nN J (rp X E G (H.at id) n L) ⟨rfl,rfl⟩)) ?_ ⟨rfl,rfl⟩) (oO G M) k;intro w R N ae Z U p z C;exact C.prune _
  dsimp only at h
  cases L:G8 X E G H n O.toList (H.ord id) f with
  | none=>rw[L] at h;simp at h
  | some A=>
   rw[L] at h;dsimp only at h
   cases M:aeN n (g id) (iL A (fun l=>eE l (g id))) with
   | none=>rw[M] at h;simp at h
   | some f2=>
   rw[M] at h;simp at h;obtain⟨rfl,rfl⟩:=h;refine xL G (BA G (BB W W.mixed (by simpa [dh] using o) (E4 J (JO X E G H n L) ⟨rfl,rfl⟩)) ?_ ⟨rfl,rfl⟩) (oO G M) k;intro w R N ae Z U p z C;exact C.prune _
 | .seq x y,f,m,e,o,h,Q,k=>by
  simp only[dh,Bool.and_eq_true] at o;rw[M6] at h;refine wK ?_
  cases I:iO X E G H n g j x f with
  | none=>rw[I] at h;simp at h
  | some r=>
   obtain⟨K,A⟩:=r;rw[I] at h;refine fj W J g j x f A K o.1 I _ ?_
   cases K with
   | normal=>exact fj W J g j y A m e o.2 h Q k
   | _=>simp at h;obtain⟨rfl,rfl⟩:=h;exact k
 | .cond c x y,f,m,e,o,h,Q,k=>by
  simp only[dh,Bool.and_eq_true] at o;intro w R N v Z U p z C D T;rw[JQ] at h
  split at h
  ·rename_i b d;obtain⟨B,he⟩:=qw C.tmps C.glob c;rw[nv,d] at he;obtain⟨_,he,_⟩:=aC he;refine aoo he ?_
   cases b
   ·exact fj W J g j y f m e o.2 h Q k w R N v Z U p z C T
   exact fj W J g j x f m e o.1 h Q k w R N v Z U p z C T
  simp at h
 | .block id c,f,m,e,o,h,Q,k=>by
  simp only[dh] at o;rw[Hb] at h
  cases I:iO X E G H n g j c f with
  | none=>rw[I] at h;simp at h
  | some r=>
   obtain⟨K,A⟩:=r;rw[I] at h;intro w R N v Z U p z C D T
   apply amW
   refine lp (fj W J g j c f A K o I (fun e' S=>e'=K/\S=A.al n) ⟨rfl,rfl⟩ w R N v Z U p z C T) ?_;rintro F a w' ⟨s2,Y,V,t,s,q,⟨rfl,rfl⟩,u⟩
   cases F with
   | exit i=>
    simp only[Exit.inBlock];dsimp only at h
    by_cases hi:i=id
    ·have d:Nat.beq i id=true:=by rw[Nat.beq_eq];exact hi
     rw[if_pos hi];rw[d] at h;simp at h;obtain⟨rfl,rfl⟩:=h;exact⟨_,Y,V,t,s,q,k,u⟩
    have d:Nat.beq i id=false:=by rw[Bool.eq_false_iff];intro o;rw[Nat.beq_eq] at o;exact hi o
    rw[if_neg hi];rw[d] at h;simp at h;obtain⟨rfl,rfl⟩:=h;exact⟨_,Y,V,t,s,q,k,u⟩
   | _=>simp at h;obtain⟨rfl,rfl⟩:=h;exact⟨_,Y,V,t,s,q,k,u⟩
 | .exit id,f,m,e,_,h,Q,k=>by
  have h:some (Exit.exit id,f)=some (e,m):=h;simp at h;obtain⟨rfl,rfl⟩:=h;exact gD aon k
 | .ret,f,m,e,_,h,Q,k=>by
  have h:some (Exit.ret,f)=some (e,m):=h;simp at h;obtain⟨rfl,rfl⟩:=h;exact gD aqk k
 | .loop c,f,m,e,o,h,Q,k=>by
  simp only[dh] at o;exact G1 G n (fun f e m d Q k=>fj W J g j c f m e o d Q k) h k
 | .rangeFunc _ _ _ _,_,_,_,_,h,_,_=>by cases h
 | .scope c,f,m,e,o,h,Q,k=>by
  simp only[dh] at o;rw[Ha] at h
  cases I:iO X E G H n g j c f with
  | none=>rw[I] at h;simp at h
  | some r=>
   obtain⟨K,A⟩:=r;rw[I] at h;intro w R N v Z U p z C D T
   apply ank
   refine lp (fj W J g j c f A K o I (fun e' S=>e'=K/\S=A.al n) ⟨rfl,rfl⟩ w R N v Z U p z C T) ?_;rintro F a w' ⟨s2,Y,V,t,s,q,⟨rfl,rfl⟩,u⟩
   cases F with
   | goto l=>simp at h
   | _=>simp at h;obtain⟨rfl,rfl⟩:=h;exact⟨_,Y,V,t,s,q,k,u⟩
 | .label _,f,m,e,_,h,Q,k=>by
  have h:some (Exit.normal,f)=some (e,m):=h;simp at h;obtain⟨rfl,rfl⟩:=h;exact gD aq0 k
 | .goto _,_,_,_,_,h,_,_=>by cases h
 | .refuse _,_,_,_,_,h,_,_=>by cases h
noncomputable def uL (f:ab) (a:Tmp) (t:TypeId):Option ac:=
 match rK n f a with
 | .ptr k b=>(match Rc f k,E.ty t with
  | some (.cells c),some i=>loadCells i b c
  | _,_=>none)
 | _=>none
theorem Hc (f:ab) (a:Tmp) (t:TypeId):yC E (f.al n) a t=uL E n f a t:=by
 grind[yC,uL,jC,EC]
noncomputable def iK:ab->List ResultVar->Option (List ac)
 | _,[]=>some []
 | f,.tmp t::r=>(match iK (uK n f (some 0) [.tmp t]) r with|some b=>some (rK n f t::b)|none=>none)
 | f,.cell a t::r=>(match uL E n f a t,iK f r with|some v,some b=>some (v::b)|_,_=>none)
theorem qu:∀(b:List ResultVar) (f:ab),gU E (f.al n) b=iK E n f b
 | [],_=>rfl
 | .tmp t::r,f=>by
  simp only[gU,iK,←AX,qu r,jC]
  grind
 | .cell a t::r,f=>by
  simp only[gU,iK,Hc,qu r]
  grind
noncomputable def G6:List Name->ab->List ac->ab×List ac
 | [],f,a=>(f,a)
 | k::c,f,a=>
  (match (aU k a||jL k f.locs) with
   | true=>(match wj true k f a with
   | some (d,b)=>G6 c d b
   | none=>G6 c f a)
   | false=>G6 c f a)
theorem yB:∀(b:List Name) (f:ab) (a:List ac),aei b (f.al n) a=((G6 b f a).1.al n,(G6 b f a).2)
 | [],_,_=>rfl
 | k::b,f,a=>by
  simp only[aei,G6,C5];have e:(f.al n).locs=f.locs:=rfl;rw[e]
  cases (aU k a||jL k f.locs) with
  | false=>exact yB b f a
  | true=>
   cases wj true k f a with
   | none=>exact yB b f a
   | some x=>exact yB b x.1 x.2
noncomputable def sU (d:List ResultVar) (f:ab):Option eX:=
 match iK E n f d with
 | none=>none
 | some b=>
  match aW (jF b) with
  | true=>some ⟨pack (jF b),f.heap,f.next⟩
  | false=>match G6 (repeatL f.locs.length (nq f.locs)) f (jF b) with
   |(c,a)=>if aW a=true then some ⟨pack a,c.heap,c.next⟩ else none
theorem yz (a:List ResultVar) (f:ab):SB E a (f.al n)=sU E n a f:=by
 unfold SB sU;rw[qu]
 cases iK E n f a with
 | none=>rfl
 | some b=>
  dsimp only
  cases aW (jF b) with
  | true=>rfl
  | false=>
   have e:(f.al n).locs=f.locs:=rfl;rw[e,yB];generalize G6 (repeatL f.locs.length (nq f.locs)) f (jF b)=c;obtain⟨g,d⟩:=c;rfl
def rG:Nat->List ac->Sl
 | _,[]=>[]
 | k,a::r=>(k,a)::rG (k+1) r
theorem pS:∀(b:List ac) (k t:Nat),rJ (rG k b) t=if k<=t then bq b (t - k) else .undef
 | [],k,t=>by
  grind[rG,AM,bq]
 | a::r,k,t=>by
  rw[rG,ij,pS r (k+1) t]
  grind[bq]
end
section
variable (E:bz) (G:bA) (moves caps:FuncId->Bool) (F:FuncId->Option qS) (M:lH) (fuel:Nat)
noncomputable def C8:Nat->lH
 | 0=>fun _ _ _ _=>none
 | k+1=>fun g b c a=>
  match F g with
  | none=>none
  | some x=>match Nat.ble b.length x.ntmps with
   | false=>none
   | true=>(match iO (fun g b c a=>match M g b c a with|some r=>some r|none=>C8 k g b c a) E G ⟨moves,x.ord,caps,rowsOf caps g⟩ x.ntmps x.live fuel x.code ⟨rG 0 b,[],c,a⟩ with
    | some (.ret,f)=>(match sU E x.ntmps x.results f with|some r=>some (M0 a r)|none=>none)
    | some (.normal,f)=>(match sU E x.ntmps x.results f with|some r=>some (M0 a r)|none=>none)
    | _=>none)
variable {E G moves caps F M}
theorem xA {P:Program} (W:E.Ok P) (w:Z9 P moves caps F) (y:Kg P G M):∀k,Kg P G (C8 E G moves caps F M fuel k)
 | 0=>by intro f d j c r h;cases h
 | k+1=>by
  intro g d j c r h;simp only[C8] at h
  split at h
  ·grind
  rename_i x X;obtain⟨K,a,b,z,A,B⟩:=w g x X;have I:=xA W w y k;have C:Kg P G (fun g d j c=>match M g d j c with|some r=>some r|none=>C8 E G moves caps F M fuel k g d j c):=by
   intro g d j c r h;dsimp only at h
   split at h
   ·rename_i L v;simp at h;subst h;exact y _ _ _ _ _ v
   exact I _ _ _ _ _ h
  split at h
  ·grind
  rename_i o;have o:=fD o;have q:(⟨rG 0 d,[],j,c⟩:ab).al x.ntmps=enter x.ntmps d j c:=by
   simp only[ab.al,enter];congr 1
   apply List.ext_getElem?
   intro i;rw[kq,Nat.zero_add,pS,if_pos (Nat.zero_le _),Nat.sub_zero,List.getElem?_append]
   split
   ·split
    ·rename_i u;unfold bq;rw[List.getElem?_eq_getElem u]
    rename_i H u;rw[List.getElem?_replicate,if_pos (by omega)];unfold bq;rw[List.getElem?_eq_none (by omega)]
   rename_i u;rw[if_neg (by omega),List.getElem?_replicate,if_neg (by omega)]
  have t:∀e f,iO (fun g d j c=>match M g d j c with|some r=>some r|none=>C8 E G moves caps F M fuel k g d j c) E G ⟨moves,x.ord,caps,rowsOf caps g⟩ x.ntmps x.live fuel x.code ⟨rG 0 d,[],j,c⟩=some (e,f)->e=.ret∨e=.normal->
    (match sU E x.ntmps x.results f with|some r=>some (M0 c r)|none=>none)=some r->ay P G g d j c (XQ r):=by
   intro e f X D R
   cases p:sU E x.ntmps x.results f with
   | none=>rw[p] at R;simp at R
   | some J=>
    rw[p] at R;simp at R;subst R
    apply ay.gc
    refine gX W a b ?_;intro _ _;rw[z,A,←q];refine fj _ E G ⟨moves,x.ord,caps,rowsOf caps g⟩ x.ntmps W C x.live fuel x.code _ _ _ (by rw[eM];exact B) X _ ?_
    have:=nL (E:=E) (rs:=x.results) (s:=f.al x.ntmps) (r:=J) (by rw[yz];exact p)
    rcases D with rfl|rfl <;> exact this
  split at h
  ·rename_i f p;exact t _ _ p (.inl rfl) h
  ·rename_i f p;exact t _ _ p (.inr rfl) h
  simp at h
end
end Go.Tp
namespace Go.Tp
variable {P:Program} {G:bA}
end Go.Tp
namespace Go.Tp
mutual
def NB:ac->Bool
 | .dat _=>true
 | .own _=>true
 | .ref _=>true
 | .undef=>true
 | .agg c=>Jc c
 | .tup c=>Jc c
 | .fn _ x y=>Jc x&&Jc y
 | .ptr _ _=>false
 | .map _=>false
 | .win _ _ _ _=>false
def Jc:List ac->Bool
 | []=>true
 | a::r=>NB a&&Jc r
end
section
variable {w:World} {R:Own} {N N':Name->Option Nat}
mutual
theorem ai.nm:∀{a:ac} {v:Value} {B:List Nat},ai w R N a v B->NB a=true->ai w R N' a v B
 | .dat _,_,_,h,_=>by exact h
 | .own _,_,_,h,_=>by exact h
 | .ref _,_,_,h,_=>by exact h
 | .ptr _ _,_,_,_,d=>by grind[NB]
 | .map _,_,_,_,d=>by grind[NB]
 | .win _ _ _ _,_,_,_,d=>by grind[NB]
 | .fn _ x y,_,_,h,d=>by
  simp only[NB,Bool.and_eq_true] at d;obtain⟨i,g,m,e,b,f⟩:=h;exact⟨i,g,m,e,ah.nm (l:=x) b d.1,ah.nm (l:=y) f d.2⟩
 | .agg c,_,_,h,d=>by
  obtain⟨g,e,h⟩:=h;exact⟨g,e,ah.nm (l:=c) h d⟩
 | .tup c,_,_,h,d=>by
  obtain⟨g,e,h⟩:=h;exact⟨g,e,ah.nm (l:=c) h d⟩
 | .undef,_,_,h,_=>by exact h
theorem ah.nm:∀{l:List ac} {g:List Value} {B:List Nat},ah w R N l g B->Jc l=true->ah w R N' l g B
 | [],_,_,h,_=>by exact h
 | a::l,_,_,h,d=>by
  simp only[Jc,Bool.and_eq_true] at d;obtain⟨v,j,r,Q,E,F,i,b⟩:=h;exact⟨v,j,r,Q,E,F,ai.nm (a:=a) i d.1,ah.nm (l:=l) b d.2⟩
end
end
variable {P:Program} {G:bA}
end Go.Tp
