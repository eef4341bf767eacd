/- HierarchyLookup returns true and changes nothing, for arguments of bulk at most 1048576 (the card of the second form; conditions: those of the given row). Names are shortened by a program, for the claim's bound. Part 7. -/
import Derived.Ground.NamesProg
import Derived.Shelf.Strings.Builder1
import Derived.Test.YtiihadmgkoamoaaGreatDoorProg
import Derived.Shelf.Strings.OnBuilder
import Derived.Shelf.SlGeneric
import Derived.Ground.GgzProg
import Derived.Ground.SlgmProg
import Derived.Shelf.SlIter.Nil
import Derived.Shelf.SortM.Plain
import Derived.Shelf.SortM.SortNone
import Derived.Test.YtiihadmgkoamoaaGreatDoorQ06
set_option linter.unusedVariables false
set_option linter.unusedSimpArgs false
set_option maxRecDepth 100000
set_option maxHeartbeats 4000000
namespace Go.Proofs.YtiihadmgkoamoaaGreatDoor
open Go.Tp
theorem pK {l:List (List UInt8)} {i:Nat} {b:List UInt8} (h:l[i]?=some b):aJ (env au.aI) 60 [.dat (.slice (l.map sb)),.dat (.flat (.int .i64 (Int.ofNat i)))]=some ⟨.ref [sb b],.keep⟩:=aaT h
noncomputable def S3:Hints:=⟨an,vA,ap,rowsOf ap 108⟩
def Pf (es:List aq) (x:List UInt8) (k:Int):ab:=⟨[(5,iv k),(0,.dat (.slice es)),(1,.dat (sb x))],[],[],0⟩
def Pg (es:List aq) (x:List UInt8) (k:Int):ab:=⟨[(17,bv false),(5,iv k),(0,.dat (.slice es)),(1,.dat (sb x))],[],[],0⟩
theorem sE {es:List aq} {x y:List UInt8} {i:Nat} {c1 c2:Bool} (h1:bn (Int.ofNat i) (Int.ofNat es.length)=c1) (h2:c1=true->aJ (env au.aI) 60 [.dat (.slice es),.dat (.flat (.int .i64 (Int.ofNat i)))]=some ⟨.ref [sb y],.keep⟩) (h3:jE y x=c2) {T:Exit->aa->Prop}
  (e1:(c1&&c2)=true->T .normal ((Pf es x (aG .i64 (Int.ofNat i+1))).aw Tryz.f108.ntmps)) (e2:(c1&&c2)=false->T (.exit 0) ((Pg es x (Int.ofNat i)).aw Tryz.f108.ntmps)) :
  KD (roundOf Tryz.f108 0) T ((Pf es x (Int.ofNat i)).aw Tryz.f108.ntmps):=by
 refine aB [9,16] [13] (H:=S3) (live:=nV) (by kernel_rfl) ?_;refine ob h1 ?_
 cases c1
 ·exact oe (e2 rfl)
 refine oo (h2 rfl) ?_;refine ob h3 ?_
 cases c2
 ·exact oe (e2 rfl)
 exact oe (e1 rfl)
def Pc (x:List UInt8) (k:Int):ab:=⟨[(5,iv k),(0,.dat nl),(1,.dat (sb x))],[],[],0⟩
def Pd (x:List UInt8) (k:Int):ab:=⟨[(17,bv false),(5,iv k),(0,.dat nl),(1,.dat (sb x))],[],[],0⟩
theorem Gt {x:List UInt8} {T:Exit->aa->Prop} (e2:T (.exit 0) ((Pd x (Int.ofNat 0)).aw Tryz.f108.ntmps)) :
  KD (roundOf Tryz.f108 0) T ((Pc x (Int.ofNat 0)).aw Tryz.f108.ntmps):=by
 refine aB [] [] (H:=S3) (live:=nV) (by kernel_rfl) ?_;exact oe e2
theorem SW {x:List UInt8} (a2:cj (env au.aI) false 60 [.own [],.dat (.slice [sb x])] none=some ⟨.own [sb x],.keep⟩):ag 108 [.dat nl,.dat (sb x)] (.own [sb x]):=by
 have hl:KD (.loop (roundOf Tryz.f108 0)) (fun e s=>e=.exit 0/\s=(Pd x (Int.ofNat 0)).aw Tryz.f108.ntmps) ((Pc x (Int.ofNat 0)).aw Tryz.f108.ntmps):=
  ba (St:=fun _=>(Pc x (Int.ofNat 0)).aw Tryz.f108.ntmps) 0 (fun i hi=>absurd hi (Nat.not_lt_zero i)) (Gt ⟨rfl,rfl⟩) (i:=0) (Nat.le_refl _)
 refine co [] [40,44] (x:=.of Tryz.f108 vA nV) ?_;refine lo hl ?_;rintro ex s ⟨rfl,rfl⟩;refine⟨_,rfl,?_⟩;refine oo a2 ?_;refine oo a2 ?_;exact fi
theorem Gv {e0:aq} {es p q:List aq} {x y:List UInt8} {i:Nat} {c1 c2:Bool} (h1:bn (Int.ofNat i) (Int.ofNat (e0::es).length)=c1) (h2:c1=true->aJ (env au.aI) 60 [.dat (.slice (e0::es)),.dat (.flat (.int .i64 (Int.ofNat i)))]=some ⟨.ref [sb y],.keep⟩) (h3:dv y x=c2)
  (hl:KD (.loop (roundOf Tryz.f108 0)) (fun e s=>e=.exit 0/\s=(Pg (e0::es) x (Int.ofNat i)).aw Tryz.f108.ntmps) ((Pf (e0::es) x (Int.ofNat 0)).aw Tryz.f108.ntmps))
  (s1:ff (env au.aI) 60 none (some (.tmp 35)) none [.dat (.slice (e0::es)),iv (Int.ofNat i)]=some ⟨.dat (.slice p),.keep⟩)
  (s2:ff (env au.aI) 60 (some (.tmp 42)) none none [.dat (.slice (e0::es)),iv (Int.ofNat i)]=some ⟨.dat (.slice q),.keep⟩)
  (a1:cj (env au.aI) false 60 [.own [],.dat (.slice p)] none=some ⟨.own p,.keep⟩)
  (a2:cj (env au.aI) false 60 [.own p,.dat (.slice [sb x])] none=some ⟨.own (p++[sb x]),.keep⟩)
  (a3:cj (env au.aI) false 60 [.own (p++[sb x]),.dat (.slice q)] none=some ⟨.own (p++[sb x]++q),.keep⟩) :
  ag 108 [.dat (.slice (e0::es)),.dat (sb x)] (match c1&&c2 with|true=>.dat (.slice (e0::es))|false=>.own (p++[sb x]++q)):=by
 refine co [23,30] [27,36,43,37,40,44] (x:=.of Tryz.f108 vA nV) ?_;refine lo hl ?_;rintro ex s ⟨rfl,rfl⟩;refine⟨_,rfl,?_⟩;refine ob h1 ?_
 cases c1
 ·refine oo s1 ?_;refine oo s2 ?_;refine oo a1 ?_;refine oo a2 ?_;refine oo a3 ?_;exact fi
 refine oo (h2 rfl) ?_;refine ob h3 ?_
 cases c2
 ·refine oo s1 ?_;refine oo s2 ?_;refine oo a1 ?_;refine oo a2 ?_;refine oo a3 ?_;exact fi
 exact fi
def lU:List (List UInt8)->List UInt8->Nat
 | [],_=>0
 | y::r,x=>match jE y x with|true=>lU r x+1|false=>0
theorem Jm:∀{l:List (List UInt8)} {x:List UInt8},lU l x<=l.length
 | [],_=>Nat.le_refl _
 | y::r,x=>by
  unfold lU
  split
  ·simp only[List.length_cons];have:=Jm (l:=r) (x:=x);omega
  omega
theorem Jl:∀{l:List (List UInt8)} {x:List UInt8} {i:Nat} {y:List UInt8},i < lU l x->l[i]?=some y->jE y x=true
 | [],x,i,y,h,h2=>by simp[lU] at h
 | z::r,x,i,y,h,h2=>by
  unfold lU at h
  cases hz:jE z x with
  | false=>rw[hz] at h;simp at h
  | true=>
   rw[hz] at h
   cases i with
   | zero=>simp at h2;subst h2;exact hz
   | succ i=>simp at h2;exact Jl (by simp at h;omega) h2
theorem Jn:∀{l:List (List UInt8)} {x:List UInt8} {y:List UInt8},l[lU l x]?=some y->jE y x=false
 | [],x,y,h=>by simp at h
 | z::r,x,y,h=>by
  unfold lU at h
  cases hz:jE z x with
  | false=>rw[hz] at h;simp at h;subst h;exact hz
  | true=>rw[hz] at h;simp at h;exact Jn h
theorem Jo {l:List (List UInt8)} {x:List UInt8} (hs:kh l):lU l x=ja l x:=by
 induction l with
 | nil=>rfl
 | cons y r ih=>
  have ih:=ih (List.Pairwise.of_cons hs);have h0:=oz (x:=x) hs (t:=0) (y:=y) rfl;unfold lU;unfold ja at ih h0 ⊢
  cases hy:jE y x with
  | true=>rw[List.countP_cons_of_pos (p:=fun y=>jE y x) hy,ih]
  | false=>
   rw[hy] at h0;have h0:¬0 < (y::r).countP (fun y=>jE y x):=by simpa using h0.symm
   show 0=_;omega
def CB (l:List (List UInt8)) (x:List UInt8):List (List UInt8):=match l[lU l x]? with|some y=>(match dv y x with|true=>l|false=>cZ l (lU l x) x)|none=>cZ l (lU l x) x
theorem ue {l:List (List UInt8)} {x:List UInt8} (hs:kh l):CB l x=cH l x:=by
 have h:=SZ (x:=x) hs;unfold CB cH;rw[h,←Jo hs]
 cases hg:l[lU l x]? with
 | none=>rfl
 | some y=>
  dsimp only
  cases he:dv y x with
  | true=>
   rw[mz he];simp
  | false=>
   have:y≠x:=by rintro rfl;rw[hU] at he;simp at he
   rw[decide_eq_false (by simpa using this)]
theorem gN {a b:List (List UInt8)} (h:a.length+b.length < 1000000000):cj (env au.aI) false 60 [.own (a.map sb),.dat (.slice (b.map sb))] none=some ⟨.own (a.map sb++b.map sb),.keep⟩:=by
 refine ra (i:=U2) (ds:=b.map sb) (k:=0) OU rfl pa ?_ ?_ (by kernel_rfl) ?_ ?_ ?_ (by simp)
 ·exact gF (fun d hd=>by obtain⟨x,_,rfl⟩:=List.mem_map.1 hd;rfl)
 ·exact gF (fun d hd=>by obtain⟨x,_,rfl⟩:=List.mem_map.1 hd;rfl)
 ·have h1:U2.bytes<=1000:=fH (by kernel_rfl);simp only[List.length_map]
  calc (a.length+b.length)*U2.bytes<=1000000000*1000:=Nat.mul_le_mul (by omega) h1
   _<=140737488355328:=by decide
 ·simp[lim];omega
 have hb:ez (a.map sb++b.map sb)=false:=by
  rw[←List.map_append]
  cases a++b with
  | nil=>rfl
  | cons x r=>rfl
 unfold fQ;rw[hb]
theorem wJ (l:List (List UInt8)):sizedB 1 (l.map sb)=true:=gF (fun d hd=>by obtain⟨x,_,rfl⟩:=List.mem_map.1 hd;rfl)
theorem B3 {l:List (List UInt8)} {i:Nat} (h:i<=l.length) (x:Operand):ff (env au.aI) 60 none (some x) none [.dat (.slice (l.map sb)),iv (Int.ofNat i)]=some ⟨.dat (.slice ((l.take i).map sb)),.keep⟩:=by
 have h1:au.aI.sub U2.size (l.map sb) none (some (Int.ofNat i))=some ((l.take i).map sb):=by
  rw[pa];show (match sizedB 1 (l.map sb),Nat.blt 0 1 with
   | true,true=>(match cP (some (Int.ofNat i)) (l.map sb).length,cP none 0 with
    | some h,some lo=>(match Nat.ble lo h,Nat.ble h (l.map sb).length with|true,true=>some (((l.map sb).take h).drop lo)|_,_=>none)
    | _,_=>none)
   | _,_=>none)=_
  rw[wJ];have e1:cP (some (Int.ofNat i)) (l.map sb).length=some i:=rfl;have e2:Nat.ble i (l.map sb).length=true:=by rw[Nat.ble_eq];simpa using h
  rw[e1];dsimp only[cP];rw[e2];simp[Nat.ble,List.map_take];rfl
 have h2:ff (env au.aI) 60 none (some x) none [.dat (.slice (l.map sb)),iv (Int.ofNat i)]=uZ (match au.aI.sub U2.size (l.map sb) none (some (Int.ofNat i)) with|some r=>some (.dat (.slice r))|none=>none):=by kernel_rfl
 rw[h2,h1];rfl
theorem wI {l:List (List UInt8)} {i:Nat} (h:i<=l.length) (x:Operand):ff (env au.aI) 60 (some x) none none [.dat (.slice (l.map sb)),iv (Int.ofNat i)]=some ⟨.dat (.slice ((l.drop i).map sb)),.keep⟩:=by
 have h1:au.aI.sub U2.size (l.map sb) (some (Int.ofNat i)) none=some ((l.drop i).map sb):=by
  rw[pa];show (match sizedB 1 (l.map sb),Nat.blt 0 1 with
   | true,true=>(match cP none (l.map sb).length,cP (some (Int.ofNat i)) 0 with
    | some h,some lo=>(match Nat.ble lo h,Nat.ble h (l.map sb).length with|true,true=>some (((l.map sb).take h).drop lo)|_,_=>none)
    | _,_=>none)
   | _,_=>none)=_
  rw[wJ];have e1:cP (some (Int.ofNat i)) 0=some i:=rfl;have e2:Nat.ble i (l.map sb).length=true:=by rw[Nat.ble_eq];simpa using h
  have e3:Nat.ble (l.map sb).length (l.map sb).length=true:=by rw[Nat.ble_eq];exact Nat.le_refl _
  rw[e1];dsimp only[cP];rw[e2,e3,List.take_length];simp[List.map_drop];rfl
 have h2:ff (env au.aI) 60 (some x) none none [.dat (.slice (l.map sb)),iv (Int.ofNat i)]=uZ (match au.aI.sub U2.size (l.map sb) (some (Int.ofNat i)) none with|some r=>some (.dat (.slice r))|none=>none):=by kernel_rfl
 rw[h2,h1];rfl
theorem aas {l:List (List UInt8)} {x:List UInt8} (hn:l.length < 100000000):ag 108 [.dat (sl (l.map sb)),.dat (sb x)] (.dat (sl ((CB l x).map sb))):=by
 cases l with
 | nil=>exact qD (SW (gN (a:=[]) (b:=[x]) (by simp)))
 | cons y0 r=>
  obtain⟨l,hl⟩:∃l,l=y0::r:=⟨_,rfl⟩;have hnl:(l.map sb)=sb y0::r.map sb:=by rw[hl];rfl
  have hne:sl (l.map sb)=.slice (l.map sb):=by rw[hnl];rfl
  rw[←hl] at hn ⊢;have hle:=Jm (l:=l) (x:=x);have hloop:KD (.loop (roundOf Tryz.f108 0)) (fun e s=>e=.exit 0/\s=(Pg (l.map sb) x (Int.ofNat (lU l x))).aw Tryz.f108.ntmps) ((Pf (l.map sb) x (Int.ofNat 0)).aw Tryz.f108.ntmps):=by
   refine ba (St:=fun i=>(Pf (l.map sb) x (Int.ofNat i)).aw Tryz.f108.ntmps) (lU l x) ?_ ?_ (i:=0) (Nat.zero_le _)
   ·intro i hi;have hil:i < l.length:=by omega
    have hg:l[i]?=some l[i]:=List.getElem?_eq_getElem hil;refine sE (y:=l[i]) (c1:=true) (c2:=true) (bd (by simpa using hil)) (fun _=>pK hg) (Jl hi hg) (fun _=>?_) (fun h=>by simp at h);rw[bb (by omega)];rfl
   cases hg:l[lU l x]? with
   | none=>
    have:l.length<=lU l x:=by simpa using hg
    exact sE (y:=[]) (c1:=false) (c2:=jE [] x) (br (by simp;omega)) (fun h=>by simp at h) rfl (fun h=>by simp at h) (fun _=>⟨rfl,rfl⟩)
   | some y=>
    have hil:=(List.getElem?_eq_some_iff.1 hg).1;exact sE (y:=y) (c1:=true) (c2:=false) (bd (by simpa using hil)) (fun _=>pK hg) (Jn hg) (fun h=>by simp at h) (fun _=>⟨rfl,rfl⟩)
  have s1:=B3 (l:=l) hle (.tmp 35);have s2:=wI (l:=l) hle (.tmp 42);have a1:=gN (a:=[]) (b:=l.take (lU l x)) (by simp;omega);have a2:=gN (a:=l.take (lU l x)) (b:=[x]) (by simp;omega);have a3:=gN (a:=l.take (lU l x)++[x]) (b:=l.drop (lU l x)) (by simp;omega);rw[List.map_append] at a3;have hins:sl ((cZ l (lU l x) x).map sb)=.slice ((l.take (lU l x)).map sb++[x].map sb++(l.drop (lU l x)).map sb):=by
   have:(cZ l (lU l x) x).map sb=(l.take (lU l x)).map sb++[x].map sb++(l.drop (lU l x)).map sb:=by simp[cZ]
   rw[←this]
   cases h:(cZ l (lU l x) x).map sb with
   | nil=>simp[cZ] at h
   | cons _ _=>rfl
  rw[hnl] at s1 s2 hloop hne;rw[hnl,hne];unfold CB
  cases hg:l[lU l x]? with
  | none=>
   have:l.length<=lU l x:=by simpa using hg
   have h:=Gv (y:=[]) (c1:=false) (c2:=dv [] x) (br (by rw[←hnl];simp;omega)) (fun h=>by simp at h) rfl hloop s1 s2 a1 a2 a3;dsimp only;rw[hins];exact qD h
  | some y=>
   have hil:=(List.getElem?_eq_some_iff.1 hg).1;have h:=Gv (y:=y) (c1:=true) (c2:=dv y x) (bd (by rw[←hnl];simpa using hil)) (fun _=>by rw[←hnl];exact pK hg) rfl hloop s1 s2 a1 a2 a3;dsimp only;generalize dv y x=c at h
   cases c
   ·dsimp only;rw[hins];exact qD h
   dsimp only;rw[hnl];exact h
def Pj (es:List aq) (x:List UInt8) (k:Int):ab:=⟨[(5,iv k),(0,.own es),(1,.dat (sb x))],[],[],0⟩
def Ph (es:List aq) (x:List UInt8) (k:Int):ab:=⟨[(17,bv false),(5,iv k),(0,.own es),(1,.dat (sb x))],[],[],0⟩
theorem sF {es:List aq} {x y:List UInt8} {i:Nat} {c1 c2:Bool} (h1:bn (Int.ofNat i) (Int.ofNat es.length)=c1) (h2:c1=true->aJ (env au.aI) 60 [.dat (.slice es),.dat (.flat (.int .i64 (Int.ofNat i)))]=some ⟨.ref [sb y],.keep⟩) (h3:jE y x=c2) {T:Exit->aa->Prop}
  (e1:(c1&&c2)=true->T .normal ((Pj es x (aG .i64 (Int.ofNat i+1))).aw Tryz.f108.ntmps)) (e2:(c1&&c2)=false->T (.exit 0) ((Ph es x (Int.ofNat i)).aw Tryz.f108.ntmps)) :
  KD (roundOf Tryz.f108 0) T ((Pj es x (Int.ofNat i)).aw Tryz.f108.ntmps):=by
 refine aB [9,16] [13] (H:=S3) (live:=nV) (by kernel_rfl) ?_;refine ob h1 ?_
 cases c1
 ·exact oe (e2 rfl)
 refine oo (h2 rfl) ?_;refine ob h3 ?_
 cases c2
 ·exact oe (e2 rfl)
 exact oe (e1 rfl)
theorem Gw {es p q:List aq} {x y:List UInt8} {i:Nat} {c1 c2:Bool} (h1:bn (Int.ofNat i) (Int.ofNat es.length)=c1) (h2:c1=true->aJ (env au.aI) 60 [.dat (.slice es),.dat (.flat (.int .i64 (Int.ofNat i)))]=some ⟨.ref [sb y],.keep⟩) (h3:dv y x=c2)
  (hl:KD (.loop (roundOf Tryz.f108 0)) (fun e s=>e=.exit 0/\s=(Ph es x (Int.ofNat i)).aw Tryz.f108.ntmps) ((Pj es x (Int.ofNat 0)).aw Tryz.f108.ntmps))
  (s1:ff (env au.aI) 60 none (some (.tmp 35)) none [.dat (.slice es),iv (Int.ofNat i)]=some ⟨.dat (.slice p),.keep⟩)
  (s2:ff (env au.aI) 60 (some (.tmp 42)) none none [.dat (.slice es),iv (Int.ofNat i)]=some ⟨.dat (.slice q),.keep⟩)
  (a1:cj (env au.aI) false 60 [.own [],.dat (.slice p)] none=some ⟨.own p,.keep⟩)
  (a2:cj (env au.aI) false 60 [.own p,.dat (.slice [sb x])] none=some ⟨.own (p++[sb x]),.keep⟩)
  (a3:cj (env au.aI) false 60 [.own (p++[sb x]),.dat (.slice q)] none=some ⟨.own (p++[sb x]++q),.keep⟩) :
  ag 108 [.own es,.dat (sb x)] (match c1&&c2 with|true=>.own es|false=>.own (p++[sb x]++q)):=by
 refine co [23,30] [27,36,43,37,40,44] (x:=.of Tryz.f108 vA nV) ?_;refine lo hl ?_;rintro ex s ⟨rfl,rfl⟩;refine⟨_,rfl,?_⟩;refine ob h1 ?_
 cases c1
 ·refine oo s1 ?_;refine oo s2 ?_;refine oo a1 ?_;refine oo a2 ?_;refine oo a3 ?_;exact fi
 refine oo (h2 rfl) ?_;refine ob h3 ?_
 cases c2
 ·refine oo s1 ?_;refine oo s2 ?_;refine oo a1 ?_;refine oo a2 ?_;refine oo a3 ?_;exact fi
 exact fi
theorem aat {l:List (List UInt8)} {x:List UInt8} (hn:l.length < 100000000):ag 108 [.own (l.map sb),.dat (sb x)] (.own ((CB l x).map sb)):=by
 have hle:=Jm (l:=l) (x:=x);have hloop:KD (.loop (roundOf Tryz.f108 0)) (fun e s=>e=.exit 0/\s=(Ph (l.map sb) x (Int.ofNat (lU l x))).aw Tryz.f108.ntmps) ((Pj (l.map sb) x (Int.ofNat 0)).aw Tryz.f108.ntmps):=by
  refine ba (St:=fun i=>(Pj (l.map sb) x (Int.ofNat i)).aw Tryz.f108.ntmps) (lU l x) ?_ ?_ (i:=0) (Nat.zero_le _)
  ·intro i hi;have hil:i < l.length:=by omega
   have hg:l[i]?=some l[i]:=List.getElem?_eq_getElem hil;refine sF (y:=l[i]) (c1:=true) (c2:=true) (bd (by simpa using hil)) (fun _=>pK hg) (Jl hi hg) (fun _=>?_) (fun h=>by simp at h);rw[bb (by omega)];rfl
  cases hg:l[lU l x]? with
  | none=>
   have:l.length<=lU l x:=by simpa using hg
   exact sF (y:=[]) (c1:=false) (c2:=jE [] x) (br (by simp;omega)) (fun h=>by simp at h) rfl (fun h=>by simp at h) (fun _=>⟨rfl,rfl⟩)
  | some y=>
   have hil:=(List.getElem?_eq_some_iff.1 hg).1;exact sF (y:=y) (c1:=true) (c2:=false) (bd (by simpa using hil)) (fun _=>pK hg) (Jn hg) (fun h=>by simp at h) (fun _=>⟨rfl,rfl⟩)
 have s1:=B3 (l:=l) hle (.tmp 35);have s2:=wI (l:=l) hle (.tmp 42);have a1:=gN (a:=[]) (b:=l.take (lU l x)) (by simp;omega);have a2:=gN (a:=l.take (lU l x)) (b:=[x]) (by simp;omega);have a3:=gN (a:=l.take (lU l x)++[x]) (b:=l.drop (lU l x)) (by simp;omega);rw[List.map_append] at a3;have hins:(cZ l (lU l x) x).map sb=(l.take (lU l x)).map sb++[x].map sb++(l.drop (lU l x)).map sb:=by simp[cZ]
 unfold CB
 cases hg:l[lU l x]? with
 | none=>
  have:l.length<=lU l x:=by simpa using hg
  have h:=Gw (y:=[]) (c1:=false) (c2:=dv [] x) (br (by simp;omega)) (fun h=>by simp at h) rfl hloop s1 s2 a1 a2 a3;dsimp only;rw[hins];exact h
 | some y=>
  have hil:=(List.getElem?_eq_some_iff.1 hg).1;have h:=Gw (y:=y) (c1:=true) (c2:=dv y x) (bd (by simpa using hil)) (fun _=>pK hg) rfl hloop s1 s2 a1 a2 a3;dsimp only;generalize dv y x=c at h
  cases c
  ·dsimp only;rw[hins];exact h
  exact h
def C8:FuncId->Bool:=fun f=>match Nat.beq f 108 with|true=>true|false=>(match Nat.beq f 134 with|true=>true|false=>an f)
noncomputable def ZU:FuncId->Option fL:=fun g=>match Nat.beq g 134 with|true=>some (fL.of Tryz.f134 vz nT)|false=>none
theorem U6:FOk Tryz.prog C8 ap ZU:=by
 intro f x h;unfold ZU at h
 cases hb:Nat.beq f 134 with
 | false=>rw[hb] at h;simp at h
 | true=>
  rw[hb] at h;have hf:f=134:=Nat.eq_of_beq_eq_true hb;subst hf;simp at h;subst h;exact⟨_,Tryz.func134,by kernel_rfl,rfl,rfl,by kernel_rfl⟩
theorem Ho (ls bs:List Nat) {g:FuncId} {x:fL} (hx:ZU g=some x) {args:List ac} {heap:Heap} {next:Nat} {r:ew} (h:(KU (Oz ls) (Oz bs) (env au.aI) cJ C8 ap x g args heap next).Ok Tryz.prog cJ (fun y=>y=r)) :
  KC g args heap next (XQ r):=wv (FI G8 U6 hx (fun _ _=>h))
noncomputable def hTn:Hints:=⟨C8,vz,ap,rowsOf ap 134⟩
def Mx (lo:Heap) (s:List aq) (i:Int):ab:=⟨[(5,iv i),(2,.ptr (.loc 2) 0),(1,.own s)],lo,[],0⟩
def Pb (lo:Heap) (s:List aq) (i:Int):ab:=⟨[(17,bv false),(5,iv i),(2,.ptr (.loc 2) 0),(1,.own s)],lo,[],0⟩
theorem OP {k:Int} {nm:List UInt8} {ix:Int} {x:aq} {es:List aq} {l:List Ty} {t:Ty} {i:Nat} {s s2:List aq} (hl:ax l=x::es) (hi:i < (ax l).length) (ht:l[i]?=some t)
  (hc:ag 134 [.dat t.enc,.own s] (.own s2)) {T:Exit->aa->Prop}
  (e:T .normal ((Mx (fX 2 k nm ix (.slice (x::es))) s2 (aG .i64 (Int.ofNat i+1))).aw Tryz.f134.ntmps)) :
  KD (roundOf Tryz.f134 0) T ((Mx (fX 2 k nm ix (.slice (x::es))) s (Int.ofNat i)).aw Tryz.f134.ntmps):=by
 have h1:=bd hi;have h2:=jU ht;rw[hl] at h1 h2;clear ht hi hl;obtain⟨k2,nm2,ix2,a2⟩:=t
 rcases a2 with _|⟨b2,d2⟩ <;>
 ·refine aB [17] [23] (H:=hTn) (live:=nT) (by kernel_rfl) ?_;refine ob h1 ?_;refine oo h2 ?_;refine on hc ?_;exact oe e
theorem U1 {k:Int} {nm:List UInt8} {ix:Int} {l s:List aq} {T:Exit->aa->Prop} (e:T (.exit 0) ((Pb (fX 2 k nm ix (sl l)) s (Int.ofNat l.length)).aw Tryz.f134.ntmps)) :
  KD (roundOf Tryz.f134 0) T ((Mx (fX 2 k nm ix (sl l)) s (Int.ofNat l.length)).aw Tryz.f134.ntmps):=by
 have h1:=br (i:=l.length) (L:=l.length) (by omega)
 rcases l with _|⟨x,l⟩
 ·refine aB [] [] (H:=hTn) (live:=nT) (by kernel_rfl) ?_;exact oe e
 refine aB [17] [] (H:=hTn) (live:=nT) (by kernel_rfl) ?_;refine ob h1 ?_;exact oe e
theorem OQ {k:Int} {nm:List UInt8} {ix:Int} {l s s1 s2:List aq} {ck:Bool} (hk:aQ k 2=ck)
  (ha:ck=true->ag 108 [.own s,.dat (sb nm)] (.own s1)) (he:ck=false->s1=s)
  (hl:KD (.loop (roundOf Tryz.f134 0)) (fun e s'=>e=.exit 0/\s'=(Pb (fX 2 k nm ix (sl l)) s2 (Int.ofNat l.length)).aw Tryz.f134.ntmps) ((Mx (fX 2 k nm ix (sl l)) s1 (Int.ofNat 0)).aw Tryz.f134.ntmps)) :
  ag 134 [.dat (.agg [i64 k,sb nm,i64 ix,sl l]),.own s] (.own s2):=by
 cases ck
 ·obtain rfl:=he rfl;clear he ha
  rcases l with _|⟨x,l⟩ <;>
  ·refine Ho [8] [] (x:=fL.of Tryz.f134 vz nT) (by kernel_rfl) ?_;refine ob hk ?_;refine lo hl ?_;rintro ex s ⟨rfl,rfl⟩;refine⟨_,rfl,?_⟩;exact fi
 have ha2:=ha rfl;clear he ha
 rcases l with _|⟨x,l⟩ <;>
 ·refine Ho [8] [] (x:=fL.of Tryz.f134 vz nT) (by kernel_rfl) ?_;refine ob hk ?_;refine on ha2 ?_;refine lo hl ?_;rintro ex s ⟨rfl,rfl⟩;refine⟨_,rfl,?_⟩;exact fi
def RN (t:Ty) (s:List (List UInt8)):Prop:=ag 134 [.dat t.enc,.own (s.map sb)] (.own ((t.cn s).map sb))
theorem ZT {k:Int} {nm:List UInt8} {ix:Int} {l:List Ty} {b:Nat} {s:List (List UInt8)} (hs:gl b s) (hbd:b+1+aS l < 100000000)
  (ih:∀t∈l,∀s2,(∃b2,gl b2 s2/\b2+t.size<=b+1+aS l)->RN t s2):RN (.mk k nm ix l) s:=by
 have hlen:=eh l;have hs1:=zu (k:=k) (nm:=nm) hs;have ha:aQ k 2=true->ag 108 [.own (s.map sb),.dat (sb nm)] (.own ((gZ k nm s).map sb)):=by
  intro hk;unfold gZ;rw[hk];dsimp only;rw[←ue hs.1];exact aat (by have:=hs.2;omega)
 have he:aQ k 2=false->(gZ k nm s).map sb=s.map sb:=by
  intro h;unfold gZ;rw[h]
 refine OQ rfl ha he ?_;refine ba (St:=fun i=>(Mx (fX 2 k nm ix (sl (ax l))) ((AY (l.take i) (gZ k nm s)).map sb) (Int.ofNat i)).aw Tryz.f134.ntmps) (ax l).length ?_ ?_ (i:=0) (Nat.zero_le _)
 ·intro i hi;obtain⟨t,ht,hmem⟩:=get_mem hi;have hi2:=hi;rw[aE] at hi2;obtain⟨x,es,hx⟩:∃x es,ax l=x::es:=by
   cases hl:ax l with
   | nil=>rw[hl] at hi;simp at hi
   | cons x es=>exact⟨x,es,rfl⟩
  have hst:=ij ht;have hsl:=mM (l:=l) (i+1);have hpre:gl (b+1+aS (l.take i)) (AY (l.take i) (gZ k nm s)):=Er _ hs1;have hcf:=ih t hmem (AY (l.take i) (gZ k nm s)) ⟨_,hpre,by omega⟩;unfold RN at hcf;have e:=OP (T:=iY (fun s'=>s'=(Mx (fX 2 k nm ix (sl (ax l))) ((AY (l.take (i+1)) (gZ k nm s)).map sb) (Int.ofNat (i+1))).aw Tryz.f134.ntmps)
   (fun e s'=>e=.exit 0/\s'=(Pb (fX 2 k nm ix (sl (ax l))) (((Ty.mk k nm ix l).cn s).map sb) (Int.ofNat (ax l).length)).aw Tryz.f134.ntmps)) (k:=k) (nm:=nm) (ix:=ix) hx hi ht hcf (by
    rw[hx,bb (by omega),Hi ht];rfl)
  rw[hx];rw[hx] at e;exact e
 refine U1 ⟨rfl,?_⟩;rw[aE,List.take_length,Ty.cn]
mutual
theorem aes:∀(t:Ty) {b:Nat} {s:List (List UInt8)},gl b s->b+t.size < 100000000->RN t s
 | .mk k nm ix l,b,s,hs,hb=>by
  simp only[Ty.size] at hb;exact ZT hs (by omega) (YO l (by omega))
theorem YO:∀(l:List Ty) {B:Nat},B < 100000000->∀t∈l,∀s2,(∃b2,gl b2 s2/\b2+t.size<=B)->RN t s2
 | [],B,_,t,ht,_,_=>by simp at ht
 | y::r,B,hB,t,ht,s2,h2=>by
  rcases List.mem_cons.1 ht with h3|ht
  ·obtain⟨b2,h4,h5⟩:=h2;rw[h3] at h5 ⊢;exact aes y h4 (by omega)
  exact YO r hB t ht s2 h2
end
theorem VW {g:FuncId} {a:ac} {heap:Heap} {next:Nat} {Q:ac->Heap->Nat->Prop} (h:KC g [a,.own []] heap next Q):KC g [a,.dat nl] heap next Q:=by
 intro w R N cargs bsA bsH bsF ha hh hnd hnx hg hF;obtain⟨v0,r1,c0,d1,rfl,rfl,h0,hr1⟩:=az ha;obtain⟨v1,r2,c1,d2,rfl,rfl,h1,hr2⟩:=az hr1;obtain⟨rfl,rfl⟩:=aR hr2;simp only[al] at h1;obtain⟨rfl,h1⟩:=h1;have h1:dN w R v1 (.flat (.slice none 0 0)):=h1;have e1:v1=.slice none 0 0:=by cases h1 with|flat _=>rfl
 subst e1;exact h w R N _ _ _ _ (aH h0 (aH (b1:=[]) (b2:=[]) (by simp only[al];exact .nil) aX)) hh hnd hnx hg hF
theorem aac {k:Int} {nm:List UInt8} {ix:Int} {l s:List aq} (h:ag 134 [.dat (.agg [i64 k,sb nm,i64 ix,sl l]),.dat nl] (.own s)):ag 109 [.dat (.agg [i64 k,sb nm,i64 ix,sl l])] (.own s):=by
 rcases l with _|⟨x,l⟩ <;>
 ·refine co [] [] (x:=.of Tryz.f109 IU LL) ?_;refine on h ?_;exact fi
theorem wR {t:Ty} (hs:t.size < 100000000):ag 109 [.dat t.enc] (.own (t.yo.map sb)):=by
 have h1:RN t []:=aes t (b:=0) ⟨List.Pairwise.nil,Nat.le_refl 0⟩ (by omega);unfold RN at h1;have h2:=VW h1;unfold Ty.yo;obtain⟨k,nm,ix,l⟩:=t;exact aac h2
def hasB (l:List (List UInt8)) (x:List UInt8):Bool:=l.any (fun y=>dv y x)
theorem NC {l:List (List UInt8)} {x t:List UInt8} {i:Nat} (h:l[i]?=some t):hasB (l.drop i) x=(dv t x||hasB (l.drop (i+1)) x):=by rw[dC h];rfl
theorem jV {l:List (List UInt8)} {x:List UInt8}:hasB l x=true↔x∈l:=by
 unfold hasB;rw[List.any_eq_true]
 constructor
 ·rintro⟨y,h1,h2⟩;rw[←mz h2];exact h1
 intro h;exact⟨x,h,hU x⟩
noncomputable def hCo:Hints:=⟨an,DH,ap,rowsOf ap 107⟩
def Pu (l:aq) (x:List UInt8) (i:Int):ab:=⟨[(5,iv i),(0,.dat l),(1,.dat (sb x))],[],[],0⟩
def YH (l:aq) (x:List UInt8) (i:Int):ab:=⟨[(9,bv false),(5,iv i),(0,.dat l),(1,.dat (sb x))],[],[],0⟩
def YI:ab:=⟨[(4,bv true)],[],[],0⟩
theorem TZ {es:List aq} {x y:List UInt8} {i:Nat} {c:Bool} (h1:bn (Int.ofNat i) (Int.ofNat es.length)=true) (h2:aJ (env au.aI) 60 [.dat (.slice es),.dat (.flat (.int .i64 (Int.ofNat i)))]=some ⟨.ref [sb y],.keep⟩) (hc:dv y x=c) {T:Exit->aa->Prop}
  (e1:c=false->T .normal ((Pu (.slice es) x (aG .i64 (Int.ofNat i+1))).aw Tryz.f107.ntmps)) (e2:c=true->T .ret (YI.aw Tryz.f107.ntmps)) :
  KD (roundOf Tryz.f107 0) T ((Pu (.slice es) x (Int.ofNat i)).aw Tryz.f107.ntmps):=by
 refine aB [9,17] [14] (H:=hCo) (live:=tY) (by kernel_rfl) ?_;refine ob h1 ?_;refine oo h2 ?_;refine ob hc ?_
 cases c
 ·exact oe (e1 rfl)
 exact oe (e2 rfl)
theorem XW {l:List aq} {x:List UInt8} {T:Exit->aa->Prop} (e:T (.exit 0) ((YH (sl l) x (Int.ofNat l.length)).aw Tryz.f107.ntmps)) :
  KD (roundOf Tryz.f107 0) T ((Pu (sl l) x (Int.ofNat l.length)).aw Tryz.f107.ntmps):=by
 have h1:=br (i:=l.length) (L:=l.length) (by omega)
 rcases l with _|⟨y,l⟩
 ·refine aB [] [] (H:=hCo) (live:=tY) (by kernel_rfl) ?_;exact oe e
 refine aB [9] [] (H:=hCo) (live:=tY) (by kernel_rfl) ?_;refine ob h1 ?_;exact oe e
theorem ac3 {l:List aq} {x:List UInt8} {d:Bool}
  (hl:KD (.loop (roundOf Tryz.f107 0)) (fun e s=>(e=.exit 0/\d=false/\s=(YH (sl l) x (Int.ofNat l.length)).aw Tryz.f107.ntmps)∨(e=.ret/\d=true/\s=YI.aw Tryz.f107.ntmps)) ((Pu (sl l) x (Int.ofNat 0)).aw Tryz.f107.ntmps)) :
  ag 107 [.dat (sl l),.dat (sb x)] (bv d):=by
 rcases l with _|⟨y,l⟩ <;>
 ·refine co [] [] (x:=.of Tryz.f107 DH tY) ?_;refine lo hl ?_;rintro ex s (⟨rfl,rfl,rfl⟩|⟨rfl,rfl,rfl⟩) <;>
  ·refine⟨_,rfl,?_⟩;exact fi
theorem aei {l:List (List UInt8)} {i:Nat} {t:List UInt8} (h:l[i]?=some t):sl (l.map sb)=.slice (l.map sb):=by
 cases l with
 | nil=>simp at h
 | cons x r=>rfl
theorem Iq {l:List (List UInt8)} {x:List UInt8} (hn:l.length < 100000000):ag 107 [.dat (sl (l.map sb)),.dat (sb x)] (bv (hasB l x)):=by
 refine ac3 ?_;refine cE (St:=fun i=>(Pu (sl (l.map sb)) x (Int.ofNat i)).aw Tryz.f107.ntmps) (fun i=>hasB l x=hasB (l.drop i) x) (l.map sb).length ?_ ?_ (i:=0) (Nat.zero_le _) rfl
 ·intro i hi hI;rw[List.length_map] at hi;have hg:l[i]?=some l[i]:=List.getElem?_eq_getElem hi;generalize l[i]=y at hg;have hd:=NC (x:=x) hg;rw[←hI] at hd;have hw:aG .i64 (Int.ofNat i+1)=Int.ofNat (i+1):=bb (by omega);rw[aei hg];refine TZ (bd (by simpa using hi)) (pK hg) rfl ?_ ?_
  ·intro hc;rw[hw];rw[hc,Bool.false_or] at hd;exact⟨rfl,hd⟩
  intro hc;rw[hc,Bool.true_or] at hd;exact .inr ⟨rfl,hd,rfl⟩
 intro hI;refine XW (.inl ⟨rfl,?_,rfl⟩);rw[hI,List.length_map,List.drop_length];rfl
def JC (E:List (Go.Value×aq)) (cs:List aq) (es:List (Go.Value×aq)) (n:Nat):Heap:=(.out 3,.map E)::hG 2 (av cs) es n
abbrev oG (g:FuncId) (args:List ac) (E:List (Go.Value×aq)) (cs:List aq) (es:List (Go.Value×aq)) (n:Nat) (v:ac) (E2:List (Go.Value×aq)):Prop:=KC g args (JC E cs es n) 4 (XQ ⟨v,JC E2 cs es n,4⟩)
theorem gcS (v:ac) (E:List (Go.Value×aq)) (cs:List aq) (es:List (Go.Value×aq)) (n:Nat) (hv:du 4 v=false):ri 4 ⟨v,JC E cs es n,4⟩=⟨v,JC E cs es n,4⟩:=by
 have h1:eH 4 (JC E cs es n)=JC E cs es n:=rfl;have h2:cC 4 (JC E cs es n)=false:=by simp[cC,JC,hG,ly,jD,dt,du];exact⟨rfl,rfl⟩
 unfold ri;dsimp only;rw[h1,h2,hv];rfl
def mS:ac:=.map (.out 3)
noncomputable def hCr:Hints:=⟨an,Cm,ap,rowsOf ap 71⟩
theorem aal {E es:List (Go.Value×aq)} {cs:List aq} {n:Nat} {nm dn sn:List UInt8} {ar k ix:Int} {sa lb:List aq} {con:Bool}
  (hf:oG 49 [hP,.dat (sb nm)] E cs es n (.tup [.dat (dw dn ar k sn ix sa con lb),bv false]) E) :
  oG 71 [hP,.dat (sb nm),mS] E cs es n (.tup []) E:=by
 have q1:=cG 6 dn ar k sn ix sa con lb;have hg:=gcS (.tup []) E cs es n rfl;refine co [] [100006] (x:=.of Tryz.f71 Cm pE) ?_;refine oh hf ?_;refine oo q1 ?_;exact bB (by kernel_rfl) hg
theorem P2 {E es:List (Go.Value×aq)} {cs:List aq} {n:Nat} {nm dn sn:List UInt8} {ar k ix:Int} {sa lb:List aq} {con:Bool}
  (hf:oG 49 [hP,.dat (sb nm)] E cs es n (.tup [.dat (dw dn ar k sn ix sa con lb),bv true]) E)
  (hs:eM (env au.aI) 97 false [.map (.out 3),.dat (sb nm)] (some (.map E))=some ⟨bv true,.keep⟩) :
  oG 71 [hP,.dat (sb nm),mS] E cs es n (.tup []) E:=by
 have q1:=cG 6 dn ar k sn ix sa con lb;have hg:=gcS (.tup []) E cs es n rfl;refine co [] [100006,24] (x:=.of Tryz.f71 Cm pE) ?_;refine oh hf ?_;refine oo q1 ?_;refine oo hs ?_;exact bB (by kernel_rfl) hg
def Mz (fl A:List aq) (E:List (Go.Value×aq)) (cs:List aq) (es:List (Go.Value×aq)) (n:Nat) (i:Int):ab:=⟨[(34,iv i),(33,iv (Int.ofNat fl.length)),(32,.dat (sl fl)),(8,.own A),(0,hP),(2,mS)],[],JC E cs es n,4⟩
def Kv (fl A:List aq) (E:List (Go.Value×aq)) (cs:List aq) (es:List (Go.Value×aq)) (n:Nat) (i:Int):ab:=⟨[(35,bv false),(34,iv i),(33,iv (Int.ofNat fl.length)),(32,.dat (sl fl)),(8,.own A),(0,hP),(2,mS)],[],JC E cs es n,4⟩
def My (A:List aq) (E:List (Go.Value×aq)) (cs:List aq) (es:List (Go.Value×aq)) (n:Nat) (i:Int):ab:=⟨[(46,iv i),(45,iv (Int.ofNat A.length)),(44,.dat (.slice A)),(0,hP),(2,mS)],[],JC E cs es n,4⟩
def Ku (A:List aq) (E:List (Go.Value×aq)) (cs:List aq) (es:List (Go.Value×aq)) (n:Nat) (i:Int):ab:=⟨[(47,bv false),(46,iv i),(45,iv (Int.ofNat A.length)),(44,.dat (.slice A)),(0,hP),(2,mS)],[],JC E cs es n,4⟩
theorem Qh {l:List dY} {f:dY} {i n:Nat} {A B:List aq} {E es:List (Go.Value×aq)} {cs:List aq} {T:Exit->aa->Prop} (hi:i < (aN l).length) (ht:l[i]?=some f)
  (hc:ag 100 [.dat f.ty.enc] (.own B)) (ha:cj (env au.aI) false 60 [.own A,.dat (.slice B)] none=some ⟨.own (A++B),.keep⟩)
  (e:T .normal ((Mz (aN l) (A++B) E cs es n (aG .i64 (Int.ofNat i+1))).aw Tryz.f71.ntmps)) :
  KD (roundOf Tryz.f71 0) T ((Mz (aN l) A E cs es n (Int.ofNat i)).aw Tryz.f71.ntmps):=by
 have h1:=bd hi;have h2:=sG ht;obtain⟨x,r,hx⟩:∃x r,aN l=x::r:=by cases l with|nil=>simp at ht|cons x r=>exact⟨_,_,rfl⟩
 rw[hx] at h1 h2 e ⊢;clear ht hi hx;obtain⟨fnm,fk,ftn,fix,fa⟩:=f
 rcases fa with _|⟨b2,d2⟩ <;>
 ·refine aB [35] [36,42] (H:=hCr) (live:=pE) (by kernel_rfl) ?_;refine ob h1 ?_;refine oo h2 ?_;refine on hc ?_;refine oo ha ?_;exact oe e
theorem VG {l A:List aq} {n:Nat} {E es:List (Go.Value×aq)} {cs:List aq} {T:Exit->aa->Prop} (e:T (.exit 0) ((Kv l A E cs es n (Int.ofNat l.length)).aw Tryz.f71.ntmps)) :
  KD (roundOf Tryz.f71 0) T ((Mz l A E cs es n (Int.ofNat l.length)).aw Tryz.f71.ntmps):=by
 have h1:=br (i:=l.length) (L:=l.length) (by omega);refine aB [35] [] (H:=hCr) (live:=pE) (by kernel_rfl) ?_;refine ob h1 ?_;exact oe e
theorem Qg {A:List aq} {b:List UInt8} {i n:Nat} {E E2 es:List (Go.Value×aq)} {cs:List aq} {T:Exit->aa->Prop} (h1:bn (Int.ofNat i) (Int.ofNat A.length)=true)
  (h2:aJ (env au.aI) 60 [.dat (.slice A),.dat (.flat (.int .i64 (Int.ofNat i)))]=some ⟨.ref [sb b],.keep⟩)
  (hc:oG 71 [hP,.dat (sb b),mS] E cs es n (.tup []) E2)
  (e:T .normal ((My A E2 cs es n (aG .i64 (Int.ofNat i+1))).aw Tryz.f71.ntmps)) :
  KD (roundOf Tryz.f71 1) T ((My A E cs es n (Int.ofNat i)).aw Tryz.f71.ntmps):=by
 refine aB [47] [48] (H:=hCr) (live:=pE) (by kernel_rfl) ?_;refine ob h1 ?_;refine oo h2 ?_;refine oh hc ?_;exact oe e
theorem VF {A:List aq} {n:Nat} {E es:List (Go.Value×aq)} {cs:List aq} {T:Exit->aa->Prop} (e:T (.exit 2) ((Ku A E cs es n (Int.ofNat A.length)).aw Tryz.f71.ntmps)) :
  KD (roundOf Tryz.f71 1) T ((My A E cs es n (Int.ofNat A.length)).aw Tryz.f71.ntmps):=by
 have h1:=br (i:=A.length) (L:=A.length) (by omega);refine aB [47] [] (H:=hCr) (live:=pE) (by kernel_rfl) ?_;refine ob h1 ?_;exact oe e
theorem Vv {E E2 E3 es:List (Go.Value×aq)} {cs A0 A:List aq} {n:Nat} {nm dn sn:List UInt8} {ar k ix:Int} {sa lb:List aq} {con:Bool}
  (hf:oG 49 [hP,.dat (sb nm)] E cs es n (.tup [.dat (dw dn ar k sn ix sa con lb),bv true]) E)
  (hs:eM (env au.aI) 97 false [.map (.out 3),.dat (sb nm)] (some (.map E))=some ⟨bv false,.keep⟩)
  (hp:cM (env au.aI) 97 [.map (.out 3),.dat (sb nm),bv true] (some (.map E))=some ⟨.undef,.set (.map E2)⟩)
  (hn:ag 100 [.dat (.agg [i64 k,sb sn,i64 ix,sl sa])] (.own A0))
  (hl1:KD (.loop (roundOf Tryz.f71 0)) (fun e s=>e=.exit 0/\s=(Kv lb A E2 cs es n (Int.ofNat lb.length)).aw Tryz.f71.ntmps) ((Mz lb A0 E2 cs es n (Int.ofNat 0)).aw Tryz.f71.ntmps))
  (hl2:KD (.loop (roundOf Tryz.f71 1)) (fun e s=>e=.exit 2/\s=(Ku A E3 cs es n (Int.ofNat A.length)).aw Tryz.f71.ntmps) ((My A E2 cs es n (Int.ofNat 0)).aw Tryz.f71.ntmps)) :
  oG 71 [hP,.dat (sb nm),mS] E cs es n (.tup []) E3:=by
 have q1:=cG 6 dn ar k sn ix sa con lb;have hg:=gcS (.tup []) E3 cs es n rfl;refine co [] [100006,24,100026] (x:=.of Tryz.f71 Cm pE) ?_;refine oh hf ?_;refine oo q1 ?_;refine oo hs ?_;refine oo hp ?_
 rcases sa with _|⟨v2,v3⟩
 ·refine on hn ?_
  rcases lb with _|⟨v0,v1⟩ <;>
  ·refine lo hl1 ?_;rintro ex s ⟨rfl,rfl⟩;refine⟨_,rfl,?_⟩;refine lo hl2 ?_;rintro ex s ⟨rfl,rfl⟩;refine⟨_,rfl,?_⟩;exact bB (by kernel_rfl) hg
 refine on hn ?_
 rcases lb with _|⟨v4,v5⟩ <;>
 ·refine lo hl1 ?_;rintro ex s ⟨rfl,rfl⟩;refine⟨_,rfl,?_⟩;refine lo hl2 ?_;rintro ex s ⟨rfl,rfl⟩;refine⟨_,rfl,?_⟩;exact bB (by kernel_rfl) hg
def da (d:aZ):List (List UInt8):=d.sup.yo++d.fl.flatMap (fun f=>f.ty.yo)
def gQ (ds:List aZ):Nat->List UInt8->List (List UInt8)->List (List UInt8)
 | 0,_,S=>S
 | f+1,nm,S=>match aF ds nm with
  | none=>S
  | some d=>match hasB S nm with
   | true=>S
   | false=>(da d).foldl (fun S n=>gQ ds f n S) (S++[nm])
theorem mY {g:List (List UInt8)->List UInt8->List (List UInt8)} (hg:∀S n x,x∈S->x∈g S n):∀(l:List (List UInt8)) {S:List (List UInt8)} {x:List UInt8},x∈S->x∈l.foldl g S
 | [],_,_,h=>h
 | n::r,_,_,h=>mY hg r (hg _ n _ h)
theorem zJ (ds:List aZ):∀(f:Nat) (nm:List UInt8) (S:List (List UInt8)) (x:List UInt8),x∈S->x∈gQ ds f nm S
 | 0,_,_,_,h=>h
 | f+1,nm,S,x,h=>by
  rw[gQ]
  cases aF ds nm with
  | none=>exact h
  | some d=>
   dsimp only
   cases hasB S nm with
   | true=>exact h
   | false=>exact mY (fun S n x hx=>zJ ds f n S x hx) _ (List.mem_append_left _ h)
def pz (ds:List aZ) (S:List (List UInt8)):Nat:=ds.countP (fun d=>!hasB S d.nm)
theorem Gd {ds:List aZ} {S S2:List (List UInt8)} (h:∀x∈S,x∈S2):pz ds S2<=pz ds S:=by
 refine List.countP_mono_left ?_;intro d _ hd
 cases h1:hasB S d.nm with
 | false=>rfl
 | true=>rw[jV.2 (h _ (jV.1 h1))] at hd;simp at hd
theorem xv {α:Type} {p q:α->Bool}:∀{l:List α} {d:α},(∀x∈l,q x=true->p x=true)->d∈l->p d=true->q d=false->l.countP q < l.countP p
 | [],_,_,h,_,_=>by simp at h
 | x::r,d,h,hm,h1,h2=>by
  have hr:r.countP q<=r.countP p:=List.countP_mono_left (fun y hy=>h y (List.mem_cons_of_mem _ hy))
  rcases List.mem_cons.1 hm with rfl|hm
  ·rw[List.countP_cons_of_pos h1,List.countP_cons_of_neg (by simp[h2])];omega
  have ih:=xv (fun y hy=>h y (List.mem_cons_of_mem _ hy)) hm h1 h2;have hx:=h x List.mem_cons_self
  cases hq:q x with
  | true=>rw[List.countP_cons_of_pos hq,List.countP_cons_of_pos (hx hq)];omega
  | false=>
   rw[List.countP_cons_of_neg (by simp[hq])]
   cases hp:p x with
   | true=>rw[List.countP_cons_of_pos hp];omega
   | false=>rw[List.countP_cons_of_neg (by simp[hp])];exact ih
theorem eZ:∀{ds:List aZ} {nm:List UInt8} {d:aZ},aF ds nm=some d->d∈ds/\d.nm=nm
 | [],nm,d,h=>by simp[aF] at h
 | e::r,nm,d,h=>by
  unfold aF at h
  split at h
  ·rename_i he;simp at h;subst h;exact⟨List.mem_cons_self,(mz he).symm⟩
  obtain⟨h1,h2⟩:=eZ h;exact⟨List.mem_cons_of_mem _ h1,h2⟩
theorem Gc {ds:List aZ} {S S2:List (List UInt8)} {nm:List UInt8} {d:aZ} (hf:aF ds nm=some d) (hb:hasB S nm=false) (h:∀x∈S,x∈S2) (hn:nm∈S2):pz ds S2 < pz ds S:=by
 obtain⟨h1,h2⟩:=eZ hf;refine xv (d:=d) ?_ h1 ?_ ?_
 ·intro e _ he
  cases h3:hasB S e.nm with
  | false=>rfl
  | true=>rw[jV.2 (h _ (jV.1 h3))] at he;simp at he
 ·rw[h2,hb];rfl
 rw[h2,jV.2 hn];rfl
def dS (S:List (List UInt8)):List (Go.Value×aq):=S.map (fun s=>(.string ⟨⟨s⟩⟩,bl true))
theorem pU:∀(l:List (List UInt8)) (nm:List UInt8) (j:Nat),findF .string (.string ⟨⟨nm⟩⟩) (dS l) j=some (match hasB l nm with|true=>some (match findF .string (.string ⟨⟨nm⟩⟩) (dS l) j with|some (some (i,_))=>i|_=>0,bl true)|false=>none)
 | [],nm,j=>rfl
 | d::r,nm,j=>by
  have e:findF .string (.string ⟨⟨nm⟩⟩) (dS (d::r)) j=(match tu .string (.string ⟨⟨nm⟩⟩) (.string ⟨⟨d⟩⟩) with|some true=>some (some (j,bl true))|some false=>findF .string (.string ⟨⟨nm⟩⟩) (dS r) (j+1)|none=>none):=rfl;have e2:hasB (d::r) nm=(dv d nm||hasB r nm):=rfl;rw[e,show tu .string (.string ⟨⟨nm⟩⟩) (.string ⟨⟨d⟩⟩)=some (dv nm d) from rfl,e2,show dv d nm=dv nm d by rw[io,io,Bool.eq_iff_iff];simp only[beq_iff_eq];exact eq_comm]
  cases he:dv nm d with
  | true=>rfl
  | false=>rw[Bool.false_or];exact pU r nm (j+1)
theorem I3 (l:List (List UInt8)) (nm:List UInt8):eM (env au.aI) 97 false [.map (.out 3),.dat (sb nm)] (some (.map (dS l)))=some ⟨bv (hasB l nm),.keep⟩:=by
 have h1:eM (env au.aI) 97 false [.map (.out 3),.dat (sb nm)] (some (.map (dS l)))=(match findF .string (.string ⟨⟨nm⟩⟩) (dS l) 0 with
  | some (some (_,d))=>some ⟨.dat d,.keep⟩|some none=>some ⟨bv false,.keep⟩|none=>none):=by kernel_rfl
 rw[h1,pU]
 cases hasB l nm <;> rfl
theorem M6 {l:List (List UInt8)} {nm:List UInt8} (h:hasB l nm=false):cM (env au.aI) 97 [.map (.out 3),.dat (sb nm),bv true] (some (.map (dS l)))=some ⟨.undef,.set (.map (dS (l++[nm])))⟩:=by
 have h1:cM (env au.aI) 97 [.map (.out 3),.dat (sb nm),bv true] (some (.map (dS l)))=(match findF .string (.string ⟨⟨nm⟩⟩) (dS l) 0 with
  | some (some (i,_))=>some ⟨.undef,.set (.map (setAt i (bl true) (dS l)))⟩|some none=>some ⟨.undef,.set (.map (dS l++[(.string ⟨⟨nm⟩⟩,bl true)]))⟩|none=>none):=by kernel_rfl
 rw[h1,pU,h];simp[dS]
theorem kI {α β:Type} {g:α->List β} {l:List α} {i:Nat} {t:α} (h:l[i]?=some t):(l.take (i+1)).flatMap g=(l.take i).flatMap g++g t:=by rw[dZ h,List.flatMap_append];simp
theorem pT {g:dY->List (List UInt8)} {B:Nat}:∀{l:List dY},(∀f∈l,(g f).length<=B)->(l.flatMap g).length<=l.length*B
 | [],_=>by simp
 | x::r,h=>by
  have h1:=h x List.mem_cons_self;have h2:=pT (g:=g) (B:=B) (l:=r) (fun f hf=>h f (List.mem_cons_of_mem _ hf));rw[List.flatMap_cons,List.length_append,List.length_cons,Nat.succ_mul];omega
def aZ.low (d:aZ):Prop:=d.sup.size<=200/\d.fl.length<=6/\∀f∈d.fl,f.ty.size<=200
theorem lQ {t:Ty} (h:t.size<=200):t.yo.length<=200:=by have:=(R8 (t:=t)).2;omega
theorem Mc {ds:List aZ} {tl:List aq} (hds:∀d∈ds,d.low):∀(f:Nat) (nm:List UInt8) (S:List (List UInt8)),pz ds S < f->
  oG 71 [hP,.dat (sb nm),mS] (dS S) (bL ds++tl) (bH ds 0) ds.length (.tup []) (dS (gQ ds f nm S))
 | 0,_,_,h=>by omega
 | f+1,nm,S,h=>by
  have hf:=EB 2 4 [(.out 3,.map (dS S))] ds tl nm;rw[gQ]
  cases hfd:aF ds nm with
  | none=>
   rw[hfd] at hf;exact aal hf
  | some d=>
   rw[hfd] at hf;dsimp only;have hs:=I3 S nm
   cases hb:hasB S nm with
   | true=>
    rw[hb] at hs;obtain⟨dn,ar,⟨sk,sn,six,sa⟩,con,fl⟩:=d;exact P2 hf hs
   | false=>
    rw[hb] at hs;have hp:=M6 hb;obtain⟨l1,l2,l3⟩:=hds d (eZ hfd).1;have hn:=Mg (t:=d.sup) (by omega);have hfl:=pT (g:=fun f=>f.ty.yo) (B:=200) (fun f hf=>lQ (l3 f hf));have hn0:=lQ l1;have hlt:pz ds (S++[nm]) < pz ds S:=Gc hfd hb (fun x hx=>List.mem_append_left _ hx) (by simp);have hl1:KD (.loop (roundOf Tryz.f71 0)) (fun e s=>e=.exit 0/\s=(Kv (aN d.fl) ((da d).map sb) (dS (S++[nm])) (bL ds++tl) (bH ds 0) ds.length (Int.ofNat (aN d.fl).length)).aw Tryz.f71.ntmps)
      ((Mz (aN d.fl) (d.sup.yo.map sb) (dS (S++[nm])) (bL ds++tl) (bH ds 0) ds.length (Int.ofNat 0)).aw Tryz.f71.ntmps):=by
     refine ba (St:=fun i=>(Mz (aN d.fl) ((d.sup.yo++(d.fl.take i).flatMap (fun f=>f.ty.yo)).map sb) (dS (S++[nm])) (bL ds++tl) (bH ds 0) ds.length (Int.ofNat i)).aw Tryz.f71.ntmps) (aN d.fl).length ?_ ?_ (i:=0) (Nat.zero_le _) |> (fun h=>by simpa using h)
     ·intro i hi;obtain⟨t,ht,hm⟩:=gx hi;have hw:aG .i64 (Int.ofNat i+1)=Int.ofNat (i+1):=bb (by rw[bc] at hi;omega);have hlen:((d.fl.take i).flatMap (fun f=>f.ty.yo)).length<=(d.fl.take i).length*200:=pT (fun f hf=>lQ (l3 f (List.mem_of_mem_take hf)));rw[List.length_take] at hlen;have hle:min i d.fl.length*200<=6*200:=Nat.mul_le_mul_right _ (by omega);have ha:=gN (a:=d.sup.yo++(d.fl.take i).flatMap (fun f=>f.ty.yo)) (b:=t.ty.yo) (by have:=lQ (l3 t hm);rw[List.length_append];omega);refine Qh hi ht (Mg (by have:=l3 t hm;omega)) ha ?_;rw[hw,kI ht,←List.append_assoc,List.map_append];rfl
     have e:=VG (l:=aN d.fl) (A:=(da d).map sb) (n:=ds.length) (E:=dS (S++[nm])) (es:=bH ds 0) (cs:=bL ds++tl) (T:=iY (fun _=>False) (fun e s=>e=.exit 0/\s=(Kv (aN d.fl) ((da d).map sb) (dS (S++[nm])) (bL ds++tl) (bH ds 0) ds.length (Int.ofNat (aN d.fl).length)).aw Tryz.f71.ntmps)) ⟨rfl,rfl⟩;rw[bc] at e ⊢;rw[List.take_length];exact e
    have hl2:KD (.loop (roundOf Tryz.f71 1)) (fun e s=>e=.exit 2/\s=(Ku ((da d).map sb) (dS ((da d).foldl (fun S n=>gQ ds f n S) (S++[nm]))) (bL ds++tl) (bH ds 0) ds.length (Int.ofNat ((da d).map sb).length)).aw Tryz.f71.ntmps)
      ((My ((da d).map sb) (dS (S++[nm])) (bL ds++tl) (bH ds 0) ds.length (Int.ofNat 0)).aw Tryz.f71.ntmps):=by
     refine ba (St:=fun i=>(My ((da d).map sb) (dS (((da d).take i).foldl (fun S n=>gQ ds f n S) (S++[nm]))) (bL ds++tl) (bH ds 0) ds.length (Int.ofNat i)).aw Tryz.f71.ntmps) ((da d).map sb).length ?_ ?_ (i:=0) (Nat.zero_le _)
     ·intro i hi;have hi2:=hi;rw[List.length_map] at hi2;have hg:(da d)[i]?=some (da d)[i]:=List.getElem?_eq_getElem hi2;generalize (da d)[i]=b at hg;have hnl:(da d).length<=1400:=by
       unfold da;rw[List.length_append]
       have:d.fl.length*200<=6*200:=Nat.mul_le_mul_right _ l2
       omega
      have hw:aG .i64 (Int.ofNat i+1)=Int.ofNat (i+1):=bb (by omega);refine Qg (bd hi) (pK hg) (Mc hds f b _ ?_) ?_
      ·refine Nat.lt_of_le_of_lt (Gd ?_) (Nat.lt_of_lt_of_le hlt (Nat.le_of_lt_succ h));intro x hx;exact mY (fun S n x hx=>zJ ds f n S x hx) _ hx
      rw[hw,dZ hg,List.foldl_append];rfl
     have e:=VF (A:=(da d).map sb) (n:=ds.length) (E:=dS ((da d).foldl (fun S n=>gQ ds f n S) (S++[nm]))) (es:=bH ds 0) (cs:=bL ds++tl) (T:=iY (fun _=>False) (fun e s=>e=.exit 2/\s=(Ku ((da d).map sb) (dS ((da d).foldl (fun S n=>gQ ds f n S) (S++[nm]))) (bL ds++tl) (bH ds 0) ds.length (Int.ofNat ((da d).map sb).length)).aw Tryz.f71.ntmps)) ⟨rfl,rfl⟩;rw[List.length_map] at e ⊢;rw[List.take_length];exact e
    obtain⟨dn,ar,⟨sk,sn,six,sa⟩,con,fl⟩:=d;exact Vv hf hs hp hn hl1 hl2
end Go.Proofs.YtiihadmgkoamoaaGreatDoor
namespace Go.Proofs
open Go.Shelf
def Tryz.pI:Go.Shelf.Ren:=⟨fun|169=>78|n=>n,fun|70=>99|9=>9|0=>0|72=>102|37=>100|127=>137|3=>3|5=>5|n=>n,fun|n=>n⟩
theorem Tryz.W7:Go.Proofs.Lays.n169 Tryz.prog Tryz.pI:={
 mixed:=by kernel_rfl
 f169:=Tryz.func78.trans (congrArg some (by kernel_rfl))
 t0:=Tryz.underlying0
 a0:=Tryz.isAgg0
 z0:=Tryz.sizeOf0
 v0:=Tryz.zeroValue0
 t3:=Tryz.underlying3
 a3:=Tryz.isAgg3
 z3:=Tryz.sizeOf3
 v3:=Tryz.zeroValue3
 t9:=Tryz.underlying9
 a9:=Tryz.isAgg9
 z9:=Tryz.sizeOf9
 v9:=Tryz.zeroValue9
 t37:=Tryz.underlying100
 a37:=Tryz.isAgg100
 z37:=Tryz.sizeOf100
 v37:=Tryz.zeroValue100
 t70:=Tryz.underlying99
 a70:=Tryz.isAgg99
 z70:=Tryz.sizeOf99
 v70:=Tryz.zeroValue99
 t72:=Tryz.underlying102
 a72:=Tryz.isAgg102
 z72:=Tryz.sizeOf102
 v72:=Tryz.zeroValue102
 t127:=Tryz.underlying137
 a127:=Tryz.isAgg137
 z127:=Tryz.sizeOf137
 v127:=Tryz.zeroValue137 }
theorem Tryz.uX:Builder.Extra Tryz.prog Tryz.pI:={
 sizeBuilder:=by kernel_rfl
 liesBuilder:=by kernel_rfl
 t5:=Tryz.underlying5
 a5:=Tryz.isAgg5
 z5:=Tryz.sizeOf5
 v5:=Tryz.zeroValue5
 infoByte:=by kernel_rfl
 cellsByte:=by kernel_rfl
 sizeByte:=by kernel_rfl
 neB5:=by decide }
end Go.Proofs
namespace Go.Tp
open Go.Proofs Go.Shelf Go.RowKit
section
variable {P:Program} {ρ:Ren} {G:bJ}
def Zh (args:List ac) (heap:Heap) (next:Nat):Option ew:=
 match args with
 | [.ptr (.out k) 0]=>(match qm (.out k) heap with
  | some (.cells [.dat (.flat (.pointer none)),q])=>(match fj q with|true=>some ⟨.tup [],qk (.out k) (.cells [.ptr (.out k) 0,q]) heap,next⟩|false=>none)
  | some (.cells [.ptr (.out m) 0,q])=>(match Nat.beq m k&&fj q with|true=>some ⟨.tup [],heap,next⟩|false=>none)
  | _=>none)
 | _=>none
theorem qY {w:World} {R:Own} {N:Name->Option Nat} {p q:ac} {b:Nat} {b1:List Nat} (h:aU w R N (.cells [p,q]) b b1) (hp:xV p=true) (hq:fj q=true) :
  ∃v0 v1 c0 c1,w.heap[b]?=some (.cells #[v0,v1] rM (0,0))/\b1=c0++c1/\al w R N p v0 c0/\al w R N q v1 c1/\∀j,j < 2->R b j:=by
 obtain⟨vs,elem,sp,hblk,hr,hR,hsh⟩:=h;obtain⟨rfl,rfl⟩:=hsh (gM.2 ⟨p,_,rfl,hp,hq⟩);simp only[List.replicate_zero,List.append_nil] at hr;obtain⟨v0,r1,c0,d1,e1,rfl,h0,hr1⟩:=az hr;obtain⟨v1,r2,c1,d2,rfl,rfl,h1,hr2⟩:=az hr1;obtain⟨rfl,rfl⟩:=aR hr2;have hvs:vs=#[v0,v1]:=by apply Array.toList_inj.1;rw[e1]
 subst hvs;exact⟨v0,v1,c0,c1,hblk,by simp,h0,h1,fun j hj=>hR j (by simpa using hj)⟩
theorem DJ {w:World} {R:Own} {N:Name->Option Nat} {k:Nat} {cargs:List Value} {bs:List Nat} (h:ak w R (outs N) [.ptr (.out k) 0] cargs bs) :
  ∃b,N (.out k)=some b/\cargs=[.pointer (some ⟨b,0,none⟩)]/\bs=[]:=by
 obtain⟨v,vs',b1,b2,rfl,rfl,h1,h2⟩:=az h;obtain⟨rfl,rfl⟩:=aR h2;simp only[al] at h1;obtain⟨rfl,b,hb,rfl⟩:=h1;exact⟨b,by simpa [outs] using hb,rfl,rfl⟩
theorem Ug (L:Lays.n240 P ρ) (X:Builder.X72 P ρ) (hT:ρ.t 72=rM) {args:List ac} {heap:Heap} {next:Nat} {r:ew} (h:Zh args heap next=some r):aC P G (ρ.f 240) args heap next (XQ r):=by
 unfold Zh at h
 split at h
 rotate_left
 ·simp at h
 rename_i k;rw[lq] at h;intro w R N cargs bsA bsH bsF hargs hheap hnd hnx hglob hF;obtain⟨b,hb,rfl,rfl⟩:=DJ hargs
 split at h
 ·rename_i q hget
  split at h
  rotate_left
  ·simp at h
  rename_i hq;simp only[Option.some.injEq] at h;subst h;obtain⟨pre,b',b1,post,rfl,hb',hobj,hset⟩:=ao.split hheap hget
  have:b'=b:=by simp only[outs] at hb';rw[hb] at hb';simpa using hb'.symm
  subst this;obtain⟨v0,v1,c0,c1,hblk,rfl,h0,h1,hR⟩:=qY hobj rfl hq;obtain⟨rfl,rfl,_⟩:=aL h0;have hcell:w.cell? ⟨b',0,none⟩=some (.pointer none):=by simp[World.cell?,hblk]
  have hshape:w.shape? b'=some ((ρ.t 72),2):=by simp[World.shape?,hblk,hT]
  have hfz:w.frozen? ⟨b',0,none⟩=false:=by simp[World.frozen?,hblk]
  refine (Any.Builder_copyCheck_fresh L X b' w hcell hshape hfz).mono ?_;rintro e w' ⟨rfl,rfl⟩;rw[setCell_eq_setRow w b' 0 _ _ _ _ hblk];have hnd2:=hnd;simp only[List.nil_append] at hnd2;have hbn:∀c∈c1++(pre++(post++bsF)),c≠b':=by
   intro c hc e;subst e;have hp:((pre++(c::([]++c1))++post)++bsF).Perm (c::(c1++(pre++(post++bsF)))):=by
    rw[List.perm_iff_count];intro q;simp only[List.count_append,List.count_cons,List.count_nil];omega
   exact (List.nodup_cons.1 (hp.nodup_iff.1 hnd2)).1 hc
  have hk:∀bs:List Nat,b'∉bs->bA w R (w.setRow b' ((#[Value.pointer none,v1]).setIfInBounds 0 (.pointer (some ⟨b',0,none⟩)))) R bs:=fun bs hbs=>
   jL hblk _ (by simp) (fun _ _ h=>h) (fun _ _ _ h=>h) (fun off hnR=>by
    have:¬off < 2:=fun hlt=>hnR (hR off hlt)
    rw[Array.getElem?_eq_none (by simp;omega),Array.getElem?_eq_none (by simp;omega)]) ⟨0,hR 0 (by omega)⟩ bs hbs
  have hobj':aU (w.setRow b' ((#[Value.pointer none,v1]).setIfInBounds 0 (.pointer (some ⟨b',0,none⟩)))) R (outs N) (.cells [.ptr (.out k) 0,q]) b' ([]++c1):=by
   refine⟨_,rM,0,setRow_heap w b' _ _ _ _ hblk,?_,fun j hj=>hR j (by simpa using hj),fun _=>⟨rfl,rfl⟩⟩;have q1:al (w.setRow b' ((#[Value.pointer none,v1]).setIfInBounds 0 (.pointer (some ⟨b',0,none⟩)))) R (outs N) (.ptr (.out k) 0) (.pointer (some ⟨b',0,none⟩)) []:=by
    simp only[al];exact⟨trivial,b',by simpa [outs] using hb,rfl⟩
   have q2:al (w.setRow b' ((#[Value.pointer none,v1]).setIfInBounds 0 (.pointer (some ⟨b',0,none⟩)))) R (outs N) q v1 c1:=by
    exact h1.keep (hk c1 (fun hc=>hbn b' (by simp[hc]) rfl))
   simpa using aH q1 (aH q2 aX)
  have hH:=hset _ R _ ([]++c1) (hk (pre++post) (fun hc=>hbn b' (by simp at hc ⊢;rcases hc with h|h <;> simp[h]) rfl)) hobj';refine⟨.tup [],.tuple #[],_,next,R,N,[],_,rfl,⟨rfl,rfl,rfl⟩,by simp[al,ak],by rw[nt];exact hH,by simpa using hnd,hnx,hk bsF (fun hc=>hbn b' (by simp[hc]) rfl),fun _ _ h=>h⟩
 ·rename_i m q hget
  split at h
  ·rename_i hm0;simp only[Bool.and_eq_true] at hm0;obtain⟨hm,hq⟩:=hm0;simp only[Option.some.injEq] at h;subst h;have hmk:m=k:=Nat.eq_of_beq_eq_true hm;subst hmk;obtain⟨pre,b',b1,post,rfl,hb',hobj,hset⟩:=ao.split hheap hget
   have:b'=b:=by simp only[outs] at hb';rw[hb] at hb';simpa using hb'.symm
   subst this;obtain⟨v0,v1,c0,c1,hblk,rfl,h0,h1,hR⟩:=qY hobj rfl hq;simp only[al] at h0;obtain⟨rfl,b2,hb2,rfl⟩:=h0
   have:b2=b':=by simp only[outs] at hb2;rw[hb] at hb2;simpa using hb2.symm
   subst this;have hcell:w.cell? ⟨b2,0,none⟩=some (.pointer (some ⟨b2,0,none⟩)):=by simp[World.cell?,hblk]
   refine (Any.Builder_copyCheck_used L X b2 w hcell).mono ?_;rintro e w' ⟨rfl,rfl⟩;exact⟨.tup [],.tuple #[],_,next,R,N,[],_,rfl,⟨rfl,rfl,rfl⟩,by simp[al,ak],hheap,by simpa using hnd,hnx,bj _,fun _ _ h=>h⟩
  simp at h
 simp at h
def oD:List aq->Option (List UInt8)
 | []=>some []
 | .flat (.int .u8 (.ofNat n))::r=>(match oD r with|some l=>some (UInt8.ofNat n::l)|none=>none)
 | _=>none
def ad2 (args:List ac) (heap:Heap) (next:Nat):Option ew:=
 match args with
 | [.ptr (.out k) 0]=>(match qm (.out k) heap with
  | some (.cells [p,.own (e::es)])=>(match xV p,oD (e::es) with
   | true,some l=>some ⟨.dat (.flat (.string ⟨⟨l⟩⟩)),qk (.out k) (.cells [p,.dat (.slice (e::es))]) heap,next⟩
   | _,_=>none)
  | some (.cells [p,.dat (.flat (.slice none 0 0))])=>(match xV p with
   | true=>some ⟨.dat (.flat (.string .empty)),heap,next⟩
   | false=>none)
  | _=>none)
 | _=>none
theorem xC:∀{es:List aq} {l:List UInt8},oD es=some l->l.length=es.length/\∀(j:Nat) x,l[j]?=some x->∃n:Nat,es[j]?=some (.flat (.int .u8 (.ofNat n)))/\x=UInt8.ofNat n
 | [],l,h=>by simp[oD] at h;subst h;exact⟨rfl,fun j x hj=>by simp at hj⟩
 | d::r,l,h=>by
  unfold oD at h
  split at h
  ·simp at *
  ·rename_i n r' heq;simp at heq;obtain⟨rfl,rfl⟩:=heq
   split at h
   ·rename_i l' hl';simp at h;subst h;obtain⟨h1,h2⟩:=xC hl';refine⟨by simp[h1],fun j x hj=>?_⟩
    cases j with
    | zero=>simp at hj;exact⟨n,rfl,hj.symm⟩
    | succ j=>simpa using h2 j x (by simpa using hj)
   simp at h
  simp at h
theorem UZ {n:Nat} (h:bE (.int .u8 (Int.ofNat n))=true):((UInt8.ofNat n).toNat:Int)=Int.ofNat n:=by
 simp only[bE,Bool.and_eq_true,decide_eq_true_eq] at h;have h2:IntKind.u8.max=255:=by decide
 rw[h2] at h
 have:n < 256:=by have:=h.2;simp at this;omega
 simp[Nat.mod_eq_of_lt this]
set_option maxHeartbeats 2000000 in
set_option maxRecDepth 100000 in
theorem Dc (L:Lays.n169 P ρ) (X:Builder.Extra P ρ) (T:TypeId) (b g cap:Nat) (p:Value) (cur:Array Value) (l:List UInt8) (w:World) (h0:l≠[]) (hbk:w.heap[b]?=some (.cells #[p,.slice (some ⟨g,0,none⟩) l.length cap] T (0,0)))
  (hg:w.heap[g]?=some (.cells cur (ρ.t 5) (0,0))) (hcap:l.length<=cap) (hlc:l.length<=cur.size) (hmax:l.length<=maxLen) (hby:∀(j:Nat) x,l[j]?=some x->w.cell? ⟨g,j,none⟩=some (.int .u8 x.toNat)) :
  Calls P (ρ.f 169) #[.pointer (some ⟨b,0,none⟩)] w fun e w'=>e=.returned (.string ⟨l.toArray⟩)/\w'=w.drew.freeze ⟨g,0,none⟩ l.length:=by
 have hl0:l.length≠0:=by simpa using h0
 have c1:w.drew.cell? ⟨b,1,none⟩=some (.slice (some ⟨g,0,none⟩) l.length cap):=by
  have:w.drew.heap[b]?=some (.cells #[p,.slice (some ⟨g,0,none⟩) l.length cap] T (0,0)):=hbk
  rw[Lib.cell_of_heap this];rfl
 have hSD:(Builtin.unsafeSliceData_ #[(ρ.t 37)] (ρ.t 127) #[.slice (some ⟨g,0,none⟩) l.length cap]).run P w.drew=.ok (.pointer (some ⟨g,0,none⟩)) w.drew:=
  Lib.run_unsafeSliceData_row _ _ _ _ _ _ (by omega)
 have hUS:(Builtin.unsafeString_ #[(ρ.t 127),(ρ.t 3)] (ρ.t 9) #[.pointer (some ⟨g,0,none⟩),.int .i64 l.length]).run P w.drew=.ok (.string ⟨l.toArray⟩) (w.drew.freeze ⟨g,0,none⟩ l.length):=by
  refine Lib.run_unsafeString_row w.drew (ρ.t 127) (ρ.t 3) (ρ.t 9) (ρ.t 5) L.t127 X.cellsByte g cur.size (by have hg':w.drew.heap[g]?=some (.cells cur (ρ.t 5) (0,0)):=hg;simp[World.shape?,hg']) l h0 (by omega) (by unfold maxLen at hmax;omega) ?_;intro j x hx;rw[add_plain,Nat.zero_add];exact hby j x hx
 have mixed:=L.mixed;have t72:=L.t72;have a72:=L.a72;have z72:=L.z72;have v72:=L.v72;have u72:=run_underlying L.t72;have t70:=L.t70;have a70:=L.a70;have z70:=L.z70;have v70:=L.v70;have u70:=run_underlying L.t70;have t37:=L.t37;have a37:=L.a37;have z37:=L.z37;have v37:=L.v37;have u37:=run_underlying L.t37;have t127:=L.t127;have a127:=L.a127;have z127:=L.z127;have v127:=L.v127;have u127:=run_underlying L.t127;have t3:=L.t3;have a3:=L.a3;have z3:=L.z3;have v3:=L.v3;have u3:=run_underlying L.t3;have t9:=L.t9;have a9:=L.a9;have z9:=L.z9;have v9:=L.v9;have u9:=run_underlying L.t9;have t5:=X.t5;have a5:=X.a5;have z5:=X.z5;have v5:=X.v5;have u5:=run_underlying X.t5
 go_enter L.f169,Body.n169_ntmps ρ
 go_wp2
 go_region_o
 all_goals (go_wp2;go_ret;exact⟨rfl,rfl⟩)
set_option maxHeartbeats 2000000 in
set_option maxRecDepth 100000 in
theorem HY (L:Lays.n169 P ρ) (X:Builder.Extra P ρ) (T:TypeId) (b:Nat) (p:Value) (w:World) (hbk:w.heap[b]?=some (.cells #[p,.slice none 0 0] T (0,0))) :
  Calls P (ρ.f 169) #[.pointer (some ⟨b,0,none⟩)] w fun e w'=>e=.returned (.string .empty)/\w'=w.drew:=by
 have c1:w.drew.cell? ⟨b,1,none⟩=some (.slice none 0 0):=by
  have:w.drew.heap[b]?=some (.cells #[p,.slice none 0 0] T (0,0)):=hbk
  rw[Lib.cell_of_heap this];rfl
 have hSD:(Builtin.unsafeSliceData_ #[(ρ.t 37)] (ρ.t 127) #[.slice none 0 0]).run P w.drew=.ok (.pointer none) w.drew:=rfl;have hUS:(Builtin.unsafeString_ #[(ρ.t 127),(ρ.t 3)] (ρ.t 9) #[.pointer none,.int .i64 0]).run P w.drew=.ok (.string .empty) w.drew:=
  Lib.run_unsafeString_none (w:=w.drew) (ρ.t 127) (ρ.t 3) (ρ.t 9) none
 have mixed:=L.mixed;have t72:=L.t72;have a72:=L.a72;have z72:=L.z72;have v72:=L.v72;have u72:=run_underlying L.t72;have t70:=L.t70;have a70:=L.a70;have z70:=L.z70;have v70:=L.v70;have u70:=run_underlying L.t70;have t37:=L.t37;have a37:=L.a37;have z37:=L.z37;have v37:=L.v37;have u37:=run_underlying L.t37;have t127:=L.t127;have a127:=L.a127;have z127:=L.z127;have v127:=L.v127;have u127:=run_underlying L.t127;have t3:=L.t3;have a3:=L.a3;have z3:=L.z3;have v3:=L.v3;have u3:=run_underlying L.t3;have t9:=L.t9;have a9:=L.a9;have z9:=L.z9;have v9:=L.v9;have u9:=run_underlying L.t9;have t5:=X.t5;have a5:=X.a5;have z5:=X.z5;have v5:=X.v5;have u5:=run_underlying X.t5
 go_enter L.f169,Body.n169_ntmps ρ
 go_wp2
 go_region_o
 all_goals (go_wp2;go_ret;exact⟨rfl,rfl⟩)
theorem lW {w:World} {g n c:Nat} (h:c≠g):(w.freeze ⟨g,0,none⟩ n).heap[c]?=w.heap[c]?:=by
 unfold World.freeze
 split
 ·rfl
 simp only[Array.getElem?_modify];rw[if_neg (fun e=>h e.symm)]
theorem vR {w:World} {g n:Nat} {cs:Array Value} {t:TypeId} (h:w.heap[g]?=some (.cells cs t (0,0))):∃fr,(w.freeze ⟨g,0,none⟩ n).heap[g]?=some (.cells cs t fr):=by
 unfold World.freeze
 split
 ·exact⟨_,h⟩
 refine⟨(0,0+n),?_⟩;simp only[Array.getElem?_modify,if_pos,h,Option.map_some];simp
theorem Jj {w:World} {R:Own} (bs:List Nat):bA w R w.drew R bs:=
 ⟨⟨rfl,rfl,rfl,Nat.le_refl _,fun _ _ h=>⟨rfl,h⟩,fun _ _ _ h=>⟨h,rfl⟩,fun _ _=>rfl⟩,fun _ _ _=>⟨rfl,fun _ h=>h⟩⟩
theorem GL {w:World} {g n:Nat}:(w.freeze ⟨g,0,none⟩ n).heap.size=w.heap.size:=by
 unfold World.freeze
 split <;> simp
theorem GM {w:World} {g n:Nat}:(w.freeze ⟨g,0,none⟩ n).os=w.os/\(w.freeze ⟨g,0,none⟩ n).tape=w.tape/\(w.freeze ⟨g,0,none⟩ n).output=w.output:=by
 unfold World.freeze
 split <;> simp
theorem Gq {w:World} {R:Own} {g n:Nat} {cs:Array Value} {t:TypeId} (hg:w.heap[g]?=some (.cells cs t (0,0))) (hR:∃off,R g off) (bs:List Nat) (hb:g∉bs):bA w R (w.drew.freeze ⟨g,0,none⟩ n) R bs:=by
 have hg':w.drew.heap[g]?=some (.cells cs t (0,0)):=hg;obtain⟨fr,hfr⟩:=vR (n:=n) hg';obtain⟨e1,e2,e3⟩:=GM (w:=w.drew) (g:=g) (n:=n);have hoth:∀c,c≠g->(w.drew.freeze ⟨g,0,none⟩ n).heap[c]?=w.heap[c]?:=fun c hc=>lW hc
 refine⟨⟨e1,e2,e3,?_,?_,?_,?_⟩,?_⟩
 ·rw[GL];exact Nat.le_refl _
 ·intro c _ hno;obtain⟨off,ho⟩:=hR;exact⟨hoth c (fun e=>hno off (e ▸ ho)),hno⟩
 ·intro c off _ hno;refine⟨hno,?_⟩
  by_cases hc:c=g
  ·subst hc;simp only[World.cell?,hg,hfr]
  exact World.cell?_of_block (a:=⟨c,off,none⟩) (hoth c hc)
 ·intro c _
  by_cases hc:c=g
  ·subst hc;simp only[ey,hg,hfr]
  exact iF (hoth c hc)
 intro c hc _;exact⟨hoth c (fun e=>hb (e ▸ hc)),fun _ h=>h⟩
theorem O1 (L:Lays.n169 P ρ) (X:Builder.Extra P ρ) (hB:ρ.t 5=lp) {w:World} {R:Own} {N:Name->Option Nat} {heap:Heap} {next k b:Nat} {p:ac} {d:aq} {es:List aq} {l:List UInt8} {bsH bsF:List Nat}
  (hb:N (.out k)=some b) (hheap:ao w R (outs N) heap bsH) (hnd:([]++(bsH++bsF)).Nodup) (hnx:∀o b,N (.out o)=some b->o < next)
  (hget:ev (.out k) heap=some (.cells [p,.own (d::es)])) (hp:xV p=true) (hl:oD (d::es)=some l) :
  Calls P (ρ.f 169) #[.pointer (some ⟨b,0,none⟩)] w fun e w'=>∃v cv heap' next' R' N' bsV bsH',e=.returned cv/\XQ ⟨.dat (.flat (.string ⟨⟨l⟩⟩)),qk (.out k) (.cells [p,.dat (.slice (d::es))]) heap,next⟩ v heap' next'/\al w' R' (outs N') v cv bsV/\ao w' R' (outs N') heap' bsH' ∧
   (bsV++(bsH'++bsF)).Nodup/\(∀o b,N' (.out o)=some b->o < next')/\bA w R w' R' bsF/\(∀o b,N (.out o)=some b->N' (.out o)=some b):=by
 obtain⟨pre,b',b1,post,rfl,hb',hobj,hset⟩:=ao.split hheap hget
 have:b'=b:=by simp only[outs] at hb';rw[hb] at hb';simpa using hb'.symm
 subst this;obtain⟨v0,v1,c0,c1,hblk,rfl,h0,h1,hR⟩:=qY hobj hp rfl;replace h1:=ct h1;obtain⟨hll,hle⟩:=xC hl
 rcases kX h1 with⟨_,he,_⟩|⟨g,cap,s,cur,t,rfl,rfl,hg,hs0,hs,hcap,_,hin,hrep,hsp,hty⟩
 ·simp at he
 have hd:∃n:Nat,d=.flat (.int .u8 (.ofNat n)):=by
  cases l with
  | nil=>simp at hll
  | cons x l=>obtain⟨n,hn,_⟩:=hle 0 x rfl;simp at hn;exact⟨n,hn⟩
 obtain⟨n0,rfl⟩:=hd;have hs1:s=1:=by have:=hs _ (List.mem_cons_self ..);simpa [aq.cells] using this.symm
 subst hs1;have htb:t=lp:=(hty rfl).1;have hfr:=(hty rfl).2;subst htb;obtain⟨g',off',cap',cells,hv,_,hcs,hcell⟩:=mO hrep (by simp) hs;simp at hv;obtain⟨⟨rfl,rfl⟩,rfl⟩:=hv;have hfl:(aq.flat (.int .u8 (.ofNat n0))::es).flatMap aq.cells=aq.flat (.int .u8 (.ofNat n0))::es:=by
  have key:∀es':List aq,(∀e∈es',∃n:Nat,e=.flat (.int .u8 (.ofNat n)))->es'.flatMap aq.cells=es':=by
   intro es'
   induction es' with
   | nil=>intro _;rfl
   | cons e es' ih=>
    intro hall;obtain⟨n,rfl⟩:=hall e (by simp);simp only[List.flatMap_cons,aq.cells,List.singleton_append];rw[ih (fun e he=>hall e (by simp[he]))]
  refine key _ (fun e he=>?_);obtain⟨j,hj⟩:=List.getElem?_of_mem he;have hjl:j < l.length:=by
   rw[hll]
   rcases Nat.lt_or_ge j (aq.flat (.int .u8 (.ofNat n0))::es).length with h'|h'
   ·exact h'
   rw[List.getElem?_eq_none h'] at hj;simp at hj
  obtain⟨n,hn,_⟩:=hle j l[j] (by simp);rw[hj] at hn;simp at hn;exact⟨n,hn⟩
 rw[hfl] at hcs;have hby:∀(j:Nat) x,l[j]?=some x->w.cell? ⟨g,j,none⟩=some (.int .u8 x.toNat):=by
  intro j x hx;obtain⟨n,hn,rfl⟩:=hle j x hx;obtain⟨v,hv,hrv⟩:=vr hcs hn;have hc:=(hcell j v hv).1
  cases hrv with
  | flat hfv=>
   rw[Nat.zero_add] at hc;rw[hc,UZ hfv]
 have hlen:(aq.flat (.int .u8 (.ofNat n0))::es).length=l.length:=hll.symm;have hlim:=(dN.oY hrep);simp only[yb] at hlim;rw[hlen] at hblk hcap hlim hsp;have hnd2:=hnd;simp only[List.nil_append] at hnd2;have hperm:((pre++(b'::(c0++[g]))++post)++bsF).Perm (g::(b'::(c0++(pre++(post++bsF))))):=by
  rw[List.perm_iff_count];intro q;simp only[List.count_append,List.count_cons,List.count_nil];omega
 have hnd3:=hperm.nodup_iff.1 hnd2;have hgn:∀c∈b'::(c0++(pre++(post++bsF))),c≠g:=fun c hc e=>(List.nodup_cons.1 hnd3).1 (e ▸ hc)
 have hlc:l.length<=cur.size:=by have:l.length*1<=cap*1:=Nat.mul_le_mul_right _ hcap;omega
 refine (Dc L X rM b' g cap v0 cur l w (by intro e;rw[e] at hll;simp at hll) hblk (by rw[hB];exact hg) hcap hlc (by unfold maxLen;have:=hlim.1;unfold lim at this;omega) hby).mono ?_;rintro e w' ⟨rfl,rfl⟩;have hRg:∃off,R g off:=⟨cur.size,hfr _ (Nat.le_refl _)⟩;have hk:∀bs:List Nat,g∉bs->bA w R (w.drew.freeze ⟨g,0,none⟩ l.length) R bs:=fun bs hbs=>Gq hg hRg bs hbs
 have hblk':(w.drew.freeze ⟨g,0,none⟩ l.length).heap[b']?=some (.cells #[v0,.slice (some ⟨g,0,none⟩) l.length cap] rM (0,0)):=by
  rw[lW (hgn b' (by simp))];exact hblk
 have hobj':aU (w.drew.freeze ⟨g,0,none⟩ l.length) R (outs N) (.cells [p,.dat (.slice (.flat (.int .u8 (.ofNat n0))::es))]) b' (c0++[]):=by
  refine⟨_,rM,0,hblk',?_,fun j hj=>hR j (by simpa using hj),fun _=>⟨rfl,rfl⟩⟩;have q1:=h0.keep (hk c0 (fun hc=>hgn g (by simp[hc]) rfl));have q2:al (w.drew.freeze ⟨g,0,none⟩ l.length) R (outs N) (.dat (.slice (.flat (.int .u8 (.ofNat n0))::es))) (.slice (some ⟨g,0,none⟩) l.length cap) []:=by
   have:=hrep.step (hk [] (by simp)).step
   rw[hlen] at this;exact bX (d:=.slice _) this
  simpa using aH q1 (aH q2 aX)
 have hH:=hset _ R _ (c0++[]) (hk (pre++post) (fun hc=>hgn g (by simp at hc ⊢;rcases hc with h|h <;> simp[h]) rfl)) hobj';refine⟨_,.string ⟨l.toArray⟩,_,next,R,N,[],_,rfl,⟨rfl,rfl,rfl⟩,?_,by rw[nt];exact hH,?_,hnx,hk bsF (fun hc=>hgn g (by simp[hc]) rfl),fun _ _ h=>h⟩
 ·refine bF ?_;simp only[bE,decide_eq_true_eq];have h2:=hlim.1;unfold lim at h2
  have:(ByteArray.mk ⟨l⟩).size=l.length:=rfl
  rw[this];omega
 simp only[List.nil_append,List.append_nil];have hp2:(b'::(c0++(pre++(post++bsF)))).Perm ((pre++(b'::c0)++post)++bsF):=by
  rw[List.perm_iff_count];intro q;simp only[List.count_append,List.count_cons];omega
 exact hp2.nodup_iff.1 (List.nodup_cons.1 hnd3).2
theorem af9 (L:Lays.n169 P ρ) (X:Builder.Extra P ρ) (hB:ρ.t 5=lp) {args:List ac} {heap:Heap} {next:Nat} {r:ew} (h:ad2 args heap next=some r):aC P G (ρ.f 169) args heap next (XQ r):=by
 unfold ad2 at h
 split at h
 rotate_left
 ·simp at h
 rename_i k;rw[lq] at h;intro w R N cargs bsA bsH bsF hargs hheap hnd hnx hglob hF;obtain⟨b,hb,rfl,rfl⟩:=DJ hargs
 split at h
 ·rename_i p d es hget;revert h;intro h
  split at h
  rotate_left
  ·simp at h
  rename_i l hp hl;simp only[Option.some.injEq] at h;subst h;exact O1 L X hB hb hheap hnd hnx hget hp hl
 ·rename_i p hget
  split at h
  rotate_left
  ·simp at h
  rename_i hp;simp only[Option.some.injEq] at h;subst h;obtain⟨pre,b',b1,post,rfl,hb',hobj,hset⟩:=ao.split hheap hget
  have:b'=b:=by simp only[outs] at hb';rw[hb] at hb';simpa using hb'.symm
  subst this;obtain⟨v0,v1,c0,c1,hblk,rfl,h0,h1,hR⟩:=qY hobj hp rfl;obtain⟨_,rfl,_⟩:=aL h1;refine (HY L X rM b' v0 w hblk).mono ?_;rintro e w' ⟨rfl,rfl⟩;have hk:∀bs:List Nat,bA w R w.drew R bs:=fun bs=>Jj bs
  exact⟨_,_,_,next,R,N,[],_,rfl,⟨rfl,rfl,rfl⟩,bF rfl,hheap.keep (hk _),by simpa using hnd,hnx,hk bsF,fun _ _ h=>h⟩
 simp at h
theorem Au {w w':World} {R:Own} (h:Below w.heap.size w w') (bs:List Nat):bA w R w' (fun b off=>b < w.heap.size/\R b off) bs:=
 ⟨⟨h.os,h.tape,h.output,h.size,fun b hb hno=>⟨h.block b hb,fun off hr=>hno off hr.2⟩,fun b off hb hno=>⟨fun hr=>hno hr.2,World.cell?_of_block (a:=⟨b,off,none⟩) (h.block b hb)⟩,fun b hb=>iF (h.block b hb)⟩,
  fun b _ hb=>⟨h.block b hb,fun off hr=>⟨hb,hr⟩⟩⟩
end
end Go.Tp
namespace Go.Proofs.YtiihadmgkoamoaaGreatDoor
open Go.Tp Go.Shelf
def lT:Ren:=⟨fun|240=>104|276=>132|n=>n,fun|9=>9|0=>0|4=>4|20=>20|70=>99|72=>102|37=>100|164=>158|n=>n,fun|n=>n⟩
theorem LN:Lays.n240 Tryz.prog lT:=
 {mixed:=by kernel_rfl
  f240:=Tryz.func104.trans (congrArg some (by kernel_rfl))
  f276:=Tryz.func132.trans (congrArg some (by kernel_rfl))
  t0:=Tryz.underlying0,a0:=Tryz.isAgg0,z0:=Tryz.sizeOf0,v0:=Tryz.zeroValue0
  t4:=Tryz.underlying4,a4:=Tryz.isAgg4,z4:=Tryz.sizeOf4,v4:=Tryz.zeroValue4
  t9:=Tryz.underlying9,a9:=Tryz.isAgg9,z9:=Tryz.sizeOf9,v9:=Tryz.zeroValue9
  t20:=Tryz.underlying20,a20:=Tryz.isAgg20,z20:=Tryz.sizeOf20,v20:=Tryz.zeroValue20
  t70:=Tryz.underlying99,a70:=Tryz.isAgg99,z70:=Tryz.sizeOf99,v70:=Tryz.zeroValue99
  t72:=Tryz.underlying102,a72:=Tryz.isAgg102,z72:=Tryz.sizeOf102,v72:=Tryz.zeroValue102
  t164:=Tryz.underlying158,a164:=Tryz.isAgg158,z164:=Tryz.sizeOf158,v164:=Tryz.zeroValue158 }
theorem L4:Builder.X72 Tryz.prog lT:={sizeBuilder:=by kernel_rfl,liesBuilder:=by kernel_rfl }
def bD (b:UInt8):aq:=.flat (.int .u8 (Int.ofNat b.toNat))
def UK (k:Nat) (es:List aq):Heap:=[(.out k,.cells [.ptr (.out k) 0,.own es])]
def hB0 (k:Nat):Heap:=[(.out k,.cells [.dat (.flat (.pointer none)),.dat nl])]
def pB (k:Nat):ac:=.ptr (.out k) 0
theorem Zj:KC 104 [pB 0] (hB0 0) 1 (XQ ⟨.tup [],[(.out 0,.cells [.ptr (.out 0) 0,.dat nl])],1⟩):=Ug (ρ:=lT) LN L4 rfl rfl
theorem Zi {es:List aq}:KC 104 [pB 0] (UK 0 es) 1 (XQ ⟨.tup [],UK 0 es,1⟩):=Ug (ρ:=lT) LN L4 rfl rfl
def eg:ac:=.dat (.flat .nilIface)
theorem ws1 {es es2:List aq} {s:List UInt8} (h:dD (env au.aI) 100 9 [.own es,.dat (sb s)]=some ⟨.own es2,.keep⟩) :
  KC 74 [pB 0,.dat (sb s)] (UK 0 es) 1 (XQ ⟨.tup [iv (Int.ofNat s.length),eg],UK 0 es2,1⟩):=by
 have hc:=Zi (es:=es);refine aY [] [14] (x:=fL.of Tryz.f74 K1 I8) (by kernel_rfl) ?_;refine oh hc ?_;refine oo h ?_;exact fi
theorem ws0 {es2:List aq} {s:List UInt8} (h:dD (env au.aI) 100 9 [.own [],.dat (sb s)]=some ⟨.own es2,.keep⟩) :
  KC 74 [pB 0,.dat (sb s)] (hB0 0) 1 (XQ ⟨.tup [iv (Int.ofNat s.length),eg],UK 0 es2,1⟩):=by
 have hc:=Zj;refine aY [] [14] (x:=fL.of Tryz.f74 K1 I8) (by kernel_rfl) ?_;refine oh hc ?_;refine oo h ?_;exact fi
theorem wb1 {es es2:List aq} {b:Int} (h:cj (env au.aI) false 100 [.own es,.dat (.slice [.flat (.int .u8 b)])] none=some ⟨.own es2,.keep⟩) :
  KC 77 [pB 0,.dat (.flat (.int .u8 b))] (UK 0 es) 1 (XQ ⟨eg,UK 0 es2,1⟩):=by
 have hc:=Zi (es:=es);refine aY [] [14] (x:=fL.of Tryz.f77 K0 I7) (by kernel_rfl) ?_;refine oh hc ?_;refine oo h ?_;exact fi
theorem wb0 {b:Int} :
  KC 77 [pB 0,.dat (.flat (.int .u8 b))] (hB0 0) 1 (XQ ⟨eg,UK 0 [.flat (.int .u8 b)],1⟩):=by
 have hc:=Zj;refine aY [] [] (x:=fL.of Tryz.f77 K0 I7) (by kernel_rfl) ?_;refine oh hc ?_;exact fi
theorem Ka (a b:List UInt8):bV (a++b)=bV a++bV b:=by
 induction a with
 | nil=>rfl
 | cons x r ih=>show _::bV (r++b)=_::(bV r++bV b);rw[ih]
theorem eR (a:List UInt8):(bV a).length=a.length:=by
 induction a with
 | nil=>rfl
 | cons x r ih=>show (bV r).length+1=r.length+1;rw[ih]
theorem uF:∀a:List UInt8,sizedB 1 (bV a)=true
 | []=>rfl
 | x::r=>by
  have ih:=uF r;show (match Nat.beq 1 1 with|true=>sizedB 1 (bV r)|false=>false)=true;exact ih
noncomputable def tiY:TI:=match Go.Tp.elemOf (env au.aI) 100 with|some t=>t|none=>default
theorem OS:tiY.size=1:=by kernel_rfl
theorem Mi (es:List aq):fQ (env au.aI) 100 es=true:=by
 have h:(match (env au.aI).desc 100 with|some (.slice e)=>Nat.beq e lp|_=>false)=true:=by kernel_rfl
 unfold fQ
 cases ez es with
 | true=>exact h
 | false=>rfl
theorem Yb {pr:au} {i:TI} {l s:List UInt8} (hp:pr=au.aI) (hs:i.size=1) (hb:Nat.blt 0 i.bytes=true) (h1:((bV l).length+(bV s).length)*i.bytes<=140737488355328) (h2:(bV l).length+(bV s).length<=lim) :
  eL pr i (bV l) (.dat (.slice (bV s)))=some (bV (l++s)):=by
 simp only[eL,hp,hs,au.aI,Nat.zero_add,uF,hb,fS h1,fS h2,Ka]
theorem C0 {l s:List UInt8} (h:l.length+s.length < 1000000000):eL (env au.aI).pr tiY (bV l) (.dat (.slice (bV s)))=some (bV (l++s)):=by
 have hy:tiY.bytes<=1000:=fH (by kernel_rfl);refine Yb rfl OS (by kernel_rfl) ?_ ?_
 ·rw[eR,eR]
  calc (l.length+s.length)*tiY.bytes<=1000000000*1000:=Nat.mul_le_mul (by omega) hy
   _<=140737488355328:=by decide
 rw[eR,eR];simp only[lim];omega
theorem Mk {l s:List UInt8} (h:l.length+s.length < 1000000000):dD (env au.aI) 100 9 [.own (bV l),.dat (sb s)]=some ⟨.own (bV (l++s)),.keep⟩:=by
 have h1:∀es:List aq,dD (env au.aI) 100 9 [.own es,.dat (sb s)]=(match eL (env au.aI).pr tiY es (.dat (.slice (bV s))) with|some r=>if fQ (env au.aI) 100 r=true then some ⟨.own r,.keep⟩ else none|none=>none):=fun es=>by kernel_rfl
 rw[h1,C0 h];dsimp only;rw[if_pos (Mi _)]
theorem Uy {l:List UInt8} {b:UInt8} (h:l.length < 100000000):cj (env au.aI) false 100 [.own (bV l),.dat (.slice [bD b])] none=some ⟨.own (bV (l++[b])),.keep⟩:=by
 have h1:∀es:List aq,cj (env au.aI) false 100 [.own es,.dat (.slice [bD b])] none=(match eL (env au.aI).pr tiY es (.dat (.slice (bV [b]))) with|some r=>if fQ (env au.aI) 100 r=true then some ⟨.own r,.keep⟩ else none|none=>none):=fun es=>by kernel_rfl
 rw[h1,C0 (by simp;omega)];dsimp only;rw[if_pos (Mi _)]
def lz (k:Nat) (o:Option (List UInt8)):Heap:=match o with|none=>hB0 k|some l=>UK k (bV l)
def eQ (o:Option (List UInt8)) (s:List UInt8):List UInt8:=match o with|none=>s|some l=>l++s
theorem Hw {o:Option (List UInt8)} {s:List UInt8} (h:(eQ o s).length < 1000000000):KC 74 [pB 0,.dat (sb s)] (lz 0 o) 1 (XQ ⟨.tup [iv (Int.ofNat s.length),eg],lz 0 (some (eQ o s)),1⟩):=by
 cases o with
 | none=>exact ws0 (Mk (l:=[]) (by simpa [eQ] using h))
 | some l=>exact ws1 (Mk (by simpa [eQ] using h))
theorem ade {o:Option (List UInt8)} {b:UInt8} (h:(eQ o [b]).length < 100000000):KC 77 [pB 0,.dat (bD b)] (lz 0 o) 1 (XQ ⟨eg,lz 0 (some (eQ o [b])),1⟩):=by
 cases o with
 | none=>exact wb0
 | some l=>exact wb1 (Uy (by simp[eQ] at h;omega))
theorem rK:∀l:List UInt8,oD (bV l)=some l
 | []=>rfl
 | x::r=>by
  show (match oD (bV r) with|some l=>some (UInt8.ofNat x.toNat::l)|none=>none)=some (x::r);rw[rK r];simp
theorem Uh {x:UInt8} {r:List UInt8}:KC 78 [pB 0] (lz 0 (some (x::r))) 1 (XQ ⟨.dat (sb (x::r)),[(.out 0,.cells [.ptr (.out 0) 0,.dat (.slice (bV (x::r)))])],1⟩):=by
 refine af9 (ρ:=Tryz.pI) Tryz.W7 Tryz.uX rfl ?_;have h:=rK (x::r);show (match xV (.ptr (.out 0) 0),oD (bV (x::r)) with|true,some l=>some (⟨.dat (.flat (.string ⟨⟨l⟩⟩)),qk (.out 0) (.cells [.ptr (.out 0) 0,.dat (.slice (bV (x::r)))]) (lz 0 (some (x::r))),1⟩:ew)|_,_=>none)=_;rw[h];rfl
abbrev WB (g:FuncId) (args:List ac) (o:Option (List UInt8)) (v:ac) (c:List UInt8):Prop:=KC g (pB 0::args) (lz 0 o) 1 (XQ ⟨v,lz 0 (some c),1⟩)
theorem T7 {a b:List UInt8} (h:a.length+b.length < 9000000000000000000):au.aI.cat ⟨⟨a⟩⟩ ⟨⟨b⟩⟩=some ⟨⟨a++b⟩⟩:=by
 show (match Nat.ble (a.length+b.length) 9223372036854775807 with|true=>some (⟨⟨a++b⟩⟩:ByteArray)|false=>none)=_;rw[show Nat.ble (a.length+b.length) 9223372036854775807=true by rw[Nat.ble_eq];omega]
theorem dd {a b:List UInt8} (h:a.length+b.length < 9000000000000000000):fW (env au.aI) .add 9 [.dat (sb a),.dat (sb b)]=some ⟨.dat (sb (a++b)),.keep⟩:=by
 have h1:fW (env au.aI) .add 9 [.dat (sb a),.dat (sb b)]=Y3 (match au.aI.cat ⟨⟨a⟩⟩ ⟨⟨b⟩⟩ with|some z=>some (.string z)|none=>none):=by kernel_rfl
 rw[h1,T7 h];rfl
noncomputable def hWL:Hints:=⟨an,Ab,ap,rowsOf ap 106⟩
def O6 (l:List aq) (c:List UInt8) (i:Int):ab:=⟨[(14,iv i),(13,iv (Int.ofNat l.length)),(12,.dat (sl l)),(0,pB 0)],[],lz 0 (some c),1⟩
def O5 (l:List aq) (c:List UInt8) (i:Int):ab:=⟨[(15,bv false),(14,iv i),(13,iv (Int.ofNat l.length)),(12,.dat (sl l)),(0,pB 0)],[],lz 0 (some c),1⟩
theorem OG {l:List Ty} {t:Ty} {i:Nat} {c c2:List UInt8} (hi:i < (ax l).length) (ht:l[i]?=some t) (hb:WB 77 [.dat (bD 32)] (some c) eg (c++[32])) (hw:WB 76 [.dat t.enc] (some (c++[32])) (.tup []) c2) {T:Exit->aa->Prop}
  (e:T .normal ((O6 (ax l) c2 (aG .i64 (Int.ofNat i+1))).aw Tryz.f106.ntmps)) :
  KD (roundOf Tryz.f106 0) T ((O6 (ax l) c (Int.ofNat i)).aw Tryz.f106.ntmps):=by
 have h1:=bd hi;have h2:=jU ht;obtain⟨x,r,hx⟩:∃x r,ax l=x::r:=by cases l with|nil=>simp at ht|cons x r=>exact⟨_,_,rfl⟩
 rw[hx] at h1 h2 e ⊢;clear ht hi hx;obtain⟨k,nm,ix,a⟩:=t;refine aB [15] [16] (H:=hWL) (live:=tZ) (by kernel_rfl) ?_;refine ob h1 ?_;refine oo h2 ?_
 rcases a with _|⟨v0,v1⟩ <;>
 ·refine oh hb ?_;refine oh hw ?_;exact oe e
theorem UQ {l:List aq} {c:List UInt8} {T:Exit->aa->Prop} (e:T (.exit 0) ((O5 l c (Int.ofNat l.length)).aw Tryz.f106.ntmps)) :
  KD (roundOf Tryz.f106 0) T ((O6 l c (Int.ofNat l.length)).aw Tryz.f106.ntmps):=by
 have h1:=br (i:=l.length) (L:=l.length) (by omega);refine aB [15] [] (H:=hWL) (live:=tZ) (by kernel_rfl) ?_;refine ob h1 ?_;exact oe e
theorem Zs {l:List aq} {o:Option (List UInt8)} {head c0 c1 c2:List UInt8} (hk:fW (env au.aI) .add 9 [.dat (sb [40]),.dat (sb head)]=some ⟨.dat (sb ([40]++head)),.keep⟩)
  (h0:WB 74 [.dat (sb ([40]++head))] o (.tup [iv (Int.ofNat ([40]++head).length),eg]) c0)
  (hl:KD (.loop (roundOf Tryz.f106 0)) (fun e s=>e=.exit 0/\s=(O5 l c1 (Int.ofNat l.length)).aw Tryz.f106.ntmps) ((O6 l c0 (Int.ofNat 0)).aw Tryz.f106.ntmps))
  (hb:WB 77 [.dat (bD 41)] (some c1) eg c2):WB 106 [.dat (sb head),.dat (sl l)] o (.tup []) c2:=by
 cases o with
 | none=>
  refine aY [] [10] (x:=fL.of Tryz.f106 Ab tZ) (by kernel_rfl) ?_;refine oo hk ?_;refine oh h0 ?_
  rcases l with _|⟨v0,v1⟩ <;>
  ·refine lo hl ?_;rintro ex s ⟨rfl,rfl⟩;refine⟨_,rfl,?_⟩;refine oh hb ?_;exact fi
 | some b=>
  refine aY [] [10] (x:=fL.of Tryz.f106 Ab tZ) (by kernel_rfl) ?_;refine oo hk ?_;refine oh h0 ?_
  rcases l with _|⟨v0,v1⟩ <;>
  ·refine lo hl ?_;rintro ex s ⟨rfl,rfl⟩;refine⟨_,rfl,?_⟩;refine oh hb ?_;exact fi
def Oq:List UInt8:=[65,110,121]
def vD:List UInt8:=[78,101,118,101,114]
def agt:List UInt8:=[116,117,112,108,101]
def ags:List UInt8:=[117,110,105,111,110]
def agQ:List UInt8:=[101,120,105,115,116,115]
theorem Zr {o:Option (List UInt8)} {c nm:List UInt8} {k ix:Int} {l:List aq} (h1:aQ k 0=true) (h:WB 74 [.dat (sb Oq)] o (.tup [iv (Int.ofNat Oq.length),eg]) c) :
  WB 76 [.dat (.agg [i64 k,sb nm,i64 ix,sl l])] o (.tup []) c:=by
 cases o with
 | none=>
  refine aY [21] [] (x:=fL.of Tryz.f76 jc gu) (by kernel_rfl) ?_
  rcases l with _|⟨v0,v1⟩ <;>
  ·refine ob h1 ?_;refine oh h ?_;exact fi
 | some b=>
  refine aY [21] [] (x:=fL.of Tryz.f76 jc gu) (by kernel_rfl) ?_
  rcases l with _|⟨v0,v1⟩ <;>
  ·refine ob h1 ?_;refine oh h ?_;exact fi
theorem OE {o:Option (List UInt8)} {c nm:List UInt8} {k ix:Int} {l:List aq} (h0:aQ k 0=false) (h1:aQ k 1=true) (h:WB 74 [.dat (sb vD)] o (.tup [iv (Int.ofNat vD.length),eg]) c) :
  WB 76 [.dat (.agg [i64 k,sb nm,i64 ix,sl l])] o (.tup []) c:=by
 cases o with
 | none=>
  refine aY [21,25] [] (x:=fL.of Tryz.f76 jc gu) (by kernel_rfl) ?_
  rcases l with _|⟨v0,v1⟩ <;>
  ·refine ob h0 ?_;refine ob h1 ?_;refine oh h ?_;exact fi
 | some b=>
  refine aY [21,25] [] (x:=fL.of Tryz.f76 jc gu) (by kernel_rfl) ?_
  rcases l with _|⟨v0,v1⟩ <;>
  ·refine ob h0 ?_;refine ob h1 ?_;refine oh h ?_;exact fi
theorem Zq {o:Option (List UInt8)} {c nm d:List UInt8} {k ix:Int} {l:List aq} (h0:aQ k 0=false) (h1:aQ k 1=false) (h5:aQ k 5=true) (hi:ag 75 [iv ix] (.dat (sb d))) (hk:fW (env au.aI) .add 9 [.dat (sb [36]),.dat (sb d)]=some ⟨.dat (sb ([36]++d)),.keep⟩)
  (h:WB 74 [.dat (sb ([36]++d))] o (.tup [iv (Int.ofNat ([36]++d).length),eg]) c) :
  WB 76 [.dat (.agg [i64 k,sb nm,i64 ix,sl l])] o (.tup []) c:=by
 cases o with
 | none=>
  refine aY [21,25,29] [34] (x:=fL.of Tryz.f76 jc gu) (by kernel_rfl) ?_
  rcases l with _|⟨v0,v1⟩ <;>
  ·refine ob h0 ?_;refine ob h1 ?_;refine ob h5 ?_;refine on hi ?_;refine oo hk ?_;refine oh h ?_;exact fi
 | some b=>
  refine aY [21,25,29] [34] (x:=fL.of Tryz.f76 jc gu) (by kernel_rfl) ?_
  rcases l with _|⟨v0,v1⟩ <;>
  ·refine ob h0 ?_;refine ob h1 ?_;refine ob h5 ?_;refine on hi ?_;refine oo hk ?_;refine oh h ?_;exact fi
def GC (c3 c4:Bool):List UInt8:=match c3 with|true=>agt|false=>match c4 with|true=>ags|false=>agQ
theorem UP {o:Option (List UInt8)} {c nm:List UInt8} {k ix:Int} {l:List aq} {c3 c4:Bool} (h0:aQ k 0=false) (h1:aQ k 1=false) (h5:aQ k 5=false) (h3:aQ k 3=c3) (h4:aQ k 4=c4) (h6:c3=false->c4=false->aQ k 6=true)
  (h:WB 106 [.dat (sb (GC c3 c4)),.dat (sl l)] o (.tup []) c) :
  WB 76 [.dat (.agg [i64 k,sb nm,i64 ix,sl l])] o (.tup []) c:=by
 cases c3
 ·cases c4
  ·have h7:=h6 rfl rfl;clear h6
   cases o with
   | none=>
    refine aY [21,25,29,37,43,49] [] (x:=fL.of Tryz.f76 jc gu) (by kernel_rfl) ?_
    rcases l with _|⟨v0,v1⟩ <;>
    ·refine ob h0 ?_;refine ob h1 ?_;refine ob h5 ?_;refine ob h3 ?_;refine ob h4 ?_;refine ob h7 ?_;refine oh h ?_;exact fi
   | some b=>
    refine aY [21,25,29,37,43,49] [] (x:=fL.of Tryz.f76 jc gu) (by kernel_rfl) ?_
    rcases l with _|⟨v0,v1⟩ <;>
    ·refine ob h0 ?_;refine ob h1 ?_;refine ob h5 ?_;refine ob h3 ?_;refine ob h4 ?_;refine ob h7 ?_;refine oh h ?_;exact fi
  clear h6
  cases o with
  | none=>
   refine aY [21,25,29,37,43] [] (x:=fL.of Tryz.f76 jc gu) (by kernel_rfl) ?_
   rcases l with _|⟨v0,v1⟩ <;>
   ·refine ob h0 ?_;refine ob h1 ?_;refine ob h5 ?_;refine ob h3 ?_;refine ob h4 ?_;refine oh h ?_;exact fi
  | some b=>
   refine aY [21,25,29,37,43] [] (x:=fL.of Tryz.f76 jc gu) (by kernel_rfl) ?_
   rcases l with _|⟨v0,v1⟩ <;>
   ·refine ob h0 ?_;refine ob h1 ?_;refine ob h5 ?_;refine ob h3 ?_;refine ob h4 ?_;refine oh h ?_;exact fi
 clear h6 h4
 cases o with
 | none=>
  refine aY [21,25,29,37] [] (x:=fL.of Tryz.f76 jc gu) (by kernel_rfl) ?_
  rcases l with _|⟨v0,v1⟩ <;>
  ·refine ob h0 ?_;refine ob h1 ?_;refine ob h5 ?_;refine ob h3 ?_;refine oh h ?_;exact fi
 | some b=>
  refine aY [21,25,29,37] [] (x:=fL.of Tryz.f76 jc gu) (by kernel_rfl) ?_
  rcases l with _|⟨v0,v1⟩ <;>
  ·refine ob h0 ?_;refine ob h1 ?_;refine ob h5 ?_;refine ob h3 ?_;refine oh h ?_;exact fi
theorem UO {o:Option (List UInt8)} {c nm:List UInt8} {k ix:Int} (h0:aQ k 0=false) (h1:aQ k 1=false) (h5:aQ k 5=false) (h3:aQ k 3=false) (h4:aQ k 4=false) (h6:aQ k 6=false)
  (h:WB 74 [.dat (sb nm)] o (.tup [iv (Int.ofNat nm.length),eg]) c) :
  WB 76 [.dat (.agg [i64 k,sb nm,i64 ix,nl])] o (.tup []) c:=by
 cases o with
 | none=>
  refine aY [21,25,29,37,43,49] [] (x:=fL.of Tryz.f76 jc gu) (by kernel_rfl) ?_;refine ob h0 ?_;refine ob h1 ?_;refine ob h5 ?_;refine ob h3 ?_;refine ob h4 ?_;refine ob h6 ?_;refine oh h ?_;exact fi
 | some b=>
  refine aY [21,25,29,37,43,49] [] (x:=fL.of Tryz.f76 jc gu) (by kernel_rfl) ?_;refine ob h0 ?_;refine ob h1 ?_;refine ob h5 ?_;refine ob h3 ?_;refine ob h4 ?_;refine ob h6 ?_;refine oh h ?_;exact fi
theorem OF {o:Option (List UInt8)} {c nm:List UInt8} {k ix:Int} {x:aq} {l:List aq} (h0:aQ k 0=false) (h1:aQ k 1=false) (h5:aQ k 5=false) (h3:aQ k 3=false) (h4:aQ k 4=false) (h6:aQ k 6=false)
  (h:WB 106 [.dat (sb nm),.dat (.slice (x::l))] o (.tup []) c) :
  WB 76 [.dat (.agg [i64 k,sb nm,i64 ix,.slice (x::l)])] o (.tup []) c:=by
 have h7:aQ (Int.ofNat (x::l).length) 0=false:=by
  rw[show (0:Int)=Int.ofNat 0 from rfl,qa];simp
 cases o with
 | none=>
  refine aY [21,25,29,37,43,49] [] (x:=fL.of Tryz.f76 jc gu) (by kernel_rfl) ?_;refine ob h0 ?_;refine ob h1 ?_;refine ob h5 ?_;refine ob h3 ?_;refine ob h4 ?_;refine ob h6 ?_;refine oh h ?_;exact fi
 | some b=>
  refine aY [21,25,29,37,43,49] [] (x:=fL.of Tryz.f76 jc gu) (by kernel_rfl) ?_;refine ob h0 ?_;refine ob h1 ?_;refine ob h5 ?_;refine ob h3 ?_;refine ob h4 ?_;refine ob h6 ?_;refine oh h ?_;exact fi
mutual
def Ty.lx (dg:Int->List UInt8):Ty->List UInt8
 | .mk k nm ix l=>match aQ k 0 with
  | true=>Oq
  | false=>match aQ k 1 with
   | true=>vD
   | false=>match aQ k 5 with
    | true=>[36]++dg ix
    | false=>match aQ k 3||(aQ k 4||aQ k 6) with
     | true=>([40]++GC (aQ k 3) (aQ k 4))++fB dg l++[41]
     | false=>match SP (ax l) with
      | false=>nm
      | true=>([40]++nm)++fB dg l++[41]
def fB (dg:Int->List UInt8):List Ty->List UInt8
 | []=>[]
 | t::r=>([32]++t.lx dg)++fB dg r
end
mutual
def Ty.Zt (p:Int->Prop):Ty->Prop
 | .mk k _ ix l=>(aQ k 5=true->p ix)/\EU p l
def EU (p:Int->Prop):List Ty->Prop
 | []=>True
 | t::r=>t.Zt p/\EU p r
end
theorem yP (dg:Int->List UInt8) (b:List Ty):∀a:List Ty,fB dg (a++b)=fB dg a++fB dg b
 | []=>by simp[fB]
 | x::r=>by simp only[List.cons_append,fB,yP dg b r,List.append_assoc]
theorem qw {dg:Int->List UInt8} {l:List Ty} {i:Nat} {t:Ty} (h:l[i]?=some t):fB dg (l.take (i+1))=fB dg (l.take i)++([32]++t.lx dg):=by
 rw[dZ h,yP];simp[fB]
theorem Ko (dg:Int->List UInt8) (l:List Ty) (i:Nat):(fB dg (l.take i)).length<=(fB dg l).length:=by
 have h:fB dg l=fB dg (l.take i)++fB dg (l.drop i):=by rw[←yP,List.take_append_drop]
 rw[h,List.length_append];omega
theorem Hn (o:Option (List UInt8)) (a b:List UInt8):eQ o (a++b)=eQ o a++b:=by
 cases o with
 | none=>rfl
 | some l=>simp[eQ]
theorem Hm (o:Option (List UInt8)) (a:List UInt8):a.length<=(eQ o a).length:=by
 cases o with
 | none=>exact Nat.le_refl _
 | some l=>simp[eQ]
theorem Yr {dg:Int->List UInt8} {l:List Ty} {o:Option (List UInt8)} {head:List UInt8} (hb:l.length < 1000000000)
  (ih:∀t∈l,∀o:Option (List UInt8),(eQ o (t.lx dg)).length < 100000000->WB 76 [.dat t.enc] o (.tup []) (eQ o (t.lx dg)))
  (hn:(eQ o (([40]++head)++fB dg l++[41])).length < 100000000):WB 106 [.dat (sb head),.dat (sl (ax l))] o (.tup []) (eQ o (([40]++head)++fB dg l++[41])):=by
 rw[Hn,Hn] at hn ⊢;have hlen:=Hm o ([40]++head);simp only[List.length_append] at hn;have hc:=dd (a:=[40]) (b:=head) (by simp only[List.length_append] at hlen;omega);have h0:=Hw (o:=o) (s:=[40]++head) (by omega);have h2:=ade (o:=some (eQ o ([40]++head)++fB dg l)) (b:=41) (by simp only[eQ,List.length_append] at *;omega);refine Zs hc h0 ?_ h2;refine ba (St:=fun i=>(O6 (ax l) (eQ o ([40]++head)++fB dg (l.take i)) (Int.ofNat i)).aw Tryz.f106.ntmps) (ax l).length ?_ ?_ (i:=0) (Nat.zero_le _) |> (fun h=>by simpa [fB] using h)
 ·intro i hi;obtain⟨t,ht,hm⟩:=get_mem hi;have hle:=Ko dg l (i+1);rw[qw ht] at hle;simp only[List.length_append,List.length_singleton] at hle;have hw:aG .i64 (Int.ofNat i+1)=Int.ofNat (i+1):=bb (by rw[aE] at hi;omega);have hb1:=ade (o:=some (eQ o ([40]++head)++fB dg (l.take i))) (b:=32) (by simp only[eQ,List.length_append,List.length_singleton] at *;omega);have hw1:=ih t hm (some ((eQ o ([40]++head)++fB dg (l.take i))++[32])) (by simp only[eQ,List.length_append,List.length_singleton] at *;omega);refine OG hi ht hb1 hw1 ?_;rw[hw,qw ht];simp only[eQ,List.append_assoc];rfl
 have e:=UQ (l:=ax l) (c:=eQ o ([40]++head)++fB dg l) (T:=iY (fun _=>False) (fun e s=>e=.exit 0/\s=(O5 (ax l) (eQ o ([40]++head)++fB dg l) (Int.ofNat (ax l).length)).aw Tryz.f106.ntmps)) ⟨rfl,rfl⟩;rw[aE] at e ⊢;rw[List.take_length];exact e
mutual
theorem ac8 {dg:Int->List UInt8} {p:Int->Prop} (hI:∀ix:Int,p ix->ag 75 [iv ix] (.dat (sb (dg ix)))):∀(t:Ty) (o:Option (List UInt8)),t.thin->t.Zt p->(eQ o (t.lx dg)).length < 100000000->WB 76 [.dat t.enc] o (.tup []) (eQ o (t.lx dg))
 | .mk k nm ix l,o,hs,hx,hn=>by
  simp only[Ty.thin] at hs;simp only[Ty.Zt] at hx;have ih:=Zm hI l hs.2 hx.2;rw[Ty.lx] at hn ⊢
  cases h0:aQ k 0 with
  | true=>
   rw[h0] at hn;exact Zr h0 (Hw (by have:(eQ o Oq).length < 100000000:=hn;omega))
  | false=>
   rw[h0] at hn
   cases h1:aQ k 1 with
   | true=>
    rw[h1] at hn;exact OE h0 h1 (Hw (by have:(eQ o vD).length < 100000000:=hn;omega))
   | false=>
    rw[h1] at hn
    cases h5:aQ k 5 with
    | true=>
     rw[h5] at hn;have hn:(eQ o ([36]++dg ix)).length < 100000000:=hn;have hl:=Hm o ([36]++dg ix);exact Zq h0 h1 h5 (hI ix (hx.1 h5)) (dd (by simp only[List.length_append] at hl;omega)) (Hw (by omega))
    | false=>
     rw[h5] at hn
     cases hc:(aQ k 3||(aQ k 4||aQ k 6)) with
     | true=>
      rw[hc] at hn;refine UP h0 h1 h5 rfl rfl ?_ (Yr hs.1 ih hn);intro h3 h4;rw[h3,h4] at hc;exact hc
     | false=>
      rw[hc] at hn;simp only[Bool.or_eq_false_iff] at hc
      cases l with
      | nil=>exact UO h0 h1 h5 hc.1 hc.2.1 hc.2.2 (Hw (by have:(eQ o nm).length < 100000000:=hn;omega))
      | cons x r=>exact OF h0 h1 h5 hc.1 hc.2.1 hc.2.2 (Yr hs.1 ih hn)
theorem Zm {dg:Int->List UInt8} {p:Int->Prop} (hI:∀ix:Int,p ix->ag 75 [iv ix] (.dat (sb (dg ix)))):∀l:List Ty,kT l->EU p l->∀t∈l,∀o:Option (List UInt8),(eQ o (t.lx dg)).length < 100000000->WB 76 [.dat t.enc] o (.tup []) (eQ o (t.lx dg))
 | [],_,_,t,ht,_,_=>by simp at ht
 | x::r,hs,hx,t,ht,o,hn=>by
  simp only[kT] at hs;simp only[EU] at hx
  rcases List.mem_cons.1 ht with h1|ht
  ·rw[h1] at hn ⊢;exact ac8 hI x o hs.1 hx.1 hn
  exact Zm hI r hs.2 hx.2 t ht o hn
end
def ig (i:Int):List UInt8:=match Nat.blt i.toNat 10 with|true=>[UInt8.ofNat (48+i.toNat)]|false=>[UInt8.ofNat (48+i.toNat / 10),UInt8.ofNat (48+i.toNat % 10)]
theorem J8:∀i:Nat,i < 100->ag 75 [iv (Int.ofNat i)] (.dat (sb (ig (Int.ofNat i))))
 | 0,_=>aM _ _ _ _ _ (by kernel_rfl)
 | 1,_=>aM _ _ _ _ _ (by kernel_rfl)
 | 2,_=>aM _ _ _ _ _ (by kernel_rfl)
 | 3,_=>aM _ _ _ _ _ (by kernel_rfl)
 | 4,_=>aM _ _ _ _ _ (by kernel_rfl)
 | 5,_=>aM _ _ _ _ _ (by kernel_rfl)
 | 6,_=>aM _ _ _ _ _ (by kernel_rfl)
 | 7,_=>aM _ _ _ _ _ (by kernel_rfl)
 | 8,_=>aM _ _ _ _ _ (by kernel_rfl)
 | 9,_=>aM _ _ _ _ _ (by kernel_rfl)
 | 10,_=>aM _ _ _ _ _ (by kernel_rfl)
 | 11,_=>aM _ _ _ _ _ (by kernel_rfl)
 | 12,_=>aM _ _ _ _ _ (by kernel_rfl)
 | 13,_=>aM _ _ _ _ _ (by kernel_rfl)
 | 14,_=>aM _ _ _ _ _ (by kernel_rfl)
 | 15,_=>aM _ _ _ _ _ (by kernel_rfl)
 | 16,_=>aM _ _ _ _ _ (by kernel_rfl)
 | 17,_=>aM _ _ _ _ _ (by kernel_rfl)
 | 18,_=>aM _ _ _ _ _ (by kernel_rfl)
 | 19,_=>aM _ _ _ _ _ (by kernel_rfl)
 | 20,_=>aM _ _ _ _ _ (by kernel_rfl)
 | 21,_=>aM _ _ _ _ _ (by kernel_rfl)
 | 22,_=>aM _ _ _ _ _ (by kernel_rfl)
 | 23,_=>aM _ _ _ _ _ (by kernel_rfl)
 | 24,_=>aM _ _ _ _ _ (by kernel_rfl)
 | 25,_=>aM _ _ _ _ _ (by kernel_rfl)
 | 26,_=>aM _ _ _ _ _ (by kernel_rfl)
 | 27,_=>aM _ _ _ _ _ (by kernel_rfl)
 | 28,_=>aM _ _ _ _ _ (by kernel_rfl)
 | 29,_=>aM _ _ _ _ _ (by kernel_rfl)
 | 30,_=>aM _ _ _ _ _ (by kernel_rfl)
 | 31,_=>aM _ _ _ _ _ (by kernel_rfl)
 | 32,_=>aM _ _ _ _ _ (by kernel_rfl)
 | 33,_=>aM _ _ _ _ _ (by kernel_rfl)
 | 34,_=>aM _ _ _ _ _ (by kernel_rfl)
 | 35,_=>aM _ _ _ _ _ (by kernel_rfl)
 | 36,_=>aM _ _ _ _ _ (by kernel_rfl)
 | 37,_=>aM _ _ _ _ _ (by kernel_rfl)
 | 38,_=>aM _ _ _ _ _ (by kernel_rfl)
 | 39,_=>aM _ _ _ _ _ (by kernel_rfl)
 | 40,_=>aM _ _ _ _ _ (by kernel_rfl)
 | 41,_=>aM _ _ _ _ _ (by kernel_rfl)
 | 42,_=>aM _ _ _ _ _ (by kernel_rfl)
 | 43,_=>aM _ _ _ _ _ (by kernel_rfl)
 | 44,_=>aM _ _ _ _ _ (by kernel_rfl)
 | 45,_=>aM _ _ _ _ _ (by kernel_rfl)
 | 46,_=>aM _ _ _ _ _ (by kernel_rfl)
 | 47,_=>aM _ _ _ _ _ (by kernel_rfl)
 | 48,_=>aM _ _ _ _ _ (by kernel_rfl)
 | 49,_=>aM _ _ _ _ _ (by kernel_rfl)
 | 50,_=>aM _ _ _ _ _ (by kernel_rfl)
 | 51,_=>aM _ _ _ _ _ (by kernel_rfl)
 | 52,_=>aM _ _ _ _ _ (by kernel_rfl)
 | 53,_=>aM _ _ _ _ _ (by kernel_rfl)
 | 54,_=>aM _ _ _ _ _ (by kernel_rfl)
 | 55,_=>aM _ _ _ _ _ (by kernel_rfl)
 | 56,_=>aM _ _ _ _ _ (by kernel_rfl)
 | 57,_=>aM _ _ _ _ _ (by kernel_rfl)
 | 58,_=>aM _ _ _ _ _ (by kernel_rfl)
 | 59,_=>aM _ _ _ _ _ (by kernel_rfl)
 | 60,_=>aM _ _ _ _ _ (by kernel_rfl)
 | 61,_=>aM _ _ _ _ _ (by kernel_rfl)
 | 62,_=>aM _ _ _ _ _ (by kernel_rfl)
 | 63,_=>aM _ _ _ _ _ (by kernel_rfl)
 | 64,_=>aM _ _ _ _ _ (by kernel_rfl)
 | 65,_=>aM _ _ _ _ _ (by kernel_rfl)
 | 66,_=>aM _ _ _ _ _ (by kernel_rfl)
 | 67,_=>aM _ _ _ _ _ (by kernel_rfl)
 | 68,_=>aM _ _ _ _ _ (by kernel_rfl)
 | 69,_=>aM _ _ _ _ _ (by kernel_rfl)
 | 70,_=>aM _ _ _ _ _ (by kernel_rfl)
 | 71,_=>aM _ _ _ _ _ (by kernel_rfl)
 | 72,_=>aM _ _ _ _ _ (by kernel_rfl)
 | 73,_=>aM _ _ _ _ _ (by kernel_rfl)
 | 74,_=>aM _ _ _ _ _ (by kernel_rfl)
 | 75,_=>aM _ _ _ _ _ (by kernel_rfl)
 | 76,_=>aM _ _ _ _ _ (by kernel_rfl)
 | 77,_=>aM _ _ _ _ _ (by kernel_rfl)
 | 78,_=>aM _ _ _ _ _ (by kernel_rfl)
 | 79,_=>aM _ _ _ _ _ (by kernel_rfl)
 | 80,_=>aM _ _ _ _ _ (by kernel_rfl)
 | 81,_=>aM _ _ _ _ _ (by kernel_rfl)
 | 82,_=>aM _ _ _ _ _ (by kernel_rfl)
 | 83,_=>aM _ _ _ _ _ (by kernel_rfl)
 | 84,_=>aM _ _ _ _ _ (by kernel_rfl)
 | 85,_=>aM _ _ _ _ _ (by kernel_rfl)
 | 86,_=>aM _ _ _ _ _ (by kernel_rfl)
 | 87,_=>aM _ _ _ _ _ (by kernel_rfl)
 | 88,_=>aM _ _ _ _ _ (by kernel_rfl)
 | 89,_=>aM _ _ _ _ _ (by kernel_rfl)
 | 90,_=>aM _ _ _ _ _ (by kernel_rfl)
 | 91,_=>aM _ _ _ _ _ (by kernel_rfl)
 | 92,_=>aM _ _ _ _ _ (by kernel_rfl)
 | 93,_=>aM _ _ _ _ _ (by kernel_rfl)
 | 94,_=>aM _ _ _ _ _ (by kernel_rfl)
 | 95,_=>aM _ _ _ _ _ (by kernel_rfl)
 | 96,_=>aM _ _ _ _ _ (by kernel_rfl)
 | 97,_=>aM _ _ _ _ _ (by kernel_rfl)
 | 98,_=>aM _ _ _ _ _ (by kernel_rfl)
 | 99,_=>aM _ _ _ _ _ (by kernel_rfl)
 | n+100,h=>absurd h (by omega)
theorem FE:∀i:Nat,i < 100->ag 80 [iv (Int.ofNat i)] (.dat (sb (ig (Int.ofNat i))))
 | 0,_=>aM _ _ _ _ _ (by kernel_rfl)
 | 1,_=>aM _ _ _ _ _ (by kernel_rfl)
 | 2,_=>aM _ _ _ _ _ (by kernel_rfl)
 | 3,_=>aM _ _ _ _ _ (by kernel_rfl)
 | 4,_=>aM _ _ _ _ _ (by kernel_rfl)
 | 5,_=>aM _ _ _ _ _ (by kernel_rfl)
 | 6,_=>aM _ _ _ _ _ (by kernel_rfl)
 | 7,_=>aM _ _ _ _ _ (by kernel_rfl)
 | 8,_=>aM _ _ _ _ _ (by kernel_rfl)
 | 9,_=>aM _ _ _ _ _ (by kernel_rfl)
 | 10,_=>aM _ _ _ _ _ (by kernel_rfl)
 | 11,_=>aM _ _ _ _ _ (by kernel_rfl)
 | 12,_=>aM _ _ _ _ _ (by kernel_rfl)
 | 13,_=>aM _ _ _ _ _ (by kernel_rfl)
 | 14,_=>aM _ _ _ _ _ (by kernel_rfl)
 | 15,_=>aM _ _ _ _ _ (by kernel_rfl)
 | 16,_=>aM _ _ _ _ _ (by kernel_rfl)
 | 17,_=>aM _ _ _ _ _ (by kernel_rfl)
 | 18,_=>aM _ _ _ _ _ (by kernel_rfl)
 | 19,_=>aM _ _ _ _ _ (by kernel_rfl)
 | 20,_=>aM _ _ _ _ _ (by kernel_rfl)
 | 21,_=>aM _ _ _ _ _ (by kernel_rfl)
 | 22,_=>aM _ _ _ _ _ (by kernel_rfl)
 | 23,_=>aM _ _ _ _ _ (by kernel_rfl)
 | 24,_=>aM _ _ _ _ _ (by kernel_rfl)
 | 25,_=>aM _ _ _ _ _ (by kernel_rfl)
 | 26,_=>aM _ _ _ _ _ (by kernel_rfl)
 | 27,_=>aM _ _ _ _ _ (by kernel_rfl)
 | 28,_=>aM _ _ _ _ _ (by kernel_rfl)
 | 29,_=>aM _ _ _ _ _ (by kernel_rfl)
 | 30,_=>aM _ _ _ _ _ (by kernel_rfl)
 | 31,_=>aM _ _ _ _ _ (by kernel_rfl)
 | 32,_=>aM _ _ _ _ _ (by kernel_rfl)
 | 33,_=>aM _ _ _ _ _ (by kernel_rfl)
 | 34,_=>aM _ _ _ _ _ (by kernel_rfl)
 | 35,_=>aM _ _ _ _ _ (by kernel_rfl)
 | 36,_=>aM _ _ _ _ _ (by kernel_rfl)
 | 37,_=>aM _ _ _ _ _ (by kernel_rfl)
 | 38,_=>aM _ _ _ _ _ (by kernel_rfl)
 | 39,_=>aM _ _ _ _ _ (by kernel_rfl)
 | 40,_=>aM _ _ _ _ _ (by kernel_rfl)
 | 41,_=>aM _ _ _ _ _ (by kernel_rfl)
 | 42,_=>aM _ _ _ _ _ (by kernel_rfl)
 | 43,_=>aM _ _ _ _ _ (by kernel_rfl)
 | 44,_=>aM _ _ _ _ _ (by kernel_rfl)
 | 45,_=>aM _ _ _ _ _ (by kernel_rfl)
 | 46,_=>aM _ _ _ _ _ (by kernel_rfl)
 | 47,_=>aM _ _ _ _ _ (by kernel_rfl)
 | 48,_=>aM _ _ _ _ _ (by kernel_rfl)
 | 49,_=>aM _ _ _ _ _ (by kernel_rfl)
 | 50,_=>aM _ _ _ _ _ (by kernel_rfl)
 | 51,_=>aM _ _ _ _ _ (by kernel_rfl)
 | 52,_=>aM _ _ _ _ _ (by kernel_rfl)
 | 53,_=>aM _ _ _ _ _ (by kernel_rfl)
 | 54,_=>aM _ _ _ _ _ (by kernel_rfl)
 | 55,_=>aM _ _ _ _ _ (by kernel_rfl)
 | 56,_=>aM _ _ _ _ _ (by kernel_rfl)
 | 57,_=>aM _ _ _ _ _ (by kernel_rfl)
 | 58,_=>aM _ _ _ _ _ (by kernel_rfl)
 | 59,_=>aM _ _ _ _ _ (by kernel_rfl)
 | 60,_=>aM _ _ _ _ _ (by kernel_rfl)
 | 61,_=>aM _ _ _ _ _ (by kernel_rfl)
 | 62,_=>aM _ _ _ _ _ (by kernel_rfl)
 | 63,_=>aM _ _ _ _ _ (by kernel_rfl)
 | 64,_=>aM _ _ _ _ _ (by kernel_rfl)
 | 65,_=>aM _ _ _ _ _ (by kernel_rfl)
 | 66,_=>aM _ _ _ _ _ (by kernel_rfl)
 | 67,_=>aM _ _ _ _ _ (by kernel_rfl)
 | 68,_=>aM _ _ _ _ _ (by kernel_rfl)
 | 69,_=>aM _ _ _ _ _ (by kernel_rfl)
 | 70,_=>aM _ _ _ _ _ (by kernel_rfl)
 | 71,_=>aM _ _ _ _ _ (by kernel_rfl)
 | 72,_=>aM _ _ _ _ _ (by kernel_rfl)
 | 73,_=>aM _ _ _ _ _ (by kernel_rfl)
 | 74,_=>aM _ _ _ _ _ (by kernel_rfl)
 | 75,_=>aM _ _ _ _ _ (by kernel_rfl)
 | 76,_=>aM _ _ _ _ _ (by kernel_rfl)
 | 77,_=>aM _ _ _ _ _ (by kernel_rfl)
 | 78,_=>aM _ _ _ _ _ (by kernel_rfl)
 | 79,_=>aM _ _ _ _ _ (by kernel_rfl)
 | 80,_=>aM _ _ _ _ _ (by kernel_rfl)
 | 81,_=>aM _ _ _ _ _ (by kernel_rfl)
 | 82,_=>aM _ _ _ _ _ (by kernel_rfl)
 | 83,_=>aM _ _ _ _ _ (by kernel_rfl)
 | 84,_=>aM _ _ _ _ _ (by kernel_rfl)
 | 85,_=>aM _ _ _ _ _ (by kernel_rfl)
 | 86,_=>aM _ _ _ _ _ (by kernel_rfl)
 | 87,_=>aM _ _ _ _ _ (by kernel_rfl)
 | 88,_=>aM _ _ _ _ _ (by kernel_rfl)
 | 89,_=>aM _ _ _ _ _ (by kernel_rfl)
 | 90,_=>aM _ _ _ _ _ (by kernel_rfl)
 | 91,_=>aM _ _ _ _ _ (by kernel_rfl)
 | 92,_=>aM _ _ _ _ _ (by kernel_rfl)
 | 93,_=>aM _ _ _ _ _ (by kernel_rfl)
 | 94,_=>aM _ _ _ _ _ (by kernel_rfl)
 | 95,_=>aM _ _ _ _ _ (by kernel_rfl)
 | 96,_=>aM _ _ _ _ _ (by kernel_rfl)
 | 97,_=>aM _ _ _ _ _ (by kernel_rfl)
 | 98,_=>aM _ _ _ _ _ (by kernel_rfl)
 | 99,_=>aM _ _ _ _ _ (by kernel_rfl)
 | n+100,h=>absurd h (by omega)
theorem XI {a b:List UInt8}:dv a b=dv b a:=by
 rw[Bool.eq_iff_iff,io,io,beq_iff_eq,beq_iff_eq];exact eq_comm
theorem Tl {ds:List aZ} {nm:List UInt8} {d:aZ} (h:aF ds nm=some d):d.nm=nm:=by
 obtain⟨p,h1,h2⟩:=uy h;obtain⟨e,g1,_,g3⟩:=iK h1;rw[h2] at g1;simp at g1;subst g1;exact (mz g3).symm
noncomputable def S0:Hints:=⟨an,Ld,ap,rowsOf ap 38⟩
def wH (es:List aq) (nm of:List UInt8):ab:=⟨[(2,.dat (sb of)),(0,rP 0),(1,.dat (sb nm))],[],hF 0 es,1⟩
def yY (es:List aq) (c:Bool):ab:=⟨[(6,bv c)],[],hF 0 es,1⟩
theorem P7 {es:List aq} {nm of dn sn:List UInt8} {ar sk six:Int} {sa lb:List aq} {con:Bool}
  (hf:eB 36 [rP 0,.dat (sb of)] es (.tup [.dat (dw dn ar sk sn six sa con lb),bv false])) {T:Exit->aa->Prop}
  (e:T .ret ((yY es false).aw Tryz.f38.ntmps)) :
  KD (roundOf Tryz.f38 0) T ((wH es nm of).aw Tryz.f38.ntmps):=by
 have q4:=cG 7 dn ar sk sn six sa con lb;refine aB [] [100007] (H:=S0) (live:=sB) (by kernel_rfl) ?_;refine oh hf ?_;refine oo q4 ?_;exact oe e
theorem VA {es:List aq} {nm of dn sn:List UInt8} {ar sk six:Int} {sa lb:List aq} {con c a:Bool}
  (hf:eB 36 [rP 0,.dat (sb of)] es (.tup [.dat (dw dn ar sk sn six sa con lb),bv true])) (h1:dv nm of=c) (h2:dv nm ru=a) (h3:(c||a)=true) {T:Exit->aa->Prop}
  (e:T .ret ((yY es true).aw Tryz.f38.ntmps)) :
  KD (roundOf Tryz.f38 0) T ((wH es nm of).aw Tryz.f38.ntmps):=by
 have q4:=cG 7 dn ar sk sn six sa con lb
 cases c
 ·have h3:a=true:=h3;subst h3;refine aB [19,22] [100007] (H:=S0) (live:=sB) (by kernel_rfl) ?_;refine oh hf ?_;refine oo q4 ?_;refine ob h1 ?_;refine ob h2 ?_;exact oe e
 clear h2 h3;refine aB [19] [100007] (H:=S0) (live:=sB) (by kernel_rfl) ?_;refine oh hf ?_;refine oo q4 ?_;refine ob h1 ?_;exact oe e
theorem aao {es:List aq} {nm of dn sn:List UInt8} {ar sk six:Int} {sa lb:List aq} {con:Bool}
  (hf:eB 36 [rP 0,.dat (sb of)] es (.tup [.dat (dw dn ar sk sn six sa con lb),bv true])) (h1:dv nm of=false) (h2:dv nm ru=false) (h3:aQ sk 2=false) {T:Exit->aa->Prop}
  (e:T .ret ((yY es false).aw Tryz.f38.ntmps)) :
  KD (roundOf Tryz.f38 0) T ((wH es nm of).aw Tryz.f38.ntmps):=by
 have q4:=cG 7 dn ar sk sn six sa con lb;refine aB [19,22,27] [100007] (H:=S0) (live:=sB) (by kernel_rfl) ?_;refine oh hf ?_;refine oo q4 ?_;refine ob h1 ?_;refine ob h2 ?_;refine ox h3 ?_;exact oe e
theorem aan {es:List aq} {nm of dn sn:List UInt8} {ar sk six:Int} {sa lb:List aq} {con:Bool}
  (hf:eB 36 [rP 0,.dat (sb of)] es (.tup [.dat (dw dn ar sk sn six sa con lb),bv true])) (h1:dv nm of=false) (h2:dv nm ru=false) (h3:aQ sk 2=true) {T:Exit->aa->Prop}
  (e:T .normal ((wH es nm sn).aw Tryz.f38.ntmps)) :
  KD (roundOf Tryz.f38 0) T ((wH es nm of).aw Tryz.f38.ntmps):=by
 have q4:=cG 7 dn ar sk sn six sa con lb;refine aB [19,22,27] [100007] (H:=S0) (live:=sB) (by kernel_rfl) ?_;refine oh hf ?_;refine oo q4 ?_;refine ob h1 ?_;refine ob h2 ?_;refine ox h3 ?_;exact oe e
theorem VB {es:List aq} {nm of:List UInt8} {c:Bool}
  (hl:KD (.loop (roundOf Tryz.f38 0)) (fun e s=>e=.ret/\s=(yY es c).aw Tryz.f38.ntmps) ((wH es nm of).aw Tryz.f38.ntmps)) :
  eB 38 [rP 0,.dat (sb nm),.dat (sb of)] es (bv c):=by
 refine co [] [] (x:=.of Tryz.f38 Ld sB) ?_;refine lo hl ?_;rintro ex s ⟨rfl,rfl⟩;refine⟨_,rfl,?_⟩;exact fi
def raN (ds:List aZ):Nat->List UInt8->List UInt8->Bool
 | 0,_,_=>false
 | f+1,nm,of=>match aF ds of with
  | none=>false
  | some d=>match dv nm of||dv nm ru with
   | true=>true
   | false=>match aQ d.sup.kind 2 with
    | true=>raN ds f nm d.sup.nm
    | false=>false
theorem aau {ds:List aZ} (hu:Up ds) (hn:ds.length < 1000) (nm:List UInt8):∀(f:Nat) (of:List UInt8),mP ds of < f->
  KD (.loop (roundOf Tryz.f38 0)) (fun e s=>e=.ret/\s=(yY (aK ds) (raN ds f nm of)).aw Tryz.f38.ntmps) ((wH (aK ds) nm of).aw Tryz.f38.ntmps):=by
 intro f of hr;refine Nk (St:=fun p:List UInt8=>(wH (aK ds) nm p).aw Tryz.f38.ntmps) (rk:=fun p=>mP ds p) (Inv:=fun p=>∃g,mP ds p < g/\raN ds g nm p=raN ds f nm of) ?_ ⟨f,hr,rfl⟩;rintro p ⟨g,hg,he⟩;obtain⟨g,rfl⟩:∃k,g=k+1:=⟨g - 1,by omega⟩;have hf:=jN (ds:=ds) p (by omega);rw[raN] at he
 cases hfd:aF ds p with
 | none=>
  rw[hfd] at hf he;have hf:eB 36 [rP 0,.dat (sb p)] (aK ds) (.tup [.dat aZ.zero.enc,bv false]):=hf;dsimp only at he;rw[←he];exact P7 hf ⟨rfl,rfl⟩
 | some d=>
  rw[hfd] at hf he;have hf:eB 36 [rP 0,.dat (sb p)] (aK ds) (.tup [.dat d.enc,bv true]):=hf;dsimp only at he
  cases hc:(dv nm p||dv nm ru) with
  | true=>
   rw[hc] at he;dsimp only at he;rw[←he];obtain⟨dn,ar,⟨sk,sn,six,sa⟩,con,fl⟩:=d;exact VA hf rfl rfl hc ⟨rfl,rfl⟩
  | false=>
   rw[hc] at he;dsimp only at he;rw[Bool.or_eq_false_iff] at hc
   cases hk:aQ d.sup.kind 2 with
   | false=>
    rw[hk] at he;dsimp only at he;rw[←he];obtain⟨dn,ar,⟨sk,sn,six,sa⟩,con,fl⟩:=d;exact aao hf hc.1 hc.2 hk ⟨rfl,rfl⟩
   | true=>
    rw[hk] at he;dsimp only at he;have hlt:=po hu hfd hk;obtain⟨dn,ar,⟨sk,sn,six,sa⟩,con,fl⟩:=d;exact aan hf hc.1 hc.2 hk ⟨sn,rfl,⟨g,by have:mP ds sn < mP ds p:=hlt;omega,he⟩,hlt⟩
theorem EI {ds:List aZ} (hu:Up ds):∀(f:Nat) {of:List UInt8} {d:aZ},mP ds of < f->aF ds of=some d->wo ds f ru of=true
 | 0,_,_,h,_=>by omega
 | f+1,of,d,h,hf=>by
  rw[wo,hf];dsimp only
  cases dv d.nm ru with
  | true=>rfl
  | false=>
   cases hk:aQ d.sup.kind 2 with
   | false=>exact hU ru
   | true=>
    have hr:=po hu hf hk;obtain⟨p,h1,h2⟩:=uy hf;obtain⟨j,h3,_⟩:=hu.up p d h2 hk;obtain⟨e,_,h4,_⟩:=iK h3;exact EI hu f (by omega) h4
theorem P8 {ds:List aZ} (hu:Up ds) (nm:List UInt8):∀(f:Nat) (of:List UInt8),mP ds of < f->raN ds f nm of=wo ds f nm of
 | 0,_,h=>by omega
 | f+1,of,h=>by
  rw[raN,wo]
  cases hf:aF ds of with
  | none=>rfl
  | some d=>
   dsimp only;have hd:=Tl hf;rw[hd,XI (a:=of)]
   cases hc:dv nm of with
   | true=>rfl
   | false=>
    rw[Bool.false_or]
    cases hy:dv nm ru with
    | true=>
     dsimp only
     cases hk:aQ d.sup.kind 2 with
     | false=>rfl
     | true=>
      have hr:=po hu hf hk;obtain⟨p,h1,h2⟩:=uy hf;obtain⟨j,h3,_⟩:=hu.up p d h2 hk;obtain⟨e,_,h4,_⟩:=iK h3;rw[mz hy];exact (EI hu f (by omega) h4).symm
    | false=>
     dsimp only
     cases hk:aQ d.sup.kind 2 with
     | false=>rfl
     | true=>
      have hr:=po hu hf hk;exact P8 hu nm f d.sup.nm (by omega)
theorem YR {ds:List aZ} (hu:Up ds) (hn:ds.length < 1000) (nm of:List UInt8):eB 38 [rP 0,.dat (sb nm),.dat (sb of)] (aK ds) (bv (Ot ds nm of)):=by
 have h:=VB (aau hu hn nm (ds.length+1) of (tB ds of));rw[P8 hu nm _ _ (tB ds of)] at h;exact h
theorem lku {cs:List aq} {es:List (Go.Value×aq)} {n:Nat} {nm dn sn:List UInt8} {ar sk six:Int} {sa lb:List aq} {con c:Bool}
  (hf:eS 49 [hP,.dat (sb nm)] cs es n (.tup [.dat (dw dn ar sk sn six sa con lb),bv c])) (hc:ag 53 [.dat (dw dn ar sk sn six sa con lb)] (.dat (dw dn ar sk sn six sa con lb))) :
  eS 35 [hP,.dat (sb nm)] cs es n (.tup [.dat (dw dn ar sk sn six sa con lb),bv c]):=by
 have q1:=cG 6 dn ar sk sn six sa con lb;have q2:=iP true 6 dn ar sk sn six sa con lb;have q3:=iP false 6 dn ar sk sn six sa con lb;have p1:=cG 4 dn ar sk sn six sa con lb;have p2:=iP true 4 dn ar sk sn six sa con lb;have p3:=iP false 4 dn ar sk sn six sa con lb;have hg:=gcB (.tup [.dat (dw dn ar sk sn six sa con lb),bv c]) cs es n rfl;refine co [] [100006,14,100004] (x:=.of Tryz.f35 QV SJ) ?_;refine oh hf ?_;refine oo q1 ?_;refine oo q2 ?_;refine on hc ?_;refine oo q1 ?_
 rcases sa with _|⟨v2,v3⟩
 ·rcases lb with _|⟨v0,v1⟩ <;>
  ·exact bB (by kernel_rfl) hg
 rcases lb with _|⟨v4,v5⟩ <;>
 ·exact bB (by kernel_rfl) hg
theorem Hy {ds:List aZ} {tl:List aq} (hds:∀o∈ds,o.cX) (nm:List UInt8):oH 35 [hP,.dat (sb nm)] ds tl (.tup [.dat (iZ (aF ds nm)).enc,bv (fj (aF ds nm))]):=by
 have h:=qX ds tl nm;have hc:=qg (Hg hds nm);generalize iZ (aF ds nm)=d at *;obtain⟨dn,ar,⟨sk,sn,six,sa⟩,con,fl⟩:=d;exact lku h hc
noncomputable def hRr:Hints:=⟨an,Cl,ap,rowsOf ap 79⟩
def Gl (dn:List UInt8) (ar k:Int) (sn:List UInt8) (ix:Int) (sa:List aq) (con:Bool) (lb:List aq):Heap:=[(.loc 7,.cells [.dat (sb dn),iv ar,iv k,.dat (sb sn),iv ix,.dat (sl sa),bv con,.dat (sl lb)])]
theorem aeo {es:List aq} {nm dn sn:List UInt8} {ar k ix:Int} {sa lb L:List aq} {con:Bool}
  (hf:eB 36 [rP 0,.dat (sb nm)] es (.tup [.dat (dw dn ar k sn ix sa con lb),bv false])) :
  eB 79 [rP 0,.dat (sb nm),.dat (sl L)] es (.dat (sl L)):=by
 have q1:=cG 7 dn ar k sn ix sa con lb
 rcases L with _|⟨x,L⟩ <;>
 ·refine co [] [100007] (x:=.of Tryz.f79 Cl nO) ?_;refine oh hf ?_;refine oo q1 ?_;exact fi
theorem Vi {es:List aq} {nm dn sn:List UInt8} {ar k ix:Int} {sa lb L:List aq} {con:Bool}
  (hf:eB 36 [rP 0,.dat (sb nm)] es (.tup [.dat (dw dn ar k sn ix sa con lb),bv true]))
  (hs:ag 107 [.dat (sl L),.dat (sb nm)] (bv true)) :
  eB 79 [rP 0,.dat (sb nm),.dat (sl L)] es (.dat (sl L)):=by
 have q1:=cG 7 dn ar k sn ix sa con lb
 rcases L with _|⟨x,L⟩ <;>
 ·refine co [] [100007] (x:=.of Tryz.f79 Cl nO) ?_;refine oh hf ?_;refine oo q1 ?_;refine on hs ?_;exact fi
def MB (lo:Heap) (A L:List aq) (es:List aq) (i:Int):ab:=⟨[(10,iv i),(9,.own A),(7,.ptr (.loc 7) 0),(0,rP 0),(2,.dat (sl L))],lo,hF 0 es,1⟩
def Ky (lo:Heap) (A L:List aq) (es:List aq) (i:Int):ab:=⟨[(36,bv false),(10,iv i),(9,.own A),(7,.ptr (.loc 7) 0),(0,rP 0),(2,.dat (sl L))],lo,hF 0 es,1⟩
def MA (A L:List aq) (es:List aq) (i:Int):ab:=⟨[(11,iv i),(9,.own A),(0,rP 0),(2,.dat (sl L))],[],hF 0 es,1⟩
def Kw (A L:List aq) (es:List aq) (i:Int):ab:=⟨[(51,bv false),(11,iv i),(9,.own A),(0,rP 0),(2,.dat (sl L))],[],hF 0 es,1⟩
theorem Qq {l:List dY} {f:dY} {i:Nat} {A B L es sa:List aq} {dn sn:List UInt8} {ar k ix:Int} {con:Bool} {T:Exit->aa->Prop} (hi:i < (aN l).length) (ht:l[i]?=some f)
  (hc:ag 109 [.dat f.ty.enc] (.own B)) (ha:cj (env au.aI) false 60 [.own A,.dat (.slice B)] none=some ⟨.own (A++B),.keep⟩)
  (e:T .normal ((MB (Gl dn ar k sn ix sa con (aN l)) (A++B) L es (aG .i64 (Int.ofNat i+1))).aw Tryz.f79.ntmps)) :
  KD (roundOf Tryz.f79 0) T ((MB (Gl dn ar k sn ix sa con (aN l)) A L es (Int.ofNat i)).aw Tryz.f79.ntmps):=by
 have h1:=bd hi;have h2:=sG ht;obtain⟨x,r,hx⟩:∃x r,aN l=x::r:=by cases l with|nil=>simp at ht|cons x r=>exact⟨_,_,rfl⟩
 rw[hx] at h1 h2 e ⊢;clear ht hi hx;obtain⟨fnm,fk,ftn,fix,fa⟩:=f
 rcases fa with _|⟨b2,d2⟩ <;>
 ·rcases L with _|⟨z,L⟩ <;>
  ·refine aB [36] [43,47] (H:=hRr) (live:=nO) (by kernel_rfl) ?_;refine ob h1 ?_;refine oo h2 ?_;refine on hc ?_;refine oo ha ?_;exact oe e
theorem VI {l A L es sa:List aq} {dn sn:List UInt8} {ar k ix:Int} {con:Bool} {T:Exit->aa->Prop} (e:T (.exit 0) ((Ky (Gl dn ar k sn ix sa con l) A L es (Int.ofNat l.length)).aw Tryz.f79.ntmps)) :
  KD (roundOf Tryz.f79 0) T ((MB (Gl dn ar k sn ix sa con l) A L es (Int.ofNat l.length)).aw Tryz.f79.ntmps):=by
 have h1:=br (i:=l.length) (L:=l.length) (by omega)
 rcases l with _|⟨x,l⟩
 ·rcases L with _|⟨z,L⟩ <;>
  ·refine aB [] [] (H:=hRr) (live:=nO) (by kernel_rfl) ?_;exact oe e
 rcases L with _|⟨z,L⟩ <;>
 ·refine aB [36] [] (H:=hRr) (live:=nO) (by kernel_rfl) ?_;refine ob h1 ?_;exact oe e
theorem Qp {A L L2 es:List aq} {b:List UInt8} {i:Nat} {T:Exit->aa->Prop} (h1:bn (Int.ofNat i) (Int.ofNat A.length)=true)
  (h2:aJ (env au.aI) 60 [.dat (.slice A),.dat (.flat (.int .i64 (Int.ofNat i)))]=some ⟨.ref [sb b],.keep⟩)
  (hc:eB 79 [rP 0,.dat (sb b),.dat (sl L)] es (.dat (sl L2)))
  (e:T .normal ((MA A L2 es (aG .i64 (Int.ofNat i+1))).aw Tryz.f79.ntmps)) :
  KD (roundOf Tryz.f79 1) T ((MA A L es (Int.ofNat i)).aw Tryz.f79.ntmps):=by
 rcases L with _|⟨z,L⟩ <;>
 ·rcases L2 with _|⟨z,L2⟩ <;>
  ·refine aB [51] [57] (H:=hRr) (live:=nO) (by kernel_rfl) ?_;refine ob h1 ?_;refine oo h2 ?_;refine oh hc ?_;exact oe e
theorem VH {A L es:List aq} {T:Exit->aa->Prop} (e:T (.exit 2) ((Kw A L es (Int.ofNat A.length)).aw Tryz.f79.ntmps)) :
  KD (roundOf Tryz.f79 1) T ((MA A L es (Int.ofNat A.length)).aw Tryz.f79.ntmps):=by
 have h1:=br (i:=A.length) (L:=A.length) (by omega)
 rcases L with _|⟨z,L⟩ <;>
 ·refine aB [51] [] (H:=hRr) (live:=nO) (by kernel_rfl) ?_;refine ob h1 ?_;exact oe e
theorem aae {es:List aq} {nm dn sn:List UInt8} {ar k ix:Int} {sa lb L L2 L3 A0 A:List aq} {con:Bool}
  (hf:eB 36 [rP 0,.dat (sb nm)] es (.tup [.dat (dw dn ar k sn ix sa con lb),bv true]))
  (hs:ag 107 [.dat (sl L),.dat (sb nm)] (bv false)) (hp:ag 108 [.dat (sl L),.dat (sb nm)] (.dat (sl L2)))
  (hn:ag 109 [.dat (.agg [i64 k,sb sn,i64 ix,sl sa])] (.own A0))
  (hl1:KD (.loop (roundOf Tryz.f79 0)) (fun e s=>e=.exit 0/\s=(Ky (Gl dn ar k sn ix sa con lb) A L2 es (Int.ofNat lb.length)).aw Tryz.f79.ntmps) ((MB (Gl dn ar k sn ix sa con lb) A0 L2 es (Int.ofNat 0)).aw Tryz.f79.ntmps))
  (hl2:KD (.loop (roundOf Tryz.f79 1)) (fun e s=>e=.exit 2/\s=(Kw A L3 es (Int.ofNat A.length)).aw Tryz.f79.ntmps) ((MA A L2 es (Int.ofNat 0)).aw Tryz.f79.ntmps)) :
  eB 79 [rP 0,.dat (sb nm),.dat (sl L)] es (.dat (sl L3)):=by
 have q1:=cG 7 dn ar k sn ix sa con lb
 rcases L with _|⟨z,L⟩ <;>
 ·rcases L2 with _|⟨z,L2⟩ <;>
  ·rcases L3 with _|⟨z,L3⟩ <;>
   ·refine co [] [100007] (x:=.of Tryz.f79 Cl nO) ?_;refine oh hf ?_;refine oo q1 ?_;refine on hs ?_;refine on hp ?_
    rcases sa with _|⟨v0,v1⟩ <;>
    ·refine on hn ?_;refine lo hl1 ?_;rintro ex s ⟨rfl,rfl⟩;refine⟨_,rfl,?_⟩;refine lo hl2 ?_;rintro ex s ⟨rfl,rfl⟩;refine⟨_,rfl,?_⟩;exact fi
def dJ (ds:List aZ):Nat->List UInt8->List (List UInt8)->List (List UInt8)
 | 0,_,S=>S
 | f+1,nm,S=>match aF ds nm with
  | none=>S
  | some d=>match hasB S nm with
   | true=>S
   | false=>(da d).foldl (fun S n=>dJ ds f n S) (cH S nm)
def same (S L:List (List UInt8)):Prop:=S.Nodup/\kh L/\∀x,x∈S↔x∈L
theorem PG {S L:List (List UInt8)} (h:same S L) (x:List UInt8):hasB S x=hasB L x:=by
 rw[Bool.eq_iff_iff,jV,jV];exact h.2.2 x
theorem PH {S L:List (List UInt8)} {x:List UInt8} (h:same S L) (hb:hasB S x=false):same (S++[x]) (cH L x):=by
 obtain⟨h1,h2,h3⟩:=h;have hx:x∉S:=by intro hx;rw[jV.2 hx] at hb;simp at hb
 refine⟨?_,lH h2,?_⟩
 ·rw[List.nodup_append];refine⟨h1,by simp,?_⟩;intro a ha b hb2;rw[List.mem_singleton.1 hb2];rintro rfl;exact hx ha
 intro y;rw[gi,List.mem_append,List.mem_singleton,h3]
theorem se (ds:List aZ):∀(f:Nat) (nm:List UInt8) {S L:List (List UInt8)},same S L->same (gQ ds f nm S) (dJ ds f nm L)
 | 0,_,_,_,h=>h
 | f+1,nm,S,L,h=>by
  rw[gQ,dJ,←PG h]
  cases aF ds nm with
  | none=>exact h
  | some d=>
   dsimp only
   cases hb:hasB S nm with
   | true=>exact h
   | false=>
    have key:∀(l:List (List UInt8)) {S L:List (List UInt8)},same S L->same (l.foldl (fun S n=>gQ ds f n S) S) (l.foldl (fun S n=>dJ ds f n S) L):=by
     intro l
     induction l with
     | nil=>intro S L h;exact h
     | cons n r ih=>intro S L h;exact ih (se ds f n h)
    exact key _ (PH h hb)
theorem sf (ds:List aZ):∀(f:Nat) (nm:List UInt8) (S:List (List UInt8)) (x:List UInt8),x∈S->x∈dJ ds f nm S
 | 0,_,_,_,h=>h
 | f+1,nm,S,x,h=>by
  rw[dJ]
  cases aF ds nm with
  | none=>exact h
  | some d=>
   dsimp only
   cases hasB S nm with
   | true=>exact h
   | false=>exact mY (fun S n x hx=>sf ds f n S x hx) _ (gi.2 (.inl h))
theorem zI (ds:List aZ):∀(f:Nat) (nm:List UInt8) {S:List (List UInt8)},kh S->kh (dJ ds f nm S)
 | 0,_,_,h=>h
 | f+1,nm,S,h=>by
  rw[dJ]
  cases aF ds nm with
  | none=>exact h
  | some d=>
   dsimp only
   cases hasB S nm with
   | true=>exact h
   | false=>
    have key:∀(l:List (List UInt8)) {S:List (List UInt8)},kh S->kh (l.foldl (fun S n=>dJ ds f n S) S):=by
     intro l
     induction l with
     | nil=>intro S h;exact h
     | cons n r ih=>intro S h;exact ih (zI ds f n h)
    exact key _ (lH h)
theorem nJ (ds:List aZ):∀(f:Nat) (nm:List UInt8) {S:List (List UInt8)},(∀x∈S,fj (aF ds x)=true)->∀x∈dJ ds f nm S,fj (aF ds x)=true
 | 0,_,_,h=>h
 | f+1,nm,S,h=>by
  rw[dJ]
  cases hf:aF ds nm with
  | none=>exact h
  | some d=>
   dsimp only
   cases hasB S nm with
   | true=>exact h
   | false=>
    have key:∀(l:List (List UInt8)) {S:List (List UInt8)},(∀x∈S,fj (aF ds x)=true)->∀x∈l.foldl (fun S n=>dJ ds f n S) S,fj (aF ds x)=true:=by
     intro l
     induction l with
     | nil=>intro S h;exact h
     | cons n r ih=>intro S h;exact ih (nJ ds f n h)
    refine key _ ?_;intro x hx
    rcases gi.1 hx with hx|rfl
    ·exact h x hx
    rw[hf];rfl
theorem B1 {L:List (List UInt8)} (h:kh L):L.Nodup:=by
 refine List.Pairwise.imp ?_ h;intro a b hab e;rw[e,DM] at hab;simp at hab
theorem vC {α:Type} [DecidableEq α]:∀{L M:List α},L.Nodup->(∀x∈L,x∈M)->L.length<=M.length
 | [],_,_,_=>by simp
 | x::r,M,h,hs=>by
  obtain⟨h1,h2⟩:=List.nodup_cons.1 h;have hx:=hs x List.mem_cons_self;have ih:=vC (M:=M.erase x) h2 (fun y hy=>(List.mem_erase_of_ne (by rintro rfl;exact h1 hy)).2 (hs y (List.mem_cons_of_mem _ hy)));rw[List.length_erase_of_mem hx] at ih
  have:0 < M.length:=List.length_pos_of_mem hx
  simp only[List.length_cons];omega
theorem En {ds:List aZ} {L:List (List UInt8)} (h:kh L) (hd:∀x∈L,fj (aF ds x)=true):L.length<=ds.length:=by
 have h1:∀x∈L,x∈ds.map (·.nm):=by
  intro x hx;have h2:=hd x hx
  cases hf:aF ds x with
  | none=>rw[hf] at h2;simp[fj] at h2
  | some d=>
   obtain⟨h3,h4⟩:=eZ hf;exact List.mem_map.2 ⟨d,h3,h4⟩
 have h2:=vC (B1 h) h1;simpa using h2
theorem KM {ds:List aZ} (hds:∀d∈ds,d.low) (hn:ds.length < 1000):∀(f:Nat) (nm:List UInt8) (L:List (List UInt8)),pz ds L < f->kh L->(∀x∈L,fj (aF ds x)=true)->
  eB 79 [rP 0,.dat (sb nm),.dat (sl (L.map sb))] (aK ds) (.dat (sl ((dJ ds f nm L).map sb)))
 | 0,_,_,h,_,_=>by omega
 | f+1,nm,L,h,hL,hD=>by
  have hf:=jN (ds:=ds) nm (by omega);have hlen:=En hL hD;rw[dJ]
  cases hfd:aF ds nm with
  | none=>
   rw[hfd] at hf;exact aeo hf
  | some d=>
   rw[hfd] at hf;dsimp only;have hs:=Iq (l:=L) (x:=nm) (by omega)
   cases hb:hasB L nm with
   | true=>
    rw[hb] at hs;obtain⟨dn,ar,⟨sk,sn,six,sa⟩,con,fl⟩:=d;exact Vi hf hs
   | false=>
    rw[hb] at hs;have hp:=aas (l:=L) (x:=nm) (by omega);rw[ue hL] at hp;obtain⟨l1,l2,l3⟩:=hds d (eZ hfd).1;have hn2:=wR (t:=d.sup) (by omega);have hfl:=pT (g:=fun f=>f.ty.yo) (B:=200) (fun f hf=>lQ (l3 f hf));have hn0:=lQ l1;have hlt:pz ds (cH L nm) < pz ds L:=Gc hfd hb (fun x hx=>gi.2 (.inl hx)) (gi.2 (.inr rfl));have hD1:∀x∈cH L nm,fj (aF ds x)=true:=by
     intro x hx
     rcases gi.1 hx with hx|rfl
     ·exact hD x hx
     rw[hfd];rfl
    have hl1:∀lo:Heap,lo=Gl d.nm d.ar d.sup.kind d.sup.nm d.sup.Cz (ax d.sup.args) d.con (aN d.fl)->KD (.loop (roundOf Tryz.f79 0)) (fun e s=>e=.exit 0/\s=(Ky lo ((da d).map sb) ((cH L nm).map sb) (aK ds) (Int.ofNat (aN d.fl).length)).aw Tryz.f79.ntmps)
      ((MB lo (d.sup.yo.map sb) ((cH L nm).map sb) (aK ds) (Int.ofNat 0)).aw Tryz.f79.ntmps):=by
     intro lo hlo;refine ba (St:=fun i=>(MB lo ((d.sup.yo++(d.fl.take i).flatMap (fun f=>f.ty.yo)).map sb) ((cH L nm).map sb) (aK ds) (Int.ofNat i)).aw Tryz.f79.ntmps) (aN d.fl).length ?_ ?_ (i:=0) (Nat.zero_le _) |> (fun h=>by simpa using h)
     ·intro i hi;obtain⟨t,ht,hm⟩:=gx hi;have hw:aG .i64 (Int.ofNat i+1)=Int.ofNat (i+1):=bb (by rw[bc] at hi;omega);have hlen:((d.fl.take i).flatMap (fun f=>f.ty.yo)).length<=(d.fl.take i).length*200:=pT (fun f hf=>lQ (l3 f (List.mem_of_mem_take hf)));rw[List.length_take] at hlen;have hle:min i d.fl.length*200<=6*200:=Nat.mul_le_mul_right _ (by omega);have ha:=gN (a:=d.sup.yo++(d.fl.take i).flatMap (fun f=>f.ty.yo)) (b:=t.ty.yo) (by have:=lQ (l3 t hm);rw[List.length_append];omega);rw[hlo];refine Qq hi ht (wR (by have:=l3 t hm;omega)) ha ?_;rw[hw,kI ht,←List.append_assoc,List.map_append];rfl
     rw[hlo];have e:=VI (l:=aN d.fl) (A:=(da d).map sb) (L:=(cH L nm).map sb) (es:=aK ds) (sa:=ax d.sup.args) (dn:=d.nm) (sn:=d.sup.nm) (ar:=d.ar) (k:=d.sup.kind) (ix:=d.sup.Cz) (con:=d.con) (T:=iY (fun _=>False) (fun e s=>e=.exit 0/\s=(Ky (Gl d.nm d.ar d.sup.kind d.sup.nm d.sup.Cz (ax d.sup.args) d.con (aN d.fl)) ((da d).map sb) ((cH L nm).map sb) (aK ds) (Int.ofNat (aN d.fl).length)).aw Tryz.f79.ntmps)) ⟨rfl,rfl⟩;rw[bc] at e ⊢;rw[List.take_length];exact e
    have hl2:KD (.loop (roundOf Tryz.f79 1)) (fun e s=>e=.exit 2/\s=(Kw ((da d).map sb) (((da d).foldl (fun S n=>dJ ds f n S) (cH L nm)).map sb) (aK ds) (Int.ofNat ((da d).map sb).length)).aw Tryz.f79.ntmps)
      ((MA ((da d).map sb) ((cH L nm).map sb) (aK ds) (Int.ofNat 0)).aw Tryz.f79.ntmps):=by
     refine ba (St:=fun i=>(MA ((da d).map sb) ((((da d).take i).foldl (fun S n=>dJ ds f n S) (cH L nm)).map sb) (aK ds) (Int.ofNat i)).aw Tryz.f79.ntmps) ((da d).map sb).length ?_ ?_ (i:=0) (Nat.zero_le _)
     ·intro i hi;have hi2:=hi;rw[List.length_map] at hi2;have hg:(da d)[i]?=some (da d)[i]:=List.getElem?_eq_getElem hi2;generalize (da d)[i]=b at hg;have hnl:(da d).length<=1400:=by
       unfold da;rw[List.length_append]
       have:d.fl.length*200<=6*200:=Nat.mul_le_mul_right _ l2
       omega
      have hw:aG .i64 (Int.ofNat i+1)=Int.ofNat (i+1):=bb (by omega);have kS:∀(l:List (List UInt8)) {S:List (List UInt8)},kh S->kh (l.foldl (fun S n=>dJ ds f n S) S):=by
       intro l
       induction l with
       | nil=>intro S h;exact h
       | cons n r ih=>intro S h;exact ih (zI ds f n h)
      have kD:∀(l:List (List UInt8)) {S:List (List UInt8)},(∀x∈S,fj (aF ds x)=true)->∀x∈l.foldl (fun S n=>dJ ds f n S) S,fj (aF ds x)=true:=by
       intro l
       induction l with
       | nil=>intro S h;exact h
       | cons n r ih=>intro S h;exact ih (nJ ds f n h)
      refine Qp (bd hi) (pK hg) (KM hds hn f b _ ?_ (kS _ (lH hL)) (kD _ hD1)) ?_
      ·refine Nat.lt_of_le_of_lt (Gd ?_) (Nat.lt_of_lt_of_le hlt (Nat.le_of_lt_succ h));intro x hx;exact mY (fun S n x hx=>sf ds f n S x hx) _ hx
      rw[hw,dZ hg,List.foldl_append];rfl
     have e:=VH (A:=(da d).map sb) (L:=((da d).foldl (fun S n=>dJ ds f n S) (cH L nm)).map sb) (es:=aK ds) (T:=iY (fun _=>False) (fun e s=>e=.exit 2/\s=(Kw ((da d).map sb) (((da d).foldl (fun S n=>dJ ds f n S) (cH L nm)).map sb) (aK ds) (Int.ofNat ((da d).map sb).length)).aw Tryz.f79.ntmps)) ⟨rfl,rfl⟩;rw[List.length_map] at e ⊢;rw[List.take_length];exact e
    have hl1:=hl1 _ rfl;obtain⟨dn,ar,⟨sk,sn,six,sa⟩,con,fl⟩:=d;exact aae hf hs hp hn2 hl1 hl2
theorem Vz {nm:List UInt8} {k ix:Int} {l:List aq} (h1:aQ k 0=true):ag 81 [.dat (.agg [i64 k,sb nm,i64 ix,sl l])] (.dat (sb Oq)):=by
 refine aY [8] [] (x:=fL.of Tryz.f81 rD lf) (by kernel_rfl) ?_
 rcases l with _|⟨v0,v1⟩ <;>
 ·refine ob h1 ?_;exact fi
theorem MW {nm:List UInt8} {k ix:Int} {l:List aq} (h0:aQ k 0=false) (h1:aQ k 1=true):ag 81 [.dat (.agg [i64 k,sb nm,i64 ix,sl l])] (.dat (sb vD)):=by
 refine aY [8,10] [] (x:=fL.of Tryz.f81 rD lf) (by kernel_rfl) ?_
 rcases l with _|⟨v0,v1⟩ <;>
 ·refine ob h0 ?_;refine ob h1 ?_;exact fi
theorem Vy {nm d:List UInt8} {k ix:Int} {l:List aq} (h0:aQ k 0=false) (h1:aQ k 1=false) (h5:aQ k 5=true) (hi:ag 80 [iv ix] (.dat (sb d))) (hk:fW (env au.aI) .add 9 [.dat (sb [36]),.dat (sb d)]=some ⟨.dat (sb ([36]++d)),.keep⟩):ag 81 [.dat (.agg [i64 k,sb nm,i64 ix,sl l])] (.dat (sb ([36]++d))):=by
 refine aY [8,10,12] [16] (x:=fL.of Tryz.f81 rD lf) (by kernel_rfl) ?_
 rcases l with _|⟨v0,v1⟩ <;>
 ·refine ob h0 ?_;refine ob h1 ?_;refine ob h5 ?_;refine on hi ?_;refine oo hk ?_;exact fi
theorem P5 {nm:List UInt8} {k ix:Int} (h0:aQ k 0=false) (h1:aQ k 1=false) (h5:aQ k 5=false) (h2:aQ k 2=true):ag 81 [.dat (.agg [i64 k,sb nm,i64 ix,nl])] (.dat (sb nm)):=by
 refine aY [8,10,12,18] [] (x:=fL.of Tryz.f81 rD lf) (by kernel_rfl) ?_;refine ob h0 ?_;refine ob h1 ?_;refine ob h5 ?_;refine ob h2 ?_;exact fi
noncomputable def hRX:Hints:=⟨an,rD,ap,rowsOf ap 81⟩
def E5 (lo:Heap) (s:List UInt8) (i:Int):ab:=⟨[(4,iv i),(3,.dat (sb s)),(1,.ptr (.loc 1) 0)],lo,[],0⟩
def BY (lo:Heap) (s:List UInt8) (i:Int):ab:=⟨[(36,bv false),(4,iv i),(3,.dat (sb s)),(1,.ptr (.loc 1) 0)],lo,[],0⟩
theorem PK {k:Int} {nm:List UInt8} {ix:Int} {x:aq} {es:List aq} {l:List Ty} {t:Ty} {i:Nat} {s d:List UInt8} (hl:ax l=x::es) (hi:i < (ax l).length) (ht:l[i]?=some t)
  (hc:ag 81 [.dat t.enc] (.dat (sb d))) (hk:fW (env au.aI) .add 9 [.dat (sb [32]),.dat (sb d)]=some ⟨.dat (sb ([32]++d)),.keep⟩)
  (hk2:fW (env au.aI) .add 9 [.dat (sb s),.dat (sb ([32]++d))]=some ⟨.dat (sb (s++([32]++d))),.keep⟩) {T:Exit->aa->Prop}
  (e:T .normal ((E5 (fX 1 k nm ix (.slice (x::es))) (s++([32]++d)) (aG .i64 (Int.ofNat i+1))).aw Tryz.f81.ntmps)) :
  KD (roundOf Tryz.f81 0) T ((E5 (fX 1 k nm ix (.slice (x::es))) s (Int.ofNat i)).aw Tryz.f81.ntmps):=by
 have h1:=bd hi;have h2:=jU ht;rw[hl] at h1 h2;clear ht hi hl;obtain⟨k2,nm2,ix2,a2⟩:=t
 rcases a2 with _|⟨b2,d2⟩ <;>
 ·refine aB [36] [43,46,47] (H:=hRX) (live:=lf) (by kernel_rfl) ?_;refine ob h1 ?_;refine oo h2 ?_;refine on hc ?_;refine oo hk ?_;refine oo hk2 ?_;exact oe e
theorem Vg {k:Int} {nm s:List UInt8} {ix:Int} {l:List aq} {T:Exit->aa->Prop} (e:T (.exit 1) ((BY (fX 1 k nm ix (sl l)) s (Int.ofNat l.length)).aw Tryz.f81.ntmps)) :
  KD (roundOf Tryz.f81 0) T ((E5 (fX 1 k nm ix (sl l)) s (Int.ofNat l.length)).aw Tryz.f81.ntmps):=by
 have h1:=br (i:=l.length) (L:=l.length) (by omega)
 rcases l with _|⟨x,l⟩
 ·refine aB [] [] (H:=hRX) (live:=lf) (by kernel_rfl) ?_;exact oe e
 refine aB [36] [] (H:=hRX) (live:=lf) (by kernel_rfl) ?_;refine ob h1 ?_;exact oe e
theorem P6 {k:Int} {nm r:List UInt8} {ix:Int} {l:List aq} {c3 c4:Bool} (h0:aQ k 0=false) (h1:aQ k 1=false) (h5:aQ k 5=false) (h2:aQ k 2=false) (h3:aQ k 3=c3) (h4:aQ k 4=c4)
  (hl:KD (.loop (roundOf Tryz.f81 0)) (fun e s'=>e=.exit 1/\s'=(BY (fX 1 k nm ix (sl l)) r (Int.ofNat l.length)).aw Tryz.f81.ntmps) ((E5 (fX 1 k nm ix (sl l)) ([40]++GC c3 c4) (Int.ofNat 0)).aw Tryz.f81.ntmps))
  (hk:fW (env au.aI) .add 9 [.dat (sb r),.dat (sb [41])]=some ⟨.dat (sb (r++[41])),.keep⟩) :
  ag 81 [.dat (.agg [i64 k,sb nm,i64 ix,sl l])] (.dat (sb (r++[41]))):=by
 cases c3
 ·cases c4 <;>
  ·rcases l with _|⟨x,l⟩ <;>
   ·refine aY [8,10,12,18,29,31] [49] (x:=fL.of Tryz.f81 rD lf) (by kernel_rfl) ?_;refine ob h0 ?_;refine ob h1 ?_;refine ob h5 ?_;refine ob h2 ?_;refine ob h3 ?_;refine ob h4 ?_;refine lo hl ?_;rintro ex s ⟨rfl,rfl⟩;refine⟨_,rfl,?_⟩;refine oo hk ?_;exact fi
 clear h4
 rcases l with _|⟨x,l⟩ <;>
 ·refine aY [8,10,12,18,29] [49] (x:=fL.of Tryz.f81 rD lf) (by kernel_rfl) ?_;refine ob h0 ?_;refine ob h1 ?_;refine ob h5 ?_;refine ob h2 ?_;refine ob h3 ?_;refine lo hl ?_;rintro ex s ⟨rfl,rfl⟩;refine⟨_,rfl,?_⟩;refine oo hk ?_;exact fi
theorem MX {k:Int} {nm r:List UInt8} {ix:Int} {x:aq} {l:List aq} (h0:aQ k 0=false) (h1:aQ k 1=false) (h5:aQ k 5=false) (h2:aQ k 2=true) (h3:aQ k 3=false) (h4:aQ k 4=false)
  (hk0:fW (env au.aI) .add 9 [.dat (sb [40]),.dat (sb nm)]=some ⟨.dat (sb ([40]++nm)),.keep⟩)
  (hl:KD (.loop (roundOf Tryz.f81 0)) (fun e s'=>e=.exit 1/\s'=(BY (fX 1 k nm ix (sl (x::l))) r (Int.ofNat (x::l).length)).aw Tryz.f81.ntmps) ((E5 (fX 1 k nm ix (sl (x::l))) ([40]++nm) (Int.ofNat 0)).aw Tryz.f81.ntmps))
  (hk:fW (env au.aI) .add 9 [.dat (sb r),.dat (sb [41])]=some ⟨.dat (sb (r++[41])),.keep⟩) :
  ag 81 [.dat (.agg [i64 k,sb nm,i64 ix,.slice (x::l)])] (.dat (sb (r++[41]))):=by
 have h7:aQ (Int.ofNat (x::l).length) 0=false:=by
  rw[show (0:Int)=Int.ofNat 0 from rfl,qa];simp
 refine aY [8,10,12,18] [27,49] (x:=fL.of Tryz.f81 rD lf) (by kernel_rfl) ?_;refine ob h0 ?_;refine ob h1 ?_;refine ob h5 ?_;refine ob h2 ?_;refine oo hk0 ?_;refine lo hl ?_;rintro ex s ⟨rfl,rfl⟩;refine⟨_,rfl,?_⟩;refine oo hk ?_;exact fi
mutual
def Ty.vk:Ty->Prop
 | .mk k _ _ l=>((aQ k 3||(aQ k 4||aQ k 6))=!(aQ k 2)∨(aQ k 0||(aQ k 1||aQ k 5))=true)/\vkL l
def vkL:List Ty->Prop
 | []=>True
 | t::r=>t.vk/\vkL r
end
theorem PL {dg:Int->List UInt8} {k ix:Int} {nm s:List UInt8} {l:List Ty} (hb:l.length < 1000000000)
  (ih:∀t∈l,(t.lx dg).length < 100000000->ag 81 [.dat t.enc] (.dat (sb (t.lx dg)))) (hn:(s++fB dg l).length < 100000000) :
  KD (.loop (roundOf Tryz.f81 0)) (fun e s'=>e=.exit 1/\s'=(BY (fX 1 k nm ix (sl (ax l))) (s++fB dg l) (Int.ofNat (ax l).length)).aw Tryz.f81.ntmps) ((E5 (fX 1 k nm ix (sl (ax l))) s (Int.ofNat 0)).aw Tryz.f81.ntmps):=by
 simp only[List.length_append] at hn;refine ba (St:=fun i=>(E5 (fX 1 k nm ix (sl (ax l))) (s++fB dg (l.take i)) (Int.ofNat i)).aw Tryz.f81.ntmps) (ax l).length ?_ ?_ (i:=0) (Nat.zero_le _) |> (fun h=>by simpa [fB] using h)
 ·intro i hi;obtain⟨t,ht,hm⟩:=get_mem hi;obtain⟨x,es,hx⟩:∃x es,ax l=x::es:=by cases l with|nil=>simp at ht|cons a r=>exact⟨_,_,rfl⟩
  have hle:=Ko dg l (i+1);rw[qw ht] at hle;simp only[List.length_append,List.length_singleton] at hle;have hw:aG .i64 (Int.ofNat i+1)=Int.ofNat (i+1):=bb (by rw[aE] at hi;omega);have hk1:=dd (a:=[32]) (b:=t.lx dg) (by simp only[List.length_singleton];omega);have hk2:=dd (a:=s++fB dg (l.take i)) (b:=[32]++t.lx dg) (by simp only[List.length_append,List.length_singleton];omega);have e:=PK (T:=iY (fun s'=>s'=(E5 (fX 1 k nm ix (sl (ax l))) (s++fB dg (l.take (i+1))) (Int.ofNat (i+1))).aw Tryz.f81.ntmps)
   (fun e s'=>e=.exit 1/\s'=(BY (fX 1 k nm ix (sl (ax l))) (s++fB dg l) (Int.ofNat (ax l).length)).aw Tryz.f81.ntmps)) (k:=k) (nm:=nm) (ix:=ix) hx hi ht (ih t hm (by omega)) hk1 hk2 (by
    rw[hx,hw,qw ht];simp only[List.append_assoc];rfl)
  rw[hx];rw[hx] at e;exact e
 have e:=Vg (k:=k) (nm:=nm) (ix:=ix) (l:=ax l) (s:=s++fB dg l) (T:=iY (fun _=>False) (fun e s'=>e=.exit 1/\s'=(BY (fX 1 k nm ix (sl (ax l))) (s++fB dg l) (Int.ofNat (ax l).length)).aw Tryz.f81.ntmps)) ⟨rfl,rfl⟩;rw[aE] at e ⊢;rw[List.take_length];exact e
mutual
theorem YP {dg:Int->List UInt8} {p:Int->Prop} (hI:∀ix:Int,p ix->ag 80 [iv ix] (.dat (sb (dg ix)))):∀t:Ty,t.thin->t.Zt p->t.vk->(t.lx dg).length < 100000000->ag 81 [.dat t.enc] (.dat (sb (t.lx dg)))
 | .mk k nm ix l,hs,hx,hv,hn=>by
  simp only[Ty.thin] at hs;simp only[Ty.Zt] at hx;simp only[Ty.vk] at hv;have ih:=Qb hI l hs.2 hx.2 hv.2;rw[Ty.lx] at hn ⊢
  cases h0:aQ k 0 with
  | true=>exact Vz h0
  | false=>
   rw[h0] at hn
   cases h1:aQ k 1 with
   | true=>exact MW h0 h1
   | false=>
    rw[h1] at hn
    cases h5:aQ k 5 with
    | true=>
     rw[h5] at hn;have hn:([36]++dg ix).length < 100000000:=hn;exact Vy h0 h1 h5 (hI ix (hx.1 h5)) (dd (by simp only[List.length_append] at hn;omega))
    | false=>
     rw[h5] at hn;have hv1:(aQ k 3||(aQ k 4||aQ k 6))=!(aQ k 2):=by
      rcases hv.1 with h|h
      ·exact h
      rw[h0,h1,h5] at h;exact absurd h (by decide)
     cases hc:(aQ k 3||(aQ k 4||aQ k 6)) with
     | true=>
      rw[hc] at hn hv1;have h2:aQ k 2=false:=by simpa using hv1.symm
      have hn:(([40]++GC (aQ k 3) (aQ k 4))++fB dg l++[41]).length < 100000000:=hn;rw[List.length_append] at hn;exact P6 h0 h1 h5 h2 rfl rfl (PL hs.1 ih (by omega)) (dd (by simp only[List.length_singleton] at hn ⊢;omega))
     | false=>
      rw[hc] at hn hv1;have h2:aQ k 2=true:=by simpa using hv1.symm
      simp only[Bool.or_eq_false_iff] at hc
      cases l with
      | nil=>exact P5 h0 h1 h5 h2
      | cons x r=>
       have hn:(([40]++nm)++fB dg (x::r)++[41]).length < 100000000:=hn;rw[List.length_append] at hn;have hn2:=hn;rw[List.length_append,List.length_append] at hn2;exact MX h0 h1 h5 h2 hc.1 hc.2.1 (dd (by omega)) (PL (l:=x::r) hs.1 ih (by omega)) (dd (by simp only[List.length_singleton] at hn ⊢;omega))
theorem Qb {dg:Int->List UInt8} {p:Int->Prop} (hI:∀ix:Int,p ix->ag 80 [iv ix] (.dat (sb (dg ix)))):∀l:List Ty,kT l->EU p l->vkL l->∀t∈l,(t.lx dg).length < 100000000->ag 81 [.dat t.enc] (.dat (sb (t.lx dg)))
 | [],_,_,_,t,ht,_=>by simp at ht
 | x::r,hs,hx,hv,t,ht,hn=>by
  simp only[kT] at hs;simp only[EU] at hx;simp only[vkL] at hv
  rcases List.mem_cons.1 ht with h1|ht
  ·rw[h1] at hn ⊢;exact YP hI x hs.1 hx.1 hv.1 hn
  exact Qb hI r hs.2 hx.2 hv.2 t ht hn
end
mutual
def Ty.sm:Ty->Prop
 | .mk k nm ix l=>nm.length<=24/\(aQ k 5=true->bn ix 0=false)/\((aQ k 3||(aQ k 4||aQ k 6))=!(aQ k 2)∨(aQ k 0||(aQ k 1||aQ k 5))=true)/\PC l
def PC:List Ty->Prop
 | []=>True
 | t::r=>t.sm/\PC r
end
theorem vO {b:List UInt8} (h:isIdent b=true):b.length<=24:=by
 cases b with
 | nil=>simp
 | cons c r=>
  unfold isIdent at h;simp only[Bool.and_eq_true] at h
  have:=fH h.1.1
  simpa using this
theorem VS {k:Int} {nm:List UInt8} {ix:Int} {l:List Ty} (h:jo k nm ix l=true):nm.length<=24:=by
 unfold jo at h
 split at h
 ·simp at h
 rename_i g1
 split at h
 ·simp at h
 cases h2:aQ k 2 with
 | true=>
  have hk:k=2:=gU h2;subst hk;rw[if_neg (by decide),if_pos (by decide),Bool.and_eq_true] at h;exact vO h.1
 | false=>
  rw[h2] at g1
  have:dv nm []=true:=by
   cases hh:dv nm [] with
   | true=>rfl
   | false=>exact absurd (by rw[hh];rfl) g1
  rw[mz this];simp
theorem VT {k:Int} {nm:List UInt8} {ix:Int} {l:List Ty} (h:jo k nm ix l=true) (h5:aQ k 5=true):bn ix 0=false:=by
 have hk:k=5:=gU h5;subst hk;unfold jo at h
 split at h
 ·simp at h
 split at h
 ·simp at h
 rw[if_neg (by decide),if_neg (by decide),if_neg (by decide),if_neg (by decide)] at h;simp only[Bool.and_eq_true,Bool.not_eq_true'] at h;exact h.2.1
theorem Nd {k:Int} {nm:List UInt8} {ix:Int} {l:List Ty} (h:jo k nm ix l=true):(aQ k 3||(aQ k 4||aQ k 6))=!(aQ k 2)∨(aQ k 0||(aQ k 1||aQ k 5))=true:=by
 unfold jo at h
 split at h
 ·simp at h
 split at h
 ·simp at h
 cases h0:(aQ k 0||aQ k 1) with
 | true=>
  refine .inr ?_;rw[←Bool.or_assoc,h0];rfl
 | false=>
  rw[h0,if_neg (by decide)] at h
  cases h2:aQ k 2 with
  | true=>
   have hk:k=2:=gU h2;subst hk;exact .inl (by decide)
  | false=>
   rw[h2,if_neg (by decide)] at h
   cases h3:aQ k 3 with
   | true=>exact .inl (by simp)
   | false=>
    rw[h3,if_neg (by decide)] at h
    cases h4:aQ k 4 with
    | true=>exact .inl (by simp)
    | false=>
     rw[h4,if_neg (by decide)] at h
     cases h5:aQ k 5 with
     | true=>exact .inr (by simp)
     | false=>
      rw[h5,if_neg (by decide)] at h
      cases h6:aQ k 6 with
      | true=>exact .inl (by simp)
      | false=>rw[h6,if_neg (by decide)] at h;simp at h
mutual
theorem EV:∀t:Ty,t.valid=true->t.sm
 | .mk k nm ix l,h=>by
  rw[Ty.valid,Bool.and_eq_true] at h;rw[Ty.sm];exact⟨VS h.1,VT h.1,Nd h.1,BN l (by simpa using h.2)⟩
theorem BN:∀l:List Ty,me l=false->PC l
 | [],_=>trivial
 | t::r,h=>by
  rw[me,Bool.or_eq_false_iff] at h;rw[PC];exact⟨EV t (by simpa using h.1),BN r h.2⟩
end
theorem KY {t:Ty} {ar:Int} (h:t.over ar=true):t.size<=200/\t.sm:=by
 unfold Ty.over at h;simp only[Bool.and_eq_true] at h;have h1:=gU h.1;unfold Ty.validate at h1
 split at h1
 ·simp at h1
 rename_i g;simp only[Bool.or_eq_false_iff] at g;refine⟨?_,?_⟩
 ·have:=g.1
  rw[show (200:Int)=Int.ofNat 200 from rfl,iM] at this;simp at this;exact this
 split at h1
 ·rename_i hv;exact EV t hv
 simp at h1
mutual
theorem YM:∀t:Ty,t.sm->t.vk
 | .mk k nm ix l,h=>by
  rw[Ty.sm] at h;rw[Ty.vk];exact⟨h.2.2.1,PB l h.2.2.2⟩
theorem PB:∀l:List Ty,PC l->vkL l
 | [],_=>trivial
 | t::r,h=>by
  rw[PC] at h;rw[vkL];exact⟨YM t h.1,PB r h.2⟩
end
def ixP (ix:Int):Prop:=∃n:Nat,n < 100/\ix=Int.ofNat n
theorem SU {ix:Int} (h1:bn ix 0=false) (h2:bn ix 100=true):ixP ix:=by
 rw[gr] at h1 h2;simp only[decide_eq_false_iff_not,decide_eq_true_eq] at h1 h2;exact⟨ix.toNat,by omega,by simp only[Int.ofNat_eq_natCast];omega⟩
mutual
theorem Dj:∀t:Ty,t.sm->t.eX->t.Zt ixP
 | .mk k nm ix l,h,hx=>by
  rw[Ty.sm] at h;rw[Ty.eX] at hx;rw[Ty.Zt];exact⟨fun h5=>SU (h.2.1 h5) (hx.1 h5),KF l h.2.2.2 hx.2⟩
theorem KF:∀l:List Ty,PC l->dE l->EU ixP l
 | [],_,_=>trivial
 | t::r,h,hx=>by
  rw[PC] at h;rw[dE] at hx;rw[EU];exact⟨Dj t h.1 hx.1,KF r h.2 hx.2⟩
end
theorem yF (i:Int):(ig i).length<=2:=by unfold ig;split <;> simp
theorem NB (a b:Bool):(GC a b).length<=6:=by cases a <;> cases b <;> decide
mutual
theorem lD:∀t:Ty,t.sm->(t.lx ig).length+1<=30*t.size
 | .mk k nm ix l,h=>by
  rw[Ty.sm] at h;have ih:=EW l h.2.2.2;have h1:=h.1;have h2:=yF ix;have h3:=NB (aQ k 3) (aQ k 4);rw[Ty.lx,Ty.size]
  cases aQ k 0 with
  | true=>simp[Oq];omega
  | false=>
   cases aQ k 1 with
   | true=>simp[vD];omega
   | false=>
    cases aQ k 5 with
    | true=>simp only[List.length_append,List.length_singleton];omega
    | false=>
     cases (aQ k 3||(aQ k 4||aQ k 6)) with
     | true=>simp only[List.length_append,List.length_singleton];omega
     | false=>
      cases SP (ax l) with
      | false=>dsimp only;omega
      | true=>simp only[List.length_append,List.length_singleton];omega
theorem EW:∀l:List Ty,PC l->(fB ig l).length<=30*aS l
 | [],_=>by simp[fB,aS]
 | t::r,h=>by
  rw[PC] at h;have h1:=lD t h.1;have h2:=EW r h.2;rw[fB,aS];simp only[List.length_append,List.length_singleton];omega
end
structure aZ.sm (d:aZ):Prop where
 nm:d.nm.length<=24
 ar:ixP d.ar
 fn:d.fl.length<=6
 sup:d.sup.size<=200/\d.sup.sm
 fl:∀f∈d.fl,f.nm.length<=24/\f.ty.size<=200/\f.ty.sm
theorem OH {ar:Int}:∀{pre l:List dY},HJ ar pre l=true->∀f∈l,f.nm.length<=24/\f.ty.size<=200/\f.ty.sm
 | _,[],_,f,hf=>by simp at hf
 | pre,g::r,h,f,hf=>by
  rw[HJ] at h;simp only[Bool.and_eq_true] at h
  rcases List.mem_cons.1 hf with rfl|hf
  ·exact⟨vO h.1.1,KY h.1.2.2⟩
  exact OH h.2 f hf
theorem adD {d:aZ} (h:d.wf=true) (h1:bn 6 d.ar=false) (h2:bn 6 (Int.ofNat (aN d.fl).length)=false):d.sm:=by
 unfold aZ.wf at h;simp only[Bool.and_eq_true] at h;obtain⟨g1,_,g3,_,_,g6,g7⟩:=h;refine⟨vO g1,?_,?_,KY g6,OH g7⟩
 ·refine SU (by simpa using g3) ?_;rw[gr] at h1 ⊢;simp only[decide_eq_false_iff_not,decide_eq_true_eq] at h1 ⊢;omega
 rw[bc,show (6:Int)=Int.ofNat 6 from rfl,iM] at h2;simp at h2;exact h2
theorem TO (ds:List aZ) (d:aZ):(fV ds d).2=ds∨((fV ds d).2=ds++[d]/\d.sm):=by
 unfold fV
 cases hw:d.wf with
 | false=>exact .inl rfl
 | true=>
  cases h1:bn 6 d.ar with
  | true=>exact .inl rfl
  | false=>
   cases h2:bn 6 (Int.ofNat (aN d.fl).length) with
   | true=>exact .inl rfl
   | false=>
    have hs:=adD hw h1 h2
    cases aF ds d.nm with
    | some o=>dsimp only;cases o.eq d <;> exact .inl rfl
    | none=>
     cases bn (Int.ofNat ds.length) 60 with
     | false=>exact .inl rfl
     | true=>
      cases cF ds d.sup with
      | false=>exact .inl rfl
      | true=>
       cases d.fl.any (fun f=>!cF (ds++[d]) f.ty) with
       | true=>exact .inl rfl
       | false=>
        cases aQ d.sup.kind 2 with
        | false=>exact .inr ⟨rfl,hs⟩
        | true=>
         dsimp only
         cases (iZ (aF (ds++[d]) d.sup.nm)).con with
         | true=>exact .inl rfl
         | false=>exact .inr ⟨rfl,hs⟩
def OC (ds:List aZ):Prop:=∀o∈ds,o.sm
theorem Og:OC cT:=by
 intro o ho;simp only[cT,gw,List.map_cons,List.map_nil,List.mem_cons,List.mem_nil_iff,or_false] at ho
 rcases ho with rfl|rfl|rfl|rfl <;>
  exact⟨by decide,⟨0,by decide,rfl⟩,by decide,⟨by decide,by simp[sO,Ty.sm,PC];decide⟩,by simp[sO]⟩
theorem OC.step {ds:List aZ} (h:OC ds) (d:aZ):OC (fV ds d).2:=by
 rcases TO ds d with e|⟨e,hs⟩
 ·rw[e];exact h
 rw[e];intro o ho
 rcases List.mem_append.1 ho with ho|ho
 ·exact h o ho
 rw[List.mem_singleton.1 ho];exact hs
theorem GO:∀(l:List aZ) {ds:List aZ},OC ds->OC (l.foldl (fun ds d=>(fV ds d).2) ds)
 | [],_,h=>h
 | d::r,_,h=>GO r (h.step d)
theorem XN (l:List aZ):OC (eU l):=GO l Og
end Go.Proofs.YtiihadmgkoamoaaGreatDoor
namespace Go.Proofs
open Go.Shelf
def Tryz.Cx:Go.Shelf.Ren:=⟨fun|7=>73|10=>103|n=>n,fun|23=>97|26=>9|3=>4|28=>105|0=>0|27=>104|33=>122|4=>4|n=>n,fun|n=>n⟩
theorem Tryz.aeG:Go.Proofs.SlLaysZ.n7 Tryz.prog Tryz.Cx:={
 mixed:=by kernel_rfl
 f7:=⟨Tryz.f73.name,by decide,Tryz.func73.trans (congrArg some (by kernel_rfl))⟩
 f10:=⟨Tryz.f103.name,by decide,Tryz.func103.trans (congrArg some (by kernel_rfl))⟩
 t0:=Tryz.underlying0
 a0:=Tryz.isAgg0
 z0:=Tryz.sizeOf0
 v0:=Tryz.zeroValue0
 t4:=Tryz.underlying4
 a4:=Tryz.isAgg4
 z4:=Tryz.sizeOf4
 v4:=Tryz.zeroValue4
 t23:=Tryz.underlying97
 a23:=Tryz.isAgg97
 z23:=Tryz.sizeOf97
 v23:=Tryz.zeroValue97
 t26:=Tryz.underlying9
 a26:=Tryz.isAgg9
 z26:=Tryz.sizeOf9
 v26:=Tryz.zeroValue9
 t27:=Tryz.underlying104
 a27:=Tryz.isAgg104
 z27:=Tryz.sizeOf104
 v27:=Tryz.zeroValue104
 t28:=Tryz.underlying105
 a28:=Tryz.isAgg105
 z28:=Tryz.sizeOf105
 v28:=Tryz.zeroValue105
 t33:=Tryz.underlying122
 a33:=Tryz.isAgg122
 z33:=Tryz.sizeOf122
 v33:=Tryz.zeroValue122 }
def Tryz.pg:Go.Shelf.Ren:=⟨fun|6=>72|8=>101|9=>102|11=>129|13=>131|12=>130|23=>161|24=>162|14=>152|15=>153|16=>154|17=>155|18=>156|19=>157|20=>158|21=>159|22=>160|25=>181|26=>182|27=>183|28=>184|29=>185|30=>172|31=>196|n=>n,fun|26=>9|28=>105|24=>60|0=>0|3=>3|37=>157|48=>179|50=>140|4=>4|40=>173|39=>172|45=>121|5=>5|9=>9|51=>189|55=>193|57=>202|58=>203|33=>122|n=>n,fun|n=>n⟩
theorem Tryz.Vd:Go.Proofs.SlLaysZ.n6 Tryz.prog Tryz.pg:={
 mixed:=by kernel_rfl
 f6:=⟨Tryz.f72.name,by decide,Tryz.func72.trans (congrArg some (by kernel_rfl))⟩
 f8:=⟨Tryz.f101.name,by decide,Tryz.func101.trans (congrArg some (by kernel_rfl))⟩
 f11:=⟨Tryz.f129.name,by decide,Tryz.func129.trans (congrArg some (by kernel_rfl))⟩
 t0:=Tryz.underlying0
 a0:=Tryz.isAgg0
 z0:=Tryz.sizeOf0
 v0:=Tryz.zeroValue0
 t24:=Tryz.underlying60
 a24:=Tryz.isAgg60
 z24:=Tryz.sizeOf60
 v24:=Tryz.zeroValue60
 t26:=Tryz.underlying9
 a26:=Tryz.isAgg9
 z26:=Tryz.sizeOf9
 v26:=Tryz.zeroValue9
 t28:=Tryz.underlying105
 a28:=Tryz.isAgg105
 z28:=Tryz.sizeOf105
 v28:=Tryz.zeroValue105
 i26:=by kernel_rfl }
def Tryz.MK:Go.Shelf.Ren:=⟨fun|6=>102|8=>131|9=>130|19=>161|20=>162|21=>152|22=>153|23=>154|24=>155|25=>156|26=>157|27=>158|28=>159|29=>160|36=>181|31=>182|32=>183|37=>184|38=>185|39=>172|41=>196|n=>n,fun|27=>60|29=>9|3=>3|32=>157|26=>60|0=>0|44=>179|46=>140|4=>4|36=>173|35=>172|41=>121|5=>5|9=>9|53=>189|57=>193|63=>202|64=>203|n=>n,fun|n=>n⟩
theorem Tryz.YL:Go.Proofs.SlLaysM.n6 Tryz.prog Tryz.MK:={
 mixed:=by kernel_rfl
 f6:=⟨Tryz.f102.name,by decide,Tryz.func102.trans (congrArg some (by kernel_rfl))⟩
 f8:=Tryz.func131.trans (congrArg some (by kernel_rfl))
 f9:=⟨Tryz.f130.name,by decide,Tryz.func130.trans (congrArg some (by kernel_rfl))⟩
 f19:=Tryz.func161.trans (congrArg some (by kernel_rfl))
 f20:=Tryz.func162.trans (congrArg some (by kernel_rfl))
 f21:=⟨Tryz.f152.name,by decide,Tryz.func152.trans (congrArg some (by kernel_rfl))⟩
 f22:=⟨Tryz.f153.name,by decide,Tryz.func153.trans (congrArg some (by kernel_rfl))⟩
 f23:=⟨Tryz.f154.name,by decide,Tryz.func154.trans (congrArg some (by kernel_rfl))⟩
 f24:=⟨Tryz.f155.name,by decide,Tryz.func155.trans (congrArg some (by kernel_rfl))⟩
 f25:=⟨Tryz.f156.name,by decide,Tryz.func156.trans (congrArg some (by kernel_rfl))⟩
 f26:=⟨Tryz.f157.name,by decide,Tryz.func157.trans (congrArg some (by kernel_rfl))⟩
 f27:=⟨Tryz.f158.name,by decide,Tryz.func158.trans (congrArg some (by kernel_rfl))⟩
 f28:=⟨Tryz.f159.name,by decide,Tryz.func159.trans (congrArg some (by kernel_rfl))⟩
 f29:=⟨Tryz.f160.name,by decide,Tryz.func160.trans (congrArg some (by kernel_rfl))⟩
 f31:=Tryz.func182.trans (congrArg some (by kernel_rfl))
 f32:=Tryz.func183.trans (congrArg some (by kernel_rfl))
 f36:=⟨Tryz.f181.name,by decide,Tryz.func181.trans (congrArg some (by kernel_rfl))⟩
 f37:=⟨Tryz.f184.name,by decide,Tryz.func184.trans (congrArg some (by kernel_rfl))⟩
 f38:=⟨Tryz.f185.name,by decide,Tryz.func185.trans (congrArg some (by kernel_rfl))⟩
 f39:=⟨Tryz.f172.name,by decide,Tryz.func172.trans (congrArg some (by kernel_rfl))⟩
 f41:=⟨Tryz.f196.name,by decide,Tryz.func196.trans (congrArg some (by kernel_rfl))⟩
 t0:=Tryz.underlying0
 a0:=Tryz.isAgg0
 z0:=Tryz.sizeOf0
 v0:=Tryz.zeroValue0
 t3:=Tryz.underlying3
 a3:=Tryz.isAgg3
 z3:=Tryz.sizeOf3
 v3:=Tryz.zeroValue3
 t4:=Tryz.underlying4
 a4:=Tryz.isAgg4
 z4:=Tryz.sizeOf4
 v4:=Tryz.zeroValue4
 t5:=Tryz.underlying5
 a5:=Tryz.isAgg5
 z5:=Tryz.sizeOf5
 v5:=Tryz.zeroValue5
 t9:=Tryz.underlying9
 a9:=Tryz.isAgg9
 z9:=Tryz.sizeOf9
 v9:=Tryz.zeroValue9
 t26:=Tryz.underlying60
 a26:=Tryz.isAgg60
 z26:=Tryz.sizeOf60
 v26:=Tryz.zeroValue60
 t27:=Tryz.underlying60
 a27:=Tryz.isAgg60
 z27:=Tryz.sizeOf60
 v27:=Tryz.zeroValue60
 t29:=Tryz.underlying9
 a29:=Tryz.isAgg9
 z29:=Tryz.sizeOf9
 v29:=Tryz.zeroValue9
 t32:=Tryz.underlying157
 a32:=Tryz.isAgg157
 z32:=Tryz.sizeOf157
 v32:=Tryz.zeroValue157
 t35:=Tryz.underlying172
 a35:=Tryz.isAgg172
 z35:=Tryz.sizeOf172
 v35:=Tryz.zeroValue172
 t36:=Tryz.underlying173
 a36:=Tryz.isAgg173
 z36:=Tryz.sizeOf173
 v36:=Tryz.zeroValue173
 t41:=Tryz.underlying121
 a41:=Tryz.isAgg121
 z41:=Tryz.sizeOf121
 v41:=Tryz.zeroValue121
 t44:=Tryz.underlying179
 a44:=Tryz.isAgg179
 z44:=Tryz.sizeOf179
 v44:=Tryz.zeroValue179
 t46:=Tryz.underlying140
 a46:=Tryz.isAgg140
 z46:=Tryz.sizeOf140
 v46:=Tryz.zeroValue140
 t53:=Tryz.underlying189
 a53:=Tryz.isAgg189
 z53:=Tryz.sizeOf189
 v53:=Tryz.zeroValue189
 t57:=Tryz.underlying193
 a57:=Tryz.isAgg193
 z57:=Tryz.sizeOf193
 v57:=Tryz.zeroValue193
 t63:=Tryz.underlying202
 a63:=Tryz.isAgg202
 z63:=Tryz.sizeOf202
 v63:=Tryz.zeroValue202
 t64:=Tryz.underlying203
 a64:=Tryz.isAgg203
 z64:=Tryz.sizeOf203
 v64:=Tryz.zeroValue203 }
end Go.Proofs
namespace Go.Tp
open Go.Proofs Go.Shelf Go.RowKit Go.Maps Go.Sort Go.MapKept
def DZ:List UInt8->List UInt8->Bool
 | [],_=>true
 | _::_,[]=>false
 | a::l,b::r=>match Nat.blt a.toNat b.toNat with
  | true=>true
  | false=>(match Nat.beq a.toNat b.toNat with|true=>DZ l r|false=>false)
theorem sC:∀x y:List UInt8,DZ x y=decide (x<=y)
 | [],y=>by simp[DZ]
 | a::l,[]=>by simp[DZ]
 | a::l,b::r=>by
  have ih:=sC l r;simp only[DZ];have e1:Nat.blt a.toNat b.toNat=decide (a < b):=by
   by_cases h:a < b
   ·rw[decide_eq_true h];rw[Nat.blt_eq];exact UInt8.lt_iff_toNat_lt.1 h
   rw[decide_eq_false h]
   cases hb:Nat.blt a.toNat b.toNat
   ·rfl
   rw[Nat.blt_eq] at hb;exact absurd (UInt8.lt_iff_toNat_lt.2 hb) h
  have e2:Nat.beq a.toNat b.toNat=decide (a=b):=by
   by_cases h:a=b
   ·subst h;simp
   rw[decide_eq_false h]
   cases hb:Nat.beq a.toNat b.toNat
   ·rfl
   exact absurd (UInt8.toNat_inj.1 (Nat.eq_of_beq_eq_true hb)) h
  rw[e1,e2]
  by_cases h1:a < b
  ·simp[h1,List.cons_le_cons_iff]
  by_cases h2:a=b
  ·subst h2;simp[h1,ih,List.cons_le_cons_iff]
  simp[h1,h2,List.cons_le_cons_iff]
def Jx (x:List UInt8):List (List UInt8)->List (List UInt8)
 | []=>[x]
 | y::r=>match DZ x y with|true=>x::y::r|false=>y::Jx x r
def oL:List (List UInt8)->List (List UInt8)
 | []=>[]
 | x::r=>Jx x (oL r)
theorem Cv (x y:List UInt8):DZ x y=true∨DZ y x=true:=by
 simp only[sC,decide_eq_true_eq];exact List.le_total x y
theorem Nq {x y z:List UInt8} (h:DZ x y=true) (k:DZ y z=true):DZ x z=true:=by
 simp only[sC,decide_eq_true_eq] at *;exact List.le_trans h k
theorem vM (x:List UInt8):∀l,(Jx x l).Perm (x::l)
 | []=>List.Perm.refl _
 | y::r=>by
  unfold Jx
  split
  ·exact List.Perm.refl _
  exact ((vM x r).cons y).trans (List.Perm.swap x y r)
theorem ji:∀l,(oL l).Perm l
 | []=>List.Perm.refl _
 | x::r=>(vM x _).trans ((ji r).cons x)
theorem xe (x:List UInt8):∀l:List (List UInt8),l.Pairwise (fun a b=>DZ a b=true)->(Jx x l).Pairwise (fun a b=>DZ a b=true)
 | [],_=>by simp[Jx]
 | y::r,h=>by
  obtain⟨h1,h2⟩:=List.pairwise_cons.1 h;unfold Jx
  split
  ·rename_i hle;refine List.pairwise_cons.2 ⟨?_,h⟩;intro z hz
   rcases List.mem_cons.1 hz with rfl|hz
   ·exact hle
   exact Nq hle (h1 z hz)
  rename_i hle;refine List.pairwise_cons.2 ⟨?_,xe x r h2⟩;intro z hz
  rcases List.mem_cons.1 ((vM x r).mem_iff.1 hz) with rfl|hz
  ·rcases Cv y z with h'|h'
   ·exact h'
   rw[hle] at h';simp at h'
  exact h1 z hz
theorem ki:∀l,(oL l).Pairwise (fun a b=>DZ a b=true)
 | []=>by simp[oL]
 | x::r=>xe x _ (ki r)
theorem PA (l:List (List UInt8)):l.mergeSort (fun x y=>decide (x<=y))=oL l:=by
 have tr:∀a b c:List UInt8,decide (a<=b)=true->decide (b<=c)=true->decide (a<=c)=true:=fun a b c h1 h2=>by simp only[decide_eq_true_eq] at *;exact List.le_trans h1 h2
 have to:∀a b:List UInt8,(decide (a<=b)||decide (b<=a))=true:=fun a b=>by simp only[Bool.or_eq_true,decide_eq_true_eq];exact List.le_total a b
 refine List.Perm.eq_of_pairwise (le:=fun a b=>DZ a b=true) (fun a b _ _ h1 h2=>?_) ?_ (ki l) ((List.mergeSort_perm l _).trans (ji l).symm)
 ·simp only[sC,decide_eq_true_eq] at h1 h2;exact List.le_antisymm h1 h2
 have:=List.pairwise_mergeSort tr to l
 simpa only[sC] using this
def sv:List (List UInt8)->Bool
 | x::y::r=>(match DZ y x with|true=>false|false=>sv (y::r))
 | _=>true
theorem wZ:∀{l:List (List UInt8)},l.Pairwise (fun a b=>DZ a b=true)->sv l=true->l.Nodup
 | [],_,_=>List.nodup_nil
 | [x],_,_=>by simp
 | x::y::r,hp,h=>by
  unfold sv at h
  split at h
  ·simp at h
  rename_i hxy;obtain⟨h1,h2⟩:=List.pairwise_cons.1 hp;refine List.nodup_cons.2 ⟨?_,wZ h2 h⟩;intro hx
  rcases List.mem_cons.1 hx with rfl|hx
  ·have:=Cv x x
   rw[hxy] at this;simp at this
  have:=(List.pairwise_cons.1 h2).1 x hx
  rw[hxy] at this;simp at this
def kp:List (Value×aq)->Option (List (List UInt8))
 | []=>some []
 |(.string s,_)::r=>(match Nat.ble s.size 9223372036854775807 with|true=>(match kp r with|some l=>some (s.data.toList::l)|none=>none)|false=>none)
 | _=>none
theorem nX {w:World} {R:Own}:∀{es:List (Value×aq)} {ents:List MapEntry} {ks:List (List UInt8)},kp es=some ks->df w R es ents->
  ents.map (·.key)=ks.map encStr/\(∀k∈ks,k.length<=9223372036854775807)
 | [],ents,ks,h,hr=>by simp[kp] at h;simp[df] at hr;subst h;subst hr;simp
 |(k,d)::es,ents,ks,h,⟨e,es',e1,e2,e3,e4⟩=>by
  unfold kp at h
  split at h
  ·rename_i heq;simp at heq
  ·rename_i s x r heq;simp at heq;obtain⟨⟨rfl,rfl⟩,rfl⟩:=heq
   split at h
   ·rename_i hs
    split at h
    ·rename_i l hl;simp at h;subst h;obtain⟨h1,h2⟩:=nX hl e4;subst e1;refine⟨by simp[h1,e2,encStr],?_⟩;intro k hk
     rcases List.mem_cons.1 hk with rfl|hk
     ·have:=Nat.le_of_ble_eq_true hs
      simpa using this
     exact h2 k hk
    simp at h
   simp at h
  simp at h
def rT (x:List UInt8):aq:=.flat (.string ⟨⟨x⟩⟩)
def yf (g:Nat) (args:List ac) (heap:Heap) (next:Nat):Option ew:=
 match args with
 | [.fn (.func g') [] [.ptr (.out k) 0]]=>(match Nat.beq g' g with
  | true=>(match qm (.out k) heap with
   | some (.cells (.map (.out m)::_))=>(match qm (.out m) heap with
    | some (.map es)=>(match kp es with
     | some ks=>(match Nat.ble ks.length 4294967296&&sv (oL ks) with
      | true=>(match oL ks with
       | []=>some ⟨.dat (.flat (.slice none 0 0)),heap,next⟩
       | x::r=>some ⟨.dat (.slice ((x::r).map rT)),heap,next⟩)
      | false=>none)
     | none=>none)
    | _=>none)
   | _=>none)
  | false=>none)
 | _=>none
section
variable {P:Program} {ρ ρ':Ren} {G:bJ}
theorem FP {w:World} {R:Own} {es:List (Value×aq)} {ents:Array MapEntry} {clock b:Nat} {k:TypeId} (hk:P.underlying k=some .string) {ks:List (List UInt8)} (hks:kp es=some ks) (hnd:ks.Nodup)
  (hlen:ks.length<=4294967296) (hb:w.heap[b]?=some (.map ents clock)) (hr:df w R es ents.toList) (hbo:uY ents clock) :
  ∃D0:DataW Unit,w.ownsMap P k (fun _=>some (.nil,[])) b ents.size D0/\Maps.size D0=ks.length/\(strKeys D0).Perm ks:=by
 obtain⟨h1,h2⟩:=nX hks hr;have hlen2:ents.size=ks.length:=by
  have:=congrArg List.length h1
  simpa using this
 have hread:∀x∈ents.toList,∃s:List UInt8,x.key=encStr s/\s∈ks/\Go.WideElems.rd P k (fun _=>some ((.nil:DataW Unit),[])) x=some (.string s,.nil):=by
  intro x hx;have hm:x.key∈ents.toList.map (·.key):=List.mem_map.2 ⟨x,hx,rfl⟩;rw[h1] at hm;obtain⟨s,hs,e⟩:=List.mem_map.1 hm;refine⟨s,e.symm,hs,?_⟩;have hkk:keyOf P k x.key=some (.string s):=by
   rw[←e]
   have:=Go.WideMaps.keyOf_string_mk (k:=k) hk (s:=⟨⟨s⟩⟩) (by have:=h2 s hs;simp only[maxLen];exact Nat.le_trans this (by decide))
   simpa [encStr] using this
  simp[Go.WideElems.rd,hkk]
 refine⟨_,⟨ents,clock,hb,⟨by rw[hlen2];simp only[maxLen];omega,⟨hbo.1,hbo.2,?_⟩,fun x hx=>(hread x hx).elim fun s hs=>⟨_,hs.2.2⟩⟩,Nat.le_refl _,rfl⟩,?_,?_⟩
 ·rw[h1];exact hnd.map _ (fun a b hab=>fun e=>hab (encStr_inj e))
 ·simp[Maps.size,length_sorted,hlen2]
 have p1:=Go.WideShapes.sorted_perm (ents.toList.map (Go.WideElems.rg P k (fun _=>some ((.nil:DataW Unit),[]))));have p2:=p1.map (fun p=>strOf p.1);refine p2.trans ?_;rw[List.map_map];have e3:ents.toList.map ((fun p:Lit×DataW Unit=>strOf p.1) ∘ Go.WideElems.rg P k (fun _=>some (.nil,[])))=ks:=by
  have key:∀(l:List MapEntry) (ks:List (List UInt8)),l.map (·.key)=ks.map encStr->(∀x∈l,∃s:List UInt8,x.key=encStr s/\Go.WideElems.rd P k (fun _=>some ((.nil:DataW Unit),[])) x=some (.string s,.nil))->
    l.map ((fun p:Lit×DataW Unit=>strOf p.1) ∘ Go.WideElems.rg P k (fun _=>some (.nil,[])))=ks:=by
   intro l
   induction l with
   | nil=>intro ks h _;cases ks with|nil=>rfl|cons _ _=>simp at h
   | cons x l ih=>
    intro ks h hall
    cases ks with
    | nil=>simp at h
    | cons s ks=>
     simp only[List.map_cons,List.cons.injEq] at h ⊢;obtain⟨s',hs',hrd⟩:=hall x (by simp)
     have:s'=s:=encStr_inj (hs'.symm.trans h.1)
     subst this;exact⟨by simp[Go.WideElems.rg,hrd,strOf],ih ks h.2 fun y hy=>hall y (by simp[hy])⟩
  exact key _ _ h1 fun x hx=>(hread x hx).elim fun s hs=>⟨s,hs.1,hs.2.2⟩
 rw[e3]
theorem T8 (L6:SlLaysZ.n6 P ρ) (L10:SlLaysZ.n10 P ρ') (hsort:AnyZ.SortsIn P ρ Fence.wide 4) (e9:Enters P (ρ.f 9)) (e10:Enters P (ρ'.f 10)) (hk:P.underlying (ρ'.t 26)=some .string)
  {args:List ac} {heap:Heap} {next:Nat} {r:ew} (h:yf (ρ'.f 10) args heap next=some r):aC P G (ρ.f 6) args heap next (XQ r):=by
 unfold yf at h
 split at h
 rotate_left
 ·simp at h
 rename_i g' k
 split at h
 rotate_left
 ·simp at h
 rename_i hg;have hg:=Nat.eq_of_beq_eq_true hg;subst hg
 split at h
 rotate_left
 ·simp at h
 rename_i m tl hbox
 split at h
 rotate_left
 ·simp at h
 rename_i es hmap
 split at h
 rotate_left
 ·simp at h
 rename_i ks hks
 split at h
 rotate_left
 ·simp at h
 rename_i hc;simp only[Bool.and_eq_true,Nat.ble_eq] at hc;obtain⟨hlen,hno⟩:=hc;have hnd0:ks.Nodup:=(ji ks).nodup_iff.1 (wZ (ki ks) hno);rw[lq] at hbox hmap;intro w R N cargs bsA bsH bsF hargs hheap hnd hnx hglob hF;obtain⟨v0,r1,c0,d1,rfl,rfl,h0,hr1⟩:=az hargs;obtain⟨rfl,rfl⟩:=aR hr1;simp only[al] at h0;obtain⟨rfl,vs,us,rfl,hvs,hus⟩:=h0;obtain⟨rfl,_⟩:=aR hvs;obtain⟨Bm,hBm,rfl,_⟩:=DJ (k:=k) (by simpa using hus)
 -- the box
 obtain⟨pre,b',b1,post,rfl,hb',hobj,_⟩:=ao.split hheap hbox
 have:b'=Bm:=by simp only[outs] at hb';rw[hBm] at hb';simpa using hb'.symm
 subst this;obtain⟨xs,elem,sp,hblk,hrx,_,_⟩:=hobj;rw[List.cons_append] at hrx;obtain⟨x0,xr,f0,f1,hx,_,hx0,_⟩:=az hrx;simp only[al] at hx0;obtain⟨_,bm,hbm,rfl⟩:=hx0;have hcell:w.cell? ⟨b',0,none⟩=some (.map (some bm)):=by
  have:xs[0]?=some (.map (some bm)):=by rw[←Array.getElem?_toList,hx];rfl
  simp[World.cell?,hblk,this]
 -- the map
 obtain⟨pre2,b2,b3,post2,_,hb2,hobj2,_⟩:=ao.split hheap hmap
 have:b2=bm:=by rw[hb2] at hbm;simpa using hbm
 subst this;obtain⟨_,_,ents,clock,hmb,hrm,hbo⟩:=hobj2;obtain⟨D0,hown,hsz,hperm⟩:=FP hk hks hnd0 hlen hmb hrm hbo;have hseq:=AnyZ.keys_gives L10 Fence.wide 2 trivial rfl (by omega) b' b2 ents.size D0 w (bw hblk) hcell hown;have cS:=AnyZ.sorted_in L6 Fence.wide 5 trivial trivial trivial trivial rfl (by omega) hsort e9 (ρ'.f 10) #[.pointer (some ⟨b',0,none⟩)] trivial e10 _ (Maps.size D0) (by rw[hsz];simp only[maxLen];omega) (by rw[hsz];omega) w hseq;refine (callsIn_wide.1 cS).mono ?_;rintro e w' ⟨v,ss,rfl,hS,hrow,hnil,hb⟩;have hss:ss.mergeSort (fun x y=>decide (x<=y))=oL ks:=by
  have:=mergeSort_of_perm (hS.trans hperm)
  exact (this.trans (PA ks))
 have hssl:ss.length=ks.length:=(hS.trans hperm).length_eq;rw[hss] at hrow;have fin:∀{d:aq},some (ew.mk (.dat d) heap next)=some r->sV w' (fun b off=>b < w.heap.size/\R b off) v d->∃v' cv heap' next' R' N' bsV bsH',Ending.returned v=.returned cv/\XQ r v' heap' next'/\al w' R' (outs N') v' cv bsV/\ao w' R' (outs N') heap' bsH' ∧
   (bsV++(bsH'++bsF)).Nodup/\(∀o b,N' (.out o)=some b->o < next')/\bA w R w' R' bsF/\(∀o b,N (.out o)=some b->N' (.out o)=some b):=by
  intro d hr hd;simp only[Option.some.injEq] at hr;subst hr;refine⟨_,_,_,next,_,N,[],_,rfl,⟨rfl,rfl,rfl⟩,bX hd,hheap.keep (Au hb _),by simpa using hnd,hnx,Au hb bsF,fun _ _ h=>h⟩
 split at h
 ·rename_i hsl;have hk0:ks=[]:=by
   have:=(ji ks).length_eq
   rw[hsl] at this;exact List.eq_nil_of_length_eq_zero (by simpa using this.symm)
  subst hk0;have hs0:ss=[]:=List.eq_nil_of_length_eq_zero (by simpa using hssl);have hv:=hnil.2 hs0;subst hv;exact fin h (.flat rfl)
 rename_i x r' hsl;refine fin h ?_;rw[hsl] at hrow;obtain⟨hl,hrow⟩:=hrow;have hlen':ss.length=(x::r').length:=by simpa using hl.symm
 rcases hrow with⟨_,hz⟩|⟨g,cap,cur,rfl,hbase,hgb,q1,q2,q3,q4⟩
 ·rw[hlen'] at hz;simp at hz
 have hel:((x::r').map rT).length=ss.length:=by simp[hlen']
 rw[←hel];show dN _ _ _ _;refine .slice g 0 cap 1 _ (fun i _=>cur[i]?.getD default) (by omega) ?_ (by rw[hel];exact q1) (by rw[hel,hssl];simp only[lim];omega) ?_ ?_
 ·intro e he;simp only[List.mem_map] at he;obtain⟨y,_,rfl⟩:=he;rfl
 ·intro i j hi hj;rw[hel] at hi;have hci:i < cur.size:=by omega
  refine⟨?_,fun hR=>by omega⟩
  have:j=0:=by omega
  subst this;simp[World.cell?,hgb,hci]
 intro i j e c he hc;have hi:i < (x::r').length:=by
  rcases Nat.lt_or_ge i (x::r').length with h'|h'
  ·exact h'
  rw[List.getElem?_eq_none (by simpa using h')] at he;simp at he
 have hcur:cur[i]?=some (encStr (x::r')[i]):=by
  have hti:(cur.toList.take (ss.length*1))[i]?=some (encStr (x::r')[i]):=by
   rw[q4,List.getElem?_map,List.getElem?_eq_getElem hi];rfl
  rw[List.getElem?_take_of_lt (by omega)] at hti;simpa using hti
 have he':e=rT (x::r')[i]:=by
  rw[List.getElem?_map,List.getElem?_eq_getElem hi] at he;simpa using he.symm
 subst he';have hc':c=rT (x::r')[i]:=by
  cases j with
  | zero=>simpa [rT,aq.cells] using hc.symm
  | succ j=>simp[rT,aq.cells] at hc
 subst hc';have hmem:(x::r')[i]∈ks:=(ji ks).mem_iff.1 (by rw[hsl];exact List.getElem_mem hi);have hbnd:=(nX hks hrm).2 _ hmem;rw[hcur];refine .flat (w:=w') (v:=.string ⟨⟨(x::r')[i]⟩⟩) ?_;show decide ((ByteArray.mk ⟨(x::r')[i]⟩).size<=9223372036854775807)=true;exact decide_eq_true hbnd
end
end Go.Tp
namespace Go.Proofs.YtiihadmgkoamoaaGreatDoor
open Go.Tp Go.Shelf
theorem nr {g:FuncId} {args:List ac} {v:ac} {o:Option (List UInt8)} {c:List UInt8} (k m:Nat) (pre post:Heap) (h:WB g args o v c) (ha:dt 1 args=false) (he:fO (fun _=>k) args=args) (hv:eN (gv (fun _=>k) 1 m) v=v) :
  KC g (pB k::args) (pre++(lz k o++post)) m (XQ ⟨v,pre++(lz k (some c)++post),m⟩):=by
 have e1:∀(ρ:Nat->Nat) (o:Option (List UInt8)),ρ 0=k->kK ρ (lz 0 o)=lz k o:=by
  intro ρ o h0
  cases o <;> simp[lz,hB0,UK,kK,mI,rf,fO,eN,h0]
 have hf:=aC.frame h (fun _=>k) (heap:=pre++(lz k o++post)) (rest:=pre++post) (next:=m) (by
  rw[e1 _ _ rfl,←List.append_assoc,←List.append_assoc];exact List.Perm.append_right _ List.perm_append_comm) (by cases o <;> rfl) (by cases o <;> rfl) (by cases o <;> rfl) (by
   show (du 1 (pB 0)||dt 1 args)=false;rw[ha];rfl)
 rw[show fO (fun _=>k) (pB 0::args)=pB k::args by show eN _ (pB 0)::fO _ args=_;rw[he];rfl] at hf;refine jm hf ?_;rintro v' h' m' ⟨v0,h1,n1,⟨rfl,rfl,rfl⟩,rfl,rfl,rfl⟩;rw[e1 _ _ rfl];refine⟨pre++(lz k (some c)++post),?_,by rw[hv],rfl,rfl⟩;rw[←List.append_assoc,←List.append_assoc];exact List.Perm.append_right _ List.perm_append_comm
noncomputable def JD:Hints:=⟨an,La,ap,rowsOf ap 41⟩
def eP (E:List (Go.Value×aq)) (cs:List aq) (es:List (Go.Value×aq)) (n:Nat):Heap:=(.out 4,.cells [mS])::JC E cs es n
theorem W9 {E es:List (Go.Value×aq)} {cs:List aq} {n:Nat}:KC 73 [mS] (JC E cs es n) 4 (XQ ⟨.fn (.func 103) [] [.ptr (.out 4) 0],eP E cs es n,5⟩):=by
 refine aY [] [] (x:=fL.of Tryz.f73 QL Sz) (by kernel_rfl) ?_;exact fi
def np0:ac:=.dat (.flat (.pointer none))
def Po (ks:List aq) (H:Heap):ab:=⟨[(22,iv (Int.ofNat 0)),(21,iv (Int.ofNat ks.length)),(20,.dat (.slice ks)),(6,.ptr (.loc 6) 0),(0,hP)],[(.loc 6,.cells [np0,.dat nl])],H,5⟩
def Df (ks:List aq) (H:Heap) (i:Int):ab:=⟨[(22,iv i),(21,iv (Int.ofNat ks.length)),(20,.dat (.slice ks)),(6,.ptr (.out 5) 0),(0,hP)],[],H,6⟩
def KB (ks:List aq) (H:Heap) (i:Int):ab:=⟨[(23,bv false),(22,iv i),(21,iv (Int.ofNat ks.length)),(20,.dat (.slice ks)),(6,.ptr (.out 5) 0),(0,hP)],[],H,6⟩
def ni:List UInt8:=[32,99,111,110,99,114,101,116,101]
def Ia (ks lb:List aq) (H:Heap) (i j:Int):ab:=⟨[(49,iv j),(48,iv (Int.ofNat lb.length)),(47,.dat (sl lb)),(22,iv i),(21,iv (Int.ofNat ks.length)),(20,.dat (.slice ks)),(6,.ptr (.out 5) 0),(0,hP)],[],H,6⟩
def E9 (ks lb:List aq) (H:Heap) (i j:Int):ab:=⟨[(50,bv false),(49,iv j),(48,iv (Int.ofNat lb.length)),(47,.dat (sl lb)),(22,iv i),(21,iv (Int.ofNat ks.length)),(20,.dat (.slice ks)),(6,.ptr (.out 5) 0),(0,hP)],[],H,6⟩
theorem Tm {ks:List aq} {l:List dY} {f:dY} {H H1 H2:Heap} {i:Int} {j:Nat} (hi:j < (aN l).length) (ht:l[j]?=some f)
  (s1:fW (env au.aI) .add 9 [.dat (sb [32]),.dat (sb f.nm)]=some ⟨.dat (sb ([32]++f.nm)),.keep⟩)
  (s2:fW (env au.aI) .add 9 [.dat (sb ([32]++f.nm)),.dat (sb [58])]=some ⟨.dat (sb (([32]++f.nm)++[58])),.keep⟩)
  (w1:KC 74 [pB 5,.dat (sb (([32]++f.nm)++[58]))] H 6 (XQ ⟨.tup [iv (Int.ofNat (([32]++f.nm)++[58]).length),eg],H1,6⟩))
  (w2:KC 76 [pB 5,.dat f.ty.enc] H1 6 (XQ ⟨.tup [],H2,6⟩))
  {T:Exit->aa->Prop} (e:T .normal ((Ia ks (aN l) H2 i (aG .i64 (Int.ofNat j+1))).aw Tryz.f41.ntmps)) :
  KD (roundOf Tryz.f41 1) T ((Ia ks (aN l) H i (Int.ofNat j)).aw Tryz.f41.ntmps):=by
 have h1:=bd hi;have h2:=sG ht;obtain⟨x,r,hx⟩:∃x r,aN l=x::r:=by cases l with|nil=>simp at ht|cons x r=>exact⟨_,_,rfl⟩
 rw[hx] at h1 h2 e ⊢;clear ht hi hx;obtain⟨fnm,fk,ftn,fix,fa⟩:=f
 rcases fa with _|⟨b2,d2⟩ <;>
 ·refine aB [50] [51,55,56] (H:=JD) (live:=nQ) (by kernel_rfl) ?_;refine ob h1 ?_;refine oo h2 ?_;refine oo s1 ?_;refine oo s2 ?_;refine oh w1 ?_;refine oh w2 ?_;exact oe e
theorem XE {ks lb:List aq} {H:Heap} {i:Int} {T:Exit->aa->Prop} (e:T (.exit 2) ((E9 ks lb H i (Int.ofNat lb.length)).aw Tryz.f41.ntmps)) :
  KD (roundOf Tryz.f41 1) T ((Ia ks lb H i (Int.ofNat lb.length)).aw Tryz.f41.ntmps):=by
 have h1:=br (i:=lb.length) (L:=lb.length) (by omega);refine aB [50] [] (H:=JD) (live:=nQ) (by kernel_rfl) ?_;refine ob h1 ?_;exact oe e
theorem NG {ks:List aq} {H H1 H2 H3 H4 H5:Heap} {i:Nat} {kn dn sn dg:List UInt8} {ar k ix:Int} {sa lb:List aq} {con:Bool}
  (h1:bn (Int.ofNat i) (Int.ofNat ks.length)=true) (h2:aJ (env au.aI) 60 [.dat (.slice ks),.dat (.flat (.int .i64 (Int.ofNat i)))]=some ⟨.ref [sb kn],.keep⟩)
  (hf:KC 49 [hP,.dat (sb kn)] H 6 (XQ ⟨.tup [.dat (dw dn ar k sn ix sa con lb),bv true],H,6⟩))
  (hi:ag 75 [iv ar] (.dat (sb dg)))
  (s1:fW (env au.aI) .add 9 [.dat (sb kn),.dat (sb [32])]=some ⟨.dat (sb (kn++[32])),.keep⟩)
  (s2:fW (env au.aI) .add 9 [.dat (sb (kn++[32])),.dat (sb dg)]=some ⟨.dat (sb ((kn++[32])++dg)),.keep⟩)
  (s3:fW (env au.aI) .add 9 [.dat (sb ((kn++[32])++dg)),.dat (sb [32])]=some ⟨.dat (sb (((kn++[32])++dg)++[32])),.keep⟩)
  (w1:KC 74 [pB 5,.dat (sb (((kn++[32])++dg)++[32]))] H 6 (XQ ⟨.tup [iv (Int.ofNat (((kn++[32])++dg)++[32]).length),eg],H1,6⟩))
  (w2:KC 76 [pB 5,.dat (.agg [i64 k,sb sn,i64 ix,sl sa])] H1 6 (XQ ⟨.tup [],H2,6⟩))
  (w3:con=true->KC 74 [pB 5,.dat (sb ni)] H2 6 (XQ ⟨.tup [iv (Int.ofNat ni.length),eg],H3,6⟩)) (w3':con=false->H3=H2)
  (hl:KD (.loop (roundOf Tryz.f41 1)) (fun e s=>e=.exit 2/\s=(E9 ks lb H4 (Int.ofNat i) (Int.ofNat lb.length)).aw Tryz.f41.ntmps) ((Ia ks lb H3 (Int.ofNat i) (Int.ofNat 0)).aw Tryz.f41.ntmps))
  (w5:KC 77 [pB 5,.dat (bD 10)] H4 6 (XQ ⟨eg,H5,6⟩))
  {T:Exit->aa->Prop} (e:T .normal ((Df ks H5 (aG .i64 (Int.ofNat i+1))).aw Tryz.f41.ntmps)) :
  KD (roundOf Tryz.f41 0) T ((Df ks H (Int.ofNat i)).aw Tryz.f41.ntmps):=by
 have q1:=cG 9 dn ar k sn ix sa con lb
 cases con
 ·obtain rfl:=w3' rfl;clear w3 w3';refine aB [23] [24,100009,33,37,38] (H:=JD) (live:=nQ) (by kernel_rfl) ?_;refine ob h1 ?_;refine oo h2 ?_;refine oh hf ?_;refine oo q1 ?_;refine oo s1 ?_;refine on hi ?_;refine oo s2 ?_;refine oo s3 ?_;refine oh w1 ?_
  rcases sa with _|⟨v2,v3⟩
  ·refine oh w2 ?_
   rcases lb with _|⟨v0,v1⟩ <;>
   ·refine lo hl ?_;rintro ex s ⟨rfl,rfl⟩;refine⟨_,rfl,?_⟩;refine oh w5 ?_;exact oe e
  refine oh w2 ?_
  rcases lb with _|⟨v4,v5⟩ <;>
  ·refine lo hl ?_;rintro ex s ⟨rfl,rfl⟩;refine⟨_,rfl,?_⟩;refine oh w5 ?_;exact oe e
 have w4:=w3 rfl;clear w3 w3';refine aB [23] [24,100009,33,37,38] (H:=JD) (live:=nQ) (by kernel_rfl) ?_;refine ob h1 ?_;refine oo h2 ?_;refine oh hf ?_;refine oo q1 ?_;refine oo s1 ?_;refine on hi ?_;refine oo s2 ?_;refine oo s3 ?_;refine oh w1 ?_
 rcases sa with _|⟨v2,v3⟩
 ·refine oh w2 ?_;refine oh w4 ?_
  rcases lb with _|⟨v0,v1⟩ <;>
  ·refine lo hl ?_;rintro ex s ⟨rfl,rfl⟩;refine⟨_,rfl,?_⟩;refine oh w5 ?_;exact oe e
 refine oh w2 ?_;refine oh w4 ?_
 rcases lb with _|⟨v4,v5⟩ <;>
 ·refine lo hl ?_;rintro ex s ⟨rfl,rfl⟩;refine⟨_,rfl,?_⟩;refine oh w5 ?_;exact oe e
theorem NH {ks:List aq} {H H1 H2 H3 H4 H5:Heap} {kn dn sn dg:List UInt8} {ar k ix:Int} {sa lb:List aq} {con:Bool}
  (h1:bn (Int.ofNat 0) (Int.ofNat ks.length)=true) (h2:aJ (env au.aI) 60 [.dat (.slice ks),.dat (.flat (.int .i64 (Int.ofNat 0)))]=some ⟨.ref [sb kn],.keep⟩)
  (hf:KC 49 [hP,.dat (sb kn)] H 5 (XQ ⟨.tup [.dat (dw dn ar k sn ix sa con lb),bv true],H,5⟩))
  (hi:ag 75 [iv ar] (.dat (sb dg)))
  (s1:fW (env au.aI) .add 9 [.dat (sb kn),.dat (sb [32])]=some ⟨.dat (sb (kn++[32])),.keep⟩)
  (s2:fW (env au.aI) .add 9 [.dat (sb (kn++[32])),.dat (sb dg)]=some ⟨.dat (sb ((kn++[32])++dg)),.keep⟩)
  (s3:fW (env au.aI) .add 9 [.dat (sb ((kn++[32])++dg)),.dat (sb [32])]=some ⟨.dat (sb (((kn++[32])++dg)++[32])),.keep⟩)
  (w1:KC 74 [pB 5,.dat (sb (((kn++[32])++dg)++[32]))] (hB0 5++H) 6 (XQ ⟨.tup [iv (Int.ofNat (((kn++[32])++dg)++[32]).length),eg],H1,6⟩))
  (w2:KC 76 [pB 5,.dat (.agg [i64 k,sb sn,i64 ix,sl sa])] H1 6 (XQ ⟨.tup [],H2,6⟩))
  (w3:con=true->KC 74 [pB 5,.dat (sb ni)] H2 6 (XQ ⟨.tup [iv (Int.ofNat ni.length),eg],H3,6⟩)) (w3':con=false->H3=H2)
  (hl:KD (.loop (roundOf Tryz.f41 1)) (fun e s=>e=.exit 2/\s=(E9 ks lb H4 (Int.ofNat 0) (Int.ofNat lb.length)).aw Tryz.f41.ntmps) ((Ia ks lb H3 (Int.ofNat 0) (Int.ofNat 0)).aw Tryz.f41.ntmps))
  (w5:KC 77 [pB 5,.dat (bD 10)] H4 6 (XQ ⟨eg,H5,6⟩))
  {T:Exit->aa->Prop} (e:T .normal ((Df ks H5 (aG .i64 (Int.ofNat 0+1))).aw Tryz.f41.ntmps)) :
  KD (roundOf Tryz.f41 0) T ((Po ks H).aw Tryz.f41.ntmps):=by
 have q1:=cG 9 dn ar k sn ix sa con lb
 cases con
 ·obtain rfl:=w3' rfl;clear w3 w3';refine aB [23] [24,100009,33,37,38] (H:=JD) (live:=nQ) (by kernel_rfl) ?_;refine ob h1 ?_;refine oo h2 ?_;refine oh hf ?_;refine oo q1 ?_;refine oo s1 ?_;refine on hi ?_;refine oo s2 ?_;refine oo s3 ?_;refine oh w1 ?_
  rcases sa with _|⟨v2,v3⟩
  ·refine oh w2 ?_
   rcases lb with _|⟨v0,v1⟩ <;>
   ·refine lo hl ?_;rintro ex s ⟨rfl,rfl⟩;refine⟨_,rfl,?_⟩;refine oh w5 ?_;exact oe e
  refine oh w2 ?_
  rcases lb with _|⟨v4,v5⟩ <;>
  ·refine lo hl ?_;rintro ex s ⟨rfl,rfl⟩;refine⟨_,rfl,?_⟩;refine oh w5 ?_;exact oe e
 have w4:=w3 rfl;clear w3 w3';refine aB [23] [24,100009,33,37,38] (H:=JD) (live:=nQ) (by kernel_rfl) ?_;refine ob h1 ?_;refine oo h2 ?_;refine oh hf ?_;refine oo q1 ?_;refine oo s1 ?_;refine on hi ?_;refine oo s2 ?_;refine oo s3 ?_;refine oh w1 ?_
 rcases sa with _|⟨v2,v3⟩
 ·refine oh w2 ?_;refine oh w4 ?_
  rcases lb with _|⟨v0,v1⟩ <;>
  ·refine lo hl ?_;rintro ex s ⟨rfl,rfl⟩;refine⟨_,rfl,?_⟩;refine oh w5 ?_;exact oe e
 refine oh w2 ?_;refine oh w4 ?_
 rcases lb with _|⟨v4,v5⟩ <;>
 ·refine lo hl ?_;rintro ex s ⟨rfl,rfl⟩;refine⟨_,rfl,?_⟩;refine oh w5 ?_;exact oe e
theorem Xw {ks:List aq} {H:Heap} {T:Exit->aa->Prop} (e:T (.exit 0) ((KB ks H (Int.ofNat ks.length)).aw Tryz.f41.ntmps)) :
  KD (roundOf Tryz.f41 0) T ((Df ks H (Int.ofNat ks.length)).aw Tryz.f41.ntmps):=by
 have h1:=br (i:=ks.length) (L:=ks.length) (by omega);refine aB [23] [] (H:=JD) (live:=nQ) (by kernel_rfl) ?_;refine ob h1 ?_;exact oe e
theorem aa2 {E es:List (Go.Value×aq)} {cs ks:List aq} {n:Nat} {nm:List UInt8} {x0:UInt8} {r:List UInt8}
  (hr:oG 71 [hP,.dat (sb nm),mS] [] cs es n (.tup []) E)
  (hk:KC 73 [mS] (JC E cs es n) 4 (XQ ⟨.fn (.func 103) [] [.ptr (.out 4) 0],eP E cs es n,5⟩))
  (hs:KC 72 [.fn (.func 103) [] [.ptr (.out 4) 0]] (eP E cs es n) 5 (XQ ⟨.dat (.slice ks),eP E cs es n,5⟩))
  (hl:KD (.loop (roundOf Tryz.f41 0)) (fun e s=>e=.exit 0/\s=(KB ks (lz 5 (some (x0::r))++eP E cs es n) (Int.ofNat ks.length)).aw Tryz.f41.ntmps) ((Po ks (eP E cs es n)).aw Tryz.f41.ntmps))
  (hst:KC 78 [pB 5] (lz 5 (some (x0::r))++eP E cs es n) 6 (XQ ⟨.dat (sb (x0::r)),[(.out 5,.cells [.ptr (.out 5) 0,.dat (.slice (bV (x0::r)))])]++eP E cs es n,6⟩)) :
  eS 41 [hP,.dat (sb nm)] cs es n (.dat (sb (x0::r))):=by
 have hg:ri 3 ⟨.dat (sb (x0::r)),[(.out 5,.cells [.ptr (.out 5) 0,.dat (.slice (bV (x0::r)))])]++eP E cs es n,6⟩=⟨.dat (sb (x0::r)),hG 2 (av cs) es n,3⟩:=by
  have h1:eH 3 ([(.out 5,.cells [.ptr (.out 5) 0,.dat (.slice (bV (x0::r)))])]++eP E cs es n)=hG 2 (av cs) es n:=rfl;have h2:cC 3 (hG 2 (av cs) es n)=false:=by simp[cC,hG,ly,jD,dt,du];exact⟨rfl,rfl⟩
  have h3:du 3 (.dat (sb (x0::r)))=false:=rfl;unfold ri;dsimp only;rw[h1,h2,h3];rfl
 refine co [] [] (x:=.of Tryz.f41 La nQ) ?_;refine oh hr ?_;refine oh hk ?_;refine oh hs ?_;refine lo hl ?_;rintro ex s ⟨rfl,rfl⟩;refine⟨_,rfl,?_⟩;refine oh hst ?_;exact bB (by kernel_rfl) hg
theorem LM (x y:List UInt8):DZ y x=!jE x y:=by
 rw[sC,Aj,Bool.eq_iff_iff];simp[List.not_lt]
theorem Af:∀{l:List (List UInt8)},kh l->sv l=true
 | [],_=>rfl
 | [x],_=>rfl
 | x::y::r,h=>by
  have h1:jE x y=true:=List.rel_of_pairwise_cons h List.mem_cons_self;rw[sv,LM,h1];exact Af (List.Pairwise.of_cons h)
theorem MJ {S L:List (List UInt8)} (h:same S L):oL S=L:=by
 have hp:(oL S).Perm L:=(ji S).trans ((List.perm_ext_iff_of_nodup h.1 (B1 h.2.1)).2 h.2.2);refine List.Perm.eq_of_pairwise (le:=fun a b=>DZ a b=true) (fun a b _ _ h1 h2=>?_) (ki S) ?_ hp
 ·simp only[sC,decide_eq_true_eq] at h1 h2;exact List.le_antisymm h1 h2
 refine List.Pairwise.imp ?_ h.2.1;intro a b hab;rw[LM]
 cases hba:jE b a with
 | false=>rfl
 | true=>have:=vE hab hba;rw[DM] at this;simp at this
theorem xd:∀{S:List (List UInt8)},(∀x∈S,x.length<=24)->kp (dS S)=some S
 | [],_=>rfl
 | x::r,h=>by
  have hx:=h x List.mem_cons_self;have ih:=xd (S:=r) (fun y hy=>h y (List.mem_cons_of_mem _ hy));show (match Nat.ble x.length 9223372036854775807 with|true=>(match kp (dS r) with|some l=>some (x::l)|none=>none)|false=>none)=_;rw[ih,fS (by omega:x.length<=9223372036854775807)]
theorem Z7 (m:Nat):AnyZ.SortsIn Tryz.prog Tryz.pg Fence.wide m:=
 ⟨fun blk off cap ss W hH hblk hsz=>callsIn_wide.2 (AnyM.slices_Sort_string Tryz.YL blk off cap ss W hH hblk hsz),
  fun p cap W=>callsIn_wide.2 (AnyM.slices_Sort_string_none Tryz.YL p cap W)⟩
theorem Od {S L:List (List UInt8)} {es:List (Go.Value×aq)} {cs:List aq} {n:Nat} (h:same S L) (hS:∀x∈S,x.length<=24) (hn:S.length < 1000000) (hne:L≠[]) :
  KC 72 [.fn (.func 103) [] [.ptr (.out 4) 0]] (eP (dS S) cs es n) 5 (XQ ⟨.dat (.slice (L.map sb)),eP (dS S) cs es n,5⟩):=by
 refine T8 (ρ:=Tryz.pg) (ρ':=Tryz.Cx) Tryz.Vd {Tryz.aeG with } (Z7 4) (enters_of Tryz.func102 (by kernel_rfl) rfl) (enters_of Tryz.func103 (by kernel_rfl) rfl) Tryz.underlying9 ?_;have h1:∀E:List (Go.Value×aq),yf 103 [.fn (.func 103) [] [.ptr (.out 4) 0]] (eP E cs es n) 5=(match kp E with
   | some ks=>(match Nat.ble ks.length 4294967296&&sv (oL ks) with
    | true=>(match oL ks with
     | []=>some ⟨.dat (.flat (.slice none 0 0)),eP E cs es n,5⟩
     | x::r=>some ⟨.dat (.slice ((x::r).map rT)),eP E cs es n,5⟩)
    | false=>none)
   | none=>none):=fun E=>by kernel_rfl
 show yf 103 _ _ _=_;rw[h1,xd hS];dsimp only;rw[MJ h,Af h.2.1,fS (by omega:S.length<=4294967296)]
 cases L with
 | nil=>exact absurd rfl hne
 | cons x r=>rfl
def fA (f:dY):List UInt8:=(([32]++f.nm)++[58])++f.ty.lx ig
def oT (c:Bool):List UInt8:=match c with|true=>ni|false=>[]
def gW (n:List UInt8) (d:aZ):List UInt8:=((((((n++[32])++ig d.ar)++[32])++d.sup.lx ig)++oT d.con)++d.fl.flatMap fA)++[10]
def rj (ds:List aZ) (ks:List (List UInt8)):List UInt8:=ks.flatMap (fun n=>gW n (iZ (aF ds n)))
theorem qS {α β:Type} {g:α->List β} {B:Nat}:∀{l:List α},(∀f∈l,(g f).length<=B)->(l.flatMap g).length<=l.length*B
 | [],_=>by simp
 | x::r,h=>by
  have h1:=h x List.mem_cons_self;have h2:=qS (g:=g) (B:=B) (l:=r) (fun f hf=>h f (List.mem_cons_of_mem _ hf));rw[List.flatMap_cons,List.length_append,List.length_cons,Nat.succ_mul];omega
theorem NK {d:aZ} (h:d.sm) {f:dY} (hf:f∈d.fl):(fA f).length<=6050:=by
 obtain⟨h1,h2,h3⟩:=h.fl f hf;have h4:=lD f.ty h3;unfold fA;simp only[List.length_append,List.length_singleton];omega
theorem vY (c:Bool):(oT c).length<=9:=by cases c <;> decide
theorem pS {d:aZ} (h:d.sm) (j:Nat):((d.fl.take j).flatMap fA).length<=40000:=by
 have h1:=qS (g:=fA) (B:=6050) (l:=d.fl.take j) (fun f hf=>NK h (List.mem_of_mem_take hf));have h2:(d.fl.take j).length*6050<=6*6050:=Nat.mul_le_mul_right _ (by rw[List.length_take];have:=h.fn;omega);omega
theorem AW {n:List UInt8} {d:aZ} (hn:n.length<=24) (h:d.sm):(gW n d).length<=50000:=by
 have h1:=lD d.sup h.sup.2;have h2:=h.sup.1;have h3:=pS h d.fl.length;rw[List.take_length] at h3;have h4:=vY d.con;have h5:=yF d.ar;unfold gW;simp only[List.length_append,List.length_singleton];omega
theorem O2 {x:UInt8} {r:List UInt8} (post:Heap):KC 78 [pB 5] (lz 5 (some (x::r))++post) 6 (XQ ⟨.dat (sb (x::r)),[(.out 5,.cells [.ptr (.out 5) 0,.dat (.slice (bV (x::r)))])]++post,6⟩):=by
 have hf:=aC.frame (Uh (x:=x) (r:=r)) (fun _=>5) (heap:=lz 5 (some (x::r))++post) (rest:=post) (next:=6) (List.Perm.refl _) rfl rfl rfl rfl;refine hf.mono ?_;rintro v' h' m' ⟨v0,h1,n1,⟨rfl,rfl,rfl⟩,rfl,rfl,rfl⟩;exact⟨rfl,rfl,rfl⟩
theorem L1 {d:aZ} (hs:d.sm) (hx:d.cX) {ks:List aq} {c:List UInt8} {i:Int} {post:Heap} (hc:c.length < 60000000) :
  KD (.loop (roundOf Tryz.f41 1)) (fun e s=>e=.exit 2/\s=(E9 ks (aN d.fl) (lz 5 (some (c++d.fl.flatMap fA))++post) i (Int.ofNat (aN d.fl).length)).aw Tryz.f41.ntmps) ((Ia ks (aN d.fl) (lz 5 (some c)++post) i (Int.ofNat 0)).aw Tryz.f41.ntmps):=by
 refine ba (St:=fun j=>(Ia ks (aN d.fl) (lz 5 (some (c++(d.fl.take j).flatMap fA))++post) i (Int.ofNat j)).aw Tryz.f41.ntmps) (aN d.fl).length ?_ ?_ (i:=0) (Nat.zero_le _) |> (fun h=>by simpa using h)
 ·intro j hj;obtain⟨f,ht,hm⟩:=gx hj;have hw:aG .i64 (Int.ofNat j+1)=Int.ofNat (j+1):=bb (by rw[bc] at hj;have:=hs.fn;omega);obtain⟨f1,f2,f3⟩:=hs.fl f hm;have f4:=lD f.ty f3;have f5:=pS hs j;have f6:=hx.2.1 f hm;have hl:(c++(d.fl.take j).flatMap fA).length < 70000000:=by rw[List.length_append];omega
  generalize hc1:c++(d.fl.take j).flatMap fA=c1 at hl;have s1:=dd (a:=[32]) (b:=f.nm) (by simp only[List.length_singleton];omega);have s2:=dd (a:=[32]++f.nm) (b:=[58]) (by simp only[List.length_append,List.length_singleton];omega);have w1:=nr 5 6 [] post (Hw (o:=some c1) (s:=([32]++f.nm)++[58]) (by simp only[eQ,List.length_append,List.length_singleton];omega)) rfl rfl rfl;have w2:=nr 5 6 [] post (ac8 (dg:=ig) (p:=ixP) (fun ix h=>by obtain⟨n,hn,rfl⟩:=h;exact J8 n hn) f.ty (some (c1++(([32]++f.nm)++[58]))) (nC f.ty (by omega)) (Dj f.ty f3 f6.2) (by simp only[eQ,List.length_append,List.length_singleton];omega)) rfl rfl rfl;have hq:eQ (some (c1++(([32]++f.nm)++[58]))) (f.ty.lx ig)=c1++fA f:=by simp only[eQ,fA,List.append_assoc]
  rw[hq] at w2;have he:c++(d.fl.take (j+1)).flatMap fA=c1++fA f:=by rw[kI ht,←List.append_assoc,hc1]
  rw[he];exact Tm hj ht s1 s2 w1 w2 (by rw[hw];rfl)
 have e:=XE (ks:=ks) (lb:=aN d.fl) (H:=lz 5 (some (c++d.fl.flatMap fA))++post) (i:=i) (T:=iY (fun _=>False) (fun e s=>e=.exit 2/\s=(E9 ks (aN d.fl) (lz 5 (some (c++d.fl.flatMap fA))++post) i (Int.ofNat (aN d.fl).length)).aw Tryz.f41.ntmps)) ⟨rfl,rfl⟩;rw[bc] at e ⊢;rw[List.take_length];exact e
def Z3 (ds:List aZ) (ks:List (List UInt8)) (B:Heap):Nat->ab
 | 0=>Po (ks.map sb) B
 | i+1=>Df (ks.map sb) (lz 5 (some (rj ds (ks.take (i+1))))++B) (Int.ofNat (i+1))
theorem Xv {ds:List aZ} {tl:List aq} {E:List (Go.Value×aq)} (hfi:∀d∈ds,d.cX) (hs:OC ds) {ks:List (List UInt8)} (hk:ks.length < 1000) (hd:∀x∈ks,fj (aF ds x)=true) {i:Nat} (hi:i < ks.length) {T:Exit->aa->Prop}
  (e:T .normal ((Z3 ds ks (eP E (bL ds++tl) (bH ds 0) ds.length) (i+1)).aw Tryz.f41.ntmps)) :
  KD (roundOf Tryz.f41 0) T ((Z3 ds ks (eP E (bL ds++tl) (bH ds 0) ds.length) i).aw Tryz.f41.ntmps):=by
 have hg:ks[i]?=some ks[i]:=List.getElem?_eq_getElem hi;have hm:ks[i]∈ks:=List.getElem_mem hi;generalize ks[i]=kn at hg hm;have hdk:=hd kn hm;obtain⟨d,hfd⟩:∃d,aF ds kn=some d:=by cases h:aF ds kn with|none=>rw[h] at hdk;simp[fj] at hdk|some d=>exact⟨d,rfl⟩
 obtain⟨hdm,hdn⟩:=eZ hfd;have hsd:=hs d hdm;have hfd2:=hfi d hdm;have hkl:kn.length<=24:=by rw[←hdn];exact hsd.nm
 obtain⟨ar,har,harE⟩:=hsd.ar;have hItoa:ag 75 [iv d.ar] (.dat (sb (ig d.ar))):=by rw[harE];exact J8 ar har
 have hdg:=yF d.ar;have htx:=lD d.sup hsd.sup.2;have htx2:=hsd.sup.1;have hcon:=vY d.con;have hfl:=pS hsd d.fl.length;rw[List.take_length] at hfl;have hlen:(rj ds (ks.take i)).length<=i*50000:=by
  have h1:=qS (g:=fun n=>gW n (iZ (aF ds n))) (B:=50000) (l:=ks.take i) (fun n hn=>by
   have h2:=hd n (List.mem_of_mem_take hn)
   cases h3:aF ds n with
   | none=>rw[h3] at h2;simp[fj] at h2
   | some d2=>
    obtain⟨h4,h5⟩:=eZ h3;have h6:=hs d2 h4;exact AW (by rw[←h5];exact h6.nm) h6)
  have h2:(ks.take i).length*50000<=i*50000:=Nat.mul_le_mul_right _ (by rw[List.length_take];omega);exact Nat.le_trans h1 h2
 have hlt:(rj ds (ks.take i)).length<=50000000:=by omega
 have hnext:rj ds (ks.take (i+1))=rj ds (ks.take i)++gW kn d:=by
  unfold rj;rw[kI hg,hfd];rfl
 have hw:aG .i64 (Int.ofNat i+1)=Int.ofNat (i+1):=bb (by omega);have h1:bn (Int.ofNat i) (Int.ofNat (ks.map sb).length)=true:=bd (by simpa using hi);have h2:=pK hg;have s1:=dd (a:=kn) (b:=[32]) (by simp only[List.length_singleton];omega);have s2:=dd (a:=kn++[32]) (b:=ig d.ar) (by simp only[List.length_append,List.length_singleton];omega);have s3:=dd (a:=(kn++[32])++ig d.ar) (b:=[32]) (by simp only[List.length_append,List.length_singleton];omega)
 -- what is written, from o on
 have key:∀(o:Option (List UInt8)) (c0:List UInt8),c0.length<=50000000->(∀s,eQ o s=c0++s)->
   ∃c1 c2 c3 c4:List UInt8,KC 74 [pB 5,.dat (sb (((kn++[32])++ig d.ar)++[32]))] (lz 5 o++eP E (bL ds++tl) (bH ds 0) ds.length) 6 (XQ ⟨.tup [iv (Int.ofNat (((kn++[32])++ig d.ar)++[32]).length),eg],lz 5 (some c1)++eP E (bL ds++tl) (bH ds 0) ds.length,6⟩) ∧
    KC 76 [pB 5,.dat d.sup.enc] (lz 5 (some c1)++eP E (bL ds++tl) (bH ds 0) ds.length) 6 (XQ ⟨.tup [],lz 5 (some c2)++eP E (bL ds++tl) (bH ds 0) ds.length,6⟩) ∧
    (d.con=true->KC 74 [pB 5,.dat (sb ni)] (lz 5 (some c2)++eP E (bL ds++tl) (bH ds 0) ds.length) 6 (XQ ⟨.tup [iv (Int.ofNat ni.length),eg],lz 5 (some c3)++eP E (bL ds++tl) (bH ds 0) ds.length,6⟩)) ∧
    (d.con=false->lz 5 (some c3)++eP E (bL ds++tl) (bH ds 0) ds.length=lz 5 (some c2)++eP E (bL ds++tl) (bH ds 0) ds.length) ∧
    c3.length < 60000000/\c4=c3++d.fl.flatMap fA ∧
    KC 77 [pB 5,.dat (bD 10)] (lz 5 (some c4)++eP E (bL ds++tl) (bH ds 0) ds.length) 6 (XQ ⟨eg,lz 5 (some (c0++gW kn d))++eP E (bL ds++tl) (bH ds 0) ds.length,6⟩):=by
  intro o c0 hc0 ho;have b1:(c0++(((kn++[32])++ig d.ar)++[32])).length < 51000000:=by simp only[List.length_append,List.length_singleton];omega
  have w1:=nr 5 6 [] (eP E (bL ds++tl) (bH ds 0) ds.length) (Hw (o:=o) (s:=((kn++[32])++ig d.ar)++[32]) (by rw[ho];omega)) rfl rfl rfl;rw[ho] at w1;have w2:=nr 5 6 [] (eP E (bL ds++tl) (bH ds 0) ds.length) (ac8 (dg:=ig) (p:=ixP) (fun ix h=>by obtain⟨n,hn,rfl⟩:=h;exact J8 n hn) d.sup (some (c0++(((kn++[32])++ig d.ar)++[32]))) (nC d.sup (by omega)) (Dj d.sup hsd.sup.2 hfd2.1.2) (by show ((c0++(((kn++[32])++ig d.ar)++[32]))++d.sup.lx ig).length < _;rw[List.length_append];omega)) rfl rfl rfl;have hc2:((c0++(((kn++[32])++ig d.ar)++[32]))++d.sup.lx ig).length < 52000000:=by rw[List.length_append];omega
  refine⟨_,(c0++(((kn++[32])++ig d.ar)++[32]))++d.sup.lx ig,((c0++(((kn++[32])++ig d.ar)++[32]))++d.sup.lx ig)++oT d.con,_,w1,w2,?_,?_,by rw[List.length_append];omega,rfl,?_⟩
  ·intro hc;rw[hc];exact nr 5 6 [] (eP E (bL ds++tl) (bH ds 0) ds.length) (Hw (o:=some ((c0++(((kn++[32])++ig d.ar)++[32]))++d.sup.lx ig)) (s:=ni) (by simp only[eQ];rw[List.length_append];have:ni.length=9:=rfl;omega)) rfl rfl rfl
  ·intro hc;rw[hc];simp only[oT,List.append_nil]
  have hE:c0++gW kn d=eQ (some (((c0++(((kn++[32])++ig d.ar)++[32]))++d.sup.lx ig++oT d.con)++d.fl.flatMap fA)) [10]:=by simp only[eQ,gW,List.append_assoc]
  rw[hE];exact nr 5 6 [] (eP E (bL ds++tl) (bH ds 0) ds.length) (ade (o:=some (((c0++(((kn++[32])++ig d.ar)++[32]))++d.sup.lx ig++oT d.con)++d.fl.flatMap fA)) (b:=10) (by simp only[eQ,List.length_append,List.length_singleton] at *;omega)) rfl rfl rfl
 cases i with
 | zero=>
  have hf:=EB 2 5 [(.out 4,.cells [mS]),(.out 3,.map E)] ds tl kn;rw[hfd] at hf;obtain⟨c1,c2,c3,c4,w1,w2,w3,w3',g1,rfl,w5⟩:=key none [] (by simp) (fun s=>rfl);have hl:=L1 hsd hfd2 (ks:=ks.map sb) (i:=Int.ofNat 0) (post:=eP E (bL ds++tl) (bH ds 0) ds.length) g1;have hT:rj ds (ks.take (0+1))=[]++gW kn d:=by rw[hnext];rfl
  have e2:T .normal ((Df (ks.map sb) (lz 5 (some ([]++gW kn d))++eP E (bL ds++tl) (bH ds 0) ds.length) (aG .i64 (Int.ofNat 0+1))).aw Tryz.f41.ntmps):=by rw[hw,←hT];exact e
  show KD (roundOf Tryz.f41 0) T ((Po (ks.map sb) (eP E (bL ds++tl) (bH ds 0) ds.length)).aw Tryz.f41.ntmps);obtain⟨dn,dar,⟨sk,sn,six,sa⟩,con,fl⟩:=d;exact NH h1 h2 hf hItoa s1 s2 s3 w1 w2 w3 w3' hl w5 e2
 | succ i=>
  have hf:=EB 2 6 (lz 5 (some (rj ds (ks.take (i+1))))++[(.out 4,.cells [mS]),(.out 3,.map E)]) ds tl kn;rw[hfd] at hf;obtain⟨c1,c2,c3,c4,w1,w2,w3,w3',g1,rfl,w5⟩:=key (some (rj ds (ks.take (i+1)))) (rj ds (ks.take (i+1))) hlt (fun s=>rfl);have hl:=L1 hsd hfd2 (ks:=ks.map sb) (i:=Int.ofNat (i+1)) (post:=eP E (bL ds++tl) (bH ds 0) ds.length) g1;have e2:T .normal ((Df (ks.map sb) (lz 5 (some (rj ds (ks.take (i+1))++gW kn d))++eP E (bL ds++tl) (bH ds 0) ds.length) (aG .i64 (Int.ofNat (i+1)+1))).aw Tryz.f41.ntmps):=by rw[hw,←hnext];exact e
  show KD (roundOf Tryz.f41 0) T ((Df (ks.map sb) (lz 5 (some (rj ds (ks.take (i+1))))++eP E (bL ds++tl) (bH ds 0) ds.length) (Int.ofNat (i+1))).aw Tryz.f41.ntmps);obtain⟨dn,dar,⟨sk,sn,six,sa⟩,con,fl⟩:=d;exact NG h1 h2 hf hItoa s1 s2 s3 w1 w2 w3 w3' hl w5 e2
theorem Si {d:aZ} (h:d.sm):d.low:=⟨h.sup.1,h.fn,fun f hf=>(h.fl f hf).2.1⟩
def fpS (ds:List aZ) (nm:List UInt8):List (List UInt8):=dJ ds (ds.length+1) nm []
theorem Fo:same [] []:=⟨List.nodup_nil,List.Pairwise.nil,fun _=>Iff.rfl⟩
theorem Cs (ds:List aZ):pz ds [] < ds.length+1:=Nat.lt_succ_of_le List.countP_le_length
theorem zH {ds:List aZ} {nm:List UInt8} (h:fj (aF ds nm)=true):nm∈fpS ds nm:=by
 unfold fpS;rw[dJ]
 cases hf:aF ds nm with
 | none=>rw[hf] at h;simp[fj] at h
 | some d=>exact mY (fun S n x hx=>sf ds ds.length n S x hx) _ (gi.2 (.inr rfl))
theorem agU {ds:List aZ} {tl:List aq} (hfi:∀d∈ds,d.cX) (hs:OC ds) (hn:ds.length < 1000) {nm:List UInt8} (hd:fj (aF ds nm)=true):oH 41 [hP,.dat (sb nm)] ds tl (.dat (sb (rj ds (fpS ds nm)))):=by
 have hr:=Mc (tl:=tl) (fun d hd=>Si (hs d hd)) (ds.length+1) nm [] (Cs ds);have hsm:=se ds (ds.length+1) nm Fo;have hdec:=nJ ds (ds.length+1) nm (S:=[]) (fun x hx=>by simp at hx);have hself:=zH hd;unfold fpS at *;have hlen:=En hsm.2.1 hdec;have hne:dJ ds (ds.length+1) nm []≠[]:=List.ne_nil_of_mem hself;have hS24:∀x∈gQ ds (ds.length+1) nm [],x.length<=24:=by
  intro x hx;have h2:=hdec x ((hsm.2.2 x).1 hx)
  cases h3:aF ds x with
  | none=>rw[h3] at h2;simp[fj] at h2
  | some d2=>
   obtain⟨h4,h5⟩:=eZ h3;rw[←h5];exact (hs d2 h4).nm
 have hSl:(gQ ds (ds.length+1) nm []).length < 1000000:=by
  have:=vC hsm.1 (fun x hx=>(hsm.2.2 x).1 hx)
  omega
 have hk:=W9 (E:=dS (gQ ds (ds.length+1) nm [])) (es:=bH ds 0) (cs:=bL ds++tl) (n:=ds.length);have hso:=Od (es:=bH ds 0) (cs:=bL ds++tl) (n:=ds.length) hsm hS24 hSl hne;generalize dS (gQ ds (ds.length+1) nm [])=E at hr hk hso;generalize hks:dJ ds (ds.length+1) nm []=ks at *;have hl:KD (.loop (roundOf Tryz.f41 0)) (fun e s=>e=.exit 0/\s=(KB (ks.map sb) (lz 5 (some (rj ds ks))++eP E (bL ds++tl) (bH ds 0) ds.length) (Int.ofNat (ks.map sb).length)).aw Tryz.f41.ntmps) ((Po (ks.map sb) (eP E (bL ds++tl) (bH ds 0) ds.length)).aw Tryz.f41.ntmps):=by
  refine ba (St:=fun i=>(Z3 ds ks (eP E (bL ds++tl) (bH ds 0) ds.length) i).aw Tryz.f41.ntmps) ks.length ?_ ?_ (i:=0) (Nat.zero_le _)
  ·intro i hi;exact Xv hfi hs (by omega) hdec hi rfl
  cases hkl:ks.length with
  | zero=>exact absurd (List.length_eq_zero_iff.1 hkl) hne
  | succ q=>
   have e:=Xw (ks:=ks.map sb) (H:=lz 5 (some (rj ds ks))++eP E (bL ds++tl) (bH ds 0) ds.length) (T:=iY (fun _=>False) (fun e s=>e=.exit 0/\s=(KB (ks.map sb) (lz 5 (some (rj ds ks))++eP E (bL ds++tl) (bH ds 0) ds.length) (Int.ofNat (ks.map sb).length)).aw Tryz.f41.ntmps)) ⟨rfl,rfl⟩;show KD (roundOf Tryz.f41 0) _ ((Df (ks.map sb) (lz 5 (some (rj ds (ks.take (q+1))))++eP E (bL ds++tl) (bH ds 0) ds.length) (Int.ofNat (q+1))).aw Tryz.f41.ntmps);rw[←hkl,List.take_length];rw[List.length_map] at e ⊢;exact e
 have hfne:rj ds ks≠[]:=by
  cases ks with
  | nil=>exact absurd rfl hne
  | cons k0 r=>simp[rj,gW]
 cases hT:rj ds ks with
 | nil=>exact absurd hT hfne
 | cons x0 r=>
  rw[hT] at hl;exact aa2 hr hk hso hl (O2 _)
noncomputable def ND:Hints:=⟨an,K9,ap,rowsOf ap 42⟩
def xc (dn:List UInt8) (ar k:Int) (sn:List UInt8) (ix:Int) (sa:List aq) (con:Bool) (lb:List aq):Heap:=[(.loc 8,.cells [.dat (sb dn),iv ar,iv k,.dat (sb sn),iv ix,.dat (sl sa),bv con,.dat (sl lb)])]
def YB (ks:List aq) (es:List aq) (s:List UInt8) (i:Int):ab:=⟨[(7,iv i),(6,.dat (.slice ks)),(5,.dat (sb s)),(0,rP 0)],[],hF 0 es,1⟩
def U9 (ks:List aq) (es:List aq) (s:List UInt8) (i:Int):ab:=⟨[(17,bv false),(7,iv i),(6,.dat (.slice ks)),(5,.dat (sb s)),(0,rP 0)],[],hF 0 es,1⟩
def MD (lo:Heap) (ks:List aq) (es:List aq) (s:List UInt8) (i j:Int):ab:=⟨[(10,iv j),(8,.ptr (.loc 8) 0),(7,iv i),(6,.dat (.slice ks)),(5,.dat (sb s)),(0,rP 0)],lo,hF 0 es,1⟩
def KA (lo:Heap) (ks:List aq) (es:List aq) (s:List UInt8) (i j:Int):ab:=⟨[(51,bv false),(10,iv j),(8,.ptr (.loc 8) 0),(7,iv i),(6,.dat (.slice ks)),(5,.dat (sb s)),(0,rP 0)],lo,hF 0 es,1⟩
theorem Tb {ks es sa:List aq} {l:List dY} {f:dY} {i:Int} {j:Nat} {s x dn sn:List UInt8} {ar k ix:Int} {con:Bool} (hi:j < (aN l).length) (ht:l[j]?=some f)
  (s1:fW (env au.aI) .add 9 [.dat (sb [32]),.dat (sb f.nm)]=some ⟨.dat (sb ([32]++f.nm)),.keep⟩) (s2:fW (env au.aI) .add 9 [.dat (sb ([32]++f.nm)),.dat (sb [58])]=some ⟨.dat (sb (([32]++f.nm)++[58])),.keep⟩) (hr:ag 81 [.dat f.ty.enc] (.dat (sb x))) (s3:fW (env au.aI) .add 9 [.dat (sb (([32]++f.nm)++[58])),.dat (sb x)]=some ⟨.dat (sb ((([32]++f.nm)++[58])++x)),.keep⟩) (s4:fW (env au.aI) .add 9 [.dat (sb s),.dat (sb ((([32]++f.nm)++[58])++x))]=some ⟨.dat (sb (s++((([32]++f.nm)++[58])++x))),.keep⟩)
  {T:Exit->aa->Prop} (e:T .normal ((MD (xc dn ar k sn ix sa con (aN l)) ks es (s++((([32]++f.nm)++[58])++x)) i (aG .i64 (Int.ofNat j+1))).aw Tryz.f42.ntmps)) :
  KD (roundOf Tryz.f42 1) T ((MD (xc dn ar k sn ix sa con (aN l)) ks es s i (Int.ofNat j)).aw Tryz.f42.ntmps):=by
 have h1:=bd hi;have h2:=sG ht;obtain⟨y,r,hx⟩:∃y r,aN l=y::r:=by cases l with|nil=>simp at ht|cons x r=>exact⟨_,_,rfl⟩
 rw[hx] at h1 h2 e ⊢;clear ht hi hx;obtain⟨fnm,fk,ftn,fix,fa⟩:=f
 rcases fa with _|⟨b2,d2⟩ <;>
 ·refine aB [51] [58,61,62,66,70,71] (H:=ND) (live:=pF) (by kernel_rfl) ?_;refine ob h1 ?_;refine oo h2 ?_;refine oo s1 ?_;refine oo s2 ?_;refine oo h2 ?_;refine on hr ?_;refine oo s3 ?_;refine oo s4 ?_;exact oe e
theorem Xn {ks es sa lb:List aq} {i:Int} {s dn sn:List UInt8} {ar k ix:Int} {con:Bool} {T:Exit->aa->Prop} (e:T (.exit 2) ((KA (xc dn ar k sn ix sa con lb) ks es s i (Int.ofNat lb.length)).aw Tryz.f42.ntmps)) :
  KD (roundOf Tryz.f42 1) T ((MD (xc dn ar k sn ix sa con lb) ks es s i (Int.ofNat lb.length)).aw Tryz.f42.ntmps):=by
 have h1:=br (i:=lb.length) (L:=lb.length) (by omega)
 rcases lb with _|⟨x,lb⟩
 ·refine aB [] [] (H:=ND) (live:=pF) (by kernel_rfl) ?_;exact oe e
 refine aB [51] [] (H:=ND) (live:=pF) (by kernel_rfl) ?_;refine ob h1 ?_;exact oe e
theorem Xp {ks es:List aq} {i:Nat} {kn dn sn dg x s s2 s3:List UInt8} {ar k ix:Int} {sa lb:List aq} {con:Bool}
  (h1:bn (Int.ofNat i) (Int.ofNat ks.length)=true) (h2:aJ (env au.aI) 60 [.dat (.slice ks),.dat (.flat (.int .i64 (Int.ofNat i)))]=some ⟨.ref [sb kn],.keep⟩)
  (hf:eB 36 [rP 0,.dat (sb kn)] es (.tup [.dat (dw dn ar k sn ix sa con lb),bv true]))
  (hi:ag 80 [iv ar] (.dat (sb dg))) (hr:ag 81 [.dat (.agg [i64 k,sb sn,i64 ix,sl sa])] (.dat (sb x)))
  (a1:fW (env au.aI) .add 9 [.dat (sb dn),.dat (sb [32])]=some ⟨.dat (sb (dn++[32])),.keep⟩) (a2:fW (env au.aI) .add 9 [.dat (sb (dn++[32])),.dat (sb dg)]=some ⟨.dat (sb ((dn++[32])++dg)),.keep⟩) (a3:fW (env au.aI) .add 9 [.dat (sb ((dn++[32])++dg)),.dat (sb [32])]=some ⟨.dat (sb (((dn++[32])++dg)++[32])),.keep⟩) (a4:fW (env au.aI) .add 9 [.dat (sb (((dn++[32])++dg)++[32])),.dat (sb x)]=some ⟨.dat (sb ((((dn++[32])++dg)++[32])++x)),.keep⟩) (a5:fW (env au.aI) .add 9 [.dat (sb s),.dat (sb ((((dn++[32])++dg)++[32])++x))]=some ⟨.dat (sb (s++((((dn++[32])++dg)++[32])++x))),.keep⟩)
  (a6:con=true->fW (env au.aI) .add 9 [.dat (sb (s++((((dn++[32])++dg)++[32])++x))),.dat (sb ni)]=some ⟨.dat (sb s2),.keep⟩) (a6':con=false->s2=s++((((dn++[32])++dg)++[32])++x))
  (hl:KD (.loop (roundOf Tryz.f42 1)) (fun e q=>e=.exit 2/\q=(KA (xc dn ar k sn ix sa con lb) ks es s3 (Int.ofNat i) (Int.ofNat lb.length)).aw Tryz.f42.ntmps) ((MD (xc dn ar k sn ix sa con lb) ks es s2 (Int.ofNat i) (Int.ofNat 0)).aw Tryz.f42.ntmps))
  (a7:fW (env au.aI) .add 9 [.dat (sb s3),.dat (sb [10])]=some ⟨.dat (sb (s3++[10])),.keep⟩)
  {T:Exit->aa->Prop} (e:T .normal ((YB ks es (s3++[10]) (aG .i64 (Int.ofNat i+1))).aw Tryz.f42.ntmps)) :
  KD (roundOf Tryz.f42 0) T ((YB ks es s (Int.ofNat i)).aw Tryz.f42.ntmps):=by
 have q1:=cG 8 dn ar k sn ix sa con lb
 cases con
 ·obtain rfl:=a6' rfl;clear a6 a6';refine aB [17] [24,100008,32,36,37,41,42,73] (H:=ND) (live:=pF) (by kernel_rfl) ?_;refine ob h1 ?_;refine oo h2 ?_;refine oh hf ?_;refine oo q1 ?_;refine oo a1 ?_;refine on hi ?_;refine oo a2 ?_;refine oo a3 ?_
  rcases sa with _|⟨v0,v1⟩ <;>
  ·refine on hr ?_;refine oo a4 ?_;refine oo a5 ?_;refine lo hl ?_;rintro ex s ⟨rfl,rfl⟩;refine⟨_,rfl,?_⟩;refine oo a7 ?_;exact oe e
 have b6:=a6 rfl;clear a6 a6';refine aB [17] [24,100008,32,36,37,41,42,46,73] (H:=ND) (live:=pF) (by kernel_rfl) ?_;refine ob h1 ?_;refine oo h2 ?_;refine oh hf ?_;refine oo q1 ?_;refine oo a1 ?_;refine on hi ?_;refine oo a2 ?_;refine oo a3 ?_
 rcases sa with _|⟨v0,v1⟩ <;>
 ·refine on hr ?_;refine oo a4 ?_;refine oo a5 ?_;refine oo b6 ?_;refine lo hl ?_;rintro ex s ⟨rfl,rfl⟩;refine⟨_,rfl,?_⟩;refine oo a7 ?_;exact oe e
theorem aa0 {ks es:List aq} {s:List UInt8} {T:Exit->aa->Prop} (e:T (.exit 0) ((U9 ks es s (Int.ofNat ks.length)).aw Tryz.f42.ntmps)) :
  KD (roundOf Tryz.f42 0) T ((YB ks es s (Int.ofNat ks.length)).aw Tryz.f42.ntmps):=by
 have h1:=br (i:=ks.length) (L:=ks.length) (by omega);refine aB [17] [] (H:=ND) (live:=pF) (by kernel_rfl) ?_;refine ob h1 ?_;exact oe e
theorem Vn {ks es:List aq} {nm s:List UInt8} {k0:aq}
  (hr:eB 79 [rP 0,.dat (sb nm),.dat nl] es (.dat (.slice (k0::ks))))
  (hl:KD (.loop (roundOf Tryz.f42 0)) (fun e q=>e=.exit 0/\q=(U9 (k0::ks) es s (Int.ofNat (k0::ks).length)).aw Tryz.f42.ntmps) ((YB (k0::ks) es [] (Int.ofNat 0)).aw Tryz.f42.ntmps)) :
  eB 42 [rP 0,.dat (sb nm)] es (.dat (sb s)):=by
 refine co [] [] (x:=.of Tryz.f42 K9 pF) ?_;refine oh hr ?_;refine lo hl ?_;rintro ex s ⟨rfl,rfl⟩;refine⟨_,rfl,?_⟩;exact fi
theorem aer {t:Ty} (h1:t.size<=200) (h2:t.sm) (h3:t.eX):ag 81 [.dat t.enc] (.dat (sb (t.lx ig))):=by
 have h4:=lD t h2;exact YP (dg:=ig) (p:=ixP) (fun ix h=>by obtain⟨n,hn,rfl⟩:=h;exact FE n hn) t (nC t (by omega)) (Dj t h2 h3) (YM t h2) (by omega)
theorem Xm {d:aZ} (hs:d.sm) (hx:d.cX) {ks es:List aq} {c:List UInt8} {i:Int} {lo:Heap} (hlo:lo=xc d.nm d.ar d.sup.kind d.sup.nm d.sup.Cz (ax d.sup.args) d.con (aN d.fl)) (hc:c.length < 60000000) :
  KD (.loop (roundOf Tryz.f42 1)) (fun e s=>e=.exit 2/\s=(KA lo ks es (c++d.fl.flatMap fA) i (Int.ofNat (aN d.fl).length)).aw Tryz.f42.ntmps) ((MD lo ks es c i (Int.ofNat 0)).aw Tryz.f42.ntmps):=by
 refine ba (St:=fun j=>(MD lo ks es (c++(d.fl.take j).flatMap fA) i (Int.ofNat j)).aw Tryz.f42.ntmps) (aN d.fl).length ?_ ?_ (i:=0) (Nat.zero_le _) |> (fun h=>by simpa using h)
 ·intro j hj;obtain⟨f,ht,hm⟩:=gx hj;have hw:aG .i64 (Int.ofNat j+1)=Int.ofNat (j+1):=bb (by rw[bc] at hj;have:=hs.fn;omega);obtain⟨f1,f2,f3⟩:=hs.fl f hm;have f4:=lD f.ty f3;have f5:=pS hs j;have f6:=hx.2.1 f hm;have hl:(c++(d.fl.take j).flatMap fA).length < 70000000:=by rw[List.length_append];omega
  have s1:=dd (a:=[32]) (b:=f.nm) (by simp only[List.length_singleton];omega);have s2:=dd (a:=[32]++f.nm) (b:=[58]) (by simp only[List.length_append,List.length_singleton];omega);have s3:=dd (a:=([32]++f.nm)++[58]) (b:=f.ty.lx ig) (by simp only[List.length_append,List.length_singleton];omega);have s4:=dd (a:=c++(d.fl.take j).flatMap fA) (b:=(([32]++f.nm)++[58])++f.ty.lx ig) (by have h7:((([32]++f.nm)++[58])++f.ty.lx ig).length<=7000:=(by simp only[List.length_append,List.length_singleton];omega);omega);rw[hlo];refine Tb hj ht s1 s2 (aer f2 f3 f6.2) s3 s4 ?_;rw[hw,kI ht,←List.append_assoc];rfl
 rw[hlo];have e:=Xn (ks:=ks) (es:=es) (lb:=aN d.fl) (s:=c++d.fl.flatMap fA) (i:=i) (sa:=ax d.sup.args) (dn:=d.nm) (sn:=d.sup.nm) (ar:=d.ar) (k:=d.sup.kind) (ix:=d.sup.Cz) (con:=d.con) (T:=iY (fun _=>False) (fun e s=>e=.exit 2/\s=(KA (xc d.nm d.ar d.sup.kind d.sup.nm d.sup.Cz (ax d.sup.args) d.con (aN d.fl)) ks es (c++d.fl.flatMap fA) i (Int.ofNat (aN d.fl).length)).aw Tryz.f42.ntmps)) ⟨rfl,rfl⟩;rw[bc] at e ⊢;rw[List.take_length];exact e
theorem Xx {ds:List aZ} (hs:OC ds) {ks:List (List UInt8)} (hd:∀x∈ks,fj (aF ds x)=true) (i:Nat):(rj ds (ks.take i)).length<=i*50000:=by
 have h1:=qS (g:=fun n=>gW n (iZ (aF ds n))) (B:=50000) (l:=ks.take i) (fun n hn=>by
  have h2:=hd n (List.mem_of_mem_take hn)
  cases h3:aF ds n with
  | none=>rw[h3] at h2;simp[fj] at h2
  | some d2=>
   obtain⟨h4,h5⟩:=eZ h3;have h6:=hs d2 h4;exact AW (by rw[←h5];exact h6.nm) h6)
 have h2:(ks.take i).length*50000<=i*50000:=Nat.mul_le_mul_right _ (by rw[List.length_take];omega);exact Nat.le_trans h1 h2
theorem aaZ {ds:List aZ} (hfi:∀d∈ds,d.cX) (hs:OC ds) (hn:ds.length < 1000) {ks:List (List UInt8)} (hk:ks.length < 1000) (hd:∀x∈ks,fj (aF ds x)=true) {i:Nat} (hi:i < ks.length) {T:Exit->aa->Prop}
  (e:T .normal ((YB (ks.map sb) (aK ds) (rj ds (ks.take (i+1))) (Int.ofNat (i+1))).aw Tryz.f42.ntmps)) :
  KD (roundOf Tryz.f42 0) T ((YB (ks.map sb) (aK ds) (rj ds (ks.take i)) (Int.ofNat i)).aw Tryz.f42.ntmps):=by
 have hg:ks[i]?=some ks[i]:=List.getElem?_eq_getElem hi;have hm:ks[i]∈ks:=List.getElem_mem hi;generalize ks[i]=kn at hg hm;have hdk:=hd kn hm;obtain⟨d,hfd⟩:∃d,aF ds kn=some d:=by cases h:aF ds kn with|none=>rw[h] at hdk;simp[fj] at hdk|some d=>exact⟨d,rfl⟩
 obtain⟨hdm,hdn⟩:=eZ hfd;subst hdn;have hsd:=hs d hdm;have hfd2:=hfi d hdm;have hkl:=hsd.nm;obtain⟨ar,har,harE⟩:=hsd.ar;have hDig:ag 80 [iv d.ar] (.dat (sb (ig d.ar))):=by rw[harE];exact FE ar har
 have hdg:=yF d.ar;have htx:=lD d.sup hsd.sup.2;have htx2:=hsd.sup.1;have hfl:=pS hsd d.fl.length;rw[List.take_length] at hfl;have hlen:=Xx hs hd i;have hlt:(rj ds (ks.take i)).length<=50000000:=by omega
 have hnext:rj ds (ks.take (i+1))=rj ds (ks.take i)++gW d.nm d:=by
  unfold rj;rw[kI hg,hfd];rfl
 have hw:aG .i64 (Int.ofNat i+1)=Int.ofNat (i+1):=bb (by omega);have h1:bn (Int.ofNat i) (Int.ofNat (ks.map sb).length)=true:=bd (by simpa using hi);have h2:=pK hg;have hf:=jN (ds:=ds) d.nm (by omega);rw[hfd] at hf;generalize rj ds (ks.take i)=s at hlt hnext;have a1:=dd (a:=d.nm) (b:=[32]) (by simp only[List.length_singleton];omega);have a2:=dd (a:=d.nm++[32]) (b:=ig d.ar) (by simp only[List.length_append,List.length_singleton];omega);have a3:=dd (a:=(d.nm++[32])++ig d.ar) (b:=[32]) (by simp only[List.length_append,List.length_singleton];omega);have a4:=dd (a:=((d.nm++[32])++ig d.ar)++[32]) (b:=d.sup.lx ig) (by simp only[List.length_append,List.length_singleton];omega);have a5:=dd (a:=s) (b:=(((d.nm++[32])++ig d.ar)++[32])++d.sup.lx ig) (by simp only[List.length_append,List.length_singleton];omega);have b5:(s++((((d.nm++[32])++ig d.ar)++[32])++d.sup.lx ig)).length < 51000000:=by simp only[List.length_append,List.length_singleton];omega
 have hcl:ni.length=9:=rfl;have a6:=dd (a:=s++((((d.nm++[32])++ig d.ar)++[32])++d.sup.lx ig)) (b:=ni) (by omega);have hcon:=vY d.con;have hl:=Xm hsd hfd2 (ks:=ks.map sb) (es:=aK ds) (i:=Int.ofNat i) (c:=s++((((d.nm++[32])++ig d.ar)++[32])++d.sup.lx ig)++oT d.con) rfl (by rw[List.length_append];omega);have a7:=dd (a:=s++((((d.nm++[32])++ig d.ar)++[32])++d.sup.lx ig)++oT d.con++d.fl.flatMap fA) (b:=[10]) (by rw[List.length_append,List.length_append,List.length_singleton];omega);have hE:s++gW d.nm d=s++((((d.nm++[32])++ig d.ar)++[32])++d.sup.lx ig)++oT d.con++d.fl.flatMap fA++[10]:=by simp only[gW,List.append_assoc]
 rw[hnext,hE,←hw] at e;have hraw:=aer hsd.sup.1 hsd.sup.2 hfd2.1.2;have a6':d.con=true->fW (env au.aI) .add 9 [.dat (sb (s++((((d.nm++[32])++ig d.ar)++[32])++d.sup.lx ig))),.dat (sb ni)]=some ⟨.dat (sb (s++((((d.nm++[32])++ig d.ar)++[32])++d.sup.lx ig)++oT d.con)),.keep⟩:=fun hc=>by rw[hc];exact a6
 have a6'':d.con=false->s++((((d.nm++[32])++ig d.ar)++[32])++d.sup.lx ig)++oT d.con=s++((((d.nm++[32])++ig d.ar)++[32])++d.sup.lx ig):=fun hc=>by rw[hc];simp[oT]
 obtain⟨dn,dar,⟨sk,sn,six,sa⟩,con,fl⟩:=d;exact Xp h1 h2 hf hDig hraw a1 a2 a3 a4 a5 a6' a6'' hl a7 e
theorem agz {ds:List aZ} (hfi:∀d∈ds,d.cX) (hs:OC ds) (hn:ds.length < 1000) {nm:List UInt8} (hd:fj (aF ds nm)=true):eB 42 [rP 0,.dat (sb nm)] (aK ds) (.dat (sb (rj ds (fpS ds nm)))):=by
 have hr:=KM (fun d hd=>Si (hs d hd)) hn (ds.length+1) nm [] (Cs ds) List.Pairwise.nil (fun x hx=>by simp at hx);have hsm:=se ds (ds.length+1) nm Fo;have hdec:=nJ ds (ds.length+1) nm (S:=[]) (fun x hx=>by simp at hx);have hself:=zH hd;unfold fpS at *;have hlen:=En hsm.2.1 hdec;have hne:dJ ds (ds.length+1) nm []≠[]:=List.ne_nil_of_mem hself;generalize dJ ds (ds.length+1) nm []=ks at *;have hl:KD (.loop (roundOf Tryz.f42 0)) (fun e q=>e=.exit 0/\q=(U9 (ks.map sb) (aK ds) (rj ds ks) (Int.ofNat (ks.map sb).length)).aw Tryz.f42.ntmps) ((YB (ks.map sb) (aK ds) [] (Int.ofNat 0)).aw Tryz.f42.ntmps):=by
  refine ba (St:=fun i=>(YB (ks.map sb) (aK ds) (rj ds (ks.take i)) (Int.ofNat i)).aw Tryz.f42.ntmps) ks.length ?_ ?_ (i:=0) (Nat.zero_le _)
  ·intro i hi;exact aaZ hfi hs hn (by omega) hdec hi rfl
  have e:=aa0 (ks:=ks.map sb) (es:=aK ds) (s:=rj ds ks) (T:=iY (fun _=>False) (fun e q=>e=.exit 0/\q=(U9 (ks.map sb) (aK ds) (rj ds ks) (Int.ofNat (ks.map sb).length)).aw Tryz.f42.ntmps)) ⟨rfl,rfl⟩;rw[List.length_map] at e ⊢;rw[List.take_length];exact e
 cases ks with
 | nil=>exact absurd rfl hne
 | cons k0 r=>exact Vn hr hl
end Go.Proofs.YtiihadmgkoamoaaGreatDoor
