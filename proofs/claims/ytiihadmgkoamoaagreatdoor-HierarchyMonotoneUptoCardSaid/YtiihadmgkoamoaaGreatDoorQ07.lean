/- HierarchyMonotone returns true and changes nothing, for arguments of bulk at most 1048576 (the card of the second form; conditions: those of the given row). Names are shortened by a program, for the claim's bound. Part 7. -/
import Derived.Ground.NamesProg
import Derived.Shelf.Strings.Builder1
import Derived.Test.YtiihadmgkoamoaaGreatDoorProg
import Derived.Shelf.Strings.OnBuilder
import Derived.Shelf.SlGeneric
import Derived.Ground.GgzProg
import Derived.Ground.SlgmProg
import Derived.Shelf.SlIter.Nil
import Derived.Shelf.SortM.Plain
import Derived.Shelf.SortM.SortNone
import Derived.Test.YtiihadmgkoamoaaGreatDoorCards
import Derived.Test.YtiihadmgkoamoaaGreatDoorTie
import Derived.WalkKit
import Derived.ProofKit
import Derived.OpenShut
import Derived.Deep.DeepHandedRow
import Derived.Deep.DeepWitnessRowRef
import Derived.Test.YtiihadmgkoamoaaGreatDoorQ06
set_option linter.unusedVariables false
set_option linter.unusedSimpArgs false
set_option maxRecDepth 100000
set_option maxHeartbeats 4000000
namespace Go.Proofs.YtiihadmgkoamoaaGreatDoor
open Go.Tp
theorem qi (k:Nat):∀l:List (List UInt8),dM k (xD l)=false
 | []=>rfl
 | d::r=>by show (dB k (.dat (sb d))||dM k (xD r))=false;rw[qi k r];rfl
theorem gm (ρ:Nat->Nat):∀l:List (List UInt8),gD ρ (xD l)=xD l
 | []=>rfl
 | d::r=>by show fg ρ (.dat (sb d))::gD ρ (xD r)=_;rw[gm ρ r];rfl
theorem qh (p:Nat->Bool):∀l:List (List UInt8),gN p (xD l)=true
 | []=>rfl
 | d::r=>by show (BG p (.dat (sb d))&&gN p (xD r))=true;rw[qh p r];rfl
def wU (r:Nat):List (List UInt8)->Heap
 | []=>[(.out 0,.cells [.dat nl])]
 | x::l=>[(.out r,.cells (xD (x::l))),(.out 0,.cells [.win (.out r) 1 0 (x::l).length])]
def sF (r:Nat) (l:List (List UInt8)) (n:Nat):Heap:=[(.out r,.cells (xD l)),(.out 0,.cells [.win (.out r) 1 0 n])]
theorem G4 {r:Nat} {l:List (List UInt8)} (h:l≠[]):wU r l=sF r l l.length:=by cases l with|nil=>exact absurd rfl h|cons x l=>rfl
theorem IL {l:List (List UInt8)} {x:List UInt8} {n:Nat} (hs:rA l) (hn:l.length < 1000000000) (hl:n=l.length) :
  KC 179 [.win (.out 1) 1 0 n,.dat (sb x)] (sF 1 l n) 2 (XQ ⟨.tup [iv (Int.ofNat (jV l x)),bv (l.contains x)],sF 1 l n,2⟩):=by
 subst hl;have h:=aB.frame (Kt (G:=cN) Tryz.ags (x:=x) hs hn) (fun _=>1) (heap:=sF 1 l l.length) (rest:=[(.out 0,.cells [.win (.out 1) 1 0 l.length])]) (next:=2) (by simp[sF,lk,mC,qT,gm]) rfl (by simp[cG,lY,qi]) rfl rfl;refine jf h ?_;rintro v h m ⟨v0,h1,n1,⟨rfl,rfl,rfl⟩,rfl,rfl,rfl⟩;refine⟨sF 1 l l.length,?_,rfl,rfl,rfl⟩;simp[sF,lk,mC,qT,gm,iG];exact List.Perm.refl _
theorem JR {l:List (List UInt8)} {x:List UInt8} {i n:Nat} (hi:i<=l.length) (hn:l.length < 1000000000) (hl:n=l.length) :
  KC 180 [.win (.out 1) 1 0 n,iv (Int.ofNat i),.win (.out 2) 1 0 1] ((.out 2,.cells [.dat (sb x)])::sF 1 l n) 3
   (XQ ⟨.win (.out 3) 1 0 (eU l i x).length,[(.out 3,.cells (xD (eU l i x))),(.out 2,.cells [.dat (sb x)]),(.out 0,.cells [.win (.out 1) 1 0 n])],4⟩):=by
 subst hl;have h:=aB.frame (Kv (G:=cN) Tryz.YY (x:=x) hi hn) (fun o=>o+1) (heap:=(.out 2,.cells [.dat (sb x)])::sF 1 l l.length) (rest:=[(.out 0,.cells [.win (.out 1) 1 0 l.length])]) (next:=3) (by simp[sF,lk,mC,qT,gm,gD,fg];exact List.Perm.swap _ _ _) rfl (by simp[cG,lY,qi,dM,dB]) rfl rfl;refine jf h ?_;rintro v h m ⟨v0,h1,n1,⟨rfl,rfl,rfl⟩,rfl,rfl,rfl⟩;refine⟨_,List.Perm.refl _,rfl,?_,rfl⟩;simp[lk,mC,qT,gm,gD,fg,iG]
 (and_intros <;> rfl)
theorem GY {x:List UInt8} :
  KC 180 [.dat nl,iv (Int.ofNat 0),.win (.out 1) 1 0 1] [(.out 1,.cells [.dat (sb x)]),(.out 0,.cells [.dat nl])] 2
   (XQ ⟨.win (.out 2) 1 0 1,[(.out 2,.cells [.dat (sb x)]),(.out 1,.cells [.dat (sb x)]),(.out 0,.cells [.dat nl])],3⟩):=by
 have h:=aB.frame (Bf (G:=cN) Tryz.YY (x:=x)) (fun o=>o+1) (heap:=[(.out 1,.cells [.dat (sb x)]),(.out 0,.cells [.dat nl])]) (rest:=[(.out 0,.cells [.dat nl])]) (next:=2) (by rfl) rfl rfl rfl rfl;refine jf h ?_;rintro v h m ⟨v0,h1,n1,⟨rfl,rfl,rfl⟩,rfl,rfl,rfl⟩;exact⟨_,List.Perm.refl _,rfl,rfl,rfl⟩
theorem FQ {x:List UInt8}:ag 179 [.dat nl,.dat (sb x)] (.tup [iv (Int.ofNat 0),bv false]):=br _ _ _ _ _ (by kernel_rfl)
theorem UH {x:List UInt8}:KC 151 [sP,.dat (sb x)] [(.out 0,.cells [.dat nl])] 1 (XQ ⟨.tup [],[(.out 2,.cells [.dat (sb x)]),(.out 1,.cells [.dat (sb x)]),(.out 0,.cells [.win (.out 2) 1 0 1])],3⟩):=by
 have h1:=FQ (x:=x);have h2:=GY (x:=x);refine aZ [] [] (x:=gU.of Tryz.f151 zV yi) (by kernel_rfl) ?_;refine on h1 ?_;refine oh h2 ?_;exact fi
theorem UI {l l2:List (List UInt8)} {x:List UInt8} {i n n2:Nat} (h1:KC 179 [.win (.out 1) 1 0 n,.dat (sb x)] (sF 1 l n) 2 (XQ ⟨.tup [iv (Int.ofNat i),bv false],sF 1 l n,2⟩))
  (h2:KC 180 [.win (.out 1) 1 0 n,iv (Int.ofNat i),.win (.out 2) 1 0 1] ((.out 2,.cells [.dat (sb x)])::sF 1 l n) 3
   (XQ ⟨.win (.out 3) 1 0 n2,[(.out 3,.cells (xD l2)),(.out 2,.cells [.dat (sb x)]),(.out 0,.cells [.win (.out 1) 1 0 n])],4⟩)) :
  KC 151 [sP,.dat (sb x)] (sF 1 l n) 2 (XQ ⟨.tup [],[(.out 3,.cells (xD l2)),(.out 2,.cells [.dat (sb x)]),(.out 0,.cells [.win (.out 3) 1 0 n2])],4⟩):=by
 refine aZ [] [] (x:=gU.of Tryz.f151 zV yi) (by kernel_rfl) ?_;refine oh h1 ?_;refine oh h2 ?_;exact fi
theorem UG {l:List (List UInt8)} {x:List UInt8} {i n:Nat} (h1:KC 179 [.win (.out 1) 1 0 n,.dat (sb x)] (sF 1 l n) 2 (XQ ⟨.tup [iv (Int.ofNat i),bv true],sF 1 l n,2⟩)) :
  KC 151 [sP,.dat (sb x)] (sF 1 l n) 2 (XQ ⟨.tup [],sF 1 l n,2⟩):=by
 refine aZ [] [] (x:=gU.of Tryz.f151 zV yi) (by kernel_rfl) ?_;refine oh h1 ?_;exact fi
def eS (l:List (List UInt8)) (x:List UInt8):List (List UInt8):=match l.contains x with|true=>l|false=>eU l (jV l x) x
theorem NK {l:List (List UInt8)} {i:Nat} {x:List UInt8}:eU l i x≠[]:=by simp[eU]
theorem UJ {l:List (List UInt8)} {x:List UInt8} (h0:l≠[]) (hs:rA l) (hn:l.length < 1000000000) :
  KC 151 [sP,.dat (sb x)] (sF 1 l l.length) 2 (XQ ⟨.tup [],sF 2 (eS l x) (eS l x).length,3⟩):=by
 have h1:=IL (x:=x) hs hn rfl;unfold eS;generalize hc:l.contains x=c at h1
 cases c
 ·have h2:=JR (x:=x) (i:=jV l x) uj hn rfl;refine aB.rn (UI h1 h2) ?_;rintro v hp m ⟨rfl,rfl,rfl⟩;refine⟨[3],rfl,?_,?_⟩
  ·simp[sF,bI,GA,Jl,gN,BG,dK,gG,qh];rfl
  simp[sF,bI,lk,mC,qT,gD,fg,dK,gG,kh,oF,gm]
  (and_intros <;> rfl)
 refine aB.rn (UG h1) ?_;rintro v hp m ⟨rfl,rfl,rfl⟩;refine⟨[1],rfl,?_,?_⟩
 ·simp[sF,bI,GA,Jl,gN,BG,dK,gG,qh];rfl
 simp[sF,bI,lk,mC,qT,gD,fg,dK,gG,kh,oF,gm]
 (and_intros <;> rfl)
theorem Fc {x:List UInt8}:KC 151 [sP,.dat (sb x)] [(.out 0,.cells [.dat nl])] 1 (XQ ⟨.tup [],sF 1 [x] 1,2⟩):=by
 refine aB.rn (UH (x:=x)) ?_;rintro v hp m ⟨rfl,rfl,rfl⟩;exact⟨[2],rfl,rfl,rfl,rfl,rfl⟩
theorem acN {l:List (List UInt8)} {x:List UInt8} (hs:rA l) (hn:l.length < 1000000000) (r m:Nat) :
  KC 151 [sP,.dat (sb x)] (wU r l) m (XQ ⟨.tup [],wU m (eS l x),m+1⟩):=by
 cases l with
 | nil=>
  have h:=aB.frame (Fc (x:=x)) (fun o=>o) (heap:=wU r []) (rest:=[]) (next:=m) (by rfl) rfl rfl rfl rfl;refine h.mono ?_;rintro v h m' ⟨v0,h1,n1,⟨rfl,rfl,rfl⟩,rfl,rfl,rfl⟩;refine⟨rfl,?_,rfl⟩;show _=wU m [x];simp[wU,sF,lk,mC,qT,gD,fg,gm,iG]
  (and_intros <;> rfl)
 | cons y l=>
  have h2:eS (y::l) x≠[]:=by
   unfold eS
   cases (y::l).contains x with
   | true=>simp
   | false=>exact NK
  rw[G4 (by simp:(y::l)≠[]),G4 h2];have h:=aB.frame (UJ (x:=x) (by simp:(y::l)≠[]) hs hn) (fun o=>match o with|0=>0|_=>r) (heap:=sF r (y::l) (y::l).length) (rest:=[]) (next:=m) (by simp[sF,lk,mC,qT,gm,gD,fg]) (by rfl) (by simp[cG,sF,lY,qi,dM,dB];rfl) (by rfl) rfl;refine h.mono ?_;rintro v h m' ⟨v0,h1,n1,⟨rfl,rfl,rfl⟩,rfl,rfl,rfl⟩;refine⟨rfl,?_,rfl⟩;simp[sF,lk,mC,qT,gD,fg,gm,iG]
  (and_intros <;> rfl)
noncomputable def hCn:Hints:=⟨ao,zX,aq,rowsOf aq 128⟩
def IF (a:ap) (n:Nat) (H:Heap) (m:Nat) (i:Int):ab:=⟨[(16,iv i),(15,iv (Int.ofNat n)),(14,.dat a),(1,sP)],[],H,m⟩
def KZ (a:ap) (n:Nat) (H:Heap) (m:Nat) (i:Int):ab:=⟨[(17,bv false),(16,iv i),(15,iv (Int.ofNat n)),(14,.dat a),(1,sP)],[],H,m⟩
theorem T2 {x:ap} {es:List ap} {l:List Ty} {t:Ty} {i m m2:Nat} {H H2:Heap} (hl:au l=x::es) (hi:i < (au l).length) (ht:l[i]?=some t)
  (hc:KC 128 [.dat t.enc,sP] H m (XQ ⟨.tup [],H2,m2⟩)) {T:Exit->aa->Prop}
  (e:T .normal ((IF (.slice (x::es)) (x::es).length H2 m2 (aH .i64 (Int.ofNat i+1))).aw Tryz.f128.ntmps)) :
  KD (roundOf Tryz.f128 0) T ((IF (.slice (x::es)) (x::es).length H m (Int.ofNat i)).aw Tryz.f128.ntmps):=by
 have h1:=bA hi;have h2:=jZ ht;rw[hl] at h1 h2;clear ht hi hl;obtain⟨k2,nm2,ix2,a2⟩:=t
 rcases a2 with _|⟨b2,d2⟩ <;>
 ·refine aC [17] [18] (H:=hCn) (live:=tL) (by kernel_rfl) ?_;refine ob h1 ?_;refine oo h2 ?_;refine oh hc ?_;exact oe e
theorem XT {a:ap} {n m:Nat} {H:Heap} {T:Exit->aa->Prop} (e:T (.exit 0) ((KZ a n H m (Int.ofNat n)).aw Tryz.f128.ntmps)) :
  KD (roundOf Tryz.f128 0) T ((IF a n H m (Int.ofNat n)).aw Tryz.f128.ntmps):=by
 have h1:=bC (i:=n) (L:=n) (by omega);refine aC [17] [] (H:=hCn) (live:=tL) (by kernel_rfl) ?_;refine ob h1 ?_;exact oe e
def mB (k:Int) (nm:List UInt8) (s:List (List UInt8)):List (List UInt8):=match aP k 2 with|false=>s|true=>eS s nm
mutual
def Ty.cn:Ty->List (List UInt8)->List (List UInt8)
 | .mk k nm _ args,s=>EU args (mB k nm s)
def EU:List Ty->List (List UInt8)->List (List UInt8)
 | [],s=>s
 | t::r,s=>EU r (t.cn s)
end
theorem Mp {b:List Ty}:∀{a:List Ty} {s:List (List UInt8)},EU (a++b) s=EU b (EU a s)
 | [],s=>rfl
 | t::r,s=>by simp only[List.cons_append,EU];rw[Mp]
theorem T4 {l:List Ty} {i:Nat} {t:Ty} {s:List (List UInt8)} (h:l[i]?=some t):EU (l.take (i+1)) s=t.cn (EU (l.take i) s):=by
 rw[List.take_add_one,h,Option.toList_some,Mp,EU,EU]
theorem T3 {k:Int} {nm:List UInt8} {ix:Int} {l:List ap} {m m2 m3:Nat} {ck:Bool} {H H2 H3:Heap} (hk:aP k 2=ck)
  (ha:ck=true->KC 151 [sP,.dat (sb nm)] H m (XQ ⟨.tup [],H2,m2⟩)) (he:ck=false->H2=H/\m2=m)
  (hl:KD (.loop (roundOf Tryz.f128 0)) (fun e s=>e=.exit 0/\s=(KZ (sl l) l.length H3 m3 (Int.ofNat l.length)).aw Tryz.f128.ntmps) ((IF (sl l) l.length H2 m2 (Int.ofNat 0)).aw Tryz.f128.ntmps)) :
  KC 128 [.dat (.agg [i64 k,sb nm,i64 ix,sl l]),sP] H m (XQ ⟨.tup [],H3,m3⟩):=by
 cases ck
 ·obtain⟨rfl,rfl⟩:=he rfl;clear he ha
  rcases l with _|⟨x,l⟩ <;>
  ·refine aZ [8] [] (x:=gU.of Tryz.f128 zX tL) (by kernel_rfl) ?_;refine ob hk ?_;refine lo hl ?_;rintro ex s ⟨rfl,rfl⟩;refine⟨_,rfl,?_⟩;exact fi
 have ha2:=ha rfl;clear he ha
 rcases l with _|⟨x,l⟩ <;>
 ·refine aZ [8] [] (x:=gU.of Tryz.f128 zX tL) (by kernel_rfl) ?_;refine ob hk ?_;refine oh ha2 ?_;refine lo hl ?_;rintro ex s ⟨rfl,rfl⟩;refine⟨_,rfl,?_⟩;exact fi
def jX (b:Nat) (s:List (List UInt8)):Prop:=rA s/\s.length<=b
theorem Kn {l:List (List UInt8)} {x:List UInt8} (hs:rA l):(∀y∈l.take (jV l x),mu y x=true)/\(∀y∈l.drop (jV l x),mu y x=false):=by
 constructor
 ·intro y hy;obtain⟨t,ht,he⟩:=List.mem_iff_getElem.1 hy;rw[List.getElem_take] at he;rw[List.length_take] at ht;have hg:l[t]?=some y:=by rw[List.getElem?_eq_getElem (by omega),he]
  rw[qB hs hg];simp;omega
 intro y hy;obtain⟨t,ht,he⟩:=List.mem_iff_getElem.1 hy;rw[List.getElem_drop] at he;rw[List.length_drop] at ht;have hg:l[jV l x+t]?=some y:=by rw[List.getElem?_eq_getElem (by omega),he]
 rw[qB hs hg];simp
theorem wu {s:List (List UInt8)} {x:List UInt8} (h1:rA s):rA (eS s x):=by
 unfold eS
 cases hc:s.contains x with
 | true=>exact h1
 | false=>
  obtain⟨c1,c2⟩:=Kn (x:=x) h1;have hx:x∉s:=by intro h;rw[List.contains_iff_mem.2 h] at hc;simp at hc
  unfold eU rA;dsimp only;rw[List.pairwise_append];refine⟨List.Pairwise.sublist (List.take_sublist _ _) h1,?_,?_⟩
  ·rw[List.pairwise_cons];refine⟨?_,List.Pairwise.sublist (List.drop_sublist _ _) h1⟩;intro y hy
   cases hxy:mu x y with
   | true=>rfl
   | false=>
    have:=LJ (c2 y hy) hxy
    exact absurd (this ▸ List.mem_of_mem_drop hy) hx
  intro y hy z hz;have h3:=c1 y hy
  rcases List.mem_cons.1 hz with rfl|hz
  ·exact h3
  cases hxz:mu x z with
  | true=>exact vq h3 hxz
  | false=>
   have:=LJ (c2 z hz) hxz
   exact absurd (this ▸ List.mem_of_mem_drop hz) hx
theorem ij {s:List (List UInt8)} {x y:List UInt8}:y∈eS s x↔y∈s∨y=x:=by
 unfold eS
 cases hc:s.contains x with
 | true=>
  have hx:x∈s:=by simpa using hc
  dsimp only
  constructor
  ·exact .inl
  rintro (h|rfl)
  ·exact h
  exact hx
 | false=>
  dsimp only[eU];have e:s=s.take (jV s x)++s.drop (jV s x):=(List.take_append_drop _ _).symm
  constructor
  ·intro h
   rcases List.mem_append.1 h with h|h
   ·exact .inl (List.mem_of_mem_take h)
   rcases List.mem_cons.1 h with h|h
   ·exact .inr h
   exact .inl (List.mem_of_mem_drop h)
  rintro (h|rfl)
  ·rw[e] at h
   rcases List.mem_append.1 h with h|h
   ·exact List.mem_append_left _ h
   exact List.mem_append_right _ (List.mem_cons_of_mem _ h)
  exact List.mem_append_right _ List.mem_cons_self
theorem FO {s:List (List UInt8)} {x:List UInt8}:(eS s x).length<=s.length+1:=by
 unfold eS
 cases s.contains x with
 | true=>exact Nat.le_succ _
 | false=>dsimp only;rw[pn uj];exact Nat.le_refl _
theorem FV {b:Nat} {k:Int} {nm:List UInt8} {s:List (List UInt8)} (h:jX b s):jX (b+1) (mB k nm s):=by
 unfold mB
 cases aP k 2 with
 | false=>exact⟨h.1,Nat.le_succ_of_le h.2⟩
 | true=>exact⟨wu h.1,Nat.le_trans FO (Nat.succ_le_succ h.2)⟩
mutual
theorem Zc:∀(t:Ty) {b:Nat} {s:List (List UInt8)},jX b s->jX (b+t.size) (t.cn s)
 | .mk k nm ix l,b,s,h=>by
  rw[Ty.cn,Ty.size,show b+(aU l+1)=b+1+aU l by omega];exact Ko l (FV h)
theorem Ko:∀(l:List Ty) {b:Nat} {s:List (List UInt8)},jX b s->jX (b+aU l) (EU l s)
 | [],b,s,h=>by simpa [EU,aU] using h
 | t::r,b,s,h=>by
  rw[EU,aU,←Nat.add_assoc];exact Ko r (Zc t h)
end
def CN (t:Ty) (s:List (List UInt8)):Prop:=∀r m,0 < r->0 < m->KC 128 [.dat t.enc,sP] (wU r s) m (XQ ⟨.tup [],wU m (t.cn s),m+1⟩)
theorem Vq {f:FuncId} {args:List ac} {h0:Heap} {m q mm:Nat} {s:List (List UInt8)} (hm:0 < m) (hq:0 < q) (h:KC f args h0 m (XQ ⟨.tup [],wU q s,mm⟩)):KC f args h0 m (XQ ⟨.tup [],wU m s,m+1⟩):=by
 refine aB.rn h ?_;rintro v hp m' ⟨rfl,rfl,rfl⟩;refine⟨[q],rfl,?_,?_⟩
 all_goals
  have e1:gG 0 [q]=false:=by cases q with|zero=>omega|succ q=>rfl
  have e2:gG q [q]=true:=by simp[gG]
  have e3:dK m [q] 0=true:=by simp[dK,Nat.blt_eq,hm]
  have e4:dK m [q] q=true:=by simp[dK,e2]
  have e5:kh m [q] 0=0:=by simp[kh,e1]
  have e6:kh m [q] q=m:=by simp[kh,e2,oF]
 ·cases s with
  | nil=>simp[wU,bI,GA,Jl,gN,BG,e3]
  | cons x l=>simp[wU,bI,GA,Jl,gN,BG,e3,e4,qh]
 ·cases s with
  | nil=>simp[wU,bI,lk,mC,qT,gD,fg,e3,e5];(and_intros <;> rfl)
  | cons x l=>simp[wU,bI,lk,mC,qT,gD,fg,e3,e4,e5,e6,gm];(and_intros <;> rfl)
theorem acH {k:Int} {nm:List UInt8} {ix:Int} {l:List Ty} {b:Nat} {s:List (List UInt8)} (hs:jX b s) (hbd:b+1+aU l < 1000000000)
  (ih:∀t∈l,∀s2,(∃b2,jX b2 s2/\b2+t.size<=b+1+aU l)->CN t s2):CN (.mk k nm ix l) s:=by
 intro r m hr hm;have hlen:=eG l;obtain⟨r2,m2,hr2,hm2,hH2⟩:∃r2 m2,0 < r2/\0 < m2/\((aP k 2=true->KC 151 [sP,.dat (sb nm)] (wU r s) m (XQ ⟨.tup [],wU r2 (mB k nm s),m2⟩))/\(aP k 2=false->wU r2 (mB k nm s)=wU r s/\m2=m)):=by
  unfold mB
  cases hk:aP k 2 with
  | false=>exact⟨r,m,hr,hm,by simp,fun _=>⟨rfl,rfl⟩⟩
  | true=>exact⟨m,m+1,hm,by omega,fun _=>acN hs.1 (by have:=hs.2;omega) r m,by simp⟩
 have hs1:=FV (k:=k) (nm:=nm) hs;refine Vq (q:=sY r2 m2 l.length) (mm:=m2+l.length) hm (sX hr2 hm2) ?_;have hl:KD (.loop (roundOf Tryz.f128 0)) (fun e s'=>e=.exit 0/\s'=(KZ (sl (au l)) (au l).length (wU (sY r2 m2 l.length) (EU l (mB k nm s))) (m2+l.length) (Int.ofNat (au l).length)).aw Tryz.f128.ntmps)
   ((IF (sl (au l)) (au l).length (wU r2 (mB k nm s)) m2 (Int.ofNat 0)).aw Tryz.f128.ntmps):=by
  refine bb (St:=fun i=>(IF (sl (au l)) (au l).length (wU (sY r2 m2 i) (EU (l.take i) (mB k nm s))) (m2+i) (Int.ofNat i)).aw Tryz.f128.ntmps) (au l).length ?_ ?_ (i:=0) (Nat.zero_le _)
  ·intro i hi;obtain⟨t,ht,hmem⟩:=get_mem hi;have hi2:=hi;rw[aF] at hi2;obtain⟨x,es,hx⟩:∃x es,au l=x::es:=by
    cases hl:au l with
    | nil=>rw[hl] at hi;simp at hi
    | cons x es=>exact⟨x,es,rfl⟩
   have hst:=jb ht;have hsl:=oQ (l:=l) (i+1);have hpre:jX (b+1+aU (l.take i)) (EU (l.take i) (mB k nm s)):=Ko _ hs1;have hcf:=ih t hmem (EU (l.take i) (mB k nm s)) ⟨_,hpre,by omega⟩ (sY r2 m2 i) (m2+i) (sX hr2 hm2) (by omega);have e:=T2 (T:=lm (fun s'=>s'=(IF (sl (au l)) (au l).length (wU (sY r2 m2 (i+1)) (EU (l.take (i+1)) (mB k nm s))) (m2+(i+1)) (Int.ofNat (i+1))).aw Tryz.f128.ntmps)
    (fun e s'=>e=.exit 0/\s'=(KZ (sl (au l)) (au l).length (wU (sY r2 m2 l.length) (EU l (mB k nm s))) (m2+l.length) (Int.ofNat (au l).length)).aw Tryz.f128.ntmps)) hx hi ht hcf (by
     rw[hx,bg (by omega),T4 ht];rfl)
   rw[hx];rw[hx] at e;exact e
  refine XT ⟨rfl,?_⟩;rw[aF,List.take_length]
 exact T3 rfl hH2.1 hH2.2 hl
mutual
theorem Bh:∀(t:Ty) {b:Nat} {s:List (List UInt8)},jX b s->b+t.size < 1000000000->CN t s
 | .mk k nm ix l,b,s,hs,hb=>by
  simp only[Ty.size] at hb;exact acH hs (by omega) (xq l (by omega))
theorem xq:∀(l:List Ty) {B:Nat},B < 1000000000->∀t∈l,∀s2,(∃b2,jX b2 s2/\b2+t.size<=B)->CN t s2
 | [],B,_,t,ht,_,_=>by simp at ht
 | y::r,B,hB,t,ht,s2,h2=>by
  rcases List.mem_cons.1 ht with h3|ht
  ·obtain⟨b2,h4,h5⟩:=h2;rw[h3] at h5 ⊢;exact Bh y h4 (by omega)
  exact xq r hB t ht s2 h2
end
theorem Nx {k:Int} {nm:List UInt8} {ix:Int} {l:List ap} {s:List (List UInt8)} (h:KC 128 [.dat (.agg [i64 k,sb nm,i64 ix,sl l]),sP] [(.out 0,.cells [.dat nl])] 1 (XQ ⟨.tup [],wU 1 s,2⟩)) :
  KC 100 [.dat (.agg [i64 k,sb nm,i64 ix,sl l])] [] 0 (XQ (match s with|[]=>⟨.dat nl,wU 1 [],2⟩|x::r=>⟨.win (.out 1) 1 0 (x::r).length,wU 1 (x::r),2⟩)):=by
 rcases l with _|⟨y,l⟩ <;>
 ·cases s with
  | nil=>
   refine aZ [] [] (x:=gU.of Tryz.f100 D5 En) (by kernel_rfl) ?_;refine oh h ?_;exact fi
  | cons x r=>
   refine aZ [] [] (x:=gU.of Tryz.f100 D5 En) (by kernel_rfl) ?_;refine oh h ?_;exact fi
def Ty.LD (t:Ty):List (List UInt8):=t.cn []
theorem Sc {t:Ty}:jX (0+t.size) t.LD:=Zc t ⟨List.Pairwise.nil,Nat.le_refl _⟩
theorem VR {g:FuncId} {args:List ac} {heap h2:Heap} {next m:Nat} (h:KC g args heap next (XQ ⟨.dat nl,h2,m⟩)):KC g args heap next (XQ ⟨.own [],h2,m⟩):=by
 intro w R N cargs bsA bsH bsF ha hh hnd hnx hg hF;refine (h w R N cargs bsA bsH bsF ha hh hnd hnx hg hF).mono ?_;rintro e w' ⟨v,cv,h1,next',R',N',bsV,bsH',rfl,⟨rfl,rfl,rfl⟩,hv,hh',hnd',hnx',hk,hN⟩;simp only[al] at hv;obtain⟨rfl,hv⟩:=hv;have hv:dO w' R' cv (.flat (.slice none 0 0)):=hv;have e1:cv=.slice none 0 0:=by cases hv with|flat _=>rfl
 subst e1;exact⟨_,_,_,_,R',N',[],bsH',rfl,⟨rfl,rfl,rfl⟩,by simp only[al];exact .nil,hh',hnd',hnx',hk,hN⟩
theorem MA {t:Ty} (hs:t.size < 400000000):ag 100 [.dat t.enc] (.own (t.LD.map sb)):=by
 have h1:=Bh t (s:=[]) ⟨List.Pairwise.nil,Nat.le_refl 0⟩ (by omega) 1 1 (by decide) (by decide);have h2:=Sc (t:=t);unfold Ty.LD at h2 ⊢;generalize t.cn []=s at h1 h2;obtain⟨k,nm,ix,l⟩:=t;have h3:=Nx h1
 cases s with
 | nil=>
  refine VR (aB.rn h3 ?_);rintro v hp m ⟨rfl,rfl,rfl⟩;exact⟨[],rfl,rfl,rfl,rfl,rfl⟩
 | cons x r=>exact aB.aga (by simp) h3 (by have:=h2.2;simp only[lim];omega)
theorem Y0 {l:List (List UInt8)} {i:Nat} {b:List UInt8} (h:l[i]?=some b):aK (env ay.aN) 60 [.dat (.slice (l.map sb)),.dat (.flat (.int .i64 (Int.ofNat i)))]=some ⟨.ref [sb b],.keep⟩:=aaB h
theorem OD {a b:List (List UInt8)} (h:a.length+b.length < 1000000000):cJ (env ay.aN) false 60 [.own (a.map sb),.dat (.slice (b.map sb))] none=some ⟨.own (a.map sb++b.map sb),.keep⟩:=by
 refine qF (i:=tiS) (ds:=b.map sb) (k:=0) O5 rfl yL ?_ ?_ (by kernel_rfl) ?_ ?_ ?_ (by simp)
 ·exact ig (fun d hd=>by obtain⟨x,_,rfl⟩:=List.mem_map.1 hd;rfl)
 ·exact ig (fun d hd=>by obtain⟨x,_,rfl⟩:=List.mem_map.1 hd;rfl)
 ·have h1:tiS.bytes<=1000:=fe (by kernel_rfl);simp only[List.length_map]
  calc (a.length+b.length)*tiS.bytes<=1000000000*1000:=Nat.mul_le_mul (by omega) h1
   _<=140737488355328:=by decide
 ·simp[lim];omega
 have hb:ew (a.map sb++b.map sb)=false:=by
  rw[←List.map_append]
  cases a++b with
  | nil=>rfl
  | cons x r=>rfl
 unfold fQ;rw[hb]
def hasB (l:List (List UInt8)) (x:List UInt8):Bool:=l.any (fun y=>dU y x)
theorem jP {l:List (List UInt8)} {x:List UInt8}:hasB l x=true↔x∈l:=by
 unfold hasB;rw[List.any_eq_true]
 constructor
 ·rintro⟨y,h1,h2⟩;rw[←si h2];exact h1
 intro h;exact⟨x,h,jT x⟩
def JX (E:List (Go.Value×ap)) (cs:List ap) (es:List (Go.Value×ap)) (n:Nat):Heap:=(.out 3,.map E)::hG 2 (av cs) es n
abbrev od (g:FuncId) (args:List ac) (E:List (Go.Value×ap)) (cs:List ap) (es:List (Go.Value×ap)) (n:Nat) (v:ac) (E2:List (Go.Value×ap)):Prop:=KC g args (JX E cs es n) 4 (XQ ⟨v,JX E2 cs es n,4⟩)
theorem gcS (v:ac) (E:List (Go.Value×ap)) (cs:List ap) (es:List (Go.Value×ap)) (n:Nat) (hv:dB 4 v=false):qJ 4 ⟨v,JX E cs es n,4⟩=⟨v,JX E cs es n,4⟩:=by
 have h1:eF 4 (JX E cs es n)=JX E cs es n:=rfl;have h2:cG 4 (JX E cs es n)=false:=by simp[cG,JX,hG,lY,jz,dM,dB];exact⟨rfl,rfl⟩
 unfold qJ;dsimp only;rw[h1,h2,hv];rfl
def mS:ac:=.map (.out 3)
noncomputable def hCr:Hints:=⟨ao,Cz,aq,rowsOf aq 71⟩
theorem aab {E es:List (Go.Value×ap)} {cs:List ap} {n:Nat} {nm dn sn:List UInt8} {ar k ix:Int} {sa lb:List ap} {con:Bool}
  (hf:od 49 [hP,.dat (sb nm)] E cs es n (.tup [.dat (eh dn ar k sn ix sa con lb),bv false]) E) :
  od 71 [hP,.dat (sb nm),mS] E cs es n (.tup []) E:=by
 have q1:=fy 6 dn ar k sn ix sa con lb;have hg:=gcS (.tup []) E cs es n rfl;refine co [] [100006] (x:=.of Tryz.f71 Cz pf) ?_;refine oh hf ?_;refine oo q1 ?_;exact bh (by kernel_rfl) hg
theorem Qf {E es:List (Go.Value×ap)} {cs:List ap} {n:Nat} {nm dn sn:List UInt8} {ar k ix:Int} {sa lb:List ap} {con:Bool}
  (hf:od 49 [hP,.dat (sb nm)] E cs es n (.tup [.dat (eh dn ar k sn ix sa con lb),bv true]) E)
  (hs:eL (env ay.aN) 97 false [.map (.out 3),.dat (sb nm)] (some (.map E))=some ⟨bv true,.keep⟩) :
  od 71 [hP,.dat (sb nm),mS] E cs es n (.tup []) E:=by
 have q1:=fy 6 dn ar k sn ix sa con lb;have hg:=gcS (.tup []) E cs es n rfl;refine co [] [100006,24] (x:=.of Tryz.f71 Cz pf) ?_;refine oh hf ?_;refine oo q1 ?_;refine oo hs ?_;exact bh (by kernel_rfl) hg
def MT (fl A:List ap) (E:List (Go.Value×ap)) (cs:List ap) (es:List (Go.Value×ap)) (n:Nat) (i:Int):ab:=⟨[(34,iv i),(33,iv (Int.ofNat fl.length)),(32,.dat (sl fl)),(8,.own A),(0,hP),(2,mS)],[],JX E cs es n,4⟩
def KW (fl A:List ap) (E:List (Go.Value×ap)) (cs:List ap) (es:List (Go.Value×ap)) (n:Nat) (i:Int):ab:=⟨[(35,bv false),(34,iv i),(33,iv (Int.ofNat fl.length)),(32,.dat (sl fl)),(8,.own A),(0,hP),(2,mS)],[],JX E cs es n,4⟩
def MS (A:List ap) (E:List (Go.Value×ap)) (cs:List ap) (es:List (Go.Value×ap)) (n:Nat) (i:Int):ab:=⟨[(46,iv i),(45,iv (Int.ofNat A.length)),(44,.dat (.slice A)),(0,hP),(2,mS)],[],JX E cs es n,4⟩
def KV (A:List ap) (E:List (Go.Value×ap)) (cs:List ap) (es:List (Go.Value×ap)) (n:Nat) (i:Int):ab:=⟨[(47,bv false),(46,iv i),(45,iv (Int.ofNat A.length)),(44,.dat (.slice A)),(0,hP),(2,mS)],[],JX E cs es n,4⟩
theorem Qo {l:List dq} {f:dq} {i n:Nat} {A B:List ap} {E es:List (Go.Value×ap)} {cs:List ap} {T:Exit->aa->Prop} (hi:i < (aJ l).length) (ht:l[i]?=some f)
  (hc:ag 100 [.dat f.ty.enc] (.own B)) (ha:cJ (env ay.aN) false 60 [.own A,.dat (.slice B)] none=some ⟨.own (A++B),.keep⟩)
  (e:T .normal ((MT (aJ l) (A++B) E cs es n (aH .i64 (Int.ofNat i+1))).aw Tryz.f71.ntmps)) :
  KD (roundOf Tryz.f71 0) T ((MT (aJ l) A E cs es n (Int.ofNat i)).aw Tryz.f71.ntmps):=by
 have h1:=bA hi;have h2:=rZ ht;obtain⟨x,r,hx⟩:∃x r,aJ l=x::r:=by cases l with|nil=>simp at ht|cons x r=>exact⟨_,_,rfl⟩
 rw[hx] at h1 h2 e ⊢;clear ht hi hx;obtain⟨fnm,fk,ftn,fix,fa⟩:=f
 rcases fa with _|⟨b2,d2⟩ <;>
 ·refine aC [35] [36,42] (H:=hCr) (live:=pf) (by kernel_rfl) ?_;refine ob h1 ?_;refine oo h2 ?_;refine on hc ?_;refine oo ha ?_;exact oe e
theorem VF {l A:List ap} {n:Nat} {E es:List (Go.Value×ap)} {cs:List ap} {T:Exit->aa->Prop} (e:T (.exit 0) ((KW l A E cs es n (Int.ofNat l.length)).aw Tryz.f71.ntmps)) :
  KD (roundOf Tryz.f71 0) T ((MT l A E cs es n (Int.ofNat l.length)).aw Tryz.f71.ntmps):=by
 have h1:=bC (i:=l.length) (L:=l.length) (by omega);refine aC [35] [] (H:=hCr) (live:=pf) (by kernel_rfl) ?_;refine ob h1 ?_;exact oe e
theorem Qn {A:List ap} {b:List UInt8} {i n:Nat} {E E2 es:List (Go.Value×ap)} {cs:List ap} {T:Exit->aa->Prop} (h1:bq (Int.ofNat i) (Int.ofNat A.length)=true)
  (h2:aK (env ay.aN) 60 [.dat (.slice A),.dat (.flat (.int .i64 (Int.ofNat i)))]=some ⟨.ref [sb b],.keep⟩)
  (hc:od 71 [hP,.dat (sb b),mS] E cs es n (.tup []) E2)
  (e:T .normal ((MS A E2 cs es n (aH .i64 (Int.ofNat i+1))).aw Tryz.f71.ntmps)) :
  KD (roundOf Tryz.f71 1) T ((MS A E cs es n (Int.ofNat i)).aw Tryz.f71.ntmps):=by
 refine aC [47] [48] (H:=hCr) (live:=pf) (by kernel_rfl) ?_;refine ob h1 ?_;refine oo h2 ?_;refine oh hc ?_;exact oe e
theorem VE {A:List ap} {n:Nat} {E es:List (Go.Value×ap)} {cs:List ap} {T:Exit->aa->Prop} (e:T (.exit 2) ((KV A E cs es n (Int.ofNat A.length)).aw Tryz.f71.ntmps)) :
  KD (roundOf Tryz.f71 1) T ((MS A E cs es n (Int.ofNat A.length)).aw Tryz.f71.ntmps):=by
 have h1:=bC (i:=A.length) (L:=A.length) (by omega);refine aC [47] [] (H:=hCr) (live:=pf) (by kernel_rfl) ?_;refine ob h1 ?_;exact oe e
theorem Vy {E E2 E3 es:List (Go.Value×ap)} {cs A0 A:List ap} {n:Nat} {nm dn sn:List UInt8} {ar k ix:Int} {sa lb:List ap} {con:Bool}
  (hf:od 49 [hP,.dat (sb nm)] E cs es n (.tup [.dat (eh dn ar k sn ix sa con lb),bv true]) E)
  (hs:eL (env ay.aN) 97 false [.map (.out 3),.dat (sb nm)] (some (.map E))=some ⟨bv false,.keep⟩)
  (hp:cL (env ay.aN) 97 [.map (.out 3),.dat (sb nm),bv true] (some (.map E))=some ⟨.undef,.set (.map E2)⟩)
  (hn:ag 100 [.dat (.agg [i64 k,sb sn,i64 ix,sl sa])] (.own A0))
  (hl1:KD (.loop (roundOf Tryz.f71 0)) (fun e s=>e=.exit 0/\s=(KW lb A E2 cs es n (Int.ofNat lb.length)).aw Tryz.f71.ntmps) ((MT lb A0 E2 cs es n (Int.ofNat 0)).aw Tryz.f71.ntmps))
  (hl2:KD (.loop (roundOf Tryz.f71 1)) (fun e s=>e=.exit 2/\s=(KV A E3 cs es n (Int.ofNat A.length)).aw Tryz.f71.ntmps) ((MS A E2 cs es n (Int.ofNat 0)).aw Tryz.f71.ntmps)) :
  od 71 [hP,.dat (sb nm),mS] E cs es n (.tup []) E3:=by
 have q1:=fy 6 dn ar k sn ix sa con lb;have hg:=gcS (.tup []) E3 cs es n rfl;refine co [] [100006,24,100026] (x:=.of Tryz.f71 Cz pf) ?_;refine oh hf ?_;refine oo q1 ?_;refine oo hs ?_;refine oo hp ?_
 rcases sa with _|⟨v2,v3⟩
 ·refine on hn ?_
  rcases lb with _|⟨v0,v1⟩ <;>
  ·refine lo hl1 ?_;rintro ex s ⟨rfl,rfl⟩;refine⟨_,rfl,?_⟩;refine lo hl2 ?_;rintro ex s ⟨rfl,rfl⟩;refine⟨_,rfl,?_⟩;exact bh (by kernel_rfl) hg
 refine on hn ?_
 rcases lb with _|⟨v4,v5⟩ <;>
 ·refine lo hl1 ?_;rintro ex s ⟨rfl,rfl⟩;refine⟨_,rfl,?_⟩;refine lo hl2 ?_;rintro ex s ⟨rfl,rfl⟩;refine⟨_,rfl,?_⟩;exact bh (by kernel_rfl) hg
def fW (d:aQ):List (List UInt8):=d.sup.LD++d.fl.flatMap (fun f=>f.ty.LD)
def gM (ds:List aQ):Nat->List UInt8->List (List UInt8)->List (List UInt8)
 | 0,_,S=>S
 | f+1,nm,S=>match aD ds nm with
  | none=>S
  | some d=>match hasB S nm with
   | true=>S
   | false=>(fW d).foldl (fun S n=>gM ds f n S) (S++[nm])
theorem pw {g:List (List UInt8)->List UInt8->List (List UInt8)} (hg:∀S n x,x∈S->x∈g S n):∀(l:List (List UInt8)) {S:List (List UInt8)} {x:List UInt8},x∈S->x∈l.foldl g S
 | [],_,_,h=>h
 | n::r,_,_,h=>pw hg r (hg _ n _ h)
theorem zD (ds:List aQ):∀(f:Nat) (nm:List UInt8) (S:List (List UInt8)) (x:List UInt8),x∈S->x∈gM ds f nm S
 | 0,_,_,_,h=>h
 | f+1,nm,S,x,h=>by
  rw[gM]
  cases aD ds nm with
  | none=>exact h
  | some d=>
   dsimp only
   cases hasB S nm with
   | true=>exact h
   | false=>exact pw (fun S n x hx=>zD ds f n S x hx) _ (List.mem_append_left _ h)
def ke (ds:List aQ) (S:List (List UInt8)):Nat:=ds.countP (fun d=>!hasB S d.nm)
theorem GJ {ds:List aQ} {S S2:List (List UInt8)} (h:∀x∈S,x∈S2):ke ds S2<=ke ds S:=by
 refine List.countP_mono_left ?_;intro d _ hd
 cases h1:hasB S d.nm with
 | false=>rfl
 | true=>rw[jP.2 (h _ (jP.1 h1))] at hd;simp at hd
theorem xh {α:Type} {p q:α->Bool}:∀{l:List α} {d:α},(∀x∈l,q x=true->p x=true)->d∈l->p d=true->q d=false->l.countP q < l.countP p
 | [],_,_,h,_,_=>by simp at h
 | x::r,d,h,hm,h1,h2=>by
  have hr:r.countP q<=r.countP p:=List.countP_mono_left (fun y hy=>h y (List.mem_cons_of_mem _ hy))
  rcases List.mem_cons.1 hm with rfl|hm
  ·rw[List.countP_cons_of_pos h1,List.countP_cons_of_neg (by simp[h2])];omega
  have ih:=xh (fun y hy=>h y (List.mem_cons_of_mem _ hy)) hm h1 h2;have hx:=h x List.mem_cons_self
  cases hq:q x with
  | true=>rw[List.countP_cons_of_pos hq,List.countP_cons_of_pos (hx hq)];omega
  | false=>
   rw[List.countP_cons_of_neg (by simp[hq])]
   cases hp:p x with
   | true=>rw[List.countP_cons_of_pos hp];omega
   | false=>rw[List.countP_cons_of_neg (by simp[hp])];exact ih
theorem im:∀{ds:List aQ} {nm:List UInt8} {d:aQ},aD ds nm=some d->d∈ds/\d.nm=nm
 | [],nm,d,h=>by simp[aD] at h
 | e::r,nm,d,h=>by
  unfold aD at h
  split at h
  ·rename_i he;simp at h;subst h;exact⟨List.mem_cons_self,(si he).symm⟩
  obtain⟨h1,h2⟩:=im h;exact⟨List.mem_cons_of_mem _ h1,h2⟩
theorem GI {ds:List aQ} {S S2:List (List UInt8)} {nm:List UInt8} {d:aQ} (hf:aD ds nm=some d) (hb:hasB S nm=false) (h:∀x∈S,x∈S2) (hn:nm∈S2):ke ds S2 < ke ds S:=by
 obtain⟨h1,h2⟩:=im hf;refine xh (d:=d) ?_ h1 ?_ ?_
 ·intro e _ he
  cases h3:hasB S e.nm with
  | false=>rfl
  | true=>rw[jP.2 (h _ (jP.1 h3))] at he;simp at he
 ·rw[h2,hb];rfl
 rw[h2,jP.2 hn];rfl
def dQ (S:List (List UInt8)):List (Go.Value×ap):=S.map (fun s=>(.string ⟨⟨s⟩⟩,bl true))
theorem py:∀(l:List (List UInt8)) (nm:List UInt8) (j:Nat),findF .string (.string ⟨⟨nm⟩⟩) (dQ l) j=some (match hasB l nm with|true=>some (match findF .string (.string ⟨⟨nm⟩⟩) (dQ l) j with|some (some (i,_))=>i|_=>0,bl true)|false=>none)
 | [],nm,j=>rfl
 | d::r,nm,j=>by
  have e:findF .string (.string ⟨⟨nm⟩⟩) (dQ (d::r)) j=(match sV .string (.string ⟨⟨nm⟩⟩) (.string ⟨⟨d⟩⟩) with|some true=>some (some (j,bl true))|some false=>findF .string (.string ⟨⟨nm⟩⟩) (dQ r) (j+1)|none=>none):=rfl;have e2:hasB (d::r) nm=(dU d nm||hasB r nm):=rfl;rw[e,show sV .string (.string ⟨⟨nm⟩⟩) (.string ⟨⟨d⟩⟩)=some (dU nm d) from rfl,e2,show dU d nm=dU nm d by rw[jo,jo,Bool.eq_iff_iff];simp only[beq_iff_eq];exact eq_comm]
  cases he:dU nm d with
  | true=>rfl
  | false=>rw[Bool.false_or];exact py r nm (j+1)
theorem Js (l:List (List UInt8)) (nm:List UInt8):eL (env ay.aN) 97 false [.map (.out 3),.dat (sb nm)] (some (.map (dQ l)))=some ⟨bv (hasB l nm),.keep⟩:=by
 have h1:eL (env ay.aN) 97 false [.map (.out 3),.dat (sb nm)] (some (.map (dQ l)))=(match findF .string (.string ⟨⟨nm⟩⟩) (dQ l) 0 with
  | some (some (_,d))=>some ⟨.dat d,.keep⟩|some none=>some ⟨bv false,.keep⟩|none=>none):=by kernel_rfl
 rw[h1,py]
 cases hasB l nm <;> rfl
theorem No {l:List (List UInt8)} {nm:List UInt8} (h:hasB l nm=false):cL (env ay.aN) 97 [.map (.out 3),.dat (sb nm),bv true] (some (.map (dQ l)))=some ⟨.undef,.set (.map (dQ (l++[nm])))⟩:=by
 have h1:cL (env ay.aN) 97 [.map (.out 3),.dat (sb nm),bv true] (some (.map (dQ l)))=(match findF .string (.string ⟨⟨nm⟩⟩) (dQ l) 0 with
  | some (some (i,_))=>some ⟨.undef,.set (.map (setAt i (bl true) (dQ l)))⟩|some none=>some ⟨.undef,.set (.map (dQ l++[(.string ⟨⟨nm⟩⟩,bl true)]))⟩|none=>none):=by kernel_rfl
 rw[h1,py,h];simp[dQ]
theorem uR {α β:Type} {g:α->List β} {l:List α} {i:Nat} {t:α} (h:l[i]?=some t):(l.take (i+1)).flatMap g=(l.take i).flatMap g++g t:=by rw[dC h,List.flatMap_append];simp
theorem AN {g:dq->List (List UInt8)} {B:Nat}:∀{l:List dq},(∀f∈l,(g f).length<=B)->(l.flatMap g).length<=l.length*B
 | [],_=>by simp
 | x::r,h=>by
  have h1:=h x List.mem_cons_self;have h2:=AN (g:=g) (B:=B) (l:=r) (fun f hf=>h f (List.mem_cons_of_mem _ hf));rw[List.flatMap_cons,List.length_append,List.length_cons,Nat.succ_mul];omega
def aQ.low (d:aQ):Prop:=d.sup.size<=200/\d.fl.length<=6/\∀f∈d.fl,f.ty.size<=200
theorem yg {t:Ty} (h:t.size<=200):t.LD.length<=200:=by have:=(Sc (t:=t)).2;omega
theorem Mv {ds:List aQ} {tl:List ap} (hds:∀d∈ds,d.low):∀(f:Nat) (nm:List UInt8) (S:List (List UInt8)),ke ds S < f->
  od 71 [hP,.dat (sb nm),mS] (dQ S) (bK ds++tl) (bE ds 0) ds.length (.tup []) (dQ (gM ds f nm S))
 | 0,_,_,h=>by omega
 | f+1,nm,S,h=>by
  have hf:=E5 2 4 [(.out 3,.map (dQ S))] ds tl nm;rw[gM]
  cases hfd:aD ds nm with
  | none=>
   rw[hfd] at hf;exact aab hf
  | some d=>
   rw[hfd] at hf;dsimp only;have hs:=Js S nm
   cases hb:hasB S nm with
   | true=>
    rw[hb] at hs;obtain⟨dn,ar,⟨sk,sn,six,sa⟩,con,fl⟩:=d;exact Qf hf hs
   | false=>
    rw[hb] at hs;have hp:=No hb;obtain⟨l1,l2,l3⟩:=hds d (im hfd).1;have hn:=MA (t:=d.sup) (by omega);have hfl:=AN (g:=fun f=>f.ty.LD) (B:=200) (fun f hf=>yg (l3 f hf));have hn0:=yg l1;have hlt:ke ds (S++[nm]) < ke ds S:=GI hfd hb (fun x hx=>List.mem_append_left _ hx) (by simp);have hl1:KD (.loop (roundOf Tryz.f71 0)) (fun e s=>e=.exit 0/\s=(KW (aJ d.fl) ((fW d).map sb) (dQ (S++[nm])) (bK ds++tl) (bE ds 0) ds.length (Int.ofNat (aJ d.fl).length)).aw Tryz.f71.ntmps)
      ((MT (aJ d.fl) (d.sup.LD.map sb) (dQ (S++[nm])) (bK ds++tl) (bE ds 0) ds.length (Int.ofNat 0)).aw Tryz.f71.ntmps):=by
     refine bb (St:=fun i=>(MT (aJ d.fl) ((d.sup.LD++(d.fl.take i).flatMap (fun f=>f.ty.LD)).map sb) (dQ (S++[nm])) (bK ds++tl) (bE ds 0) ds.length (Int.ofNat i)).aw Tryz.f71.ntmps) (aJ d.fl).length ?_ ?_ (i:=0) (Nat.zero_le _) |> (fun h=>by simpa using h)
     ·intro i hi;obtain⟨t,ht,hm⟩:=gv hi;have hw:aH .i64 (Int.ofNat i+1)=Int.ofNat (i+1):=bg (by rw[bd] at hi;omega);have hlen:((d.fl.take i).flatMap (fun f=>f.ty.LD)).length<=(d.fl.take i).length*200:=AN (fun f hf=>yg (l3 f (List.mem_of_mem_take hf)));rw[List.length_take] at hlen;have hle:min i d.fl.length*200<=6*200:=Nat.mul_le_mul_right _ (by omega);have ha:=OD (a:=d.sup.LD++(d.fl.take i).flatMap (fun f=>f.ty.LD)) (b:=t.ty.LD) (by have:=yg (l3 t hm);rw[List.length_append];omega);refine Qo hi ht (MA (by have:=l3 t hm;omega)) ha ?_;rw[hw,uR ht,←List.append_assoc,List.map_append];rfl
     have e:=VF (l:=aJ d.fl) (A:=(fW d).map sb) (n:=ds.length) (E:=dQ (S++[nm])) (es:=bE ds 0) (cs:=bK ds++tl) (T:=lm (fun _=>False) (fun e s=>e=.exit 0/\s=(KW (aJ d.fl) ((fW d).map sb) (dQ (S++[nm])) (bK ds++tl) (bE ds 0) ds.length (Int.ofNat (aJ d.fl).length)).aw Tryz.f71.ntmps)) ⟨rfl,rfl⟩;rw[bd] at e ⊢;rw[List.take_length];exact e
    have hl2:KD (.loop (roundOf Tryz.f71 1)) (fun e s=>e=.exit 2/\s=(KV ((fW d).map sb) (dQ ((fW d).foldl (fun S n=>gM ds f n S) (S++[nm]))) (bK ds++tl) (bE ds 0) ds.length (Int.ofNat ((fW d).map sb).length)).aw Tryz.f71.ntmps)
      ((MS ((fW d).map sb) (dQ (S++[nm])) (bK ds++tl) (bE ds 0) ds.length (Int.ofNat 0)).aw Tryz.f71.ntmps):=by
     refine bb (St:=fun i=>(MS ((fW d).map sb) (dQ (((fW d).take i).foldl (fun S n=>gM ds f n S) (S++[nm]))) (bK ds++tl) (bE ds 0) ds.length (Int.ofNat i)).aw Tryz.f71.ntmps) ((fW d).map sb).length ?_ ?_ (i:=0) (Nat.zero_le _)
     ·intro i hi;have hi2:=hi;rw[List.length_map] at hi2;have hg:(fW d)[i]?=some (fW d)[i]:=List.getElem?_eq_getElem hi2;generalize (fW d)[i]=b at hg;have hnl:(fW d).length<=1400:=by
       unfold fW;rw[List.length_append]
       have:d.fl.length*200<=6*200:=Nat.mul_le_mul_right _ l2
       omega
      have hw:aH .i64 (Int.ofNat i+1)=Int.ofNat (i+1):=bg (by omega);refine Qn (bA hi) (Y0 hg) (Mv hds f b _ ?_) ?_
      ·refine Nat.lt_of_le_of_lt (GJ ?_) (Nat.lt_of_lt_of_le hlt (Nat.le_of_lt_succ h));intro x hx;exact pw (fun S n x hx=>zD ds f n S x hx) _ hx
      rw[hw,dC hg,List.foldl_append];rfl
     have e:=VE (A:=(fW d).map sb) (n:=ds.length) (E:=dQ ((fW d).foldl (fun S n=>gM ds f n S) (S++[nm]))) (es:=bE ds 0) (cs:=bK ds++tl) (T:=lm (fun _=>False) (fun e s=>e=.exit 2/\s=(KV ((fW d).map sb) (dQ ((fW d).foldl (fun S n=>gM ds f n S) (S++[nm]))) (bK ds++tl) (bE ds 0) ds.length (Int.ofNat ((fW d).map sb).length)).aw Tryz.f71.ntmps)) ⟨rfl,rfl⟩;rw[List.length_map] at e ⊢;rw[List.take_length];exact e
    obtain⟨dn,ar,⟨sk,sn,six,sa⟩,con,fl⟩:=d;exact Vy hf hs hp hn hl1 hl2
end Go.Proofs.YtiihadmgkoamoaaGreatDoor
namespace Go.Proofs
open Go.Shelf
def Tryz.pk:Go.Shelf.Ren:=⟨fun|169=>78|n=>n,fun|70=>99|9=>9|0=>0|72=>102|37=>100|127=>137|3=>3|5=>5|n=>n,fun|n=>n⟩
theorem Tryz.W3:Go.Proofs.Lays.n169 Tryz.prog Tryz.pk:={
 mixed:=by kernel_rfl
 f169:=Tryz.func78.trans (congrArg some (by kernel_rfl))
 t0:=Tryz.underlying0
 a0:=Tryz.isAgg0
 z0:=Tryz.sizeOf0
 v0:=Tryz.zeroValue0
 t3:=Tryz.underlying3
 a3:=Tryz.isAgg3
 z3:=Tryz.sizeOf3
 v3:=Tryz.zeroValue3
 t9:=Tryz.underlying9
 a9:=Tryz.isAgg9
 z9:=Tryz.sizeOf9
 v9:=Tryz.zeroValue9
 t37:=Tryz.underlying100
 a37:=Tryz.isAgg100
 z37:=Tryz.sizeOf100
 v37:=Tryz.zeroValue100
 t70:=Tryz.underlying99
 a70:=Tryz.isAgg99
 z70:=Tryz.sizeOf99
 v70:=Tryz.zeroValue99
 t72:=Tryz.underlying102
 a72:=Tryz.isAgg102
 z72:=Tryz.sizeOf102
 v72:=Tryz.zeroValue102
 t127:=Tryz.underlying137
 a127:=Tryz.isAgg137
 z127:=Tryz.sizeOf137
 v127:=Tryz.zeroValue137 }
theorem Tryz.uL:Builder.Extra Tryz.prog Tryz.pk:={
 sizeBuilder:=by kernel_rfl
 liesBuilder:=by kernel_rfl
 t5:=Tryz.underlying5
 a5:=Tryz.isAgg5
 z5:=Tryz.sizeOf5
 v5:=Tryz.zeroValue5
 infoByte:=by kernel_rfl
 cellsByte:=by kernel_rfl
 sizeByte:=by kernel_rfl
 neB5:=by decide }
end Go.Proofs
namespace Go.Tp
open Go.Proofs Go.Shelf Go.RowKit
section
variable {P:Program} {ρ:Ren} {G:bL}
def Y9 (args:List ac) (heap:Heap) (next:Nat):Option ey:=
 match args with
 | [.ptr (.out k) 0]=>(match pQ (.out k) heap with
  | some (.cells [.dat (.flat (.pointer none)),q])=>(match eg q with|true=>some ⟨.tup [],pN (.out k) (.cells [.ptr (.out k) 0,q]) heap,next⟩|false=>none)
  | some (.cells [.ptr (.out m) 0,q])=>(match Nat.beq m k&&eg q with|true=>some ⟨.tup [],heap,next⟩|false=>none)
  | _=>none)
 | _=>none
theorem qD {w:World} {R:Own} {N:Name->Option Nat} {p q:ac} {b:Nat} {b1:List Nat} (h:aT w R N (.cells [p,q]) b b1) (hp:xN p=true) (hq:eg q=true) :
  ∃v0 v1 c0 c1,w.heap[b]?=some (.cells #[v0,v1] rk (0,0))/\b1=c0++c1/\al w R N p v0 c0/\al w R N q v1 c1/\∀j,j < 2->R b j:=by
 obtain⟨vs,elem,sp,hblk,hr,hR,hsh⟩:=h;obtain⟨rfl,rfl⟩:=hsh (gJ.2 ⟨p,_,rfl,hp,hq⟩);simp only[List.replicate_zero,List.append_nil] at hr;obtain⟨v0,r1,c0,d1,e1,rfl,h0,hr1⟩:=az hr;obtain⟨v1,r2,c1,d2,rfl,rfl,h1,hr2⟩:=az hr1;obtain⟨rfl,rfl⟩:=aS hr2;have hvs:vs=#[v0,v1]:=by apply Array.toList_inj.1;rw[e1]
 subst hvs;exact⟨v0,v1,c0,c1,hblk,by simp,h0,h1,fun j hj=>hR j (by simpa using hj)⟩
theorem D6 {w:World} {R:Own} {N:Name->Option Nat} {k:Nat} {cargs:List Value} {bs:List Nat} (h:ak w R (outs N) [.ptr (.out k) 0] cargs bs) :
  ∃b,N (.out k)=some b/\cargs=[.pointer (some ⟨b,0,none⟩)]/\bs=[]:=by
 obtain⟨v,vs',b1,b2,rfl,rfl,h1,h2⟩:=az h;obtain⟨rfl,rfl⟩:=aS h2;simp only[al] at h1;obtain⟨rfl,b,hb,rfl⟩:=h1;exact⟨b,by simpa [outs] using hb,rfl,rfl⟩
theorem Uj (L:Lays.n240 P ρ) (X:Builder.X72 P ρ) (hT:ρ.t 72=rk) {args:List ac} {heap:Heap} {next:Nat} {r:ey} (h:Y9 args heap next=some r):aB P G (ρ.f 240) args heap next (XQ r):=by
 unfold Y9 at h
 split at h
 rotate_left
 ·simp at h
 rename_i k;rw[lf] at h;intro w R N cargs bsA bsH bsF hargs hheap hnd hnx hglob hF;obtain⟨b,hb,rfl,rfl⟩:=D6 hargs
 split at h
 ·rename_i q hget
  split at h
  rotate_left
  ·simp at h
  rename_i hq;simp only[Option.some.injEq] at h;subst h;obtain⟨pre,b',b1,post,rfl,hb',hobj,hset⟩:=an.split hheap hget
  have:b'=b:=by simp only[outs] at hb';rw[hb] at hb';simpa using hb'.symm
  subst this;obtain⟨v0,v1,c0,c1,hblk,rfl,h0,h1,hR⟩:=qD hobj rfl hq;obtain⟨rfl,rfl,_⟩:=aI h0;have hcell:w.cell? ⟨b',0,none⟩=some (.pointer none):=by simp[World.cell?,hblk]
  have hshape:w.shape? b'=some ((ρ.t 72),2):=by simp[World.shape?,hblk,hT]
  have hfz:w.frozen? ⟨b',0,none⟩=false:=by simp[World.frozen?,hblk]
  refine (Any.Builder_copyCheck_fresh L X b' w hcell hshape hfz).mono ?_;rintro e w' ⟨rfl,rfl⟩;rw[setCell_eq_setRow w b' 0 _ _ _ _ hblk];have hnd2:=hnd;simp only[List.nil_append] at hnd2;have hbn:∀c∈c1++(pre++(post++bsF)),c≠b':=by
   intro c hc e;subst e;have hp:((pre++(c::([]++c1))++post)++bsF).Perm (c::(c1++(pre++(post++bsF)))):=by
    rw[List.perm_iff_count];intro q;simp only[List.count_append,List.count_cons,List.count_nil];omega
   exact (List.nodup_cons.1 (hp.nodup_iff.1 hnd2)).1 hc
  have hk:∀bs:List Nat,b'∉bs->bz w R (w.setRow b' ((#[Value.pointer none,v1]).setIfInBounds 0 (.pointer (some ⟨b',0,none⟩)))) R bs:=fun bs hbs=>
   jG hblk _ (by simp) (fun _ _ h=>h) (fun _ _ _ h=>h) (fun off hnR=>by
    have:¬off < 2:=fun hlt=>hnR (hR off hlt)
    rw[Array.getElem?_eq_none (by simp;omega),Array.getElem?_eq_none (by simp;omega)]) ⟨0,hR 0 (by omega)⟩ bs hbs
  have hobj':aT (w.setRow b' ((#[Value.pointer none,v1]).setIfInBounds 0 (.pointer (some ⟨b',0,none⟩)))) R (outs N) (.cells [.ptr (.out k) 0,q]) b' ([]++c1):=by
   refine⟨_,rk,0,setRow_heap w b' _ _ _ _ hblk,?_,fun j hj=>hR j (by simpa using hj),fun _=>⟨rfl,rfl⟩⟩;have q1:al (w.setRow b' ((#[Value.pointer none,v1]).setIfInBounds 0 (.pointer (some ⟨b',0,none⟩)))) R (outs N) (.ptr (.out k) 0) (.pointer (some ⟨b',0,none⟩)) []:=by
    simp only[al];exact⟨trivial,b',by simpa [outs] using hb,rfl⟩
   have q2:al (w.setRow b' ((#[Value.pointer none,v1]).setIfInBounds 0 (.pointer (some ⟨b',0,none⟩)))) R (outs N) q v1 c1:=by
    exact h1.keep (hk c1 (fun hc=>hbn b' (by simp[hc]) rfl))
   simpa using aG q1 (aG q2 aX)
  have hH:=hset _ R _ ([]++c1) (hk (pre++post) (fun hc=>hbn b' (by simp at hc ⊢;rcases hc with h|h <;> simp[h]) rfl)) hobj';refine⟨.tup [],.tuple #[],_,next,R,N,[],_,rfl,⟨rfl,rfl,rfl⟩,by simp[al,ak],by rw[mX];exact hH,by simpa using hnd,hnx,hk bsF (fun hc=>hbn b' (by simp[hc]) rfl),fun _ _ h=>h⟩
 ·rename_i m q hget
  split at h
  ·rename_i hm0;simp only[Bool.and_eq_true] at hm0;obtain⟨hm,hq⟩:=hm0;simp only[Option.some.injEq] at h;subst h;have hmk:m=k:=Nat.eq_of_beq_eq_true hm;subst hmk;obtain⟨pre,b',b1,post,rfl,hb',hobj,hset⟩:=an.split hheap hget
   have:b'=b:=by simp only[outs] at hb';rw[hb] at hb';simpa using hb'.symm
   subst this;obtain⟨v0,v1,c0,c1,hblk,rfl,h0,h1,hR⟩:=qD hobj rfl hq;simp only[al] at h0;obtain⟨rfl,b2,hb2,rfl⟩:=h0
   have:b2=b':=by simp only[outs] at hb2;rw[hb] at hb2;simpa using hb2.symm
   subst this;have hcell:w.cell? ⟨b2,0,none⟩=some (.pointer (some ⟨b2,0,none⟩)):=by simp[World.cell?,hblk]
   refine (Any.Builder_copyCheck_used L X b2 w hcell).mono ?_;rintro e w' ⟨rfl,rfl⟩;exact⟨.tup [],.tuple #[],_,next,R,N,[],_,rfl,⟨rfl,rfl,rfl⟩,by simp[al,ak],hheap,by simpa using hnd,hnx,bi _,fun _ _ h=>h⟩
  simp at h
 simp at h
def nY:List ap->Option (List UInt8)
 | []=>some []
 | .flat (.int .u8 (.ofNat n))::r=>(match nY r with|some l=>some (UInt8.ofNat n::l)|none=>none)
 | _=>none
def adF (args:List ac) (heap:Heap) (next:Nat):Option ey:=
 match args with
 | [.ptr (.out k) 0]=>(match pQ (.out k) heap with
  | some (.cells [p,.own (e::es)])=>(match xN p,nY (e::es) with
   | true,some l=>some ⟨.dat (.flat (.string ⟨⟨l⟩⟩)),pN (.out k) (.cells [p,.dat (.slice (e::es))]) heap,next⟩
   | _,_=>none)
  | some (.cells [p,.dat (.flat (.slice none 0 0))])=>(match xN p with
   | true=>some ⟨.dat (.flat (.string .empty)),heap,next⟩
   | false=>none)
  | _=>none)
 | _=>none
theorem xu:∀{es:List ap} {l:List UInt8},nY es=some l->l.length=es.length/\∀(j:Nat) x,l[j]?=some x->∃n:Nat,es[j]?=some (.flat (.int .u8 (.ofNat n)))/\x=UInt8.ofNat n
 | [],l,h=>by simp[nY] at h;subst h;exact⟨rfl,fun j x hj=>by simp at hj⟩
 | d::r,l,h=>by
  unfold nY at h
  split at h
  ·simp at *
  ·rename_i n r' heq;simp at heq;obtain⟨rfl,rfl⟩:=heq
   split at h
   ·rename_i l' hl';simp at h;subst h;obtain⟨h1,h2⟩:=xu hl';refine⟨by simp[h1],fun j x hj=>?_⟩
    cases j with
    | zero=>simp at hj;exact⟨n,rfl,hj.symm⟩
    | succ j=>simpa using h2 j x (by simpa using hj)
   simp at h
  simp at h
theorem U7 {n:Nat} (h:bH (.int .u8 (Int.ofNat n))=true):((UInt8.ofNat n).toNat:Int)=Int.ofNat n:=by
 simp only[bH,Bool.and_eq_true,decide_eq_true_eq] at h;have h2:IntKind.u8.max=255:=by decide
 rw[h2] at h
 have:n < 256:=by have:=h.2;simp at this;omega
 simp[Nat.mod_eq_of_lt this]
set_option maxHeartbeats 2000000 in
set_option maxRecDepth 100000 in
theorem Dw (L:Lays.n169 P ρ) (X:Builder.Extra P ρ) (T:TypeId) (b g cap:Nat) (p:Value) (cur:Array Value) (l:List UInt8) (w:World) (h0:l≠[]) (hbk:w.heap[b]?=some (.cells #[p,.slice (some ⟨g,0,none⟩) l.length cap] T (0,0)))
  (hg:w.heap[g]?=some (.cells cur (ρ.t 5) (0,0))) (hcap:l.length<=cap) (hlc:l.length<=cur.size) (hmax:l.length<=maxLen) (hby:∀(j:Nat) x,l[j]?=some x->w.cell? ⟨g,j,none⟩=some (.int .u8 x.toNat)) :
  Calls P (ρ.f 169) #[.pointer (some ⟨b,0,none⟩)] w fun e w'=>e=.returned (.string ⟨l.toArray⟩)/\w'=w.drew.freeze ⟨g,0,none⟩ l.length:=by
 have hl0:l.length≠0:=by simpa using h0
 have c1:w.drew.cell? ⟨b,1,none⟩=some (.slice (some ⟨g,0,none⟩) l.length cap):=by
  have:w.drew.heap[b]?=some (.cells #[p,.slice (some ⟨g,0,none⟩) l.length cap] T (0,0)):=hbk
  rw[Lib.cell_of_heap this];rfl
 have hSD:(Builtin.unsafeSliceData_ #[(ρ.t 37)] (ρ.t 127) #[.slice (some ⟨g,0,none⟩) l.length cap]).run P w.drew=.ok (.pointer (some ⟨g,0,none⟩)) w.drew:=
  Lib.run_unsafeSliceData_row _ _ _ _ _ _ (by omega)
 have hUS:(Builtin.unsafeString_ #[(ρ.t 127),(ρ.t 3)] (ρ.t 9) #[.pointer (some ⟨g,0,none⟩),.int .i64 l.length]).run P w.drew=.ok (.string ⟨l.toArray⟩) (w.drew.freeze ⟨g,0,none⟩ l.length):=by
  refine Lib.run_unsafeString_row w.drew (ρ.t 127) (ρ.t 3) (ρ.t 9) (ρ.t 5) L.t127 X.cellsByte g cur.size (by have hg':w.drew.heap[g]?=some (.cells cur (ρ.t 5) (0,0)):=hg;simp[World.shape?,hg']) l h0 (by omega) (by unfold maxLen at hmax;omega) ?_;intro j x hx;rw[add_plain,Nat.zero_add];exact hby j x hx
 have mixed:=L.mixed;have t72:=L.t72;have a72:=L.a72;have z72:=L.z72;have v72:=L.v72;have u72:=run_underlying L.t72;have t70:=L.t70;have a70:=L.a70;have z70:=L.z70;have v70:=L.v70;have u70:=run_underlying L.t70;have t37:=L.t37;have a37:=L.a37;have z37:=L.z37;have v37:=L.v37;have u37:=run_underlying L.t37;have t127:=L.t127;have a127:=L.a127;have z127:=L.z127;have v127:=L.v127;have u127:=run_underlying L.t127;have t3:=L.t3;have a3:=L.a3;have z3:=L.z3;have v3:=L.v3;have u3:=run_underlying L.t3;have t9:=L.t9;have a9:=L.a9;have z9:=L.z9;have v9:=L.v9;have u9:=run_underlying L.t9;have t5:=X.t5;have a5:=X.a5;have z5:=X.z5;have v5:=X.v5;have u5:=run_underlying X.t5
 go_enter L.f169,Body.n169_ntmps ρ
 go_wp2
 go_region_o
 all_goals (go_wp2;go_ret;exact⟨rfl,rfl⟩)
set_option maxHeartbeats 2000000 in
set_option maxRecDepth 100000 in
theorem Ix (L:Lays.n169 P ρ) (X:Builder.Extra P ρ) (T:TypeId) (b:Nat) (p:Value) (w:World) (hbk:w.heap[b]?=some (.cells #[p,.slice none 0 0] T (0,0))) :
  Calls P (ρ.f 169) #[.pointer (some ⟨b,0,none⟩)] w fun e w'=>e=.returned (.string .empty)/\w'=w.drew:=by
 have c1:w.drew.cell? ⟨b,1,none⟩=some (.slice none 0 0):=by
  have:w.drew.heap[b]?=some (.cells #[p,.slice none 0 0] T (0,0)):=hbk
  rw[Lib.cell_of_heap this];rfl
 have hSD:(Builtin.unsafeSliceData_ #[(ρ.t 37)] (ρ.t 127) #[.slice none 0 0]).run P w.drew=.ok (.pointer none) w.drew:=rfl;have hUS:(Builtin.unsafeString_ #[(ρ.t 127),(ρ.t 3)] (ρ.t 9) #[.pointer none,.int .i64 0]).run P w.drew=.ok (.string .empty) w.drew:=
  Lib.run_unsafeString_none (w:=w.drew) (ρ.t 127) (ρ.t 3) (ρ.t 9) none
 have mixed:=L.mixed;have t72:=L.t72;have a72:=L.a72;have z72:=L.z72;have v72:=L.v72;have u72:=run_underlying L.t72;have t70:=L.t70;have a70:=L.a70;have z70:=L.z70;have v70:=L.v70;have u70:=run_underlying L.t70;have t37:=L.t37;have a37:=L.a37;have z37:=L.z37;have v37:=L.v37;have u37:=run_underlying L.t37;have t127:=L.t127;have a127:=L.a127;have z127:=L.z127;have v127:=L.v127;have u127:=run_underlying L.t127;have t3:=L.t3;have a3:=L.a3;have z3:=L.z3;have v3:=L.v3;have u3:=run_underlying L.t3;have t9:=L.t9;have a9:=L.a9;have z9:=L.z9;have v9:=L.v9;have u9:=run_underlying L.t9;have t5:=X.t5;have a5:=X.a5;have z5:=X.z5;have v5:=X.v5;have u5:=run_underlying X.t5
 go_enter L.f169,Body.n169_ntmps ρ
 go_wp2
 go_region_o
 all_goals (go_wp2;go_ret;exact⟨rfl,rfl⟩)
theorem lK {w:World} {g n c:Nat} (h:c≠g):(w.freeze ⟨g,0,none⟩ n).heap[c]?=w.heap[c]?:=by
 unfold World.freeze
 split
 ·rfl
 simp only[Array.getElem?_modify];rw[if_neg (fun e=>h e.symm)]
theorem vF {w:World} {g n:Nat} {cs:Array Value} {t:TypeId} (h:w.heap[g]?=some (.cells cs t (0,0))):∃fr,(w.freeze ⟨g,0,none⟩ n).heap[g]?=some (.cells cs t fr):=by
 unfold World.freeze
 split
 ·exact⟨_,h⟩
 refine⟨(0,0+n),?_⟩;simp only[Array.getElem?_modify,if_pos,h,Option.map_some];simp
theorem JI {w:World} {R:Own} (bs:List Nat):bz w R w.drew R bs:=
 ⟨⟨rfl,rfl,rfl,Nat.le_refl _,fun _ _ h=>⟨rfl,h⟩,fun _ _ _ h=>⟨h,rfl⟩,fun _ _=>rfl⟩,fun _ _ _=>⟨rfl,fun _ h=>h⟩⟩
theorem Hb {w:World} {g n:Nat}:(w.freeze ⟨g,0,none⟩ n).heap.size=w.heap.size:=by
 unfold World.freeze
 split <;> simp
theorem Hc {w:World} {g n:Nat}:(w.freeze ⟨g,0,none⟩ n).os=w.os/\(w.freeze ⟨g,0,none⟩ n).tape=w.tape/\(w.freeze ⟨g,0,none⟩ n).output=w.output:=by
 unfold World.freeze
 split <;> simp
theorem GV {w:World} {R:Own} {g n:Nat} {cs:Array Value} {t:TypeId} (hg:w.heap[g]?=some (.cells cs t (0,0))) (hR:∃off,R g off) (bs:List Nat) (hb:g∉bs):bz w R (w.drew.freeze ⟨g,0,none⟩ n) R bs:=by
 have hg':w.drew.heap[g]?=some (.cells cs t (0,0)):=hg;obtain⟨fr,hfr⟩:=vF (n:=n) hg';obtain⟨e1,e2,e3⟩:=Hc (w:=w.drew) (g:=g) (n:=n);have hoth:∀c,c≠g->(w.drew.freeze ⟨g,0,none⟩ n).heap[c]?=w.heap[c]?:=fun c hc=>lK hc
 refine⟨⟨e1,e2,e3,?_,?_,?_,?_⟩,?_⟩
 ·rw[Hb];exact Nat.le_refl _
 ·intro c _ hno;obtain⟨off,ho⟩:=hR;exact⟨hoth c (fun e=>hno off (e ▸ ho)),hno⟩
 ·intro c off _ hno;refine⟨hno,?_⟩
  by_cases hc:c=g
  ·subst hc;simp only[World.cell?,hg,hfr]
  exact World.cell?_of_block (a:=⟨c,off,none⟩) (hoth c hc)
 ·intro c _
  by_cases hc:c=g
  ·subst hc;simp only[ev,hg,hfr]
  exact iw (hoth c hc)
 intro c hc _;exact⟨hoth c (fun e=>hb (e ▸ hc)),fun _ h=>h⟩
theorem Pj (L:Lays.n169 P ρ) (X:Builder.Extra P ρ) (hB:ρ.t 5=ld) {w:World} {R:Own} {N:Name->Option Nat} {heap:Heap} {next k b:Nat} {p:ac} {d:ap} {es:List ap} {l:List UInt8} {bsH bsF:List Nat}
  (hb:N (.out k)=some b) (hheap:an w R (outs N) heap bsH) (hnd:([]++(bsH++bsF)).Nodup) (hnx:∀o b,N (.out o)=some b->o < next)
  (hget:eu (.out k) heap=some (.cells [p,.own (d::es)])) (hp:xN p=true) (hl:nY (d::es)=some l) :
  Calls P (ρ.f 169) #[.pointer (some ⟨b,0,none⟩)] w fun e w'=>∃v cv heap' next' R' N' bsV bsH',e=.returned cv/\XQ ⟨.dat (.flat (.string ⟨⟨l⟩⟩)),pN (.out k) (.cells [p,.dat (.slice (d::es))]) heap,next⟩ v heap' next'/\al w' R' (outs N') v cv bsV/\an w' R' (outs N') heap' bsH' ∧
   (bsV++(bsH'++bsF)).Nodup/\(∀o b,N' (.out o)=some b->o < next')/\bz w R w' R' bsF/\(∀o b,N (.out o)=some b->N' (.out o)=some b):=by
 obtain⟨pre,b',b1,post,rfl,hb',hobj,hset⟩:=an.split hheap hget
 have:b'=b:=by simp only[outs] at hb';rw[hb] at hb';simpa using hb'.symm
 subst this;obtain⟨v0,v1,c0,c1,hblk,rfl,h0,h1,hR⟩:=qD hobj hp rfl;replace h1:=cA h1;obtain⟨hll,hle⟩:=xu hl
 rcases kQ h1 with⟨_,he,_⟩|⟨g,cap,s,cur,t,rfl,rfl,hg,hs0,hs,hcap,_,hin,hrep,hsp,hty⟩
 ·simp at he
 have hd:∃n:Nat,d=.flat (.int .u8 (.ofNat n)):=by
  cases l with
  | nil=>simp at hll
  | cons x l=>obtain⟨n,hn,_⟩:=hle 0 x rfl;simp at hn;exact⟨n,hn⟩
 obtain⟨n0,rfl⟩:=hd;have hs1:s=1:=by have:=hs _ (List.mem_cons_self ..);simpa [ap.cells] using this.symm
 subst hs1;have htb:t=ld:=(hty rfl).1;have hfr:=(hty rfl).2;subst htb;obtain⟨g',off',cap',cells,hv,_,hcs,hcell⟩:=mD hrep (by simp) hs;simp at hv;obtain⟨⟨rfl,rfl⟩,rfl⟩:=hv;have hfl:(ap.flat (.int .u8 (.ofNat n0))::es).flatMap ap.cells=ap.flat (.int .u8 (.ofNat n0))::es:=by
  have key:∀es':List ap,(∀e∈es',∃n:Nat,e=.flat (.int .u8 (.ofNat n)))->es'.flatMap ap.cells=es':=by
   intro es'
   induction es' with
   | nil=>intro _;rfl
   | cons e es' ih=>
    intro hall;obtain⟨n,rfl⟩:=hall e (by simp);simp only[List.flatMap_cons,ap.cells,List.singleton_append];rw[ih (fun e he=>hall e (by simp[he]))]
  refine key _ (fun e he=>?_);obtain⟨j,hj⟩:=List.getElem?_of_mem he;have hjl:j < l.length:=by
   rw[hll]
   rcases Nat.lt_or_ge j (ap.flat (.int .u8 (.ofNat n0))::es).length with h'|h'
   ·exact h'
   rw[List.getElem?_eq_none h'] at hj;simp at hj
  obtain⟨n,hn,_⟩:=hle j l[j] (by simp);rw[hj] at hn;simp at hn;exact⟨n,hn⟩
 rw[hfl] at hcs;have hby:∀(j:Nat) x,l[j]?=some x->w.cell? ⟨g,j,none⟩=some (.int .u8 x.toNat):=by
  intro j x hx;obtain⟨n,hn,rfl⟩:=hle j x hx;obtain⟨v,hv,hrv⟩:=ve hcs hn;have hc:=(hcell j v hv).1
  cases hrv with
  | flat hfv=>
   rw[Nat.zero_add] at hc;rw[hc,U7 hfv]
 have hlen:(ap.flat (.int .u8 (.ofNat n0))::es).length=l.length:=hll.symm;have hlim:=(dO.oH hrep);simp only[xU] at hlim;rw[hlen] at hblk hcap hlim hsp;have hnd2:=hnd;simp only[List.nil_append] at hnd2;have hperm:((pre++(b'::(c0++[g]))++post)++bsF).Perm (g::(b'::(c0++(pre++(post++bsF))))):=by
  rw[List.perm_iff_count];intro q;simp only[List.count_append,List.count_cons,List.count_nil];omega
 have hnd3:=hperm.nodup_iff.1 hnd2;have hgn:∀c∈b'::(c0++(pre++(post++bsF))),c≠g:=fun c hc e=>(List.nodup_cons.1 hnd3).1 (e ▸ hc)
 have hlc:l.length<=cur.size:=by have:l.length*1<=cap*1:=Nat.mul_le_mul_right _ hcap;omega
 refine (Dw L X rk b' g cap v0 cur l w (by intro e;rw[e] at hll;simp at hll) hblk (by rw[hB];exact hg) hcap hlc (by unfold maxLen;have:=hlim.1;unfold lim at this;omega) hby).mono ?_;rintro e w' ⟨rfl,rfl⟩;have hRg:∃off,R g off:=⟨cur.size,hfr _ (Nat.le_refl _)⟩;have hk:∀bs:List Nat,g∉bs->bz w R (w.drew.freeze ⟨g,0,none⟩ l.length) R bs:=fun bs hbs=>GV hg hRg bs hbs
 have hblk':(w.drew.freeze ⟨g,0,none⟩ l.length).heap[b']?=some (.cells #[v0,.slice (some ⟨g,0,none⟩) l.length cap] rk (0,0)):=by
  rw[lK (hgn b' (by simp))];exact hblk
 have hobj':aT (w.drew.freeze ⟨g,0,none⟩ l.length) R (outs N) (.cells [p,.dat (.slice (.flat (.int .u8 (.ofNat n0))::es))]) b' (c0++[]):=by
  refine⟨_,rk,0,hblk',?_,fun j hj=>hR j (by simpa using hj),fun _=>⟨rfl,rfl⟩⟩;have q1:=h0.keep (hk c0 (fun hc=>hgn g (by simp[hc]) rfl));have q2:al (w.drew.freeze ⟨g,0,none⟩ l.length) R (outs N) (.dat (.slice (.flat (.int .u8 (.ofNat n0))::es))) (.slice (some ⟨g,0,none⟩) l.length cap) []:=by
   have:=hrep.step (hk [] (by simp)).step
   rw[hlen] at this;exact bZ (d:=.slice _) this
  simpa using aG q1 (aG q2 aX)
 have hH:=hset _ R _ (c0++[]) (hk (pre++post) (fun hc=>hgn g (by simp at hc ⊢;rcases hc with h|h <;> simp[h]) rfl)) hobj';refine⟨_,.string ⟨l.toArray⟩,_,next,R,N,[],_,rfl,⟨rfl,rfl,rfl⟩,?_,by rw[mX];exact hH,?_,hnx,hk bsF (fun hc=>hgn g (by simp[hc]) rfl),fun _ _ h=>h⟩
 ·refine bJ ?_;simp only[bH,decide_eq_true_eq];have h2:=hlim.1;unfold lim at h2
  have:(ByteArray.mk ⟨l⟩).size=l.length:=rfl
  rw[this];omega
 simp only[List.nil_append,List.append_nil];have hp2:(b'::(c0++(pre++(post++bsF)))).Perm ((pre++(b'::c0)++post)++bsF):=by
  rw[List.perm_iff_count];intro q;simp only[List.count_append,List.count_cons];omega
 exact hp2.nodup_iff.1 (List.nodup_cons.1 hnd3).2
theorem afG (L:Lays.n169 P ρ) (X:Builder.Extra P ρ) (hB:ρ.t 5=ld) {args:List ac} {heap:Heap} {next:Nat} {r:ey} (h:adF args heap next=some r):aB P G (ρ.f 169) args heap next (XQ r):=by
 unfold adF at h
 split at h
 rotate_left
 ·simp at h
 rename_i k;rw[lf] at h;intro w R N cargs bsA bsH bsF hargs hheap hnd hnx hglob hF;obtain⟨b,hb,rfl,rfl⟩:=D6 hargs
 split at h
 ·rename_i p d es hget;revert h;intro h
  split at h
  rotate_left
  ·simp at h
  rename_i l hp hl;simp only[Option.some.injEq] at h;subst h;exact Pj L X hB hb hheap hnd hnx hget hp hl
 ·rename_i p hget
  split at h
  rotate_left
  ·simp at h
  rename_i hp;simp only[Option.some.injEq] at h;subst h;obtain⟨pre,b',b1,post,rfl,hb',hobj,hset⟩:=an.split hheap hget
  have:b'=b:=by simp only[outs] at hb';rw[hb] at hb';simpa using hb'.symm
  subst this;obtain⟨v0,v1,c0,c1,hblk,rfl,h0,h1,hR⟩:=qD hobj hp rfl;obtain⟨_,rfl,_⟩:=aI h1;refine (Ix L X rk b' v0 w hblk).mono ?_;rintro e w' ⟨rfl,rfl⟩;have hk:∀bs:List Nat,bz w R w.drew R bs:=fun bs=>JI bs
  exact⟨_,_,_,next,R,N,[],_,rfl,⟨rfl,rfl,rfl⟩,bJ rfl,hheap.keep (hk _),by simpa using hnd,hnx,hk bsF,fun _ _ h=>h⟩
 simp at h
theorem Av {w w':World} {R:Own} (h:Below w.heap.size w w') (bs:List Nat):bz w R w' (fun b off=>b < w.heap.size/\R b off) bs:=
 ⟨⟨h.os,h.tape,h.output,h.size,fun b hb hno=>⟨h.block b hb,fun off hr=>hno off hr.2⟩,fun b off hb hno=>⟨fun hr=>hno hr.2,World.cell?_of_block (a:=⟨b,off,none⟩) (h.block b hb)⟩,fun b hb=>iw (h.block b hb)⟩,
  fun b _ hb=>⟨h.block b hb,fun off hr=>⟨hb,hr⟩⟩⟩
end
end Go.Tp
namespace Go.Proofs.YtiihadmgkoamoaaGreatDoor
open Go.Tp Go.Shelf
def lI:Ren:=⟨fun|240=>104|276=>132|n=>n,fun|9=>9|0=>0|4=>4|20=>20|70=>99|72=>102|37=>100|164=>158|n=>n,fun|n=>n⟩
theorem L9:Lays.n240 Tryz.prog lI:=
 {mixed:=by kernel_rfl
  f240:=Tryz.func104.trans (congrArg some (by kernel_rfl))
  f276:=Tryz.func132.trans (congrArg some (by kernel_rfl))
  t0:=Tryz.underlying0,a0:=Tryz.isAgg0,z0:=Tryz.sizeOf0,v0:=Tryz.zeroValue0
  t4:=Tryz.underlying4,a4:=Tryz.isAgg4,z4:=Tryz.sizeOf4,v4:=Tryz.zeroValue4
  t9:=Tryz.underlying9,a9:=Tryz.isAgg9,z9:=Tryz.sizeOf9,v9:=Tryz.zeroValue9
  t20:=Tryz.underlying20,a20:=Tryz.isAgg20,z20:=Tryz.sizeOf20,v20:=Tryz.zeroValue20
  t70:=Tryz.underlying99,a70:=Tryz.isAgg99,z70:=Tryz.sizeOf99,v70:=Tryz.zeroValue99
  t72:=Tryz.underlying102,a72:=Tryz.isAgg102,z72:=Tryz.sizeOf102,v72:=Tryz.zeroValue102
  t164:=Tryz.underlying158,a164:=Tryz.isAgg158,z164:=Tryz.sizeOf158,v164:=Tryz.zeroValue158 }
theorem Mm:Builder.X72 Tryz.prog lI:={sizeBuilder:=by kernel_rfl,liesBuilder:=by kernel_rfl }
def bD (b:UInt8):ap:=.flat (.int .u8 (Int.ofNat b.toNat))
def UR (k:Nat) (es:List ap):Heap:=[(.out k,.cells [.ptr (.out k) 0,.own es])]
def hB0 (k:Nat):Heap:=[(.out k,.cells [.dat (.flat (.pointer none)),.dat nl])]
def pB (k:Nat):ac:=.ptr (.out k) 0
theorem Zb:KC 104 [pB 0] (hB0 0) 1 (XQ ⟨.tup [],[(.out 0,.cells [.ptr (.out 0) 0,.dat nl])],1⟩):=Uj (ρ:=lI) L9 Mm rfl rfl
theorem Za {es:List ap}:KC 104 [pB 0] (UR 0 es) 1 (XQ ⟨.tup [],UR 0 es,1⟩):=Uj (ρ:=lI) L9 Mm rfl rfl
def ee:ac:=.dat (.flat .nilIface)
theorem ws1 {es es2:List ap} {s:List UInt8} (h:dx (env ay.aN) 100 9 [.own es,.dat (sb s)]=some ⟨.own es2,.keep⟩) :
  KC 74 [pB 0,.dat (sb s)] (UR 0 es) 1 (XQ ⟨.tup [iv (Int.ofNat s.length),ee],UR 0 es2,1⟩):=by
 have hc:=Za (es:=es);refine aZ [] [14] (x:=gU.of Tryz.f74 Ll Jw) (by kernel_rfl) ?_;refine oh hc ?_;refine oo h ?_;exact fi
theorem ws0 {es2:List ap} {s:List UInt8} (h:dx (env ay.aN) 100 9 [.own [],.dat (sb s)]=some ⟨.own es2,.keep⟩) :
  KC 74 [pB 0,.dat (sb s)] (hB0 0) 1 (XQ ⟨.tup [iv (Int.ofNat s.length),ee],UR 0 es2,1⟩):=by
 have hc:=Zb;refine aZ [] [14] (x:=gU.of Tryz.f74 Ll Jw) (by kernel_rfl) ?_;refine oh hc ?_;refine oo h ?_;exact fi
theorem wb1 {es es2:List ap} {b:Int} (h:cJ (env ay.aN) false 100 [.own es,.dat (.slice [.flat (.int .u8 b)])] none=some ⟨.own es2,.keep⟩) :
  KC 77 [pB 0,.dat (.flat (.int .u8 b))] (UR 0 es) 1 (XQ ⟨ee,UR 0 es2,1⟩):=by
 have hc:=Za (es:=es);refine aZ [] [14] (x:=gU.of Tryz.f77 Lk Jv) (by kernel_rfl) ?_;refine oh hc ?_;refine oo h ?_;exact fi
theorem wb0 {b:Int} :
  KC 77 [pB 0,.dat (.flat (.int .u8 b))] (hB0 0) 1 (XQ ⟨ee,UR 0 [.flat (.int .u8 b)],1⟩):=by
 have hc:=Zb;refine aZ [] [] (x:=gU.of Tryz.f77 Lk Jv) (by kernel_rfl) ?_;refine oh hc ?_;exact fi
theorem KA (a b:List UInt8):bX (a++b)=bX a++bX b:=by
 induction a with
 | nil=>rfl
 | cons x r ih=>show _::bX (r++b)=_::(bX r++bX b);rw[ih]
theorem eP (a:List UInt8):(bX a).length=a.length:=by
 induction a with
 | nil=>rfl
 | cons x r ih=>show (bX r).length+1=r.length+1;rw[ih]
theorem ur:∀a:List UInt8,sizedB 1 (bX a)=true
 | []=>rfl
 | x::r=>by
  have ih:=ur r;show (match Nat.beq 1 1 with|true=>sizedB 1 (bX r)|false=>false)=true;exact ih
noncomputable def tiY:TI:=match Go.Tp.elemOf (env ay.aN) 100 with|some t=>t|none=>default
theorem O3:tiY.size=1:=by kernel_rfl
theorem MB (es:List ap):fQ (env ay.aN) 100 es=true:=by
 have h:(match (env ay.aN).desc 100 with|some (.slice e)=>Nat.beq e ld|_=>false)=true:=by kernel_rfl
 unfold fQ
 cases ew es with
 | true=>exact h
 | false=>rfl
theorem X8 {pr:ay} {i:TI} {l s:List UInt8} (hp:pr=ay.aN) (hs:i.size=1) (hb:Nat.blt 0 i.bytes=true) (h1:((bX l).length+(bX s).length)*i.bytes<=140737488355328) (h2:(bX l).length+(bX s).length<=lim) :
  eK pr i (bX l) (.dat (.slice (bX s)))=some (bX (l++s)):=by
 simp only[eK,hp,hs,ay.aN,Nat.zero_add,ur,hb,fS h1,fS h2,KA]
theorem Di {l s:List UInt8} (h:l.length+s.length < 1000000000):eK (env ay.aN).pr tiY (bX l) (.dat (.slice (bX s)))=some (bX (l++s)):=by
 have hy:tiY.bytes<=1000:=fe (by kernel_rfl);refine X8 rfl O3 (by kernel_rfl) ?_ ?_
 ·rw[eP,eP]
  calc (l.length+s.length)*tiY.bytes<=1000000000*1000:=Nat.mul_le_mul (by omega) hy
   _<=140737488355328:=by decide
 rw[eP,eP];simp only[lim];omega
theorem MC {l s:List UInt8} (h:l.length+s.length < 1000000000):dx (env ay.aN) 100 9 [.own (bX l),.dat (sb s)]=some ⟨.own (bX (l++s)),.keep⟩:=by
 have h1:∀es:List ap,dx (env ay.aN) 100 9 [.own es,.dat (sb s)]=(match eK (env ay.aN).pr tiY es (.dat (.slice (bX s))) with|some r=>if fQ (env ay.aN) 100 r=true then some ⟨.own r,.keep⟩ else none|none=>none):=fun es=>by kernel_rfl
 rw[h1,Di h];dsimp only;rw[if_pos (MB _)]
theorem UB {l:List UInt8} {b:UInt8} (h:l.length < 100000000):cJ (env ay.aN) false 100 [.own (bX l),.dat (.slice [bD b])] none=some ⟨.own (bX (l++[b])),.keep⟩:=by
 have h1:∀es:List ap,cJ (env ay.aN) false 100 [.own es,.dat (.slice [bD b])] none=(match eK (env ay.aN).pr tiY es (.dat (.slice (bX [b]))) with|some r=>if fQ (env ay.aN) 100 r=true then some ⟨.own r,.keep⟩ else none|none=>none):=fun es=>by kernel_rfl
 rw[h1,Di (by simp;omega)];dsimp only;rw[if_pos (MB _)]
def ln (k:Nat) (o:Option (List UInt8)):Heap:=match o with|none=>hB0 k|some l=>UR k (bX l)
def eO (o:Option (List UInt8)) (s:List UInt8):List UInt8:=match o with|none=>s|some l=>l++s
theorem HX {o:Option (List UInt8)} {s:List UInt8} (h:(eO o s).length < 1000000000):KC 74 [pB 0,.dat (sb s)] (ln 0 o) 1 (XQ ⟨.tup [iv (Int.ofNat s.length),ee],ln 0 (some (eO o s)),1⟩):=by
 cases o with
 | none=>exact ws0 (MC (l:=[]) (by simpa [eO] using h))
 | some l=>exact ws1 (MC (by simpa [eO] using h))
theorem acP {o:Option (List UInt8)} {b:UInt8} (h:(eO o [b]).length < 100000000):KC 77 [pB 0,.dat (bD b)] (ln 0 o) 1 (XQ ⟨ee,ln 0 (some (eO o [b])),1⟩):=by
 cases o with
 | none=>exact wb0
 | some l=>exact wb1 (UB (by simp[eO] at h;omega))
theorem ri:∀l:List UInt8,nY (bX l)=some l
 | []=>rfl
 | x::r=>by
  show (match nY (bX r) with|some l=>some (UInt8.ofNat x.toNat::l)|none=>none)=some (x::r);rw[ri r];simp
theorem Uk {x:UInt8} {r:List UInt8}:KC 78 [pB 0] (ln 0 (some (x::r))) 1 (XQ ⟨.dat (sb (x::r)),[(.out 0,.cells [.ptr (.out 0) 0,.dat (.slice (bX (x::r)))])],1⟩):=by
 refine afG (ρ:=Tryz.pk) Tryz.W3 Tryz.uL rfl ?_;have h:=ri (x::r);show (match xN (.ptr (.out 0) 0),nY (bX (x::r)) with|true,some l=>some (⟨.dat (.flat (.string ⟨⟨l⟩⟩)),pN (.out 0) (.cells [.ptr (.out 0) 0,.dat (.slice (bX (x::r)))]) (ln 0 (some (x::r))),1⟩:ey)|_,_=>none)=_;rw[h];rfl
abbrev WB (g:FuncId) (args:List ac) (o:Option (List UInt8)) (v:ac) (c:List UInt8):Prop:=KC g (pB 0::args) (ln 0 o) 1 (XQ ⟨v,ln 0 (some c),1⟩)
theorem Ua {a b:List UInt8} (h:a.length+b.length < 9000000000000000000):ay.aN.cat ⟨⟨a⟩⟩ ⟨⟨b⟩⟩=some ⟨⟨a++b⟩⟩:=by
 show (match Nat.ble (a.length+b.length) 9223372036854775807 with|true=>some (⟨⟨a++b⟩⟩:ByteArray)|false=>none)=_;rw[show Nat.ble (a.length+b.length) 9223372036854775807=true by rw[Nat.ble_eq];omega]
theorem nV {a b:List UInt8} (h:a.length+b.length < 9000000000000000000):oG (env ay.aN) .add 9 [.dat (sb a),.dat (sb b)]=some ⟨.dat (sb (a++b)),.keep⟩:=by
 have h1:oG (env ay.aN) .add 9 [.dat (sb a),.dat (sb b)]=YS (match ay.aN.cat ⟨⟨a⟩⟩ ⟨⟨b⟩⟩ with|some z=>some (.string z)|none=>none):=by kernel_rfl
 rw[h1,Ua h];rfl
noncomputable def hWL:Hints:=⟨ao,zZ,aq,rowsOf aq 106⟩
def Po (l:List ap) (c:List UInt8) (i:Int):ab:=⟨[(14,iv i),(13,iv (Int.ofNat l.length)),(12,.dat (sl l)),(0,pB 0)],[],ln 0 (some c),1⟩
def Pn (l:List ap) (c:List UInt8) (i:Int):ab:=⟨[(15,bv false),(14,iv i),(13,iv (Int.ofNat l.length)),(12,.dat (sl l)),(0,pB 0)],[],ln 0 (some c),1⟩
theorem OS {l:List Ty} {t:Ty} {i:Nat} {c c2:List UInt8} (hi:i < (au l).length) (ht:l[i]?=some t) (hb:WB 77 [.dat (bD 32)] (some c) ee (c++[32])) (hw:WB 76 [.dat t.enc] (some (c++[32])) (.tup []) c2) {T:Exit->aa->Prop}
  (e:T .normal ((Po (au l) c2 (aH .i64 (Int.ofNat i+1))).aw Tryz.f106.ntmps)) :
  KD (roundOf Tryz.f106 0) T ((Po (au l) c (Int.ofNat i)).aw Tryz.f106.ntmps):=by
 have h1:=bA hi;have h2:=jZ ht;obtain⟨x,r,hx⟩:∃x r,au l=x::r:=by cases l with|nil=>simp at ht|cons x r=>exact⟨_,_,rfl⟩
 rw[hx] at h1 h2 e ⊢;clear ht hi hx;obtain⟨k,nm,ix,a⟩:=t;refine aC [15] [16] (H:=hWL) (live:=tN) (by kernel_rfl) ?_;refine ob h1 ?_;refine oo h2 ?_
 rcases a with _|⟨v0,v1⟩ <;>
 ·refine oh hb ?_;refine oh hw ?_;exact oe e
theorem U0 {l:List ap} {c:List UInt8} {T:Exit->aa->Prop} (e:T (.exit 0) ((Pn l c (Int.ofNat l.length)).aw Tryz.f106.ntmps)) :
  KD (roundOf Tryz.f106 0) T ((Po l c (Int.ofNat l.length)).aw Tryz.f106.ntmps):=by
 have h1:=bC (i:=l.length) (L:=l.length) (by omega);refine aC [15] [] (H:=hWL) (live:=tN) (by kernel_rfl) ?_;refine ob h1 ?_;exact oe e
theorem Zl {l:List ap} {o:Option (List UInt8)} {head c0 c1 c2:List UInt8} (hk:oG (env ay.aN) .add 9 [.dat (sb [40]),.dat (sb head)]=some ⟨.dat (sb ([40]++head)),.keep⟩)
  (h0:WB 74 [.dat (sb ([40]++head))] o (.tup [iv (Int.ofNat ([40]++head).length),ee]) c0)
  (hl:KD (.loop (roundOf Tryz.f106 0)) (fun e s=>e=.exit 0/\s=(Pn l c1 (Int.ofNat l.length)).aw Tryz.f106.ntmps) ((Po l c0 (Int.ofNat 0)).aw Tryz.f106.ntmps))
  (hb:WB 77 [.dat (bD 41)] (some c1) ee c2):WB 106 [.dat (sb head),.dat (sl l)] o (.tup []) c2:=by
 cases o with
 | none=>
  refine aZ [] [10] (x:=gU.of Tryz.f106 zZ tN) (by kernel_rfl) ?_;refine oo hk ?_;refine oh h0 ?_
  rcases l with _|⟨v0,v1⟩ <;>
  ·refine lo hl ?_;rintro ex s ⟨rfl,rfl⟩;refine⟨_,rfl,?_⟩;refine oh hb ?_;exact fi
 | some b=>
  refine aZ [] [10] (x:=gU.of Tryz.f106 zZ tN) (by kernel_rfl) ?_;refine oo hk ?_;refine oh h0 ?_
  rcases l with _|⟨v0,v1⟩ <;>
  ·refine lo hl ?_;rintro ex s ⟨rfl,rfl⟩;refine⟨_,rfl,?_⟩;refine oh hb ?_;exact fi
def UE:List UInt8:=[65,110,121]
def Ag:List UInt8:=[78,101,118,101,114]
def af4:List UInt8:=[116,117,112,108,101]
def af3:List UInt8:=[117,110,105,111,110]
def ago:List UInt8:=[101,120,105,115,116,115]
theorem Zk {o:Option (List UInt8)} {c nm:List UInt8} {k ix:Int} {l:List ap} (h1:aP k 0=true) (h:WB 74 [.dat (sb UE)] o (.tup [iv (Int.ofNat UE.length),ee]) c) :
  WB 76 [.dat (.agg [i64 k,sb nm,i64 ix,sl l])] o (.tup []) c:=by
 cases o with
 | none=>
  refine aZ [21] [] (x:=gU.of Tryz.f76 iT gu) (by kernel_rfl) ?_
  rcases l with _|⟨v0,v1⟩ <;>
  ·refine ob h1 ?_;refine oh h ?_;exact fi
 | some b=>
  refine aZ [21] [] (x:=gU.of Tryz.f76 iT gu) (by kernel_rfl) ?_
  rcases l with _|⟨v0,v1⟩ <;>
  ·refine ob h1 ?_;refine oh h ?_;exact fi
theorem OQ {o:Option (List UInt8)} {c nm:List UInt8} {k ix:Int} {l:List ap} (h0:aP k 0=false) (h1:aP k 1=true) (h:WB 74 [.dat (sb Ag)] o (.tup [iv (Int.ofNat Ag.length),ee]) c) :
  WB 76 [.dat (.agg [i64 k,sb nm,i64 ix,sl l])] o (.tup []) c:=by
 cases o with
 | none=>
  refine aZ [21,25] [] (x:=gU.of Tryz.f76 iT gu) (by kernel_rfl) ?_
  rcases l with _|⟨v0,v1⟩ <;>
  ·refine ob h0 ?_;refine ob h1 ?_;refine oh h ?_;exact fi
 | some b=>
  refine aZ [21,25] [] (x:=gU.of Tryz.f76 iT gu) (by kernel_rfl) ?_
  rcases l with _|⟨v0,v1⟩ <;>
  ·refine ob h0 ?_;refine ob h1 ?_;refine oh h ?_;exact fi
theorem Zj {o:Option (List UInt8)} {c nm d:List UInt8} {k ix:Int} {l:List ap} (h0:aP k 0=false) (h1:aP k 1=false) (h5:aP k 5=true) (hi:ag 75 [iv ix] (.dat (sb d))) (hk:oG (env ay.aN) .add 9 [.dat (sb [36]),.dat (sb d)]=some ⟨.dat (sb ([36]++d)),.keep⟩)
  (h:WB 74 [.dat (sb ([36]++d))] o (.tup [iv (Int.ofNat ([36]++d).length),ee]) c) :
  WB 76 [.dat (.agg [i64 k,sb nm,i64 ix,sl l])] o (.tup []) c:=by
 cases o with
 | none=>
  refine aZ [21,25,29] [34] (x:=gU.of Tryz.f76 iT gu) (by kernel_rfl) ?_
  rcases l with _|⟨v0,v1⟩ <;>
  ·refine ob h0 ?_;refine ob h1 ?_;refine ob h5 ?_;refine on hi ?_;refine oo hk ?_;refine oh h ?_;exact fi
 | some b=>
  refine aZ [21,25,29] [34] (x:=gU.of Tryz.f76 iT gu) (by kernel_rfl) ?_
  rcases l with _|⟨v0,v1⟩ <;>
  ·refine ob h0 ?_;refine ob h1 ?_;refine ob h5 ?_;refine on hi ?_;refine oo hk ?_;refine oh h ?_;exact fi
def S4 (c3 c4:Bool):List UInt8:=match c3 with|true=>af4|false=>match c4 with|true=>af3|false=>ago
theorem UZ {o:Option (List UInt8)} {c nm:List UInt8} {k ix:Int} {l:List ap} {c3 c4:Bool} (h0:aP k 0=false) (h1:aP k 1=false) (h5:aP k 5=false) (h3:aP k 3=c3) (h4:aP k 4=c4) (h6:c3=false->c4=false->aP k 6=true)
  (h:WB 106 [.dat (sb (S4 c3 c4)),.dat (sl l)] o (.tup []) c) :
  WB 76 [.dat (.agg [i64 k,sb nm,i64 ix,sl l])] o (.tup []) c:=by
 cases c3
 ·cases c4
  ·have h7:=h6 rfl rfl;clear h6
   cases o with
   | none=>
    refine aZ [21,25,29,37,43,49] [] (x:=gU.of Tryz.f76 iT gu) (by kernel_rfl) ?_
    rcases l with _|⟨v0,v1⟩ <;>
    ·refine ob h0 ?_;refine ob h1 ?_;refine ob h5 ?_;refine ob h3 ?_;refine ob h4 ?_;refine ob h7 ?_;refine oh h ?_;exact fi
   | some b=>
    refine aZ [21,25,29,37,43,49] [] (x:=gU.of Tryz.f76 iT gu) (by kernel_rfl) ?_
    rcases l with _|⟨v0,v1⟩ <;>
    ·refine ob h0 ?_;refine ob h1 ?_;refine ob h5 ?_;refine ob h3 ?_;refine ob h4 ?_;refine ob h7 ?_;refine oh h ?_;exact fi
  clear h6
  cases o with
  | none=>
   refine aZ [21,25,29,37,43] [] (x:=gU.of Tryz.f76 iT gu) (by kernel_rfl) ?_
   rcases l with _|⟨v0,v1⟩ <;>
   ·refine ob h0 ?_;refine ob h1 ?_;refine ob h5 ?_;refine ob h3 ?_;refine ob h4 ?_;refine oh h ?_;exact fi
  | some b=>
   refine aZ [21,25,29,37,43] [] (x:=gU.of Tryz.f76 iT gu) (by kernel_rfl) ?_
   rcases l with _|⟨v0,v1⟩ <;>
   ·refine ob h0 ?_;refine ob h1 ?_;refine ob h5 ?_;refine ob h3 ?_;refine ob h4 ?_;refine oh h ?_;exact fi
 clear h6 h4
 cases o with
 | none=>
  refine aZ [21,25,29,37] [] (x:=gU.of Tryz.f76 iT gu) (by kernel_rfl) ?_
  rcases l with _|⟨v0,v1⟩ <;>
  ·refine ob h0 ?_;refine ob h1 ?_;refine ob h5 ?_;refine ob h3 ?_;refine oh h ?_;exact fi
 | some b=>
  refine aZ [21,25,29,37] [] (x:=gU.of Tryz.f76 iT gu) (by kernel_rfl) ?_
  rcases l with _|⟨v0,v1⟩ <;>
  ·refine ob h0 ?_;refine ob h1 ?_;refine ob h5 ?_;refine ob h3 ?_;refine oh h ?_;exact fi
theorem UY {o:Option (List UInt8)} {c nm:List UInt8} {k ix:Int} (h0:aP k 0=false) (h1:aP k 1=false) (h5:aP k 5=false) (h3:aP k 3=false) (h4:aP k 4=false) (h6:aP k 6=false)
  (h:WB 74 [.dat (sb nm)] o (.tup [iv (Int.ofNat nm.length),ee]) c) :
  WB 76 [.dat (.agg [i64 k,sb nm,i64 ix,nl])] o (.tup []) c:=by
 cases o with
 | none=>
  refine aZ [21,25,29,37,43,49] [] (x:=gU.of Tryz.f76 iT gu) (by kernel_rfl) ?_;refine ob h0 ?_;refine ob h1 ?_;refine ob h5 ?_;refine ob h3 ?_;refine ob h4 ?_;refine ob h6 ?_;refine oh h ?_;exact fi
 | some b=>
  refine aZ [21,25,29,37,43,49] [] (x:=gU.of Tryz.f76 iT gu) (by kernel_rfl) ?_;refine ob h0 ?_;refine ob h1 ?_;refine ob h5 ?_;refine ob h3 ?_;refine ob h4 ?_;refine ob h6 ?_;refine oh h ?_;exact fi
theorem OR {o:Option (List UInt8)} {c nm:List UInt8} {k ix:Int} {x:ap} {l:List ap} (h0:aP k 0=false) (h1:aP k 1=false) (h5:aP k 5=false) (h3:aP k 3=false) (h4:aP k 4=false) (h6:aP k 6=false)
  (h:WB 106 [.dat (sb nm),.dat (.slice (x::l))] o (.tup []) c) :
  WB 76 [.dat (.agg [i64 k,sb nm,i64 ix,.slice (x::l)])] o (.tup []) c:=by
 have h7:aP (Int.ofNat (x::l).length) 0=false:=by
  rw[show (0:Int)=Int.ofNat 0 from rfl,sf];simp
 cases o with
 | none=>
  refine aZ [21,25,29,37,43,49] [] (x:=gU.of Tryz.f76 iT gu) (by kernel_rfl) ?_;refine ob h0 ?_;refine ob h1 ?_;refine ob h5 ?_;refine ob h3 ?_;refine ob h4 ?_;refine ob h6 ?_;refine oh h ?_;exact fi
 | some b=>
  refine aZ [21,25,29,37,43,49] [] (x:=gU.of Tryz.f76 iT gu) (by kernel_rfl) ?_;refine ob h0 ?_;refine ob h1 ?_;refine ob h5 ?_;refine ob h3 ?_;refine ob h4 ?_;refine ob h6 ?_;refine oh h ?_;exact fi
mutual
def Ty.BH (dg:Int->List UInt8):Ty->List UInt8
 | .mk k nm ix l=>match aP k 0 with
  | true=>UE
  | false=>match aP k 1 with
   | true=>Ag
   | false=>match aP k 5 with
    | true=>[36]++dg ix
    | false=>match aP k 3||(aP k 4||aP k 6) with
     | true=>([40]++S4 (aP k 3) (aP k 4))++iR dg l++[41]
     | false=>match SU (au l) with
      | false=>nm
      | true=>([40]++nm)++iR dg l++[41]
def iR (dg:Int->List UInt8):List Ty->List UInt8
 | []=>[]
 | t::r=>([32]++t.BH dg)++iR dg r
end
mutual
def Ty.vix (p:Int->Prop):Ty->Prop
 | .mk k _ ix l=>(aP k 5=true->p ix)/\MH p l
def MH (p:Int->Prop):List Ty->Prop
 | []=>True
 | t::r=>t.vix p/\MH p r
end
theorem yI (dg:Int->List UInt8) (b:List Ty):∀a:List Ty,iR dg (a++b)=iR dg a++iR dg b
 | []=>by simp[iR]
 | x::r=>by simp only[List.cons_append,iR,yI dg b r,List.append_assoc]
theorem B3 {dg:Int->List UInt8} {l:List Ty} {i:Nat} {t:Ty} (h:l[i]?=some t):iR dg (l.take (i+1))=iR dg (l.take i)++([32]++t.BH dg):=by
 rw[dC h,yI];simp[iR]
theorem U8 (dg:Int->List UInt8) (l:List Ty) (i:Nat):(iR dg (l.take i)).length<=(iR dg l).length:=by
 have h:iR dg l=iR dg (l.take i)++iR dg (l.drop i):=by rw[←yI,List.take_append_drop]
 rw[h,List.length_append];omega
theorem HN (o:Option (List UInt8)) (a b:List UInt8):eO o (a++b)=eO o a++b:=by
 cases o with
 | none=>rfl
 | some l=>simp[eO]
theorem HM (o:Option (List UInt8)) (a:List UInt8):a.length<=(eO o a).length:=by
 cases o with
 | none=>exact Nat.le_refl _
 | some l=>simp[eO]
theorem Yo {dg:Int->List UInt8} {l:List Ty} {o:Option (List UInt8)} {head:List UInt8} (hb:l.length < 1000000000)
  (ih:∀t∈l,∀o:Option (List UInt8),(eO o (t.BH dg)).length < 100000000->WB 76 [.dat t.enc] o (.tup []) (eO o (t.BH dg)))
  (hn:(eO o (([40]++head)++iR dg l++[41])).length < 100000000):WB 106 [.dat (sb head),.dat (sl (au l))] o (.tup []) (eO o (([40]++head)++iR dg l++[41])):=by
 rw[HN,HN] at hn ⊢;have hlen:=HM o ([40]++head);simp only[List.length_append] at hn;have hc:=nV (a:=[40]) (b:=head) (by simp only[List.length_append] at hlen;omega);have h0:=HX (o:=o) (s:=[40]++head) (by omega);have h2:=acP (o:=some (eO o ([40]++head)++iR dg l)) (b:=41) (by simp only[eO,List.length_append] at *;omega);refine Zl hc h0 ?_ h2;refine bb (St:=fun i=>(Po (au l) (eO o ([40]++head)++iR dg (l.take i)) (Int.ofNat i)).aw Tryz.f106.ntmps) (au l).length ?_ ?_ (i:=0) (Nat.zero_le _) |> (fun h=>by simpa [iR] using h)
 ·intro i hi;obtain⟨t,ht,hm⟩:=get_mem hi;have hle:=U8 dg l (i+1);rw[B3 ht] at hle;simp only[List.length_append,List.length_singleton] at hle;have hw:aH .i64 (Int.ofNat i+1)=Int.ofNat (i+1):=bg (by rw[aF] at hi;omega);have hb1:=acP (o:=some (eO o ([40]++head)++iR dg (l.take i))) (b:=32) (by simp only[eO,List.length_append,List.length_singleton] at *;omega);have hw1:=ih t hm (some ((eO o ([40]++head)++iR dg (l.take i))++[32])) (by simp only[eO,List.length_append,List.length_singleton] at *;omega);refine OS hi ht hb1 hw1 ?_;rw[hw,B3 ht];simp only[eO,List.append_assoc];rfl
 have e:=U0 (l:=au l) (c:=eO o ([40]++head)++iR dg l) (T:=lm (fun _=>False) (fun e s=>e=.exit 0/\s=(Pn (au l) (eO o ([40]++head)++iR dg l) (Int.ofNat (au l).length)).aw Tryz.f106.ntmps)) ⟨rfl,rfl⟩;rw[aF] at e ⊢;rw[List.take_length];exact e
mutual
theorem acL {dg:Int->List UInt8} {p:Int->Prop} (hI:∀ix:Int,p ix->ag 75 [iv ix] (.dat (sb (dg ix)))):∀(t:Ty) (o:Option (List UInt8)),t.thin->t.vix p->(eO o (t.BH dg)).length < 100000000->WB 76 [.dat t.enc] o (.tup []) (eO o (t.BH dg))
 | .mk k nm ix l,o,hs,hx,hn=>by
  simp only[Ty.thin] at hs;simp only[Ty.vix] at hx;have ih:=Ze hI l hs.2 hx.2;rw[Ty.BH] at hn ⊢
  cases h0:aP k 0 with
  | true=>
   rw[h0] at hn;exact Zk h0 (HX (by have:(eO o UE).length < 100000000:=hn;omega))
  | false=>
   rw[h0] at hn
   cases h1:aP k 1 with
   | true=>
    rw[h1] at hn;exact OQ h0 h1 (HX (by have:(eO o Ag).length < 100000000:=hn;omega))
   | false=>
    rw[h1] at hn
    cases h5:aP k 5 with
    | true=>
     rw[h5] at hn;have hn:(eO o ([36]++dg ix)).length < 100000000:=hn;have hl:=HM o ([36]++dg ix);exact Zj h0 h1 h5 (hI ix (hx.1 h5)) (nV (by simp only[List.length_append] at hl;omega)) (HX (by omega))
    | false=>
     rw[h5] at hn
     cases hc:(aP k 3||(aP k 4||aP k 6)) with
     | true=>
      rw[hc] at hn;refine UZ h0 h1 h5 rfl rfl ?_ (Yo hs.1 ih hn);intro h3 h4;rw[h3,h4] at hc;exact hc
     | false=>
      rw[hc] at hn;simp only[Bool.or_eq_false_iff] at hc
      cases l with
      | nil=>exact UY h0 h1 h5 hc.1 hc.2.1 hc.2.2 (HX (by have:(eO o nm).length < 100000000:=hn;omega))
      | cons x r=>exact OR h0 h1 h5 hc.1 hc.2.1 hc.2.2 (Yo hs.1 ih hn)
theorem Ze {dg:Int->List UInt8} {p:Int->Prop} (hI:∀ix:Int,p ix->ag 75 [iv ix] (.dat (sb (dg ix)))):∀l:List Ty,fT l->MH p l->∀t∈l,∀o:Option (List UInt8),(eO o (t.BH dg)).length < 100000000->WB 76 [.dat t.enc] o (.tup []) (eO o (t.BH dg))
 | [],_,_,t,ht,_,_=>by simp at ht
 | x::r,hs,hx,t,ht,o,hn=>by
  simp only[fT] at hs;simp only[MH] at hx
  rcases List.mem_cons.1 ht with h1|ht
  ·rw[h1] at hn ⊢;exact acL hI x o hs.1 hx.1 hn
  exact Ze hI r hs.2 hx.2 t ht o hn
end
def qM (i:Int):List UInt8:=match Nat.blt i.toNat 10 with|true=>[UInt8.ofNat (48+i.toNat)]|false=>[UInt8.ofNat (48+i.toNat / 10),UInt8.ofNat (48+i.toNat % 10)]
theorem Ky:∀i:Nat,i < 100->ag 75 [iv (Int.ofNat i)] (.dat (sb (qM (Int.ofNat i))))
 | 0,_=>br _ _ _ _ _ (by kernel_rfl)
 | 1,_=>br _ _ _ _ _ (by kernel_rfl)
 | 2,_=>br _ _ _ _ _ (by kernel_rfl)
 | 3,_=>br _ _ _ _ _ (by kernel_rfl)
 | 4,_=>br _ _ _ _ _ (by kernel_rfl)
 | 5,_=>br _ _ _ _ _ (by kernel_rfl)
 | 6,_=>br _ _ _ _ _ (by kernel_rfl)
 | 7,_=>br _ _ _ _ _ (by kernel_rfl)
 | 8,_=>br _ _ _ _ _ (by kernel_rfl)
 | 9,_=>br _ _ _ _ _ (by kernel_rfl)
 | 10,_=>br _ _ _ _ _ (by kernel_rfl)
 | 11,_=>br _ _ _ _ _ (by kernel_rfl)
 | 12,_=>br _ _ _ _ _ (by kernel_rfl)
 | 13,_=>br _ _ _ _ _ (by kernel_rfl)
 | 14,_=>br _ _ _ _ _ (by kernel_rfl)
 | 15,_=>br _ _ _ _ _ (by kernel_rfl)
 | 16,_=>br _ _ _ _ _ (by kernel_rfl)
 | 17,_=>br _ _ _ _ _ (by kernel_rfl)
 | 18,_=>br _ _ _ _ _ (by kernel_rfl)
 | 19,_=>br _ _ _ _ _ (by kernel_rfl)
 | 20,_=>br _ _ _ _ _ (by kernel_rfl)
 | 21,_=>br _ _ _ _ _ (by kernel_rfl)
 | 22,_=>br _ _ _ _ _ (by kernel_rfl)
 | 23,_=>br _ _ _ _ _ (by kernel_rfl)
 | 24,_=>br _ _ _ _ _ (by kernel_rfl)
 | 25,_=>br _ _ _ _ _ (by kernel_rfl)
 | 26,_=>br _ _ _ _ _ (by kernel_rfl)
 | 27,_=>br _ _ _ _ _ (by kernel_rfl)
 | 28,_=>br _ _ _ _ _ (by kernel_rfl)
 | 29,_=>br _ _ _ _ _ (by kernel_rfl)
 | 30,_=>br _ _ _ _ _ (by kernel_rfl)
 | 31,_=>br _ _ _ _ _ (by kernel_rfl)
 | 32,_=>br _ _ _ _ _ (by kernel_rfl)
 | 33,_=>br _ _ _ _ _ (by kernel_rfl)
 | 34,_=>br _ _ _ _ _ (by kernel_rfl)
 | 35,_=>br _ _ _ _ _ (by kernel_rfl)
 | 36,_=>br _ _ _ _ _ (by kernel_rfl)
 | 37,_=>br _ _ _ _ _ (by kernel_rfl)
 | 38,_=>br _ _ _ _ _ (by kernel_rfl)
 | 39,_=>br _ _ _ _ _ (by kernel_rfl)
 | 40,_=>br _ _ _ _ _ (by kernel_rfl)
 | 41,_=>br _ _ _ _ _ (by kernel_rfl)
 | 42,_=>br _ _ _ _ _ (by kernel_rfl)
 | 43,_=>br _ _ _ _ _ (by kernel_rfl)
 | 44,_=>br _ _ _ _ _ (by kernel_rfl)
 | 45,_=>br _ _ _ _ _ (by kernel_rfl)
 | 46,_=>br _ _ _ _ _ (by kernel_rfl)
 | 47,_=>br _ _ _ _ _ (by kernel_rfl)
 | 48,_=>br _ _ _ _ _ (by kernel_rfl)
 | 49,_=>br _ _ _ _ _ (by kernel_rfl)
 | 50,_=>br _ _ _ _ _ (by kernel_rfl)
 | 51,_=>br _ _ _ _ _ (by kernel_rfl)
 | 52,_=>br _ _ _ _ _ (by kernel_rfl)
 | 53,_=>br _ _ _ _ _ (by kernel_rfl)
 | 54,_=>br _ _ _ _ _ (by kernel_rfl)
 | 55,_=>br _ _ _ _ _ (by kernel_rfl)
 | 56,_=>br _ _ _ _ _ (by kernel_rfl)
 | 57,_=>br _ _ _ _ _ (by kernel_rfl)
 | 58,_=>br _ _ _ _ _ (by kernel_rfl)
 | 59,_=>br _ _ _ _ _ (by kernel_rfl)
 | 60,_=>br _ _ _ _ _ (by kernel_rfl)
 | 61,_=>br _ _ _ _ _ (by kernel_rfl)
 | 62,_=>br _ _ _ _ _ (by kernel_rfl)
 | 63,_=>br _ _ _ _ _ (by kernel_rfl)
 | 64,_=>br _ _ _ _ _ (by kernel_rfl)
 | 65,_=>br _ _ _ _ _ (by kernel_rfl)
 | 66,_=>br _ _ _ _ _ (by kernel_rfl)
 | 67,_=>br _ _ _ _ _ (by kernel_rfl)
 | 68,_=>br _ _ _ _ _ (by kernel_rfl)
 | 69,_=>br _ _ _ _ _ (by kernel_rfl)
 | 70,_=>br _ _ _ _ _ (by kernel_rfl)
 | 71,_=>br _ _ _ _ _ (by kernel_rfl)
 | 72,_=>br _ _ _ _ _ (by kernel_rfl)
 | 73,_=>br _ _ _ _ _ (by kernel_rfl)
 | 74,_=>br _ _ _ _ _ (by kernel_rfl)
 | 75,_=>br _ _ _ _ _ (by kernel_rfl)
 | 76,_=>br _ _ _ _ _ (by kernel_rfl)
 | 77,_=>br _ _ _ _ _ (by kernel_rfl)
 | 78,_=>br _ _ _ _ _ (by kernel_rfl)
 | 79,_=>br _ _ _ _ _ (by kernel_rfl)
 | 80,_=>br _ _ _ _ _ (by kernel_rfl)
 | 81,_=>br _ _ _ _ _ (by kernel_rfl)
 | 82,_=>br _ _ _ _ _ (by kernel_rfl)
 | 83,_=>br _ _ _ _ _ (by kernel_rfl)
 | 84,_=>br _ _ _ _ _ (by kernel_rfl)
 | 85,_=>br _ _ _ _ _ (by kernel_rfl)
 | 86,_=>br _ _ _ _ _ (by kernel_rfl)
 | 87,_=>br _ _ _ _ _ (by kernel_rfl)
 | 88,_=>br _ _ _ _ _ (by kernel_rfl)
 | 89,_=>br _ _ _ _ _ (by kernel_rfl)
 | 90,_=>br _ _ _ _ _ (by kernel_rfl)
 | 91,_=>br _ _ _ _ _ (by kernel_rfl)
 | 92,_=>br _ _ _ _ _ (by kernel_rfl)
 | 93,_=>br _ _ _ _ _ (by kernel_rfl)
 | 94,_=>br _ _ _ _ _ (by kernel_rfl)
 | 95,_=>br _ _ _ _ _ (by kernel_rfl)
 | 96,_=>br _ _ _ _ _ (by kernel_rfl)
 | 97,_=>br _ _ _ _ _ (by kernel_rfl)
 | 98,_=>br _ _ _ _ _ (by kernel_rfl)
 | 99,_=>br _ _ _ _ _ (by kernel_rfl)
 | n+100,h=>absurd h (by omega)
def dE (ds:List aQ):Nat->List UInt8->List (List UInt8)->List (List UInt8)
 | 0,_,S=>S
 | f+1,nm,S=>match aD ds nm with
  | none=>S
  | some d=>match hasB S nm with
   | true=>S
   | false=>(fW d).foldl (fun S n=>dE ds f n S) (eS S nm)
def same (S L:List (List UInt8)):Prop:=S.Nodup/\rA L/\∀x,x∈S↔x∈L
theorem PV {S L:List (List UInt8)} (h:same S L) (x:List UInt8):hasB S x=hasB L x:=by
 rw[Bool.eq_iff_iff,jP,jP];exact h.2.2 x
theorem PW {S L:List (List UInt8)} {x:List UInt8} (h:same S L) (hb:hasB S x=false):same (S++[x]) (eS L x):=by
 obtain⟨h1,h2,h3⟩:=h;have hx:x∉S:=by intro hx;rw[jP.2 hx] at hb;simp at hb
 refine⟨?_,wu h2,?_⟩
 ·rw[List.nodup_append];refine⟨h1,by simp,?_⟩;intro a ha b hb2;rw[List.mem_singleton.1 hb2];rintro rfl;exact hx ha
 intro y;rw[ij,List.mem_append,List.mem_singleton,h3]
theorem zC (ds:List aQ):∀(f:Nat) (nm:List UInt8) {S L:List (List UInt8)},same S L->same (gM ds f nm S) (dE ds f nm L)
 | 0,_,_,_,h=>h
 | f+1,nm,S,L,h=>by
  rw[gM,dE,←PV h]
  cases aD ds nm with
  | none=>exact h
  | some d=>
   dsimp only
   cases hb:hasB S nm with
   | true=>exact h
   | false=>
    have key:∀(l:List (List UInt8)) {S L:List (List UInt8)},same S L->same (l.foldl (fun S n=>gM ds f n S) S) (l.foldl (fun S n=>dE ds f n S) L):=by
     intro l
     induction l with
     | nil=>intro S L h;exact h
     | cons n r ih=>intro S L h;exact ih (zC ds f n h)
    exact key _ (PW h hb)
theorem rI (ds:List aQ):∀(f:Nat) (nm:List UInt8) (S:List (List UInt8)) (x:List UInt8),x∈S->x∈dE ds f nm S
 | 0,_,_,_,h=>h
 | f+1,nm,S,x,h=>by
  rw[dE]
  cases aD ds nm with
  | none=>exact h
  | some d=>
   dsimp only
   cases hasB S nm with
   | true=>exact h
   | false=>exact pw (fun S n x hx=>rI ds f n S x hx) _ (ij.2 (.inl h))
theorem rJ (ds:List aQ):∀(f:Nat) (nm:List UInt8) {S:List (List UInt8)},(∀x∈S,eg (aD ds x)=true)->∀x∈dE ds f nm S,eg (aD ds x)=true
 | 0,_,_,h=>h
 | f+1,nm,S,h=>by
  rw[dE]
  cases hf:aD ds nm with
  | none=>exact h
  | some d=>
   dsimp only
   cases hasB S nm with
   | true=>exact h
   | false=>
    have key:∀(l:List (List UInt8)) {S:List (List UInt8)},(∀x∈S,eg (aD ds x)=true)->∀x∈l.foldl (fun S n=>dE ds f n S) S,eg (aD ds x)=true:=by
     intro l
     induction l with
     | nil=>intro S h;exact h
     | cons n r ih=>intro S h;exact ih (rJ ds f n h)
    refine key _ ?_;intro x hx
    rcases ij.1 hx with hx|rfl
    ·exact h x hx
    rw[hf];rfl
theorem Cg {L:List (List UInt8)} (h:rA L):L.Nodup:=by
 refine List.Pairwise.imp ?_ h;intro a b hab e;rw[e,D9] at hab;simp at hab
theorem vo {α:Type} [DecidableEq α]:∀{L M:List α},L.Nodup->(∀x∈L,x∈M)->L.length<=M.length
 | [],_,_,_=>by simp
 | x::r,M,h,hs=>by
  obtain⟨h1,h2⟩:=List.nodup_cons.1 h;have hx:=hs x List.mem_cons_self;have ih:=vo (M:=M.erase x) h2 (fun y hy=>(List.mem_erase_of_ne (by rintro rfl;exact h1 hy)).2 (hs y (List.mem_cons_of_mem _ hy)));rw[List.length_erase_of_mem hx] at ih
  have:0 < M.length:=List.length_pos_of_mem hx
  simp only[List.length_cons];omega
theorem XL {ds:List aQ} {L:List (List UInt8)} (h:rA L) (hd:∀x∈L,eg (aD ds x)=true):L.length<=ds.length:=by
 have h1:∀x∈L,x∈ds.map (·.nm):=by
  intro x hx;have h2:=hd x hx
  cases hf:aD ds x with
  | none=>rw[hf] at h2;simp[eg] at h2
  | some d=>
   obtain⟨h3,h4⟩:=im hf;exact List.mem_map.2 ⟨d,h3,h4⟩
 have h2:=vo (Cg h) h1;simpa using h2
mutual
def Ty.vk:Ty->Prop
 | .mk k _ _ l=>((aP k 3||(aP k 4||aP k 6))=!(aP k 2)∨(aP k 0||(aP k 1||aP k 5))=true)/\vkL l
def vkL:List Ty->Prop
 | []=>True
 | t::r=>t.vk/\vkL r
end
mutual
def Ty.sm:Ty->Prop
 | .mk k nm ix l=>nm.length<=24/\(aP k 5=true->bq ix 0=false)/\((aP k 3||(aP k 4||aP k 6))=!(aP k 2)∨(aP k 0||(aP k 1||aP k 5))=true)/\PO l
def PO:List Ty->Prop
 | []=>True
 | t::r=>t.sm/\PO r
end
theorem vC {b:List UInt8} (h:isIdent b=true):b.length<=24:=by
 cases b with
 | nil=>simp
 | cons c r=>
  unfold isIdent at h;simp only[Bool.and_eq_true] at h
  have:=fe h.1.1
  simpa using this
theorem VO {k:Int} {nm:List UInt8} {ix:Int} {l:List Ty} (h:jh k nm ix l=true):nm.length<=24:=by
 unfold jh at h
 split at h
 ·simp at h
 rename_i g1
 split at h
 ·simp at h
 cases h2:aP k 2 with
 | true=>
  have hk:k=2:=eY h2;subst hk;rw[if_neg (by decide),if_pos (by decide),Bool.and_eq_true] at h;exact vC h.1
 | false=>
  rw[h2] at g1
  have:dU nm []=true:=by
   cases hh:dU nm [] with
   | true=>rfl
   | false=>exact absurd (by rw[hh];rfl) g1
  rw[si this];simp
theorem VP {k:Int} {nm:List UInt8} {ix:Int} {l:List Ty} (h:jh k nm ix l=true) (h5:aP k 5=true):bq ix 0=false:=by
 have hk:k=5:=eY h5;subst hk;unfold jh at h
 split at h
 ·simp at h
 split at h
 ·simp at h
 rw[if_neg (by decide),if_neg (by decide),if_neg (by decide),if_neg (by decide)] at h;simp only[Bool.and_eq_true,Bool.not_eq_true'] at h;exact h.2.1
theorem Nv {k:Int} {nm:List UInt8} {ix:Int} {l:List Ty} (h:jh k nm ix l=true):(aP k 3||(aP k 4||aP k 6))=!(aP k 2)∨(aP k 0||(aP k 1||aP k 5))=true:=by
 unfold jh at h
 split at h
 ·simp at h
 split at h
 ·simp at h
 cases h0:(aP k 0||aP k 1) with
 | true=>
  refine .inr ?_;rw[←Bool.or_assoc,h0];rfl
 | false=>
  rw[h0,if_neg (by decide)] at h
  cases h2:aP k 2 with
  | true=>
   have hk:k=2:=eY h2;subst hk;exact .inl (by decide)
  | false=>
   rw[h2,if_neg (by decide)] at h
   cases h3:aP k 3 with
   | true=>exact .inl (by simp)
   | false=>
    rw[h3,if_neg (by decide)] at h
    cases h4:aP k 4 with
    | true=>exact .inl (by simp)
    | false=>
     rw[h4,if_neg (by decide)] at h
     cases h5:aP k 5 with
     | true=>exact .inr (by simp)
     | false=>
      rw[h5,if_neg (by decide)] at h
      cases h6:aP k 6 with
      | true=>exact .inl (by simp)
      | false=>rw[h6,if_neg (by decide)] at h;simp at h
mutual
theorem Fq:∀t:Ty,t.valid=true->t.sm
 | .mk k nm ix l,h=>by
  rw[Ty.valid,Bool.and_eq_true] at h;rw[Ty.sm];exact⟨VO h.1,VP h.1,Nv h.1,B0 l (by simpa using h.2)⟩
theorem B0:∀l:List Ty,lR l=false->PO l
 | [],_=>trivial
 | t::r,h=>by
  rw[lR,Bool.or_eq_false_iff] at h;rw[PO];exact⟨Fq t (by simpa using h.1),B0 r h.2⟩
end
theorem Li {t:Ty} {ar:Int} (h:t.over ar=true):t.size<=200/\t.sm:=by
 unfold Ty.over at h;simp only[Bool.and_eq_true] at h;have h1:=eY h.1;unfold Ty.validate at h1
 split at h1
 ·simp at h1
 rename_i g;simp only[Bool.or_eq_false_iff] at g;refine⟨?_,?_⟩
 ·have:=g.1
  rw[show (200:Int)=Int.ofNat 200 from rfl,iE] at this;simp at this;exact this
 split at h1
 ·rename_i hv;exact Fq t hv
 simp at h1
mutual
theorem adV:∀t:Ty,t.sm->t.vk
 | .mk k nm ix l,h=>by
  rw[Ty.sm] at h;rw[Ty.vk];exact⟨h.2.2.1,PN l h.2.2.2⟩
theorem PN:∀l:List Ty,PO l->vkL l
 | [],_=>trivial
 | t::r,h=>by
  rw[PO] at h;rw[vkL];exact⟨adV t h.1,PN r h.2⟩
end
def ixP (ix:Int):Prop:=∃n:Nat,n < 100/\ix=Int.ofNat n
theorem SY {ix:Int} (h1:bq ix 0=false) (h2:bq ix 100=true):ixP ix:=by
 rw[gr] at h1 h2;simp only[decide_eq_false_iff_not,decide_eq_true_eq] at h1 h2;exact⟨ix.toNat,by omega,by simp only[Int.ofNat_eq_natCast];omega⟩
mutual
theorem IH:∀t:Ty,t.sm->t.dR->t.vix ixP
 | .mk k nm ix l,h,hx=>by
  rw[Ty.sm] at h;rw[Ty.dR] at hx;rw[Ty.vix];exact⟨fun h5=>SY (h.2.1 h5) (hx.1 h5),K0 l h.2.2.2 hx.2⟩
theorem K0:∀l:List Ty,PO l->cV l->MH ixP l
 | [],_,_=>trivial
 | t::r,h,hx=>by
  rw[PO] at h;rw[cV] at hx;rw[MH];exact⟨IH t h.1 hx.1,K0 r h.2 hx.2⟩
end
theorem EQ (i:Int):(qM i).length<=2:=by unfold qM;split <;> simp
theorem NQ (a b:Bool):(S4 a b).length<=6:=by cases a <;> cases b <;> decide
mutual
theorem sJ:∀t:Ty,t.sm->(t.BH qM).length+1<=30*t.size
 | .mk k nm ix l,h=>by
  rw[Ty.sm] at h;have ih:=Fs l h.2.2.2;have h1:=h.1;have h2:=EQ ix;have h3:=NQ (aP k 3) (aP k 4);rw[Ty.BH,Ty.size]
  cases aP k 0 with
  | true=>simp[UE];omega
  | false=>
   cases aP k 1 with
   | true=>simp[Ag];omega
   | false=>
    cases aP k 5 with
    | true=>simp only[List.length_append,List.length_singleton];omega
    | false=>
     cases (aP k 3||(aP k 4||aP k 6)) with
     | true=>simp only[List.length_append,List.length_singleton];omega
     | false=>
      cases SU (au l) with
      | false=>dsimp only;omega
      | true=>simp only[List.length_append,List.length_singleton];omega
theorem Fs:∀l:List Ty,PO l->(iR qM l).length<=30*aU l
 | [],_=>by simp[iR,aU]
 | t::r,h=>by
  rw[PO] at h;have h1:=sJ t h.1;have h2:=Fs r h.2;rw[iR,aU];simp only[List.length_append,List.length_singleton];omega
end
structure aQ.sm (d:aQ):Prop where
 nm:d.nm.length<=24
 ar:ixP d.ar
 fn:d.fl.length<=6
 sup:d.sup.size<=200/\d.sup.sm
 fl:∀f∈d.fl,f.nm.length<=24/\f.ty.size<=200/\f.ty.sm
theorem OT {ar:Int}:∀{pre l:List dq},Ih ar pre l=true->∀f∈l,f.nm.length<=24/\f.ty.size<=200/\f.ty.sm
 | _,[],_,f,hf=>by simp at hf
 | pre,g::r,h,f,hf=>by
  rw[Ih] at h;simp only[Bool.and_eq_true] at h
  rcases List.mem_cons.1 hf with rfl|hf
  ·exact⟨vC h.1.1,Li h.1.2.2⟩
  exact OT h.2 f hf
theorem adb {d:aQ} (h:d.wf=true) (h1:bq 6 d.ar=false) (h2:bq 6 (Int.ofNat (aJ d.fl).length)=false):d.sm:=by
 unfold aQ.wf at h;simp only[Bool.and_eq_true] at h;obtain⟨g1,_,g3,_,_,g6,g7⟩:=h;refine⟨vC g1,?_,?_,Li g6,OT g7⟩
 ·refine SY (by simpa using g3) ?_;rw[gr] at h1 ⊢;simp only[decide_eq_false_iff_not,decide_eq_true_eq] at h1 ⊢;omega
 rw[bd,show (6:Int)=Int.ofNat 6 from rfl,iE] at h2;simp at h2;exact h2
theorem TS (ds:List aQ) (d:aQ):(eQ ds d).2=ds∨((eQ ds d).2=ds++[d]/\d.sm):=by
 unfold eQ
 cases hw:d.wf with
 | false=>exact .inl rfl
 | true=>
  cases h1:bq 6 d.ar with
  | true=>exact .inl rfl
  | false=>
   cases h2:bq 6 (Int.ofNat (aJ d.fl).length) with
   | true=>exact .inl rfl
   | false=>
    have hs:=adb hw h1 h2
    cases aD ds d.nm with
    | some o=>dsimp only;cases o.eq d <;> exact .inl rfl
    | none=>
     cases bq (Int.ofNat ds.length) 60 with
     | false=>exact .inl rfl
     | true=>
      cases cy ds d.sup with
      | false=>exact .inl rfl
      | true=>
       cases d.fl.any (fun f=>!cy (ds++[d]) f.ty) with
       | true=>exact .inl rfl
       | false=>
        cases aP d.sup.kind 2 with
        | false=>exact .inr ⟨rfl,hs⟩
        | true=>
         dsimp only
         cases (iO (aD (ds++[d]) d.sup.nm)).con with
         | true=>exact .inl rfl
         | false=>exact .inr ⟨rfl,hs⟩
def UW (ds:List aQ):Prop:=∀o∈ds,o.sm
theorem Oy:UW cY:=by
 intro o ho;simp only[cY,fL,List.map_cons,List.map_nil,List.mem_cons,List.mem_nil_iff,or_false] at ho
 rcases ho with rfl|rfl|rfl|rfl <;>
  exact⟨by decide,⟨0,by decide,rfl⟩,by decide,⟨by decide,by simp[sx,Ty.sm,PO];decide⟩,by simp[sx]⟩
theorem UW.step {ds:List aQ} (h:UW ds) (d:aQ):UW (eQ ds d).2:=by
 rcases TS ds d with e|⟨e,hs⟩
 ·rw[e];exact h
 rw[e];intro o ho
 rcases List.mem_append.1 ho with ho|ho
 ·exact h o ho
 rw[List.mem_singleton.1 ho];exact hs
theorem He:∀(l:List aQ) {ds:List aQ},UW ds->UW (l.foldl (fun ds d=>(eQ ds d).2) ds)
 | [],_,h=>h
 | d::r,_,h=>He r (h.step d)
theorem Mo (l:List aQ):UW (da l):=He l Oy
end Go.Proofs.YtiihadmgkoamoaaGreatDoor
namespace Go.Proofs
open Go.Shelf
def Tryz.CO:Go.Shelf.Ren:=⟨fun|7=>73|10=>103|n=>n,fun|23=>97|26=>9|3=>4|28=>105|0=>0|27=>104|33=>122|4=>4|n=>n,fun|n=>n⟩
theorem Tryz.aeg:Go.Proofs.SlLaysZ.n7 Tryz.prog Tryz.CO:={
 mixed:=by kernel_rfl
 f7:=⟨Tryz.f73.name,by decide,Tryz.func73.trans (congrArg some (by kernel_rfl))⟩
 f10:=⟨Tryz.f103.name,by decide,Tryz.func103.trans (congrArg some (by kernel_rfl))⟩
 t0:=Tryz.underlying0
 a0:=Tryz.isAgg0
 z0:=Tryz.sizeOf0
 v0:=Tryz.zeroValue0
 t4:=Tryz.underlying4
 a4:=Tryz.isAgg4
 z4:=Tryz.sizeOf4
 v4:=Tryz.zeroValue4
 t23:=Tryz.underlying97
 a23:=Tryz.isAgg97
 z23:=Tryz.sizeOf97
 v23:=Tryz.zeroValue97
 t26:=Tryz.underlying9
 a26:=Tryz.isAgg9
 z26:=Tryz.sizeOf9
 v26:=Tryz.zeroValue9
 t27:=Tryz.underlying104
 a27:=Tryz.isAgg104
 z27:=Tryz.sizeOf104
 v27:=Tryz.zeroValue104
 t28:=Tryz.underlying105
 a28:=Tryz.isAgg105
 z28:=Tryz.sizeOf105
 v28:=Tryz.zeroValue105
 t33:=Tryz.underlying122
 a33:=Tryz.isAgg122
 z33:=Tryz.sizeOf122
 v33:=Tryz.zeroValue122 }
def Tryz.oP:Go.Shelf.Ren:=⟨fun|6=>72|8=>101|9=>102|11=>129|13=>131|12=>130|23=>161|24=>162|14=>152|15=>153|16=>154|17=>155|18=>156|19=>157|20=>158|21=>159|22=>160|25=>181|26=>182|27=>183|28=>184|29=>185|30=>172|31=>196|n=>n,fun|26=>9|28=>105|24=>60|0=>0|3=>3|37=>157|48=>179|50=>140|4=>4|40=>173|39=>172|45=>121|5=>5|9=>9|51=>189|55=>193|57=>202|58=>203|33=>122|n=>n,fun|n=>n⟩
theorem Tryz.Vk:Go.Proofs.SlLaysZ.n6 Tryz.prog Tryz.oP:={
 mixed:=by kernel_rfl
 f6:=⟨Tryz.f72.name,by decide,Tryz.func72.trans (congrArg some (by kernel_rfl))⟩
 f8:=⟨Tryz.f101.name,by decide,Tryz.func101.trans (congrArg some (by kernel_rfl))⟩
 f11:=⟨Tryz.f129.name,by decide,Tryz.func129.trans (congrArg some (by kernel_rfl))⟩
 t0:=Tryz.underlying0
 a0:=Tryz.isAgg0
 z0:=Tryz.sizeOf0
 v0:=Tryz.zeroValue0
 t24:=Tryz.underlying60
 a24:=Tryz.isAgg60
 z24:=Tryz.sizeOf60
 v24:=Tryz.zeroValue60
 t26:=Tryz.underlying9
 a26:=Tryz.isAgg9
 z26:=Tryz.sizeOf9
 v26:=Tryz.zeroValue9
 t28:=Tryz.underlying105
 a28:=Tryz.isAgg105
 z28:=Tryz.sizeOf105
 v28:=Tryz.zeroValue105
 i26:=by kernel_rfl }
def Tryz.M3:Go.Shelf.Ren:=⟨fun|6=>102|8=>131|9=>130|19=>161|20=>162|21=>152|22=>153|23=>154|24=>155|25=>156|26=>157|27=>158|28=>159|29=>160|36=>181|31=>182|32=>183|37=>184|38=>185|39=>172|41=>196|n=>n,fun|27=>60|29=>9|3=>3|32=>157|26=>60|0=>0|44=>179|46=>140|4=>4|36=>173|35=>172|41=>121|5=>5|9=>9|53=>189|57=>193|63=>202|64=>203|n=>n,fun|n=>n⟩
theorem Tryz.YG:Go.Proofs.SlLaysM.n6 Tryz.prog Tryz.M3:={
 mixed:=by kernel_rfl
 f6:=⟨Tryz.f102.name,by decide,Tryz.func102.trans (congrArg some (by kernel_rfl))⟩
 f8:=Tryz.func131.trans (congrArg some (by kernel_rfl))
 f9:=⟨Tryz.f130.name,by decide,Tryz.func130.trans (congrArg some (by kernel_rfl))⟩
 f19:=Tryz.func161.trans (congrArg some (by kernel_rfl))
 f20:=Tryz.func162.trans (congrArg some (by kernel_rfl))
 f21:=⟨Tryz.f152.name,by decide,Tryz.func152.trans (congrArg some (by kernel_rfl))⟩
 f22:=⟨Tryz.f153.name,by decide,Tryz.func153.trans (congrArg some (by kernel_rfl))⟩
 f23:=⟨Tryz.f154.name,by decide,Tryz.func154.trans (congrArg some (by kernel_rfl))⟩
 f24:=⟨Tryz.f155.name,by decide,Tryz.func155.trans (congrArg some (by kernel_rfl))⟩
 f25:=⟨Tryz.f156.name,by decide,Tryz.func156.trans (congrArg some (by kernel_rfl))⟩
 f26:=⟨Tryz.f157.name,by decide,Tryz.func157.trans (congrArg some (by kernel_rfl))⟩
 f27:=⟨Tryz.f158.name,by decide,Tryz.func158.trans (congrArg some (by kernel_rfl))⟩
 f28:=⟨Tryz.f159.name,by decide,Tryz.func159.trans (congrArg some (by kernel_rfl))⟩
 f29:=⟨Tryz.f160.name,by decide,Tryz.func160.trans (congrArg some (by kernel_rfl))⟩
 f31:=Tryz.func182.trans (congrArg some (by kernel_rfl))
 f32:=Tryz.func183.trans (congrArg some (by kernel_rfl))
 f36:=⟨Tryz.f181.name,by decide,Tryz.func181.trans (congrArg some (by kernel_rfl))⟩
 f37:=⟨Tryz.f184.name,by decide,Tryz.func184.trans (congrArg some (by kernel_rfl))⟩
 f38:=⟨Tryz.f185.name,by decide,Tryz.func185.trans (congrArg some (by kernel_rfl))⟩
 f39:=⟨Tryz.f172.name,by decide,Tryz.func172.trans (congrArg some (by kernel_rfl))⟩
 f41:=⟨Tryz.f196.name,by decide,Tryz.func196.trans (congrArg some (by kernel_rfl))⟩
 t0:=Tryz.underlying0
 a0:=Tryz.isAgg0
 z0:=Tryz.sizeOf0
 v0:=Tryz.zeroValue0
 t3:=Tryz.underlying3
 a3:=Tryz.isAgg3
 z3:=Tryz.sizeOf3
 v3:=Tryz.zeroValue3
 t4:=Tryz.underlying4
 a4:=Tryz.isAgg4
 z4:=Tryz.sizeOf4
 v4:=Tryz.zeroValue4
 t5:=Tryz.underlying5
 a5:=Tryz.isAgg5
 z5:=Tryz.sizeOf5
 v5:=Tryz.zeroValue5
 t9:=Tryz.underlying9
 a9:=Tryz.isAgg9
 z9:=Tryz.sizeOf9
 v9:=Tryz.zeroValue9
 t26:=Tryz.underlying60
 a26:=Tryz.isAgg60
 z26:=Tryz.sizeOf60
 v26:=Tryz.zeroValue60
 t27:=Tryz.underlying60
 a27:=Tryz.isAgg60
 z27:=Tryz.sizeOf60
 v27:=Tryz.zeroValue60
 t29:=Tryz.underlying9
 a29:=Tryz.isAgg9
 z29:=Tryz.sizeOf9
 v29:=Tryz.zeroValue9
 t32:=Tryz.underlying157
 a32:=Tryz.isAgg157
 z32:=Tryz.sizeOf157
 v32:=Tryz.zeroValue157
 t35:=Tryz.underlying172
 a35:=Tryz.isAgg172
 z35:=Tryz.sizeOf172
 v35:=Tryz.zeroValue172
 t36:=Tryz.underlying173
 a36:=Tryz.isAgg173
 z36:=Tryz.sizeOf173
 v36:=Tryz.zeroValue173
 t41:=Tryz.underlying121
 a41:=Tryz.isAgg121
 z41:=Tryz.sizeOf121
 v41:=Tryz.zeroValue121
 t44:=Tryz.underlying179
 a44:=Tryz.isAgg179
 z44:=Tryz.sizeOf179
 v44:=Tryz.zeroValue179
 t46:=Tryz.underlying140
 a46:=Tryz.isAgg140
 z46:=Tryz.sizeOf140
 v46:=Tryz.zeroValue140
 t53:=Tryz.underlying189
 a53:=Tryz.isAgg189
 z53:=Tryz.sizeOf189
 v53:=Tryz.zeroValue189
 t57:=Tryz.underlying193
 a57:=Tryz.isAgg193
 z57:=Tryz.sizeOf193
 v57:=Tryz.zeroValue193
 t63:=Tryz.underlying202
 a63:=Tryz.isAgg202
 z63:=Tryz.sizeOf202
 v63:=Tryz.zeroValue202
 t64:=Tryz.underlying203
 a64:=Tryz.isAgg203
 z64:=Tryz.sizeOf203
 v64:=Tryz.zeroValue203 }
end Go.Proofs
namespace Go.Tp
open Go.Proofs Go.Shelf Go.RowKit Go.Maps Go.Sort Go.MapKept
def Ep:List UInt8->List UInt8->Bool
 | [],_=>true
 | _::_,[]=>false
 | a::l,b::r=>match Nat.blt a.toNat b.toNat with
  | true=>true
  | false=>(match Nat.beq a.toNat b.toNat with|true=>Ep l r|false=>false)
theorem rX:∀x y:List UInt8,Ep x y=decide (x<=y)
 | [],y=>by simp[Ep]
 | a::l,[]=>by simp[Ep]
 | a::l,b::r=>by
  have ih:=rX l r;simp only[Ep];have e1:Nat.blt a.toNat b.toNat=decide (a < b):=by
   by_cases h:a < b
   ·rw[decide_eq_true h];rw[Nat.blt_eq];exact UInt8.lt_iff_toNat_lt.1 h
   rw[decide_eq_false h]
   cases hb:Nat.blt a.toNat b.toNat
   ·rfl
   rw[Nat.blt_eq] at hb;exact absurd (UInt8.lt_iff_toNat_lt.2 hb) h
  have e2:Nat.beq a.toNat b.toNat=decide (a=b):=by
   by_cases h:a=b
   ·subst h;simp
   rw[decide_eq_false h]
   cases hb:Nat.beq a.toNat b.toNat
   ·rfl
   exact absurd (UInt8.toNat_inj.1 (Nat.eq_of_beq_eq_true hb)) h
  rw[e1,e2]
  by_cases h1:a < b
  ·simp[h1,List.cons_le_cons_iff]
  by_cases h2:a=b
  ·subst h2;simp[h1,ih,List.cons_le_cons_iff]
  simp[h1,h2,List.cons_le_cons_iff]
def JS (x:List UInt8):List (List UInt8)->List (List UInt8)
 | []=>[x]
 | y::r=>match Ep x y with|true=>x::y::r|false=>y::JS x r
def ou:List (List UInt8)->List (List UInt8)
 | []=>[]
 | x::r=>JS x (ou r)
theorem CJ (x y:List UInt8):Ep x y=true∨Ep y x=true:=by
 simp only[rX,decide_eq_true_eq];exact List.le_total x y
theorem NF {x y z:List UInt8} (h:Ep x y=true) (k:Ep y z=true):Ep x z=true:=by
 simp only[rX,decide_eq_true_eq] at *;exact List.le_trans h k
theorem vA (x:List UInt8):∀l,(JS x l).Perm (x::l)
 | []=>List.Perm.refl _
 | y::r=>by
  unfold JS
  split
  ·exact List.Perm.refl _
  exact ((vA x r).cons y).trans (List.Perm.swap x y r)
theorem iZ:∀l,(ou l).Perm l
 | []=>List.Perm.refl _
 | x::r=>(vA x _).trans ((iZ r).cons x)
theorem wR (x:List UInt8):∀l:List (List UInt8),l.Pairwise (fun a b=>Ep a b=true)->(JS x l).Pairwise (fun a b=>Ep a b=true)
 | [],_=>by simp[JS]
 | y::r,h=>by
  obtain⟨h1,h2⟩:=List.pairwise_cons.1 h;unfold JS
  split
  ·rename_i hle;refine List.pairwise_cons.2 ⟨?_,h⟩;intro z hz
   rcases List.mem_cons.1 hz with rfl|hz
   ·exact hle
   exact NF hle (h1 z hz)
  rename_i hle;refine List.pairwise_cons.2 ⟨?_,wR x r h2⟩;intro z hz
  rcases List.mem_cons.1 ((vA x r).mem_iff.1 hz) with rfl|hz
  ·rcases CJ y z with h'|h'
   ·exact h'
   rw[hle] at h';simp at h'
  exact h1 z hz
theorem kg:∀l,(ou l).Pairwise (fun a b=>Ep a b=true)
 | []=>by simp[ou]
 | x::r=>wR x _ (kg r)
theorem PM (l:List (List UInt8)):l.mergeSort (fun x y=>decide (x<=y))=ou l:=by
 have tr:∀a b c:List UInt8,decide (a<=b)=true->decide (b<=c)=true->decide (a<=c)=true:=fun a b c h1 h2=>by simp only[decide_eq_true_eq] at *;exact List.le_trans h1 h2
 have to:∀a b:List UInt8,(decide (a<=b)||decide (b<=a))=true:=fun a b=>by simp only[Bool.or_eq_true,decide_eq_true_eq];exact List.le_total a b
 refine List.Perm.eq_of_pairwise (le:=fun a b=>Ep a b=true) (fun a b _ _ h1 h2=>?_) ?_ (kg l) ((List.mergeSort_perm l _).trans (iZ l).symm)
 ·simp only[rX,decide_eq_true_eq] at h1 h2;exact List.le_antisymm h1 h2
 have:=List.pairwise_mergeSort tr to l
 simpa only[rX] using this
def rS:List (List UInt8)->Bool
 | x::y::r=>(match Ep y x with|true=>false|false=>rS (y::r))
 | _=>true
theorem wN:∀{l:List (List UInt8)},l.Pairwise (fun a b=>Ep a b=true)->rS l=true->l.Nodup
 | [],_,_=>List.nodup_nil
 | [x],_,_=>by simp
 | x::y::r,hp,h=>by
  unfold rS at h
  split at h
  ·simp at h
  rename_i hxy;obtain⟨h1,h2⟩:=List.pairwise_cons.1 hp;refine List.nodup_cons.2 ⟨?_,wN h2 h⟩;intro hx
  rcases List.mem_cons.1 hx with rfl|hx
  ·have:=CJ x x
   rw[hxy] at this;simp at this
  have:=(List.pairwise_cons.1 h2).1 x hx
  rw[hxy] at this;simp at this
def ko:List (Value×ap)->Option (List (List UInt8))
 | []=>some []
 |(.string s,_)::r=>(match Nat.ble s.size 9223372036854775807 with|true=>(match ko r with|some l=>some (s.data.toList::l)|none=>none)|false=>none)
 | _=>none
theorem nF {w:World} {R:Own}:∀{es:List (Value×ap)} {ents:List MapEntry} {ks:List (List UInt8)},ko es=some ks->de w R es ents->
  ents.map (·.key)=ks.map encStr/\(∀k∈ks,k.length<=9223372036854775807)
 | [],ents,ks,h,hr=>by simp[ko] at h;simp[de] at hr;subst h;subst hr;simp
 |(k,d)::es,ents,ks,h,⟨e,es',e1,e2,e3,e4⟩=>by
  unfold ko at h
  split at h
  ·rename_i heq;simp at heq
  ·rename_i s x r heq;simp at heq;obtain⟨⟨rfl,rfl⟩,rfl⟩:=heq
   split at h
   ·rename_i hs
    split at h
    ·rename_i l hl;simp at h;subst h;obtain⟨h1,h2⟩:=nF hl e4;subst e1;refine⟨by simp[h1,e2,encStr],?_⟩;intro k hk
     rcases List.mem_cons.1 hk with rfl|hk
     ·have:=Nat.le_of_ble_eq_true hs
      simpa using this
     exact h2 k hk
    simp at h
   simp at h
  simp at h
def rz (x:List UInt8):ap:=.flat (.string ⟨⟨x⟩⟩)
def xY (g:Nat) (args:List ac) (heap:Heap) (next:Nat):Option ey:=
 match args with
 | [.fn (.func g') [] [.ptr (.out k) 0]]=>(match Nat.beq g' g with
  | true=>(match pQ (.out k) heap with
   | some (.cells (.map (.out m)::_))=>(match pQ (.out m) heap with
    | some (.map es)=>(match ko es with
     | some ks=>(match Nat.ble ks.length 4294967296&&rS (ou ks) with
      | true=>(match ou ks with
       | []=>some ⟨.dat (.flat (.slice none 0 0)),heap,next⟩
       | x::r=>some ⟨.dat (.slice ((x::r).map rz)),heap,next⟩)
      | false=>none)
     | none=>none)
    | _=>none)
   | _=>none)
  | false=>none)
 | _=>none
section
variable {P:Program} {ρ ρ':Ren} {G:bL}
theorem Gk {w:World} {R:Own} {es:List (Value×ap)} {ents:Array MapEntry} {clock b:Nat} {k:TypeId} (hk:P.underlying k=some .string) {ks:List (List UInt8)} (hks:ko es=some ks) (hnd:ks.Nodup)
  (hlen:ks.length<=4294967296) (hb:w.heap[b]?=some (.map ents clock)) (hr:de w R es ents.toList) (hbo:uM ents clock) :
  ∃D0:DataW Unit,w.ownsMap P k (fun _=>some (.nil,[])) b ents.size D0/\Maps.size D0=ks.length/\(strKeys D0).Perm ks:=by
 obtain⟨h1,h2⟩:=nF hks hr;have hlen2:ents.size=ks.length:=by
  have:=congrArg List.length h1
  simpa using this
 have hread:∀x∈ents.toList,∃s:List UInt8,x.key=encStr s/\s∈ks/\Go.WideElems.rd P k (fun _=>some ((.nil:DataW Unit),[])) x=some (.string s,.nil):=by
  intro x hx;have hm:x.key∈ents.toList.map (·.key):=List.mem_map.2 ⟨x,hx,rfl⟩;rw[h1] at hm;obtain⟨s,hs,e⟩:=List.mem_map.1 hm;refine⟨s,e.symm,hs,?_⟩;have hkk:keyOf P k x.key=some (.string s):=by
   rw[←e]
   have:=Go.WideMaps.keyOf_string_mk (k:=k) hk (s:=⟨⟨s⟩⟩) (by have:=h2 s hs;simp only[maxLen];exact Nat.le_trans this (by decide))
   simpa [encStr] using this
  simp[Go.WideElems.rd,hkk]
 refine⟨_,⟨ents,clock,hb,⟨by rw[hlen2];simp only[maxLen];omega,⟨hbo.1,hbo.2,?_⟩,fun x hx=>(hread x hx).elim fun s hs=>⟨_,hs.2.2⟩⟩,Nat.le_refl _,rfl⟩,?_,?_⟩
 ·rw[h1];exact hnd.map _ (fun a b hab=>fun e=>hab (encStr_inj e))
 ·simp[Maps.size,length_sorted,hlen2]
 have p1:=Go.WideShapes.sorted_perm (ents.toList.map (Go.WideElems.rg P k (fun _=>some ((.nil:DataW Unit),[]))));have p2:=p1.map (fun p=>strOf p.1);refine p2.trans ?_;rw[List.map_map];have e3:ents.toList.map ((fun p:Lit×DataW Unit=>strOf p.1) ∘ Go.WideElems.rg P k (fun _=>some (.nil,[])))=ks:=by
  have key:∀(l:List MapEntry) (ks:List (List UInt8)),l.map (·.key)=ks.map encStr->(∀x∈l,∃s:List UInt8,x.key=encStr s/\Go.WideElems.rd P k (fun _=>some ((.nil:DataW Unit),[])) x=some (.string s,.nil))->
    l.map ((fun p:Lit×DataW Unit=>strOf p.1) ∘ Go.WideElems.rg P k (fun _=>some (.nil,[])))=ks:=by
   intro l
   induction l with
   | nil=>intro ks h _;cases ks with|nil=>rfl|cons _ _=>simp at h
   | cons x l ih=>
    intro ks h hall
    cases ks with
    | nil=>simp at h
    | cons s ks=>
     simp only[List.map_cons,List.cons.injEq] at h ⊢;obtain⟨s',hs',hrd⟩:=hall x (by simp)
     have:s'=s:=encStr_inj (hs'.symm.trans h.1)
     subst this;exact⟨by simp[Go.WideElems.rg,hrd,strOf],ih ks h.2 fun y hy=>hall y (by simp[hy])⟩
  exact key _ _ h1 fun x hx=>(hread x hx).elim fun s hs=>⟨s,hs.1,hs.2.2⟩
 rw[e3]
theorem Ub (L6:SlLaysZ.n6 P ρ) (L10:SlLaysZ.n10 P ρ') (hsort:AnyZ.SortsIn P ρ Fence.wide 4) (e9:Enters P (ρ.f 9)) (e10:Enters P (ρ'.f 10)) (hk:P.underlying (ρ'.t 26)=some .string)
  {args:List ac} {heap:Heap} {next:Nat} {r:ey} (h:xY (ρ'.f 10) args heap next=some r):aB P G (ρ.f 6) args heap next (XQ r):=by
 unfold xY at h
 split at h
 rotate_left
 ·simp at h
 rename_i g' k
 split at h
 rotate_left
 ·simp at h
 rename_i hg;have hg:=Nat.eq_of_beq_eq_true hg;subst hg
 split at h
 rotate_left
 ·simp at h
 rename_i m tl hbox
 split at h
 rotate_left
 ·simp at h
 rename_i es hmap
 split at h
 rotate_left
 ·simp at h
 rename_i ks hks
 split at h
 rotate_left
 ·simp at h
 rename_i hc;simp only[Bool.and_eq_true,Nat.ble_eq] at hc;obtain⟨hlen,hno⟩:=hc;have hnd0:ks.Nodup:=(iZ ks).nodup_iff.1 (wN (kg ks) hno);rw[lf] at hbox hmap;intro w R N cargs bsA bsH bsF hargs hheap hnd hnx hglob hF;obtain⟨v0,r1,c0,d1,rfl,rfl,h0,hr1⟩:=az hargs;obtain⟨rfl,rfl⟩:=aS hr1;simp only[al] at h0;obtain⟨rfl,vs,us,rfl,hvs,hus⟩:=h0;obtain⟨rfl,_⟩:=aS hvs;obtain⟨Bm,hBm,rfl,_⟩:=D6 (k:=k) (by simpa using hus)
 -- the box
 obtain⟨pre,b',b1,post,rfl,hb',hobj,_⟩:=an.split hheap hbox
 have:b'=Bm:=by simp only[outs] at hb';rw[hBm] at hb';simpa using hb'.symm
 subst this;obtain⟨xs,elem,sp,hblk,hrx,_,_⟩:=hobj;rw[List.cons_append] at hrx;obtain⟨x0,xr,f0,f1,hx,_,hx0,_⟩:=az hrx;simp only[al] at hx0;obtain⟨_,bm,hbm,rfl⟩:=hx0;have hcell:w.cell? ⟨b',0,none⟩=some (.map (some bm)):=by
  have:xs[0]?=some (.map (some bm)):=by rw[←Array.getElem?_toList,hx];rfl
  simp[World.cell?,hblk,this]
 -- the map
 obtain⟨pre2,b2,b3,post2,_,hb2,hobj2,_⟩:=an.split hheap hmap
 have:b2=bm:=by rw[hb2] at hbm;simpa using hbm
 subst this;obtain⟨_,_,ents,clock,hmb,hrm,hbo⟩:=hobj2;obtain⟨D0,hown,hsz,hperm⟩:=Gk hk hks hnd0 hlen hmb hrm hbo;have hseq:=AnyZ.keys_gives L10 Fence.wide 2 trivial rfl (by omega) b' b2 ents.size D0 w (bw hblk) hcell hown;have cS:=AnyZ.sorted_in L6 Fence.wide 5 trivial trivial trivial trivial rfl (by omega) hsort e9 (ρ'.f 10) #[.pointer (some ⟨b',0,none⟩)] trivial e10 _ (Maps.size D0) (by rw[hsz];simp only[maxLen];omega) (by rw[hsz];omega) w hseq;refine (callsIn_wide.1 cS).mono ?_;rintro e w' ⟨v,ss,rfl,hS,hrow,hnil,hb⟩;have hss:ss.mergeSort (fun x y=>decide (x<=y))=ou ks:=by
  have:=mergeSort_of_perm (hS.trans hperm)
  exact (this.trans (PM ks))
 have hssl:ss.length=ks.length:=(hS.trans hperm).length_eq;rw[hss] at hrow;have fin:∀{d:ap},some (ey.mk (.dat d) heap next)=some r->sE w' (fun b off=>b < w.heap.size/\R b off) v d->∃v' cv heap' next' R' N' bsV bsH',Ending.returned v=.returned cv/\XQ r v' heap' next'/\al w' R' (outs N') v' cv bsV/\an w' R' (outs N') heap' bsH' ∧
   (bsV++(bsH'++bsF)).Nodup/\(∀o b,N' (.out o)=some b->o < next')/\bz w R w' R' bsF/\(∀o b,N (.out o)=some b->N' (.out o)=some b):=by
  intro d hr hd;simp only[Option.some.injEq] at hr;subst hr;refine⟨_,_,_,next,_,N,[],_,rfl,⟨rfl,rfl,rfl⟩,bZ hd,hheap.keep (Av hb _),by simpa using hnd,hnx,Av hb bsF,fun _ _ h=>h⟩
 split at h
 ·rename_i hsl;have hk0:ks=[]:=by
   have:=(iZ ks).length_eq
   rw[hsl] at this;exact List.eq_nil_of_length_eq_zero (by simpa using this.symm)
  subst hk0;have hs0:ss=[]:=List.eq_nil_of_length_eq_zero (by simpa using hssl);have hv:=hnil.2 hs0;subst hv;exact fin h (.flat rfl)
 rename_i x r' hsl;refine fin h ?_;rw[hsl] at hrow;obtain⟨hl,hrow⟩:=hrow;have hlen':ss.length=(x::r').length:=by simpa using hl.symm
 rcases hrow with⟨_,hz⟩|⟨g,cap,cur,rfl,hbase,hgb,q1,q2,q3,q4⟩
 ·rw[hlen'] at hz;simp at hz
 have hel:((x::r').map rz).length=ss.length:=by simp[hlen']
 rw[←hel];show dO _ _ _ _;refine .slice g 0 cap 1 _ (fun i _=>cur[i]?.getD default) (by omega) ?_ (by rw[hel];exact q1) (by rw[hel,hssl];simp only[lim];omega) ?_ ?_
 ·intro e he;simp only[List.mem_map] at he;obtain⟨y,_,rfl⟩:=he;rfl
 ·intro i j hi hj;rw[hel] at hi;have hci:i < cur.size:=by omega
  refine⟨?_,fun hR=>by omega⟩
  have:j=0:=by omega
  subst this;simp[World.cell?,hgb,hci]
 intro i j e c he hc;have hi:i < (x::r').length:=by
  rcases Nat.lt_or_ge i (x::r').length with h'|h'
  ·exact h'
  rw[List.getElem?_eq_none (by simpa using h')] at he;simp at he
 have hcur:cur[i]?=some (encStr (x::r')[i]):=by
  have hti:(cur.toList.take (ss.length*1))[i]?=some (encStr (x::r')[i]):=by
   rw[q4,List.getElem?_map,List.getElem?_eq_getElem hi];rfl
  rw[List.getElem?_take_of_lt (by omega)] at hti;simpa using hti
 have he':e=rz (x::r')[i]:=by
  rw[List.getElem?_map,List.getElem?_eq_getElem hi] at he;simpa using he.symm
 subst he';have hc':c=rz (x::r')[i]:=by
  cases j with
  | zero=>simpa [rz,ap.cells] using hc.symm
  | succ j=>simp[rz,ap.cells] at hc
 subst hc';have hmem:(x::r')[i]∈ks:=(iZ ks).mem_iff.1 (by rw[hsl];exact List.getElem_mem hi);have hbnd:=(nF hks hrm).2 _ hmem;rw[hcur];refine .flat (w:=w') (v:=.string ⟨⟨(x::r')[i]⟩⟩) ?_;show decide ((ByteArray.mk ⟨(x::r')[i]⟩).size<=9223372036854775807)=true;exact decide_eq_true hbnd
end
end Go.Tp
namespace Go.Proofs.YtiihadmgkoamoaaGreatDoor
open Go.Tp Go.Shelf
theorem mW {g:FuncId} {args:List ac} {v:ac} {o:Option (List UInt8)} {c:List UInt8} (k m:Nat) (pre post:Heap) (h:WB g args o v c) (ha:dM 1 args=false) (he:gD (fun _=>k) args=args) (hv:fg (iG (fun _=>k) 1 m) v=v) :
  KC g (pB k::args) (pre++(ln k o++post)) m (XQ ⟨v,pre++(ln k (some c)++post),m⟩):=by
 have e1:∀(ρ:Nat->Nat) (o:Option (List UInt8)),ρ 0=k->lk ρ (ln 0 o)=ln k o:=by
  intro ρ o h0
  cases o <;> simp[ln,hB0,UR,lk,mC,qT,gD,fg,h0]
 have hf:=aB.frame h (fun _=>k) (heap:=pre++(ln k o++post)) (rest:=pre++post) (next:=m) (by
  rw[e1 _ _ rfl,←List.append_assoc,←List.append_assoc];exact List.Perm.append_right _ List.perm_append_comm) (by cases o <;> rfl) (by cases o <;> rfl) (by cases o <;> rfl) (by
   show (dB 1 (pB 0)||dM 1 args)=false;rw[ha];rfl)
 rw[show gD (fun _=>k) (pB 0::args)=pB k::args by show fg _ (pB 0)::gD _ args=_;rw[he];rfl] at hf;refine jf hf ?_;rintro v' h' m' ⟨v0,h1,n1,⟨rfl,rfl,rfl⟩,rfl,rfl,rfl⟩;rw[e1 _ _ rfl];refine⟨pre++(ln k (some c)++post),?_,by rw[hv],rfl,rfl⟩;rw[←List.append_assoc,←List.append_assoc];exact List.Perm.append_right _ List.perm_append_comm
noncomputable def JY:Hints:=⟨ao,Ls,aq,rowsOf aq 41⟩
def eN (E:List (Go.Value×ap)) (cs:List ap) (es:List (Go.Value×ap)) (n:Nat):Heap:=(.out 4,.cells [mS])::JX E cs es n
theorem W5 {E es:List (Go.Value×ap)} {cs:List ap} {n:Nat}:KC 73 [mS] (JX E cs es n) 4 (XQ ⟨.fn (.func 103) [] [.ptr (.out 4) 0],eN E cs es n,5⟩):=by
 refine aZ [] [] (x:=gU.of Tryz.f73 QT SE) (by kernel_rfl) ?_;exact fi
def np0:ac:=.dat (.flat (.pointer none))
def PB (ks:List ap) (H:Heap):ab:=⟨[(22,iv (Int.ofNat 0)),(21,iv (Int.ofNat ks.length)),(20,.dat (.slice ks)),(6,.ptr (.loc 6) 0),(0,hP)],[(.loc 6,.cells [np0,.dat nl])],H,5⟩
def Dz (ks:List ap) (H:Heap) (i:Int):ab:=⟨[(22,iv i),(21,iv (Int.ofNat ks.length)),(20,.dat (.slice ks)),(6,.ptr (.out 5) 0),(0,hP)],[],H,6⟩
def KY (ks:List ap) (H:Heap) (i:Int):ab:=⟨[(23,bv false),(22,iv i),(21,iv (Int.ofNat ks.length)),(20,.dat (.slice ks)),(6,.ptr (.out 5) 0),(0,hP)],[],H,6⟩
def uh:List UInt8:=[32,99,111,110,99,114,101,116,101]
def IE (ks lb:List ap) (H:Heap) (i j:Int):ab:=⟨[(49,iv j),(48,iv (Int.ofNat lb.length)),(47,.dat (sl lb)),(22,iv i),(21,iv (Int.ofNat ks.length)),(20,.dat (.slice ks)),(6,.ptr (.out 5) 0),(0,hP)],[],H,6⟩
def FD (ks lb:List ap) (H:Heap) (i j:Int):ab:=⟨[(50,bv false),(49,iv j),(48,iv (Int.ofNat lb.length)),(47,.dat (sl lb)),(22,iv i),(21,iv (Int.ofNat ks.length)),(20,.dat (.slice ks)),(6,.ptr (.out 5) 0),(0,hP)],[],H,6⟩
theorem Ts {ks:List ap} {l:List dq} {f:dq} {H H1 H2:Heap} {i:Int} {j:Nat} (hi:j < (aJ l).length) (ht:l[j]?=some f)
  (s1:oG (env ay.aN) .add 9 [.dat (sb [32]),.dat (sb f.nm)]=some ⟨.dat (sb ([32]++f.nm)),.keep⟩)
  (s2:oG (env ay.aN) .add 9 [.dat (sb ([32]++f.nm)),.dat (sb [58])]=some ⟨.dat (sb (([32]++f.nm)++[58])),.keep⟩)
  (w1:KC 74 [pB 5,.dat (sb (([32]++f.nm)++[58]))] H 6 (XQ ⟨.tup [iv (Int.ofNat (([32]++f.nm)++[58]).length),ee],H1,6⟩))
  (w2:KC 76 [pB 5,.dat f.ty.enc] H1 6 (XQ ⟨.tup [],H2,6⟩))
  {T:Exit->aa->Prop} (e:T .normal ((IE ks (aJ l) H2 i (aH .i64 (Int.ofNat j+1))).aw Tryz.f41.ntmps)) :
  KD (roundOf Tryz.f41 1) T ((IE ks (aJ l) H i (Int.ofNat j)).aw Tryz.f41.ntmps):=by
 have h1:=bA hi;have h2:=rZ ht;obtain⟨x,r,hx⟩:∃x r,aJ l=x::r:=by cases l with|nil=>simp at ht|cons x r=>exact⟨_,_,rfl⟩
 rw[hx] at h1 h2 e ⊢;clear ht hi hx;obtain⟨fnm,fk,ftn,fix,fa⟩:=f
 rcases fa with _|⟨b2,d2⟩ <;>
 ·refine aC [50] [51,55,56] (H:=JY) (live:=nA) (by kernel_rfl) ?_;refine ob h1 ?_;refine oo h2 ?_;refine oo s1 ?_;refine oo s2 ?_;refine oh w1 ?_;refine oh w2 ?_;exact oe e
theorem XA {ks lb:List ap} {H:Heap} {i:Int} {T:Exit->aa->Prop} (e:T (.exit 2) ((FD ks lb H i (Int.ofNat lb.length)).aw Tryz.f41.ntmps)) :
  KD (roundOf Tryz.f41 1) T ((IE ks lb H i (Int.ofNat lb.length)).aw Tryz.f41.ntmps):=by
 have h1:=bC (i:=lb.length) (L:=lb.length) (by omega);refine aC [50] [] (H:=JY) (live:=nA) (by kernel_rfl) ?_;refine ob h1 ?_;exact oe e
theorem NT {ks:List ap} {H H1 H2 H3 H4 H5:Heap} {i:Nat} {kn dn sn dg:List UInt8} {ar k ix:Int} {sa lb:List ap} {con:Bool}
  (h1:bq (Int.ofNat i) (Int.ofNat ks.length)=true) (h2:aK (env ay.aN) 60 [.dat (.slice ks),.dat (.flat (.int .i64 (Int.ofNat i)))]=some ⟨.ref [sb kn],.keep⟩)
  (hf:KC 49 [hP,.dat (sb kn)] H 6 (XQ ⟨.tup [.dat (eh dn ar k sn ix sa con lb),bv true],H,6⟩))
  (hi:ag 75 [iv ar] (.dat (sb dg)))
  (s1:oG (env ay.aN) .add 9 [.dat (sb kn),.dat (sb [32])]=some ⟨.dat (sb (kn++[32])),.keep⟩)
  (s2:oG (env ay.aN) .add 9 [.dat (sb (kn++[32])),.dat (sb dg)]=some ⟨.dat (sb ((kn++[32])++dg)),.keep⟩)
  (s3:oG (env ay.aN) .add 9 [.dat (sb ((kn++[32])++dg)),.dat (sb [32])]=some ⟨.dat (sb (((kn++[32])++dg)++[32])),.keep⟩)
  (w1:KC 74 [pB 5,.dat (sb (((kn++[32])++dg)++[32]))] H 6 (XQ ⟨.tup [iv (Int.ofNat (((kn++[32])++dg)++[32]).length),ee],H1,6⟩))
  (w2:KC 76 [pB 5,.dat (.agg [i64 k,sb sn,i64 ix,sl sa])] H1 6 (XQ ⟨.tup [],H2,6⟩))
  (w3:con=true->KC 74 [pB 5,.dat (sb uh)] H2 6 (XQ ⟨.tup [iv (Int.ofNat uh.length),ee],H3,6⟩)) (w3':con=false->H3=H2)
  (hl:KD (.loop (roundOf Tryz.f41 1)) (fun e s=>e=.exit 2/\s=(FD ks lb H4 (Int.ofNat i) (Int.ofNat lb.length)).aw Tryz.f41.ntmps) ((IE ks lb H3 (Int.ofNat i) (Int.ofNat 0)).aw Tryz.f41.ntmps))
  (w5:KC 77 [pB 5,.dat (bD 10)] H4 6 (XQ ⟨ee,H5,6⟩))
  {T:Exit->aa->Prop} (e:T .normal ((Dz ks H5 (aH .i64 (Int.ofNat i+1))).aw Tryz.f41.ntmps)) :
  KD (roundOf Tryz.f41 0) T ((Dz ks H (Int.ofNat i)).aw Tryz.f41.ntmps):=by
 have q1:=fy 9 dn ar k sn ix sa con lb
 cases con
 ·obtain rfl:=w3' rfl;clear w3 w3';refine aC [23] [24,100009,33,37,38] (H:=JY) (live:=nA) (by kernel_rfl) ?_;refine ob h1 ?_;refine oo h2 ?_;refine oh hf ?_;refine oo q1 ?_;refine oo s1 ?_;refine on hi ?_;refine oo s2 ?_;refine oo s3 ?_;refine oh w1 ?_
  rcases sa with _|⟨v2,v3⟩
  ·refine oh w2 ?_
   rcases lb with _|⟨v0,v1⟩ <;>
   ·refine lo hl ?_;rintro ex s ⟨rfl,rfl⟩;refine⟨_,rfl,?_⟩;refine oh w5 ?_;exact oe e
  refine oh w2 ?_
  rcases lb with _|⟨v4,v5⟩ <;>
  ·refine lo hl ?_;rintro ex s ⟨rfl,rfl⟩;refine⟨_,rfl,?_⟩;refine oh w5 ?_;exact oe e
 have w4:=w3 rfl;clear w3 w3';refine aC [23] [24,100009,33,37,38] (H:=JY) (live:=nA) (by kernel_rfl) ?_;refine ob h1 ?_;refine oo h2 ?_;refine oh hf ?_;refine oo q1 ?_;refine oo s1 ?_;refine on hi ?_;refine oo s2 ?_;refine oo s3 ?_;refine oh w1 ?_
 rcases sa with _|⟨v2,v3⟩
 ·refine oh w2 ?_;refine oh w4 ?_
  rcases lb with _|⟨v0,v1⟩ <;>
  ·refine lo hl ?_;rintro ex s ⟨rfl,rfl⟩;refine⟨_,rfl,?_⟩;refine oh w5 ?_;exact oe e
 refine oh w2 ?_;refine oh w4 ?_
 rcases lb with _|⟨v4,v5⟩ <;>
 ·refine lo hl ?_;rintro ex s ⟨rfl,rfl⟩;refine⟨_,rfl,?_⟩;refine oh w5 ?_;exact oe e
theorem NU {ks:List ap} {H H1 H2 H3 H4 H5:Heap} {kn dn sn dg:List UInt8} {ar k ix:Int} {sa lb:List ap} {con:Bool}
  (h1:bq (Int.ofNat 0) (Int.ofNat ks.length)=true) (h2:aK (env ay.aN) 60 [.dat (.slice ks),.dat (.flat (.int .i64 (Int.ofNat 0)))]=some ⟨.ref [sb kn],.keep⟩)
  (hf:KC 49 [hP,.dat (sb kn)] H 5 (XQ ⟨.tup [.dat (eh dn ar k sn ix sa con lb),bv true],H,5⟩))
  (hi:ag 75 [iv ar] (.dat (sb dg)))
  (s1:oG (env ay.aN) .add 9 [.dat (sb kn),.dat (sb [32])]=some ⟨.dat (sb (kn++[32])),.keep⟩)
  (s2:oG (env ay.aN) .add 9 [.dat (sb (kn++[32])),.dat (sb dg)]=some ⟨.dat (sb ((kn++[32])++dg)),.keep⟩)
  (s3:oG (env ay.aN) .add 9 [.dat (sb ((kn++[32])++dg)),.dat (sb [32])]=some ⟨.dat (sb (((kn++[32])++dg)++[32])),.keep⟩)
  (w1:KC 74 [pB 5,.dat (sb (((kn++[32])++dg)++[32]))] (hB0 5++H) 6 (XQ ⟨.tup [iv (Int.ofNat (((kn++[32])++dg)++[32]).length),ee],H1,6⟩))
  (w2:KC 76 [pB 5,.dat (.agg [i64 k,sb sn,i64 ix,sl sa])] H1 6 (XQ ⟨.tup [],H2,6⟩))
  (w3:con=true->KC 74 [pB 5,.dat (sb uh)] H2 6 (XQ ⟨.tup [iv (Int.ofNat uh.length),ee],H3,6⟩)) (w3':con=false->H3=H2)
  (hl:KD (.loop (roundOf Tryz.f41 1)) (fun e s=>e=.exit 2/\s=(FD ks lb H4 (Int.ofNat 0) (Int.ofNat lb.length)).aw Tryz.f41.ntmps) ((IE ks lb H3 (Int.ofNat 0) (Int.ofNat 0)).aw Tryz.f41.ntmps))
  (w5:KC 77 [pB 5,.dat (bD 10)] H4 6 (XQ ⟨ee,H5,6⟩))
  {T:Exit->aa->Prop} (e:T .normal ((Dz ks H5 (aH .i64 (Int.ofNat 0+1))).aw Tryz.f41.ntmps)) :
  KD (roundOf Tryz.f41 0) T ((PB ks H).aw Tryz.f41.ntmps):=by
 have q1:=fy 9 dn ar k sn ix sa con lb
 cases con
 ·obtain rfl:=w3' rfl;clear w3 w3';refine aC [23] [24,100009,33,37,38] (H:=JY) (live:=nA) (by kernel_rfl) ?_;refine ob h1 ?_;refine oo h2 ?_;refine oh hf ?_;refine oo q1 ?_;refine oo s1 ?_;refine on hi ?_;refine oo s2 ?_;refine oo s3 ?_;refine oh w1 ?_
  rcases sa with _|⟨v2,v3⟩
  ·refine oh w2 ?_
   rcases lb with _|⟨v0,v1⟩ <;>
   ·refine lo hl ?_;rintro ex s ⟨rfl,rfl⟩;refine⟨_,rfl,?_⟩;refine oh w5 ?_;exact oe e
  refine oh w2 ?_
  rcases lb with _|⟨v4,v5⟩ <;>
  ·refine lo hl ?_;rintro ex s ⟨rfl,rfl⟩;refine⟨_,rfl,?_⟩;refine oh w5 ?_;exact oe e
 have w4:=w3 rfl;clear w3 w3';refine aC [23] [24,100009,33,37,38] (H:=JY) (live:=nA) (by kernel_rfl) ?_;refine ob h1 ?_;refine oo h2 ?_;refine oh hf ?_;refine oo q1 ?_;refine oo s1 ?_;refine on hi ?_;refine oo s2 ?_;refine oo s3 ?_;refine oh w1 ?_
 rcases sa with _|⟨v2,v3⟩
 ·refine oh w2 ?_;refine oh w4 ?_
  rcases lb with _|⟨v0,v1⟩ <;>
  ·refine lo hl ?_;rintro ex s ⟨rfl,rfl⟩;refine⟨_,rfl,?_⟩;refine oh w5 ?_;exact oe e
 refine oh w2 ?_;refine oh w4 ?_
 rcases lb with _|⟨v4,v5⟩ <;>
 ·refine lo hl ?_;rintro ex s ⟨rfl,rfl⟩;refine⟨_,rfl,?_⟩;refine oh w5 ?_;exact oe e
theorem Xt {ks:List ap} {H:Heap} {T:Exit->aa->Prop} (e:T (.exit 0) ((KY ks H (Int.ofNat ks.length)).aw Tryz.f41.ntmps)) :
  KD (roundOf Tryz.f41 0) T ((Dz ks H (Int.ofNat ks.length)).aw Tryz.f41.ntmps):=by
 have h1:=bC (i:=ks.length) (L:=ks.length) (by omega);refine aC [23] [] (H:=JY) (live:=nA) (by kernel_rfl) ?_;refine ob h1 ?_;exact oe e
theorem aaJ {E es:List (Go.Value×ap)} {cs ks:List ap} {n:Nat} {nm:List UInt8} {x0:UInt8} {r:List UInt8}
  (hr:od 71 [hP,.dat (sb nm),mS] [] cs es n (.tup []) E)
  (hk:KC 73 [mS] (JX E cs es n) 4 (XQ ⟨.fn (.func 103) [] [.ptr (.out 4) 0],eN E cs es n,5⟩))
  (hs:KC 72 [.fn (.func 103) [] [.ptr (.out 4) 0]] (eN E cs es n) 5 (XQ ⟨.dat (.slice ks),eN E cs es n,5⟩))
  (hl:KD (.loop (roundOf Tryz.f41 0)) (fun e s=>e=.exit 0/\s=(KY ks (ln 5 (some (x0::r))++eN E cs es n) (Int.ofNat ks.length)).aw Tryz.f41.ntmps) ((PB ks (eN E cs es n)).aw Tryz.f41.ntmps))
  (hst:KC 78 [pB 5] (ln 5 (some (x0::r))++eN E cs es n) 6 (XQ ⟨.dat (sb (x0::r)),[(.out 5,.cells [.ptr (.out 5) 0,.dat (.slice (bX (x0::r)))])]++eN E cs es n,6⟩)) :
  cR 41 [hP,.dat (sb nm)] cs es n (.dat (sb (x0::r))):=by
 have hg:qJ 3 ⟨.dat (sb (x0::r)),[(.out 5,.cells [.ptr (.out 5) 0,.dat (.slice (bX (x0::r)))])]++eN E cs es n,6⟩=⟨.dat (sb (x0::r)),hG 2 (av cs) es n,3⟩:=by
  have h1:eF 3 ([(.out 5,.cells [.ptr (.out 5) 0,.dat (.slice (bX (x0::r)))])]++eN E cs es n)=hG 2 (av cs) es n:=rfl;have h2:cG 3 (hG 2 (av cs) es n)=false:=by simp[cG,hG,lY,jz,dM,dB];exact⟨rfl,rfl⟩
  have h3:dB 3 (.dat (sb (x0::r)))=false:=rfl;unfold qJ;dsimp only;rw[h1,h2,h3];rfl
 refine co [] [] (x:=.of Tryz.f41 Ls nA) ?_;refine oh hr ?_;refine oh hk ?_;refine oh hs ?_;refine lo hl ?_;rintro ex s ⟨rfl,rfl⟩;refine⟨_,rfl,?_⟩;refine oh hst ?_;exact bh (by kernel_rfl) hg
theorem L8 (x y:List UInt8):Ep y x=!mu x y:=by
 rw[rX,Ai,Bool.eq_iff_iff];simp[List.not_lt]
theorem Ad:∀{l:List (List UInt8)},rA l->rS l=true
 | [],_=>rfl
 | [x],_=>rfl
 | x::y::r,h=>by
  have h1:mu x y=true:=List.rel_of_pairwise_cons h List.mem_cons_self;rw[rS,L8,h1];exact Ad (List.Pairwise.of_cons h)
theorem M1 {S L:List (List UInt8)} (h:same S L):ou S=L:=by
 have hp:(ou S).Perm L:=(iZ S).trans ((List.perm_ext_iff_of_nodup h.1 (Cg h.2.1)).2 h.2.2);refine List.Perm.eq_of_pairwise (le:=fun a b=>Ep a b=true) (fun a b _ _ h1 h2=>?_) (kg S) ?_ hp
 ·simp only[rX,decide_eq_true_eq] at h1 h2;exact List.le_antisymm h1 h2
 refine List.Pairwise.imp ?_ h.2.1;intro a b hab;rw[L8]
 cases hba:mu b a with
 | false=>rfl
 | true=>have:=vq hab hba;rw[D9] at this;simp at this
theorem wQ:∀{S:List (List UInt8)},(∀x∈S,x.length<=24)->ko (dQ S)=some S
 | [],_=>rfl
 | x::r,h=>by
  have hx:=h x List.mem_cons_self;have ih:=wQ (S:=r) (fun y hy=>h y (List.mem_cons_of_mem _ hy));show (match Nat.ble x.length 9223372036854775807 with|true=>(match ko (dQ r) with|some l=>some (x::l)|none=>none)|false=>none)=_;rw[ih,fS (by omega:x.length<=9223372036854775807)]
theorem ZY (m:Nat):AnyZ.SortsIn Tryz.prog Tryz.oP Fence.wide m:=
 ⟨fun blk off cap ss W hH hblk hsz=>callsIn_wide.2 (AnyM.slices_Sort_string Tryz.YG blk off cap ss W hH hblk hsz),
  fun p cap W=>callsIn_wide.2 (AnyM.slices_Sort_string_none Tryz.YG p cap W)⟩
theorem Ow {S L:List (List UInt8)} {es:List (Go.Value×ap)} {cs:List ap} {n:Nat} (h:same S L) (hS:∀x∈S,x.length<=24) (hn:S.length < 1000000) (hne:L≠[]) :
  KC 72 [.fn (.func 103) [] [.ptr (.out 4) 0]] (eN (dQ S) cs es n) 5 (XQ ⟨.dat (.slice (L.map sb)),eN (dQ S) cs es n,5⟩):=by
 refine Ub (ρ:=Tryz.oP) (ρ':=Tryz.CO) Tryz.Vk {Tryz.aeg with } (ZY 4) (enters_of Tryz.func102 (by kernel_rfl) rfl) (enters_of Tryz.func103 (by kernel_rfl) rfl) Tryz.underlying9 ?_;have h1:∀E:List (Go.Value×ap),xY 103 [.fn (.func 103) [] [.ptr (.out 4) 0]] (eN E cs es n) 5=(match ko E with
   | some ks=>(match Nat.ble ks.length 4294967296&&rS (ou ks) with
    | true=>(match ou ks with
     | []=>some ⟨.dat (.flat (.slice none 0 0)),eN E cs es n,5⟩
     | x::r=>some ⟨.dat (.slice ((x::r).map rz)),eN E cs es n,5⟩)
    | false=>none)
   | none=>none):=fun E=>by kernel_rfl
 show xY 103 _ _ _=_;rw[h1,wQ hS];dsimp only;rw[M1 h,Ad h.2.1,fS (by omega:S.length<=4294967296)]
 cases L with
 | nil=>exact absurd rfl hne
 | cons x r=>rfl
def iU (f:dq):List UInt8:=(([32]++f.nm)++[58])++f.ty.BH qM
def C3 (c:Bool):List UInt8:=match c with|true=>uh|false=>[]
def js (n:List UInt8) (d:aQ):List UInt8:=((((((n++[32])++qM d.ar)++[32])++d.sup.BH qM)++C3 d.con)++d.fl.flatMap iU)++[10]
def ra (ds:List aQ) (ks:List (List UInt8)):List UInt8:=ks.flatMap (fun n=>js n (iO (aD ds n)))
theorem vJ {α β:Type} {g:α->List β} {B:Nat}:∀{l:List α},(∀f∈l,(g f).length<=B)->(l.flatMap g).length<=l.length*B
 | [],_=>by simp
 | x::r,h=>by
  have h1:=h x List.mem_cons_self;have h2:=vJ (g:=g) (B:=B) (l:=r) (fun f hf=>h f (List.mem_cons_of_mem _ hf));rw[List.flatMap_cons,List.length_append,List.length_cons,Nat.succ_mul];omega
theorem NX {d:aQ} (h:d.sm) {f:dq} (hf:f∈d.fl):(iU f).length<=6050:=by
 obtain⟨h1,h2,h3⟩:=h.fl f hf;have h4:=sJ f.ty h3;unfold iU;simp only[List.length_append,List.length_singleton];omega
theorem C2 (c:Bool):(C3 c).length<=9:=by cases c <;> decide
theorem AM {d:aQ} (h:d.sm) (j:Nat):((d.fl.take j).flatMap iU).length<=40000:=by
 have h1:=vJ (g:=iU) (B:=6050) (l:=d.fl.take j) (fun f hf=>NX h (List.mem_of_mem_take hf));have h2:(d.fl.take j).length*6050<=6*6050:=Nat.mul_le_mul_right _ (by rw[List.length_take];have:=h.fn;omega);omega
theorem Km {n:List UInt8} {d:aQ} (hn:n.length<=24) (h:d.sm):(js n d).length<=50000:=by
 have h1:=sJ d.sup h.sup.2;have h2:=h.sup.1;have h3:=AM h d.fl.length;rw[List.take_length] at h3;have h4:=C2 d.con;have h5:=EQ d.ar;unfold js;simp only[List.length_append,List.length_singleton];omega
theorem Pk {x:UInt8} {r:List UInt8} (post:Heap):KC 78 [pB 5] (ln 5 (some (x::r))++post) 6 (XQ ⟨.dat (sb (x::r)),[(.out 5,.cells [.ptr (.out 5) 0,.dat (.slice (bX (x::r)))])]++post,6⟩):=by
 have hf:=aB.frame (Uk (x:=x) (r:=r)) (fun _=>5) (heap:=ln 5 (some (x::r))++post) (rest:=post) (next:=6) (List.Perm.refl _) rfl rfl rfl rfl;refine hf.mono ?_;rintro v' h' m' ⟨v0,h1,n1,⟨rfl,rfl,rfl⟩,rfl,rfl,rfl⟩;exact⟨rfl,rfl,rfl⟩
theorem Ml {d:aQ} (hs:d.sm) (hx:d.cB) {ks:List ap} {c:List UInt8} {i:Int} {post:Heap} (hc:c.length < 60000000) :
  KD (.loop (roundOf Tryz.f41 1)) (fun e s=>e=.exit 2/\s=(FD ks (aJ d.fl) (ln 5 (some (c++d.fl.flatMap iU))++post) i (Int.ofNat (aJ d.fl).length)).aw Tryz.f41.ntmps) ((IE ks (aJ d.fl) (ln 5 (some c)++post) i (Int.ofNat 0)).aw Tryz.f41.ntmps):=by
 refine bb (St:=fun j=>(IE ks (aJ d.fl) (ln 5 (some (c++(d.fl.take j).flatMap iU))++post) i (Int.ofNat j)).aw Tryz.f41.ntmps) (aJ d.fl).length ?_ ?_ (i:=0) (Nat.zero_le _) |> (fun h=>by simpa using h)
 ·intro j hj;obtain⟨f,ht,hm⟩:=gv hj;have hw:aH .i64 (Int.ofNat j+1)=Int.ofNat (j+1):=bg (by rw[bd] at hj;have:=hs.fn;omega);obtain⟨f1,f2,f3⟩:=hs.fl f hm;have f4:=sJ f.ty f3;have f5:=AM hs j;have f6:=hx.2.1 f hm;have hl:(c++(d.fl.take j).flatMap iU).length < 70000000:=by rw[List.length_append];omega
  generalize hc1:c++(d.fl.take j).flatMap iU=c1 at hl;have s1:=nV (a:=[32]) (b:=f.nm) (by simp only[List.length_singleton];omega);have s2:=nV (a:=[32]++f.nm) (b:=[58]) (by simp only[List.length_append,List.length_singleton];omega);have w1:=mW 5 6 [] post (HX (o:=some c1) (s:=([32]++f.nm)++[58]) (by simp only[eO,List.length_append,List.length_singleton];omega)) rfl rfl rfl;have w2:=mW 5 6 [] post (acL (dg:=qM) (p:=ixP) (fun ix h=>by obtain⟨n,hn,rfl⟩:=h;exact Ky n hn) f.ty (some (c1++(([32]++f.nm)++[58]))) (nf f.ty (by omega)) (IH f.ty f3 f6.2) (by simp only[eO,List.length_append,List.length_singleton];omega)) rfl rfl rfl;have hq:eO (some (c1++(([32]++f.nm)++[58]))) (f.ty.BH qM)=c1++iU f:=by simp only[eO,iU,List.append_assoc]
  rw[hq] at w2;have he:c++(d.fl.take (j+1)).flatMap iU=c1++iU f:=by rw[uR ht,←List.append_assoc,hc1]
  rw[he];exact Ts hj ht s1 s2 w1 w2 (by rw[hw];rfl)
 have e:=XA (ks:=ks) (lb:=aJ d.fl) (H:=ln 5 (some (c++d.fl.flatMap iU))++post) (i:=i) (T:=lm (fun _=>False) (fun e s=>e=.exit 2/\s=(FD ks (aJ d.fl) (ln 5 (some (c++d.fl.flatMap iU))++post) i (Int.ofNat (aJ d.fl).length)).aw Tryz.f41.ntmps)) ⟨rfl,rfl⟩;rw[bd] at e ⊢;rw[List.take_length];exact e
def ZU (ds:List aQ) (ks:List (List UInt8)) (B:Heap):Nat->ab
 | 0=>PB (ks.map sb) B
 | i+1=>Dz (ks.map sb) (ln 5 (some (ra ds (ks.take (i+1))))++B) (Int.ofNat (i+1))
theorem Xr {ds:List aQ} {tl:List ap} {E:List (Go.Value×ap)} (hfi:∀d∈ds,d.cB) (hs:UW ds) {ks:List (List UInt8)} (hk:ks.length < 1000) (hd:∀x∈ks,eg (aD ds x)=true) {i:Nat} (hi:i < ks.length) {T:Exit->aa->Prop}
  (e:T .normal ((ZU ds ks (eN E (bK ds++tl) (bE ds 0) ds.length) (i+1)).aw Tryz.f41.ntmps)) :
  KD (roundOf Tryz.f41 0) T ((ZU ds ks (eN E (bK ds++tl) (bE ds 0) ds.length) i).aw Tryz.f41.ntmps):=by
 have hg:ks[i]?=some ks[i]:=List.getElem?_eq_getElem hi;have hm:ks[i]∈ks:=List.getElem_mem hi;generalize ks[i]=kn at hg hm;have hdk:=hd kn hm;obtain⟨d,hfd⟩:∃d,aD ds kn=some d:=by cases h:aD ds kn with|none=>rw[h] at hdk;simp[eg] at hdk|some d=>exact⟨d,rfl⟩
 obtain⟨hdm,hdn⟩:=im hfd;have hsd:=hs d hdm;have hfd2:=hfi d hdm;have hkl:kn.length<=24:=by rw[←hdn];exact hsd.nm
 obtain⟨ar,har,harE⟩:=hsd.ar;have hItoa:ag 75 [iv d.ar] (.dat (sb (qM d.ar))):=by rw[harE];exact Ky ar har
 have hdg:=EQ d.ar;have htx:=sJ d.sup hsd.sup.2;have htx2:=hsd.sup.1;have hcon:=C2 d.con;have hfl:=AM hsd d.fl.length;rw[List.take_length] at hfl;have hlen:(ra ds (ks.take i)).length<=i*50000:=by
  have h1:=vJ (g:=fun n=>js n (iO (aD ds n))) (B:=50000) (l:=ks.take i) (fun n hn=>by
   have h2:=hd n (List.mem_of_mem_take hn)
   cases h3:aD ds n with
   | none=>rw[h3] at h2;simp[eg] at h2
   | some d2=>
    obtain⟨h4,h5⟩:=im h3;have h6:=hs d2 h4;exact Km (by rw[←h5];exact h6.nm) h6)
  have h2:(ks.take i).length*50000<=i*50000:=Nat.mul_le_mul_right _ (by rw[List.length_take];omega);exact Nat.le_trans h1 h2
 have hlt:(ra ds (ks.take i)).length<=50000000:=by omega
 have hnext:ra ds (ks.take (i+1))=ra ds (ks.take i)++js kn d:=by
  unfold ra;rw[uR hg,hfd];rfl
 have hw:aH .i64 (Int.ofNat i+1)=Int.ofNat (i+1):=bg (by omega);have h1:bq (Int.ofNat i) (Int.ofNat (ks.map sb).length)=true:=bA (by simpa using hi);have h2:=Y0 hg;have s1:=nV (a:=kn) (b:=[32]) (by simp only[List.length_singleton];omega);have s2:=nV (a:=kn++[32]) (b:=qM d.ar) (by simp only[List.length_append,List.length_singleton];omega);have s3:=nV (a:=(kn++[32])++qM d.ar) (b:=[32]) (by simp only[List.length_append,List.length_singleton];omega)
 -- what is written, from o on
 have key:∀(o:Option (List UInt8)) (c0:List UInt8),c0.length<=50000000->(∀s,eO o s=c0++s)->
   ∃c1 c2 c3 c4:List UInt8,KC 74 [pB 5,.dat (sb (((kn++[32])++qM d.ar)++[32]))] (ln 5 o++eN E (bK ds++tl) (bE ds 0) ds.length) 6 (XQ ⟨.tup [iv (Int.ofNat (((kn++[32])++qM d.ar)++[32]).length),ee],ln 5 (some c1)++eN E (bK ds++tl) (bE ds 0) ds.length,6⟩) ∧
    KC 76 [pB 5,.dat d.sup.enc] (ln 5 (some c1)++eN E (bK ds++tl) (bE ds 0) ds.length) 6 (XQ ⟨.tup [],ln 5 (some c2)++eN E (bK ds++tl) (bE ds 0) ds.length,6⟩) ∧
    (d.con=true->KC 74 [pB 5,.dat (sb uh)] (ln 5 (some c2)++eN E (bK ds++tl) (bE ds 0) ds.length) 6 (XQ ⟨.tup [iv (Int.ofNat uh.length),ee],ln 5 (some c3)++eN E (bK ds++tl) (bE ds 0) ds.length,6⟩)) ∧
    (d.con=false->ln 5 (some c3)++eN E (bK ds++tl) (bE ds 0) ds.length=ln 5 (some c2)++eN E (bK ds++tl) (bE ds 0) ds.length) ∧
    c3.length < 60000000/\c4=c3++d.fl.flatMap iU ∧
    KC 77 [pB 5,.dat (bD 10)] (ln 5 (some c4)++eN E (bK ds++tl) (bE ds 0) ds.length) 6 (XQ ⟨ee,ln 5 (some (c0++js kn d))++eN E (bK ds++tl) (bE ds 0) ds.length,6⟩):=by
  intro o c0 hc0 ho;have b1:(c0++(((kn++[32])++qM d.ar)++[32])).length < 51000000:=by simp only[List.length_append,List.length_singleton];omega
  have w1:=mW 5 6 [] (eN E (bK ds++tl) (bE ds 0) ds.length) (HX (o:=o) (s:=((kn++[32])++qM d.ar)++[32]) (by rw[ho];omega)) rfl rfl rfl;rw[ho] at w1;have w2:=mW 5 6 [] (eN E (bK ds++tl) (bE ds 0) ds.length) (acL (dg:=qM) (p:=ixP) (fun ix h=>by obtain⟨n,hn,rfl⟩:=h;exact Ky n hn) d.sup (some (c0++(((kn++[32])++qM d.ar)++[32]))) (nf d.sup (by omega)) (IH d.sup hsd.sup.2 hfd2.1.2) (by show ((c0++(((kn++[32])++qM d.ar)++[32]))++d.sup.BH qM).length < _;rw[List.length_append];omega)) rfl rfl rfl;have hc2:((c0++(((kn++[32])++qM d.ar)++[32]))++d.sup.BH qM).length < 52000000:=by rw[List.length_append];omega
  refine⟨_,(c0++(((kn++[32])++qM d.ar)++[32]))++d.sup.BH qM,((c0++(((kn++[32])++qM d.ar)++[32]))++d.sup.BH qM)++C3 d.con,_,w1,w2,?_,?_,by rw[List.length_append];omega,rfl,?_⟩
  ·intro hc;rw[hc];exact mW 5 6 [] (eN E (bK ds++tl) (bE ds 0) ds.length) (HX (o:=some ((c0++(((kn++[32])++qM d.ar)++[32]))++d.sup.BH qM)) (s:=uh) (by simp only[eO];rw[List.length_append];have:uh.length=9:=rfl;omega)) rfl rfl rfl
  ·intro hc;rw[hc];simp only[C3,List.append_nil]
  have hE:c0++js kn d=eO (some (((c0++(((kn++[32])++qM d.ar)++[32]))++d.sup.BH qM++C3 d.con)++d.fl.flatMap iU)) [10]:=by simp only[eO,js,List.append_assoc]
  rw[hE];exact mW 5 6 [] (eN E (bK ds++tl) (bE ds 0) ds.length) (acP (o:=some (((c0++(((kn++[32])++qM d.ar)++[32]))++d.sup.BH qM++C3 d.con)++d.fl.flatMap iU)) (b:=10) (by simp only[eO,List.length_append,List.length_singleton] at *;omega)) rfl rfl rfl
 cases i with
 | zero=>
  have hf:=E5 2 5 [(.out 4,.cells [mS]),(.out 3,.map E)] ds tl kn;rw[hfd] at hf;obtain⟨c1,c2,c3,c4,w1,w2,w3,w3',g1,rfl,w5⟩:=key none [] (by simp) (fun s=>rfl);have hl:=Ml hsd hfd2 (ks:=ks.map sb) (i:=Int.ofNat 0) (post:=eN E (bK ds++tl) (bE ds 0) ds.length) g1;have hT:ra ds (ks.take (0+1))=[]++js kn d:=by rw[hnext];rfl
  have e2:T .normal ((Dz (ks.map sb) (ln 5 (some ([]++js kn d))++eN E (bK ds++tl) (bE ds 0) ds.length) (aH .i64 (Int.ofNat 0+1))).aw Tryz.f41.ntmps):=by rw[hw,←hT];exact e
  show KD (roundOf Tryz.f41 0) T ((PB (ks.map sb) (eN E (bK ds++tl) (bE ds 0) ds.length)).aw Tryz.f41.ntmps);obtain⟨dn,dar,⟨sk,sn,six,sa⟩,con,fl⟩:=d;exact NU h1 h2 hf hItoa s1 s2 s3 w1 w2 w3 w3' hl w5 e2
 | succ i=>
  have hf:=E5 2 6 (ln 5 (some (ra ds (ks.take (i+1))))++[(.out 4,.cells [mS]),(.out 3,.map E)]) ds tl kn;rw[hfd] at hf;obtain⟨c1,c2,c3,c4,w1,w2,w3,w3',g1,rfl,w5⟩:=key (some (ra ds (ks.take (i+1)))) (ra ds (ks.take (i+1))) hlt (fun s=>rfl);have hl:=Ml hsd hfd2 (ks:=ks.map sb) (i:=Int.ofNat (i+1)) (post:=eN E (bK ds++tl) (bE ds 0) ds.length) g1;have e2:T .normal ((Dz (ks.map sb) (ln 5 (some (ra ds (ks.take (i+1))++js kn d))++eN E (bK ds++tl) (bE ds 0) ds.length) (aH .i64 (Int.ofNat (i+1)+1))).aw Tryz.f41.ntmps):=by rw[hw,←hnext];exact e
  show KD (roundOf Tryz.f41 0) T ((Dz (ks.map sb) (ln 5 (some (ra ds (ks.take (i+1))))++eN E (bK ds++tl) (bE ds 0) ds.length) (Int.ofNat (i+1))).aw Tryz.f41.ntmps);obtain⟨dn,dar,⟨sk,sn,six,sa⟩,con,fl⟩:=d;exact NT h1 h2 hf hItoa s1 s2 s3 w1 w2 w3 w3' hl w5 e2
theorem aak {d:aQ} (h:d.sm):d.low:=⟨h.sup.1,h.fn,fun f hf=>(h.fl f hf).2.1⟩
def Ij (ds:List aQ) (nm:List UInt8):List (List UInt8):=dE ds (ds.length+1) nm []
theorem PT:same [] []:=⟨List.nodup_nil,List.Pairwise.nil,fun _=>Iff.rfl⟩
theorem vp (ds:List aQ):ke ds [] < ds.length+1:=Nat.lt_succ_of_le List.countP_le_length
theorem zB {ds:List aQ} {nm:List UInt8} (h:eg (aD ds nm)=true):nm∈Ij ds nm:=by
 unfold Ij;rw[dE]
 cases hf:aD ds nm with
 | none=>rw[hf] at h;simp[eg] at h
 | some d=>exact pw (fun S n x hx=>rI ds ds.length n S x hx) _ (ij.2 (.inr rfl))
theorem afK {ds:List aQ} {tl:List ap} (hfi:∀d∈ds,d.cB) (hs:UW ds) (hn:ds.length < 1000) {nm:List UInt8} (hd:eg (aD ds nm)=true):og 41 [hP,.dat (sb nm)] ds tl (.dat (sb (ra ds (Ij ds nm)))):=by
 have hr:=Mv (tl:=tl) (fun d hd=>aak (hs d hd)) (ds.length+1) nm [] (vp ds);have hsm:=zC ds (ds.length+1) nm PT;have hdec:=rJ ds (ds.length+1) nm (S:=[]) (fun x hx=>by simp at hx);have hself:=zB hd;unfold Ij at *;have hlen:=XL hsm.2.1 hdec;have hne:dE ds (ds.length+1) nm []≠[]:=List.ne_nil_of_mem hself;have hS24:∀x∈gM ds (ds.length+1) nm [],x.length<=24:=by
  intro x hx;have h2:=hdec x ((hsm.2.2 x).1 hx)
  cases h3:aD ds x with
  | none=>rw[h3] at h2;simp[eg] at h2
  | some d2=>
   obtain⟨h4,h5⟩:=im h3;rw[←h5];exact (hs d2 h4).nm
 have hSl:(gM ds (ds.length+1) nm []).length < 1000000:=by
  have:=vo hsm.1 (fun x hx=>(hsm.2.2 x).1 hx)
  omega
 have hk:=W5 (E:=dQ (gM ds (ds.length+1) nm [])) (es:=bE ds 0) (cs:=bK ds++tl) (n:=ds.length);have hso:=Ow (es:=bE ds 0) (cs:=bK ds++tl) (n:=ds.length) hsm hS24 hSl hne;generalize dQ (gM ds (ds.length+1) nm [])=E at hr hk hso;generalize hks:dE ds (ds.length+1) nm []=ks at *;have hl:KD (.loop (roundOf Tryz.f41 0)) (fun e s=>e=.exit 0/\s=(KY (ks.map sb) (ln 5 (some (ra ds ks))++eN E (bK ds++tl) (bE ds 0) ds.length) (Int.ofNat (ks.map sb).length)).aw Tryz.f41.ntmps) ((PB (ks.map sb) (eN E (bK ds++tl) (bE ds 0) ds.length)).aw Tryz.f41.ntmps):=by
  refine bb (St:=fun i=>(ZU ds ks (eN E (bK ds++tl) (bE ds 0) ds.length) i).aw Tryz.f41.ntmps) ks.length ?_ ?_ (i:=0) (Nat.zero_le _)
  ·intro i hi;exact Xr hfi hs (by omega) hdec hi rfl
  cases hkl:ks.length with
  | zero=>exact absurd (List.length_eq_zero_iff.1 hkl) hne
  | succ q=>
   have e:=Xt (ks:=ks.map sb) (H:=ln 5 (some (ra ds ks))++eN E (bK ds++tl) (bE ds 0) ds.length) (T:=lm (fun _=>False) (fun e s=>e=.exit 0/\s=(KY (ks.map sb) (ln 5 (some (ra ds ks))++eN E (bK ds++tl) (bE ds 0) ds.length) (Int.ofNat (ks.map sb).length)).aw Tryz.f41.ntmps)) ⟨rfl,rfl⟩;show KD (roundOf Tryz.f41 0) _ ((Dz (ks.map sb) (ln 5 (some (ra ds (ks.take (q+1))))++eN E (bK ds++tl) (bE ds 0) ds.length) (Int.ofNat (q+1))).aw Tryz.f41.ntmps);rw[←hkl,List.take_length];rw[List.length_map] at e ⊢;exact e
 have hfne:ra ds ks≠[]:=by
  cases ks with
  | nil=>exact absurd rfl hne
  | cons k0 r=>simp[ra,js]
 cases hT:ra ds ks with
 | nil=>exact absurd hT hfne
 | cons x0 r=>
  rw[hT] at hl;exact aaJ hr hk hso hl (Pk _)
theorem AP {X:List aQ}:∀{ds:List aQ} {nm:List UInt8} {d:aQ},aD ds nm=some d->aD (ds++X) nm=some d
 | [],nm,d,h=>by simp[aD] at h
 | x::r,nm,d,h=>by
  rw[List.cons_append];unfold aD at h ⊢
  cases he:dU nm x.nm with
  | true=>rw[he] at h;exact h
  | false=>rw[he] at h;exact AP h
theorem kY {X ds:List aQ} {nm:List UInt8} (h:eg (aD ds nm)=true):aD (ds++X) nm=aD ds nm:=by
 cases hf:aD ds nm with
 | none=>rw[hf] at h;simp[eg] at h
 | some d=>exact AP hf
theorem AJ:∀(l:List aQ) (ds:List aQ),∃X,l.foldl (fun ds d=>(eQ ds d).2) ds=ds++X
 | [],ds=>⟨[],by simp⟩
 | d::r,ds=>by
  obtain⟨X,hX⟩:=AJ r (eQ ds d).2
  rcases pI ds d with e|⟨e,_⟩
  ·exact⟨X,by rw[List.foldl_cons,hX,e]⟩
  exact⟨d::X,by rw[List.foldl_cons,hX,e];simp⟩
def knP (ds:List aQ) (nm:List UInt8) (n:Nat):Prop:=∃d,aD ds nm=some d/\d.ar=Int.ofNat n
mutual
theorem CL {ds:List aQ}:∀t:Ty,t.from (knP ds)->cy ds t=true
 | .mk k nm ix l,h=>by
  rw[Ty.from] at h;have ih:=As l h.2;rw[cy,ih]
  cases hk:aP k 2 with
  | false=>rfl
  | true=>
   obtain⟨d,h1,h2⟩:=h.1 (eY hk)
   have:fx ds (.mk k nm ix l)=true:=by
    show (match aD ds nm with|some d=>aP d.ar (Int.ofNat (au l).length)|none=>false)=true;rw[h1,aF];dsimp only;rw[h2,dG]
   rw[this];rfl
theorem As {ds:List aQ}:∀l:List Ty,jR (knP ds) l->fC ds l=false
 | [],_=>rfl
 | t::r,h=>by
  rw[jR] at h;rw[fC,CL t h.1,As r h.2];rfl
end
theorem sr {ds X:List aQ} {t:Ty} (h:eg (aD ds t.nm)=true):fx (ds++X) t=fx ds t:=by
 obtain⟨k,nm,ix,l⟩:=t;have h:eg (aD ds nm)=true:=h;show (match aD (ds++X) nm with|some d=>aP d.ar (Int.ofNat (au l).length)|none=>false)=(match aD ds nm with|some d=>aP d.ar (Int.ofNat (au l).length)|none=>false);rw[kY h]
mutual
theorem CK {ds X:List aQ}:∀t:Ty,cy ds t=true->cy (ds++X) t=true
 | .mk k nm ix l,h=>by
  rw[cy] at h ⊢;rw[Bool.and_eq_true] at h ⊢;refine⟨?_,?_⟩
  ·cases hk:aP k 2 with
   | false=>rfl
   | true=>
    have h1:=h.1;rw[hk] at h1;have h1:fx ds (.mk k nm ix l)=true:=by simpa using h1
    have h2:eg (aD ds nm)=true:=by
     have h3:(match aD ds nm with|some d=>aP d.ar (Int.ofNat (au l).length)|none=>false)=true:=h1
     cases hf:aD ds nm with
     | none=>rw[hf] at h3;simp at h3
     | some d=>rfl
    rw[sr h2,h1];rfl
  have h2:fC ds l=false:=by simpa using h.2
  rw[Ar l h2];rfl
theorem Ar {ds X:List aQ}:∀l:List Ty,fC ds l=false->fC (ds++X) l=false
 | [],_=>rfl
 | t::r,h=>by
  rw[fC,Bool.or_eq_false_iff] at h;rw[fC,CK t (by simpa using h.1),Ar r h.2];rfl
end
def Cm (ds:List aQ) (t:Ty):Prop:=aP t.kind 2=true->eg (aD ds t.nm)=true
theorem P6 {ds:List aQ} (hu:Up ds) {t:Ty} (hk:aP t.kind 2=true) (h:eg (aD ds t.nm)=true):Cm ds (Fj ds t):=by
 cases hf:aD ds t.nm with
 | none=>rw[hf] at h;simp[eg] at h
 | some d=>
  obtain⟨p,h1,h2⟩:=AR hf;have hm:=List.mem_of_getElem? h2;have e:Fj ds t=d.sup.inst t.args 0:=by unfold Fj;rw[hf];rfl
  obtain⟨e1,e2⟩:=inst_nv (hu.nv d hm) t.args 0;rw[e];unfold Cm;rw[e1,e2];intro hk2;obtain⟨j,h3,_⟩:=hu.up p d h2 hk2;obtain⟨o,_,h4,_⟩:=jK h3;rw[h4];rfl
theorem OZ {ds X:List aQ} {t:Ty} (h:eg (aD ds t.nm)=true):Fj (ds++X) t=Fj ds t:=by
 unfold Fj;rw[kY h]
theorem Fx {ds X:List aQ} (hu:Up ds) (nm:List UInt8):∀(f:Nat) (t:Ty),Cm ds t->ry (ds++X) f t nm=ry ds f t nm
 | 0,_,_=>rfl
 | f+1,t,h=>by
  rw[ry,ry]
  cases hk:aP t.kind 2 with
  | false=>rfl
  | true=>
   have h1:=h hk;dsimp only;rw[sr h1,OZ h1]
   cases dU t.nm nm with
   | true=>rfl
   | false=>
    cases fx ds t with
    | false=>rfl
    | true=>exact Fx hu nm f _ (P6 hu hk h1)
theorem Cc {ds:List aQ} (hu:Up ds) (nm:List UInt8):∀(f g:Nat) (t:Ty),qV ds t < f->qV ds t < g->ry ds f t nm=ry ds g t nm
 | 0,_,_,h,_=>by omega
 | _+1,0,_,_,h=>by omega
 | f+1,g+1,t,h1,h2=>by
  rw[ry,ry]
  cases hk:aP t.kind 2 with
  | false=>rfl
  | true=>
   dsimp only
   cases dU t.nm nm with
   | true=>rfl
   | false=>
    cases hd:fx ds t with
    | false=>rfl
    | true=>
     dsimp only;have hr:=K6 hu hk hd;exact Cc hu nm f g _ (by omega) (by omega)
theorem MP {ds X:List aQ} (hu:Up ds) {t:Ty} (h:Cm ds t) (nm:List UInt8):sM (ds++X) t nm=sM ds t nm:=by
 unfold sM;rw[Fx hu nm _ t h];refine Cc hu nm _ _ t ?_ (tg ds t)
 have:=tg ds t
 rw[List.length_append];omega
theorem EK {ds X:List aQ} {t:Ty} (h:Cm ds t):fF (ds++X) t=fF ds t:=by
 unfold fF
 cases hk:aP t.kind 2 with
 | false=>rfl
 | true=>
  have h1:=h hk;rw[sr h1,kY h1]
theorem Ia {ds X:List aQ} (hu:Up ds) (nm:List UInt8):∀(f:Nat) (of:List UInt8),eg (aD ds of)=true->qP (ds++X) f nm of=qP ds f nm of
 | 0,_,_=>rfl
 | f+1,of,h=>by
  rw[qP,qP,kY h]
  cases hf:aD ds of with
  | none=>rfl
  | some d=>
   dsimp only
   cases dU d.nm nm with
   | true=>rfl
   | false=>
    cases hk:aP d.sup.kind 2 with
    | false=>rfl
    | true=>
     obtain⟨p,h1,h2⟩:=AR hf;obtain⟨j,h3,_⟩:=hu.up p d h2 hk;obtain⟨o,_,h4,_⟩:=jK h3;exact Ia hu nm f _ (by rw[h4];rfl)
theorem Dl {ds:List aQ} (hu:Up ds) (nm:List UInt8):∀(f g:Nat) (of:List UInt8),wD ds of < f->wD ds of < g->qP ds f nm of=qP ds g nm of
 | 0,_,_,h,_=>by omega
 | _+1,0,_,_,h=>by omega
 | f+1,g+1,of,h1,h2=>by
  rw[qP,qP]
  cases hf:aD ds of with
  | none=>rfl
  | some d=>
   dsimp only
   cases dU d.nm nm with
   | true=>rfl
   | false=>
    cases hk:aP d.sup.kind 2 with
    | false=>rfl
    | true=>
     have hr:=F5 hu hf hk;exact Dl hu nm f g _ (by omega) (by omega)
theorem OH {ds X:List aQ} (hu:Up ds) {of:List UInt8} (h:eg (aD ds of)=true) (nm:List UInt8):H9 (ds++X) nm of=H9 ds nm of:=by
 unfold H9;rw[Ia hu nm _ of h];refine Dl hu nm _ _ of ?_ (zE ds of)
 have:=zE ds of
 rw[List.length_append];omega
def uK (ds:List aQ):Prop:=∀nm d,aD ds nm=some d->∀n∈fW d,eg (aD ds n)=true
theorem wB {ds X:List aQ} (hc:uK ds):∀(f:Nat) (nm:List UInt8) (S:List (List UInt8)),eg (aD ds nm)=true->dE (ds++X) f nm S=dE ds f nm S
 | 0,_,_,_=>rfl
 | f+1,nm,S,h=>by
  rw[dE,dE,kY h]
  cases hf:aD ds nm with
  | none=>rfl
  | some d=>
   dsimp only
   cases hasB S nm with
   | true=>rfl
   | false=>
    have key:∀(l:List (List UInt8)) (S:List (List UInt8)),(∀n∈l,eg (aD ds n)=true)->l.foldl (fun S n=>dE (ds++X) f n S) S=l.foldl (fun S n=>dE ds f n S) S:=by
     intro l
     induction l with
     | nil=>intro S _;rfl
     | cons n r ih=>
      intro S hl;rw[List.foldl_cons,List.foldl_cons,wB hc f n S (hl n List.mem_cons_self)];exact ih _ (fun m hm=>hl m (List.mem_cons_of_mem _ hm))
    exact key _ _ (hc nm d hf)
theorem wC {ds:List aQ}:∀(f g:Nat) (nm:List UInt8) (S:List (List UInt8)),ke ds S < f->ke ds S < g->dE ds f nm S=dE ds g nm S
 | 0,_,_,_,h,_=>by omega
 | _+1,0,_,_,_,h=>by omega
 | f+1,g+1,nm,S,h1,h2=>by
  rw[dE,dE]
  cases hf:aD ds nm with
  | none=>rfl
  | some d=>
   dsimp only
   cases hb:hasB S nm with
   | true=>rfl
   | false=>
    have hlt:ke ds (eS S nm) < ke ds S:=GI hf hb (fun x hx=>ij.2 (.inl hx)) (ij.2 (.inr rfl));have key:∀(l:List (List UInt8)) (S:List (List UInt8)),ke ds S < f->ke ds S < g->l.foldl (fun S n=>dE ds f n S) S=l.foldl (fun S n=>dE ds g n S) S:=by
     intro l
     induction l with
     | nil=>intro S _ _;rfl
     | cons n r ih=>
      intro S h3 h4;have hle:ke ds (dE ds g n S)<=ke ds S:=GJ (fun x hx=>rI ds g n S x hx);rw[List.foldl_cons,List.foldl_cons,wC f g n S h3 h4];exact ih _ (by omega) (by omega)
    exact key _ _ (by omega) (by omega)
theorem Tl {ds X:List aQ} (hc:uK ds) {nm:List UInt8} (h:eg (aD ds nm)=true):Ij (ds++X) nm=Ij ds nm:=by
 unfold Ij;rw[wB hc _ nm [] h];refine wC _ _ nm [] ?_ (vp ds)
 have:=vp ds
 rw[List.length_append];omega
theorem Tk {ds X:List aQ} {ks:List (List UInt8)} (h:∀x∈ks,eg (aD ds x)=true):ra (ds++X) ks=ra ds ks:=by
 unfold ra
 induction ks with
 | nil=>rfl
 | cons k r ih=>
  rw[List.flatMap_cons,List.flatMap_cons,ih (fun x hx=>h x (List.mem_cons_of_mem _ hx)),kY (h k List.mem_cons_self)]
theorem Xs {ds X:List aQ} (hc:uK ds) {nm:List UInt8} (h:eg (aD ds nm)=true):ra (ds++X) (Ij (ds++X) nm)=ra ds (Ij ds nm):=by
 rw[Tl hc h];exact Tk (rJ ds (ds.length+1) nm (S:=[]) (fun x hx=>by simp at hx))
theorem aeo {ds:List aQ} {nm:List UInt8} (h:eg (aD ds nm)=true):ra ds (Ij ds nm)≠[]:=by
 have h1:=zB h
 cases hk:Ij ds nm with
 | nil=>rw[hk] at h1;simp at h1
 | cons k r=>simp[ra,js]
def um (k:Int) (nm:List UInt8) (ix:Int) (la:List ap):List ac:=[iv k,.dat (sb nm),iv ix,.dat (sl la)]
theorem yT (l:Nat) (k:Int) (nm:List UInt8) (ix:Int) (la:List ap) :
  sB (env ay.aN) 32 [.ptr (.loc l) 0,.dat (.agg [i64 k,sb nm,i64 ix,sl la])] (some (.cells (um 0 [] 0 [])))=some ⟨.undef,.set (.cells (um k nm ix la))⟩:=by
 rcases la with _|⟨x,la⟩ <;> kernel_rfl
theorem mI (t:Bool) (l:Nat) (k:Int) (nm:List UInt8) (ix:Int) (la:List ap) :
  lg (env ay.aN) t 32 [.ptr (.loc l) 0] (some (.cells (um k nm ix la)))=some ⟨.dat (.agg [i64 k,sb nm,i64 ix,sl la]),.keep⟩:=by
 cases t <;> rcases la with _|⟨x,la⟩ <;> kernel_rfl
noncomputable def hLm:Hints:=⟨ao,VL,aq,rowsOf aq 8⟩
structure BE where
 r:List UInt8
 c1:Bool
 c2:Bool
 c3:Bool
 fs:List dq
 n0:List UInt8
 n1:List UInt8
 t:Ty
 x:Ty
def loM (S:BE):Heap:=[(.loc 19,.cells (um S.x.kind S.x.nm S.x.Et (au S.x.args))),(.loc 15,.cells (um S.t.kind S.t.nm S.t.Et (au S.t.args)))]
def slM (S:BE) (ds:List ap):List (Nat×ac):=[(25,.own ds),(24,.dat (sb S.r)),(23,bv S.c3),(22,bv S.c2),(21,rQ S.fs),(20,bv S.c1),(19,.ptr (.loc 19) 0),(18,.dat (sb S.n1)),(17,.dat (sb S.n0)),(15,.ptr (.loc 15) 0),(12,hP)]
def stM (S:BE) (ds:List ap) (H:Heap) (m:Nat) (i:Int):ab:=⟨(26,iv i)::slM S ds,loM S,H,m⟩
def Vg (S:BE) (ds:List ap) (H:Heap) (m:Nat) (i:Int):ab:=⟨(95,bv false)::(26,iv i)::slM S ds,loM S,H,m⟩
theorem Sm {S:BE} {ds:List ap} {d:aQ} {H H2:Heap} {m m2:Nat} {c:Int} {i:Nat} (h1:bq (Int.ofNat i) (Int.ofNat ds.length)=true)
  (h2:aK (env ay.aN) 23 [.dat (.slice ds),.dat (.flat (.int .i64 (Int.ofNat i)))]=some ⟨.ref d.cells,.keep⟩)
  (hd:KC 16 [hP,.dat d.enc] H m (XQ ⟨iv c,H2,m2⟩)) {T:Exit->aa->Prop}
  (e:T .normal ((stM S ds H2 m2 (aH .i64 (Int.ofNat i+1))).aw Tryz.f8.ntmps)) :
  KD (roundOf Tryz.f8 0) T ((stM S ds H m (Int.ofNat i)).aw Tryz.f8.ntmps):=by
 obtain⟨dn,ar,⟨k,tn,ix,la⟩,con,fl⟩:=d;obtain⟨r,c1,c2,c3,fs,n0,n1,⟨tk,tm,ti,ta⟩,⟨xk,xm,xi,xa⟩⟩:=S
 rcases fs with _|⟨f,fs⟩ <;>
 ·refine aC [95] [101] (H:=hLm) (live:=LM) (by kernel_rfl) ?_;refine ob h1 ?_;refine oo h2 ?_;refine oh hd ?_;exact oe e
theorem VV {S:BE} {ds:List ap} {H:Heap} {m:Nat} {T:Exit->aa->Prop} (e:T (.exit 0) ((Vg S ds H m (Int.ofNat ds.length)).aw Tryz.f8.ntmps)) :
  KD (roundOf Tryz.f8 0) T ((stM S ds H m (Int.ofNat ds.length)).aw Tryz.f8.ntmps):=by
 have h1:=bC (i:=ds.length) (L:=ds.length) (by omega);obtain⟨r,c1,c2,c3,fs,n0,n1,⟨tk,tm,ti,ta⟩,⟨xk,xm,xi,xa⟩⟩:=S
 rcases fs with _|⟨f,fs⟩ <;>
 ·refine aC [95] [] (H:=hLm) (live:=LM) (by kernel_rfl) ?_;refine ob h1 ?_;exact oe e
theorem aaj {l m more bs ds es:List ap} {i k j1 j2:Int} {r:List UInt8} {H H1 H2 H3:Heap} {q:Nat} {t x:Ty} {d0 d1:aQ} {c1 c2 c3:Bool} {fs:List dq}
  (h1:ag 43 [] (.own bs)) (h2:KC 10 [.dat (.slice bs)] [] 0 (XQ ⟨.tup [hP,rP 3,bv true],H,4⟩))
  (hn1:KC 15 [.dat (.slice m)] H 4 (XQ ⟨.ptr (.out 4) 0,H1,5⟩))
  (h6:KC 21 [.ptr (.out 4) 0,.dat (.slice bs)] H1 5 (XQ ⟨.dat t.enc,H2,5⟩))
  (h7:KC 20 [rP 3] H2 5 (XQ ⟨.own es,H2,5⟩))
  (m1:ag 13 [iv i,iv (Int.ofNat es.length)] (iv j1)) (i1:aK (env ay.aN) 23 [.dat (.slice es),.dat (.flat (.int .i64 j1))]=some ⟨.ref d0.cells,.keep⟩)
  (m2:ag 13 [iv k,iv (Int.ofNat es.length)] (iv j2)) (i2:aK (env ay.aN) 23 [.dat (.slice es),.dat (.flat (.int .i64 j2))]=some ⟨.ref d1.cells,.keep⟩)
  (s1:KC 23 [hP,.dat t.enc,.dat (sb d0.nm)] H2 5 (XQ ⟨.tup [.dat x.enc,bv c1],H2,5⟩))
  (f1:KC 30 [hP,.dat t.enc] H2 5 (XQ ⟨.tup [rQ fs,bv c2],H2,5⟩))
  (a1:KC 25 [hP,.dat (sb d0.nm),.dat (sb d1.nm)] H2 5 (XQ ⟨bv c3,H2,5⟩))
  (p1:KC 41 [hP,.dat (sb d0.nm)] H2 5 (XQ ⟨.dat (sb r),H2,5⟩))
  (e1:cJ (env ay.aN) false 22 [.own [],.dat (.slice l)] none=some ⟨.own l,.keep⟩)
  (e2:cJ (env ay.aN) false 22 [.own l,.dat (.slice more)] none=some ⟨.own (l++more),.keep⟩)
  (hg:ag 9 [.dat (.slice (l++more))] (.own ds))
  (hl:KD (.loop (roundOf Tryz.f8 0)) (fun e s=>e=.exit 0/\s=(Vg ⟨r,c1,c2,c3,fs,d0.nm,d1.nm,t,x⟩ ds H3 q (Int.ofNat ds.length)).aw Tryz.f8.ntmps) ((stM ⟨r,c1,c2,c3,fs,d0.nm,d1.nm,t,x⟩ ds H2 5 (Int.ofNat 0)).aw Tryz.f8.ntmps))
  (s2:KC 23 [hP,.dat t.enc,.dat (sb d0.nm)] H3 q (XQ ⟨.tup [.dat x.enc,bv c1],H3,q⟩))
  (f2:KC 30 [hP,.dat t.enc] H3 q (XQ ⟨.tup [rQ fs,bv c2],H3,q⟩))
  (k1:KC 39 [hP,.dat t.enc] H3 q (XQ ⟨bv true,H3,q⟩))
  (he:ag 24 [.dat x.enc,.dat x.enc] (bv true)) (hsf:ag 32 [.dat (sl (aJ fs)),.dat (sl (aJ fs))] (bv true))
  (a2:KC 25 [hP,.dat (sb d0.nm),.dat (sb d1.nm)] H3 q (XQ ⟨bv c3,H3,q⟩))
  (p2:KC 41 [hP,.dat (sb d0.nm)] H3 q (XQ ⟨.dat (sb r),H3,q⟩))
  (hne:dU r []=false) :
  KC 8 [.dat (.slice l),.dat (.slice m),.dat (.slice more),iv i,iv k] [] 0 (XQ ⟨bv true,H3,q⟩):=by
 have hc:=X0;have hq:=jT r;obtain⟨dn,ar,⟨k,tn,ix,la⟩,con,fl⟩:=d0;obtain⟨dn1,ar1,⟨k1',tn1,ix1,la1⟩,con1,fl1⟩:=d1;obtain⟨tk,tm,ti,ta⟩:=t;obtain⟨xk,xm,xi,xa⟩:=x;have s15:=yT 15 tk tm ti (au ta);have a15:=mI true 15 tk tm ti (au ta);have b15:=mI false 15 tk tm ti (au ta);have s19:=yT 19 xk xm xi (au xa);have a19:=mI true 19 xk xm xi (au xa);have b19:=mI false 19 xk xm xi (au xa);have s27:=yT 27 xk xm xi (au xa);have a27:=mI true 27 xk xm xi (au xa);have b27:=mI false 27 xk xm xi (au xa)
 rcases fs with _|⟨f,fs⟩ <;>
 ·refine aZ [153,157] [100015,55,63,68,100019,75,88,90,106,100027,113,118,126,127] (x:=gU.of Tryz.f8 VL LM) (by kernel_rfl) ?_;refine on h1 ?_;refine oh h2 ?_;refine on hc ?_;refine oh hn1 ?_;refine oh h6 ?_;refine oo s15 ?_;refine oh h7 ?_;refine on m1 ?_;refine oo i1 ?_;refine on m2 ?_;refine oo i2 ?_;refine oo a15 ?_;refine oh s1 ?_;refine oo s19 ?_;refine oo a15 ?_;refine oh f1 ?_;refine oh a1 ?_;refine oh p1 ?_;refine oo e1 ?_;refine oo e2 ?_;refine on hg ?_;refine lo hl ?_;rintro ex s ⟨rfl,rfl⟩;refine⟨_,rfl,?_⟩;refine oo a15 ?_;refine oh s2 ?_;refine oo s19 ?_;refine oo a15 ?_;refine oh f2 ?_;refine oo a15 ?_;refine oh k1 ?_
  cases c1 <;>
  ·refine oo a19 ?_;refine oo a19 ?_;refine on he ?_
   cases c2 <;>
   ·refine on hsf ?_;refine oh a2 ?_
    cases c3 <;>
    ·refine oh p2 ?_;refine ob hq ?_;refine ox hne ?_;exact fi
def D0:List aQ:=da bF
def Mr (ds:List aQ):Bool:=ds.all (fun d=>(fW d).all (fun n=>eg (aD ds n)))
theorem Ot {ds:List aQ} (h:Mr ds=true):uK ds:=by
 intro nm d hf n hn;obtain⟨h1,_⟩:=im hf;unfold Mr at h;rw[List.all_eq_true] at h;have h2:=h d h1;rw[List.all_eq_true] at h2;exact h2 n hn
theorem OJ:uK D0:=Ot (by kernel_rfl)
def knB (ds:List aQ) (nm:List UInt8) (n:Nat):Bool:=match aD ds nm with|some d=>aP d.ar (Int.ofNat n)|none=>false
theorem JG {ds:List aQ} {nm:List UInt8} {n:Nat} (h:knB ds nm n=true):knP ds nm n:=by
 unfold knB at h
 cases hf:aD ds nm with
 | none=>rw[hf] at h;simp at h
 | some d=>
  rw[hf] at h;exact⟨d,hf,eY h⟩
def arN (d:aQ):Nat:=match d.ar with|.ofNat n=>n|_=>0
theorem X5:∀d∈bF,∃n:Nat,d.ar=Int.ofNat n/\n<=4/\knP D0 d.nm n:=by
 have h:bF.all (fun d=>aP d.ar (Int.ofNat (arN d))&&(Nat.ble (arN d) 4&&knB D0 d.nm (arN d)))=true:=by kernel_rfl
 rw[List.all_eq_true] at h;intro d hd;have h1:=h d hd;simp only[Bool.and_eq_true] at h1;exact⟨arN d,eY h1.1,fe h1.2.1,JG h1.2.2⟩
theorem W2:∀b∈fL,knP D0 b 0:=by
 have h:fL.all (fun b=>knB D0 b 0)=true:=by kernel_rfl
 rw[List.all_eq_true] at h;exact fun b hb=>JG (h b hb)
theorem acQ:knP D0 [66,111,120] 1:=JG (by kernel_rfl)
theorem A5 (a b:List aQ):da (a++b)=b.foldl (fun ds d=>(eQ ds d).2) (da a):=by
 unfold da;rw[List.foldl_append]
theorem Of {a b:List aQ} {i:Nat} {d:aQ} (h:b[i]?=some d):da (a++b.take (i+1))=(eQ (da (a++b.take i)) d).2:=by
 rw[A5,A5,dC h,List.foldl_append];rfl
theorem vN (l:List aQ):(da l).length<=4+l.length:=by
 have h:=A4 l.length l;rwa [List.take_length] at h
theorem A3 {l:List aQ} (h:∀d∈l,d.cB):Yn (da l):=by
 have h:=EP h l.length;rwa [List.take_length] at h
def th:Nat->Nat
 | 0=>2
 | i+1=>i+5
theorem VU {S:BE} {l:List aQ} {pre:Heap} (hl:∀d∈l,d.cB) (hn:l.length < 100) {tl:List ap}:∃tl2:List ap,
  KD (.loop (roundOf Tryz.f8 0)) (fun e s=>e=.exit 0/\s=(Vg S (aL l) (pre++hH (th l.length) (da (bF++l)) tl2) (5+l.length) (Int.ofNat (aL l).length)).aw Tryz.f8.ntmps) ((stM S (aL l) (pre++hH 2 D0 tl) 5 (Int.ofNat 0)).aw Tryz.f8.ntmps):=by
 have hbl:bF.length=8:=rfl;have hbf:∀d∈bF,d.cB:=fun d hd=>(Bo.each d hd).cB
 have hfn:∀i,∀d∈bF++l.take i,d.cB:=by
  intro i d hd
  rcases List.mem_append.1 hd with h|h
  ·exact hbf d h
  exact hl d (List.mem_of_mem_take h)
 obtain⟨f,f0,fI,fR⟩:=Kr (α:=List ap) (n:=l.length) (Inv:=fun _ _=>True)
  (R:=fun i a b=>∀T:Exit->aa->Prop,T .normal ((stM S (aL l) (pre++hH (th (i+1)) (da (bF++l.take (i+1))) b) (5+(i+1)) (Int.ofNat (i+1))).aw Tryz.f8.ntmps)->
   KD (roundOf Tryz.f8 0) T ((stM S (aL l) (pre++hH (th i) (da (bF++l.take i)) a) (5+i) (Int.ofNat i)).aw Tryz.f8.ntmps))
  tl trivial (by
   intro i a hi _;have hg:l[i]?=some l[i]:=List.getElem?_eq_getElem hi;have hm:l[i]∈l:=List.getElem_mem hi;generalize l[i]=d at hg hm;have hlen:=vN (bF++l.take i);rw[List.length_append,List.length_take,hbl] at hlen;have hok:=A3 (hfn i);obtain⟨b,hc⟩:=Dd (tl:=a) (hl d hm) hok.cB (by omega);refine⟨b,?_,trivial⟩;intro T hT;have h1:=HF (th i) (5+i) pre [] hc;simp only[List.append_nil] at h1;refine Sm (fO (by rw[aY];exact hi)) (qZ hg) h1 ?_;rw[bg (by omega)];rw[Of hg] at hT;rw[show th (i+1)=5+i by show i+5=5+i;omega] at hT;exact hT)
 refine⟨f l.length,?_⟩;have e0:stM S (aL l) (pre++hH 2 D0 tl) 5 (Int.ofNat 0)=stM S (aL l) (pre++hH (th 0) (da (bF++l.take 0)) (f 0)) (5+0) (Int.ofNat 0):=by rw[f0,List.take_zero,List.append_nil];rfl
 rw[e0];refine bb (St:=fun i=>(stM S (aL l) (pre++hH (th i) (da (bF++l.take i)) (f i)) (5+i) (Int.ofNat i)).aw Tryz.f8.ntmps) l.length ?_ ?_ (i:=0) (Nat.zero_le _)
 ·intro i hi;exact fR i hi _ rfl
 have e1:=VV (S:=S) (ds:=aL l) (H:=pre++hH (th l.length) (da (bF++l)) (f l.length)) (m:=5+l.length) (T:=lm (fun _=>False) (fun e s=>e=.exit 0/\s=(Vg S (aL l) (pre++hH (th l.length) (da (bF++l)) (f l.length)) (5+l.length) (Int.ofNat (aL l).length)).aw Tryz.f8.ntmps)) ⟨rfl,rfl⟩;rw[aY] at e1;rw[List.take_length];rw[aY];exact e1
theorem AQ:∀{ds:List aQ} {d:aQ},d∈ds->eg (aD ds d.nm)=true
 | [],_,h=>by simp at h
 | x::r,d,h=>by
  unfold aD
  cases he:dU d.nm x.nm with
  | true=>rfl
  | false=>
   rcases List.mem_cons.1 h with h|h
   ·rw[h,jT] at he;simp at he
   exact AQ h
theorem Sk {l m more:List Int} (hl:l.length < 10000000) (hm:m.length < 10000000) (hmo:more.length < 10000000) (hlm:(l++more).length < 10000000) (i k:Int) :
  ∃(H:Heap) (q:Nat),KC 8 [.dat (.slice (l.map iN)),.dat (.slice (m.map iN)),.dat (.slice (more.map iN)),iv i,iv k] [] 0 (XQ ⟨bv true,H,q⟩):=by
 have hb:bF.length=8:=rfl;have hbf:∀d∈bF,d.cB:=fun d hd=>(Bo.each d hd).cB
 obtain⟨tl,h2⟩:=Xm hbf (by omega);have hok:Yn D0:=A3 hbf;have hdl:D0.length<=4+8:=vN bF;have hup:Up D0:=HA bF;have hsm:UW D0:=Mo bF;obtain⟨t,k4,hgt,hct⟩:=(Mh (P:=knP D0) (ds:=bF) hm (by omega) X5 W2 acQ m.length 0 (Nat.zero_le _) (by omega)).2.2 3 0 (by omega) (by omega) (by omega);have htf:t.cB:=⟨by have:=hgt.size;have:=hgt.top;omega,hgt.ix⟩;have gB:Gd 100000000000 t:=(yw htf).more (by omega);have hkn:=CL t hgt.frm;have hroot:Cm D0 t:=by
  have h:=hgt.frm;obtain⟨tk,tm,ti,ta⟩:=t;rw[Ty.from] at h;intro hk;obtain⟨d,h1,_⟩:=h.1 (eY hk);show eg (aD D0 tm)=true;rw[h1];rfl
 obtain⟨mm,hGD,hmm,hg⟩:=Xo hlm;have hEf:∀d∈bF++mm,d.cB:=fun d hd=>(hGD.each d hd).cB
 have hEl:(bF++mm).length<=12:=by rw[List.length_append,hb];omega
 have hAf:∀d∈bF++(bF++mm),d.cB:=by
  intro d hd
  rcases List.mem_append.1 hd with h|h
  ·exact hbf d h
  exact hEf d h
 have hok1:=A3 hAf;have hdl1:=vN (bF++(bF++mm));rw[List.length_append,hb] at hdl1;have hup1:=HA (bF++(bF++mm));have hsm1:=Mo (bF++(bF++mm));obtain⟨X,hX⟩:∃X,da (bF++(bF++mm))=D0++X:=by
  rw[A5];exact AJ (bF++mm) D0
 have hn1:=Se 4 (hF 3 (aL D0)++hH 2 D0 tl) (Y5 (l:=m.map iN)) rfl rfl;have h6:=Pm 4 5 [] (hF 3 (aL D0)++hH 2 D0 tl) (Vb hct) (args2:=[.ptr (.out 4) 0,.dat (.slice (aL bF))]) rfl rfl rfl;simp only[List.nil_append] at h6;have onH:∀{g:FuncId} {args:List ac} {v:ac} {D:List aQ} {tl:List ap} (r q:Nat),og g args D tl v->dM 3 args=false->gD (UM r) args=args->fg (iG (UM r) 3 q) v=v->
   KC g args ((AD 4 (m.map iN) (Int.ofNat k4)++hF 3 (aL D0))++hH r D tl) q (XQ ⟨v,(AD 4 (m.map iN) (Int.ofNat k4)++hF 3 (aL D0))++hH r D tl,q⟩):=by
  intro g args v D tl r q h ha he hv;exact qd ha he hv (AD 4 (m.map iN) (Int.ofNat k4)++hF 3 (aL D0)) h
 have h7:=sZ (args:=[rP 0]) (args2:=[rP 3]) 3 5 (AD 4 (m.map iN) (Int.ofNat k4)) (hH 2 D0 tl) (DK (ds:=D0) (by omega)) rfl rfl rfl;have hpos:0 < D0.length:=List.length_pos_iff.2 hok.ne;obtain⟨j,hj,hjl⟩:=LH i hpos;obtain⟨j2,hj2,hjl2⟩:=LH k hpos;have m1:=Mi i (m:=(aL D0).length) (by rw[aY];exact hpos) (by rw[aY];omega);have m2':=Mi k (m:=(aL D0).length) (by rw[aY];exact hpos) (by rw[aY];omega);rw[aY,hj,←aY] at m1;rw[aY,hj2,←aY] at m2';have hg1:D0[j]?=some D0[j]:=List.getElem?_eq_getElem hjl;have hg2:D0[j2]?=some D0[j2]:=List.getElem?_eq_getElem hjl2;have i1:=qZ hg1;have i2:=qZ hg2;have hmem:D0[j]∈D0:=List.getElem_mem hjl;have hmem2:D0[j2]∈D0:=List.getElem_mem hjl2;generalize D0[j]=d0 at i1 hmem;generalize D0[j2]=d1 at i2 hmem2;have hdec:=AQ hmem;have hdec2:=AQ hmem2;have s1:=onH 2 5 (Mz (tl:=tl) hok.cB hup (by omega) gB d0.nm) rfl rfl rfl;have f1:=onH 2 5 (HY (tl:=tl) hok.cB gB) rfl rfl (by cases xP (fF D0 t) <;> rfl);have a1:=onH 2 5 (Zf (tl:=tl) hup d0.nm d1.nm) rfl rfl rfl;have p1:=onH 2 5 (afK (tl:=tl) hok.cB hsm (by omega) hdec) rfl rfl rfl;have e1:=mY (a:=[]) (b:=l) (by simp only[List.length_nil];omega);have e2:=mY (a:=l) (b:=more) (by omega);rw[List.map_append] at hg;have he:=zH (tOf (sM D0 t d0.nm)) (tOf (sM D0 t d0.nm)) (MO hok.cB hup gB d0.nm);rw[DH.2 rfl] at he;obtain⟨ft,fl⟩:=EL hok.cB gB;have hsf:=aaI ft fl
 obtain⟨tl2,hloop⟩:=VU (S:=⟨ra D0 (Ij D0 d0.nm),eg (sM D0 t d0.nm),eg (fF D0 t),H9 D0 d0.nm d1.nm,xP (fF D0 t),d0.nm,d1.nm,t,tOf (sM D0 t d0.nm)⟩) (pre:=AD 4 (m.map iN) (Int.ofNat k4)++hF 3 (aL D0)) (tl:=tl) hEf (by omega);have hdecX:eg (aD (da (bF++(bF++mm))) d0.nm)=true:=by rw[hX,kY hdec];exact hdec
 have s2:=onH (th (bF++mm).length) (5+(bF++mm).length) (Mz (tl:=tl2) hok1.cB hup1 (by omega) gB d0.nm) rfl rfl rfl;have f2:=onH (th (bF++mm).length) (5+(bF++mm).length) (HY (tl:=tl2) hok1.cB gB) rfl rfl (by cases xP (fF (da (bF++(bF++mm))) t) <;> rfl);have a2:=onH (th (bF++mm).length) (5+(bF++mm).length) (Zf (tl:=tl2) hup1 d0.nm d1.nm) rfl rfl rfl;have p2:=onH (th (bF++mm).length) (5+(bF++mm).length) (afK (tl:=tl2) hok1.cB hsm1 (by omega) hdecX) rfl rfl rfl;have k1:=onH (th (bF++mm).length) (5+(bF++mm).length) (yA (da (bF++(bF++mm))) tl2 t (by have:=htf.1;omega)) rfl rfl rfl;have w1:sM (da (bF++(bF++mm))) t d0.nm=sM D0 t d0.nm:=by rw[hX];exact MP hup hroot d0.nm
 have w2:fF (da (bF++(bF++mm))) t=fF D0 t:=by rw[hX];exact EK hroot
 have w3:H9 (da (bF++(bF++mm))) d0.nm d1.nm=H9 D0 d0.nm d1.nm:=by rw[hX];exact OH hup hdec2 d0.nm
 have w4:ra (da (bF++(bF++mm))) (Ij (da (bF++(bF++mm))) d0.nm)=ra D0 (Ij D0 d0.nm):=by rw[hX];exact Xs OJ hdec
 have w5:cy (da (bF++(bF++mm))) t=true:=by rw[hX];exact CK t hkn
 rw[w1] at s2;rw[w2] at f2;rw[w3] at a2;rw[w4] at p2;rw[w5] at k1;have hne:dU (ra D0 (Ij D0 d0.nm)) []=false:=by
  cases hx:ra D0 (Ij D0 d0.nm) with
  | nil=>exact absurd hx (aeo hdec)
  | cons a b=>rfl
 exact⟨_,_,aaj Tf h2 hn1 h6 h7 m1 i1 m2' i2 s1 f1 a1 p1 e1 e2 hg hloop s2 f2 k1 he hsf a2 p2 hne⟩
theorem Jq {l m more:List Int} (hl:l.length < 4000000) (hm:m.length < 4000000) (hmo:more.length < 4000000) (i k:Int) :
  ∃r:ey,r.val=bv true/\KC 8 [.dat (.slice (l.map iN)),.dat (.slice (m.map iN)),.dat (.slice (more.map iN)),iv i,iv k] [] 0 (XQ r):=by
 obtain⟨H,q,h⟩:=Sk (l:=l) (m:=m) (more:=more) (by omega) (by omega) (by omega) (by rw[List.length_append];omega) i k;exact⟨_,rfl,h⟩
end Go.Proofs.YtiihadmgkoamoaaGreatDoor
namespace Go.Proofs.YtiihadmgkoamoaaGreatDoor
open Go.ChangeShapes Go.WideShapes Go.ChangeAt Go.RowKit Go.Tp
open Go.ChangeMaps (open_string shut_string)
theorem own:ownKnob Tryz.prog.godebug=none:=by kernel_rfl
theorem kids:Kids Tryz.prog (· < Tryz.prog.types.size):=kids_rows (by kernel_rfl) (by kernel_rfl)
theorem full:∀t e,t < Tryz.prog.types.size->Tryz.prog.underlying t=some (.slice e)->0 < Tryz.prog.cellsOf e:=slices_full_of Tryz.prog (by kernel_rfl)
theorem gE:Tryz.prog.globalNamed "telpher/telmake.extraNames"=some 0:=by kernel_rfl
theorem gL:Tryz.prog.globalNamed "telpher/telmake.leafNames"=some 1:=by kernel_rfl
theorem gP:Tryz.prog.globalNamed "telpher/hierarchy.reserved"=some 2:=by kernel_rfl
theorem gT:Tryz.prog.globalNamed "telpher/typeterm.reserved"=some 4:=by kernel_rfl
theorem Te {W:World} (h:laidMetH Tryz.prog Rows.hierarchyMonotoneUptoRow.laid W):∀g cs,cN g=some cs->dY W wO g 0 cs:=by
 have h':laidMet Tryz.prog Rows.hierarchyMonotoneUptoRow.laid W:=h;obtain⟨ps,⟨_,_,_,_,_,_,_,_,_,_,⟨_,_,_,_,_,_,_,_,_,_,⟨_,_,_,_,_,_,_,_,_,_,⟨g1,t1,cs1,fuel1,p1,q1,a1,a2,a3,a4,⟨g2,t2,cs2,fuel2,p2,q2,b1,b2,b3,b4,⟨g3,t3,cs3,fuel3,p3,q3,c1,c2,c3,c4,⟨g4,t4,cs4,fuel4,p4,q4,d1,d2,d3,d4,_,_⟩,_⟩,_⟩,_⟩,_⟩,_⟩,_⟩,_⟩:=h';intro g cs hg;unfold cN at hg
 split at hg
 ·obtain rfl:=Option.some.inj hg;exact qs (l:=iK) gE (by kernel_rfl) Tryz.underlying60 Tryz.underlying9 (by kernel_rfl) (by decide) ⟨g3,t3,cs3,fuel3,p3,c1,c2,c3,c4⟩
 ·obtain rfl:=Option.some.inj hg;exact qs (l:=fL) gL (by kernel_rfl) Tryz.underlying60 Tryz.underlying9 (by kernel_rfl) (by decide) ⟨g4,t4,cs4,fuel4,p4,d1,d2,d3,d4⟩
 ·obtain rfl:=Option.some.inj hg;exact qs (l:=oE) gP (by kernel_rfl) Tryz.underlying60 Tryz.underlying9 (by kernel_rfl) (by decide) ⟨g2,t2,cs2,fuel2,p2,b1,b2,b3,b4⟩
 ·obtain rfl:=Option.some.inj hg;exact qs (l:=oE) gT (by kernel_rfl) Tryz.underlying60 Tryz.underlying9 (by kernel_rfl) (by decide) ⟨g1,t1,cs1,fuel1,p1,a1,a2,a3,a4⟩
 simp at hg
theorem one_le {H:Type} (d:DataW H):1<=Rows.uptoBulk d:=by
 cases d with
 | lit l=>cases l <;> simp[Rows.uptoBulk]
 | nil=>simp[Rows.uptoBulk]
 | ptr d=>simp[Rows.uptoBulk]
 | slice elems spare=>simp[Rows.uptoBulk]
 | agg parts=>simp[Rows.uptoBulk]
 | iface t d=>simp[Rows.uptoBulk]
 | map entries=>simp[Rows.uptoBulk]
 | held h=>simp[Rows.uptoBulk]
theorem GS {H:Type}:∀l:List (DataW H),l.length<=Rows.uptoBulkAll l
 | []=>by simp[Rows.uptoBulkAll]
 | x::r=>by
  have h1:=one_le x;have h2:=GS r;simp only[Rows.uptoBulkAll,List.length_cons];omega
theorem Cw {H:Type} {d:DataW H}:∀{l:List (DataW H)},d∈l->Rows.uptoBulk d<=Rows.uptoBulkAll l
 | [],h=>by cases h
 | x::r,h=>by
  simp only[Rows.uptoBulkAll]
  rcases List.mem_cons.1 h with e|h
  ·subst e;omega
  have:=Cw h;omega
theorem E7 {H:Type} {l els rest:List (DataW H)} (hk:Rows.uptoSmall H l=true) (hm:DataW.slice els rest∈l):els.length<=1048576:=by
 have h:Rows.uptoBulkAll l<=1048576:=of_decide_eq_true hk;have h1:=Cw hm;have h2:=GS els;simp only[Rows.uptoBulk] at h1;omega
set_option maxRecDepth 100000 in
theorem TZ (H:Type) (enc:TypeId×Value->H) (W:World) (base:Nat) (args:Array Value) (ds gs:List (DataW H)) (before:List MemPlace)
  (hval:∀(j:Nat) t v,Tryz.f8.params[j]?=some t->args[j]?=some v->Value.okWide Tryz.prog W .any base t v)
  (hW:DataW.Whole enc Tryz.prog Tryz.f8.params.toList Rows.hierarchyMonotoneSpec.vars false W args.toList ds gs before) (hL:laidMetH Tryz.prog Rows.hierarchyMonotoneUptoRow.laid W) (hk:Rows.uptoSmall H (ds++gs)=true) :
  Calls Tryz.prog 8 args W fun e W'=>∃v,e=.returned v/\Rows.hierarchyMonotoneSpec.post enc Tryz.prog Tryz.f8 false true false false W args v W':=by
 have hW':=hW;obtain⟨p,q,hA0,hV,rfl,hfz,hnd⟩:=hW;have hA:DataW.TrodAll enc Tryz.prog W 0 (fun _=>true) true Tryz.f8.params.toList args.toList ds p:=hA0;have hAk:=hA;rw[Tryz.params8] at hA hval;obtain⟨v0,vs0,d0,ds0,p0,q0,hargs,rfl,rfl,h0,r0⟩:=trodAll_cons hA;obtain⟨v1,vs1,d1,ds1,p1,q1,rfl,rfl,rfl,h1,r1⟩:=trodAll_cons r0;obtain⟨v2,vs2,d2,ds2,p2,q2,rfl,rfl,rfl,h2,r2⟩:=trodAll_cons r1;obtain⟨v3,vs3,d3,ds3,p3,q3,rfl,rfl,rfl,h3,r3⟩:=trodAll_cons r2;obtain⟨v4,vs4,d4,ds4,p4,q4,rfl,rfl,rfl,h4,r4⟩:=trodAll_cons r3;obtain⟨rfl,rfl,rfl⟩:=trodAll_nil r4;obtain rfl:args=#[v0,v1,v2,v3,v4]:=by cases args;simp_all
 obtain⟨rfl,rfl⟩:=trodVars_none hV;obtain⟨a0,len0,cap0,hv0⟩:=okWide_slice Tryz.underlying22 (hval 0 22 v0 rfl rfl);obtain⟨l0,hd0,hr0⟩:=Bs (outs fun _=>none) Tryz.underlying22 Tryz.underlying3 (by kernel_rfl) (by rw[hv0];rfl) h0;obtain⟨a1,len1,cap1,hv1⟩:=okWide_slice Tryz.underlying22 (hval 1 22 v1 rfl rfl);obtain⟨l1,hd1,hr1⟩:=Bs (outs fun _=>none) Tryz.underlying22 Tryz.underlying3 (by kernel_rfl) (by rw[hv1];rfl) h1;obtain⟨a2,len2,cap2,hv2⟩:=okWide_slice Tryz.underlying22 (hval 2 22 v2 rfl rfl);obtain⟨l2,hd2,hr2⟩:=Bs (outs fun _=>none) Tryz.underlying22 Tryz.underlying3 (by kernel_rfl) (by rw[hv2];rfl) h2;obtain⟨n3,rfl,rfl,rfl,hw3⟩:=open_int Tryz.underlying3 (hval 3 3 v3 rfl rfl) h3;obtain⟨n4,rfl,rfl,rfl,hw4⟩:=open_int Tryz.underlying3 (hval 4 3 v4 rfl rfl) h4;have hb0:l0.length<=1048576:=by
  rcases hd0 with⟨_,e⟩|⟨els,rest,e,e2⟩
  ·rw[e];simp
  rw[←e2];exact E7 (rest:=rest) hk (by rw[←e];simp)
 have hb1:l1.length<=1048576:=by
  rcases hd1 with⟨_,e⟩|⟨els,rest,e,e2⟩
  ·rw[e];simp
  rw[←e2];exact E7 (rest:=rest) hk (by rw[←e];simp)
 have hb2:l2.length<=1048576:=by
  rcases hd2 with⟨_,e⟩|⟨els,rest,e,e2⟩
  ·rw[e];simp
  rw[←e2];exact E7 (rest:=rest) hk (by rw[←e];simp)
 obtain⟨r,hr,hcall⟩:=Jq (by omega:l0.length < 4000000) (by omega:l1.length < 4000000) (by omega:l2.length < 4000000) n3 n4;refine (vQ W (args:=[v0,v1,v2,.int .i64 n3,.int .i64 n4]) (aG (b1:=[]) (b2:=[]) (hr0 (by unfold lim;omega)) (aG (b1:=[]) (b2:=[]) (hr1 (by unfold lim;omega)) (aG (b1:=[]) (b2:=[]) (hr2 (by unfold lim;omega)) (aG (b1:=[]) (b2:=[]) (bJ (v:=.int .i64 n3) hw3) (aG (b1:=[]) (b2:=[]) (bJ (v:=.int .i64 n4) hw4) aX))))) hcall hr (Te hL)).mono ?_;rintro e W' ⟨rfl,hkp,hB⟩;refine⟨_,rfl,?_⟩;simp only[List.append_nil] at hW' hAk;have hargs:=DataW.TrodAll.respare (spare':=fun b=>decide (b < W.heap.size)) kids full (by rw[Tryz.params8];decide) (yJ hB hAk) (fun p hp=>by simpa using hW'.lt p hp);refine⟨_,_,_,[],_,[],hW',?_,hargs,rfl,World.keptBut_mono (fun p hp=>hp.elim) hkp,fun h=>by cases h⟩;exact trodAll_cons_mk (shut_bool Tryz.underlying4 _) trodAll_mk0
def adD:List Int:=[0,1,28,2,29,14,24,3,30,22,20,15,25,17,4,8,31,27,13,23,21,19,16,7,26,12,18,6,11,5,10,9]
def adC:List Int:=[0,1,56,2,57,49,28,3,61,58,42,50,38,29,17,4,62,47,59,36,45,43,51,22,53,39,33,30,24,18,12,5,63,55,48,27,60,41,37,16,46,35,44,21,52,32,23,11,54,26,40,15,34,20,31,10,25,14,19,9,13,8,7,6]
def QF:Nat->Int->List Int
 | 0,_=>[]
 | n+1,k=>k::QF n (k*10)
noncomputable def vv (os:Os):World:=
 let N:=(World.settled Tryz.prog os).heap.size
 let strs (l:List (List UInt8)):Array Value:=(l.map fun b=>Value.string ⟨⟨b⟩⟩).toArray
 let w0:=World.holding Tryz.prog os ⟨#[.cells (strs iK) 9,.cells (strs fL) 9,.cells (strs oE) 9,.cells (strs oE) 9],#[],[]⟩
 let put (h:Array Obj) (g:Nat) (cs:Array Value):Array Obj:=h.modify g fun
  | .cells _ t frozen=>.cells cs t frozen
  | o=>o
 let h1:=put w0.heap 0 #[.slice (some ⟨N,0,none⟩) 4 4]
 let h2:=put h1 1 #[.slice (some ⟨N+1,0,none⟩) 4 4]
 let h3:=put h2 2 #[.slice (some ⟨N+2,0,none⟩) 5 5]
 let h4:=put h3 4 #[.slice (some ⟨N+3,0,none⟩) 5 5]
 let ints (k:IntKind) (l:List Int):Array Value:=(l.map fun i=>Value.int k i).toArray
 let h5:=put h4 3 (ints .u64 (QF 20 1))
 let h6:=put h5 5 (ints .u8 adD)
 let h7:=put h6 6 (ints .u8 adC)
 {w0 with heap:=h7 }
theorem SV (os:Os) (args:Array Value):laidMet Tryz.prog Rows.hierarchyMonotoneUptoRow.laid ((vv os).forCall (fun _ _=>0) ⟨#[],args,[]⟩).memory:=
 laidMet_of_run' 8 (by kernel_rfl) (by kernel_rfl)
noncomputable def OV:Array Value:=#[.slice none 0 0,.slice none 0 0,.slice none 0 0,.int .i64 0,.int .i64 0]
theorem reads (os:Os) {H:Type} (enc:TypeId×Value->H):∃places,DataW.whole enc Tryz.prog ((vv os).forCall (fun _ _=>0) ⟨#[],OV,[]⟩).memory Tryz.f8.params.toList Rows.hierarchyMonotoneSpec.vars false OV.toList 8=some ([.nil,.nil,.nil,.lit (.int .i64 0),.lit (.int .i64 0)],[],places):=
 ⟨[],by kernel_rfl⟩
set_option maxRecDepth 100000 in
theorem lifted (os:Os) (started:os.Started) (H:Type) (enc:TypeId×Value->H) (F:Stop.Interp) :
  ReturnsInHanded {} Tryz.checked os 8 .any ((Rows.OpenSpec.upto Rows.hierarchyMonotoneSpec).preRow enc Tryz.prog Tryz.f8 Rows.hierarchyMonotoneUptoRow.domain false Rows.hierarchyMonotoneUptoRow.laid) (((Rows.OpenSpec.upto Rows.hierarchyMonotoneSpec).at F).post enc Tryz.prog Tryz.f8 false true false false):=by
 obtain⟨places,hx⟩:=reads os enc;refine returnsInHanded_of_row (C:=Tryz.checked) (s:=(Rows.OpenSpec.upto Rows.hierarchyMonotoneSpec)) own started (by kernel_rfl) Tryz.func8
  (witness_row_atRef (enc:=enc) (C:=Tryz.checked) false (vv os) OV rfl (by kernel_rfl) (by kernel_rfl) (by kernel_rfl)
   (OpenSpec.preRow_of_cond 8 hx (by kernel_rfl) (fun k hk=>by cases hk;kernel_rfl) (by kernel_rfl) (SV os _))) ?_
 intro W base args ds gs before hval hW _ hcond _ hL _ _;exact TZ H enc W base args ds gs before hval hW hL (hcond _ rfl)
end Go.Proofs.YtiihadmgkoamoaaGreatDoor
namespace Go.Proofs.YtiihadmgkoamoaaGreatDoor
open Go.ChangeShapes Go.WideShapes Go.ChangeAt Go.RowKit Go.Tp
set_option maxHeartbeats 4000000 in
set_option maxRecDepth 100000 in
theorem said:Rows.HierarchyMonotoneUptoSaid:=
 OpenClaim.holds_of_cond 8 Tryz.f8 rfl rfl rfl rfl rfl rfl rfl ⟨rfl,rfl,rfl,rfl,rfl⟩ rfl rfl rfl rfl rfl (by as_aux_lemma=>kernel_rfl) Tryz.func8 (by as_aux_lemma=>kernel_rfl)
  (of_decide_eq_true (by as_aux_lemma=>kernel_rfl)) (by unfold Func.isWrapper;first|(rw[if_pos (by decide +kernel)];kernel_rfl)|(rw[if_neg (by decide +kernel)];exact⟨rfl,rfl⟩))
  (fun os started H enc _ F=>by rw[OpenClaim.pre_eq_preRow];exact lifted os started H enc F)
set_option maxRecDepth 100000 in
theorem plain (f:FuncId) (fn:Func) (hf:Tryz.pinned.checked.prog.funcNamed "telpher/tellaw3.HierarchyMonotone"=some f) (hfn:Tryz.pinned.checked.prog.funcs[f]?=some fn) :
  true=Tryz.pinned.checked.prog.looks []/\∀(j:Nat) t,fn.params[j]?=some t->Tryz.pinned.checked.prog.wantsStandIn t=false:=by
 obtain rfl:f=8:=Option.some.inj ((show Tryz.prog.funcNamed "telpher/tellaw3.HierarchyMonotone"=some 8 by kernel_rfl).symm.trans hf) |>.symm
 obtain rfl:fn=Tryz.f8:=(Option.some.inj (Tryz.func8.symm.trans hfn)).symm;refine⟨by kernel_rfl,fun j t ht=>?_⟩;rw[Tryz.params8] at ht;have w3:Tryz.prog.wantsStandIn 3=false:=by kernel_rfl
 have w22:Tryz.prog.wantsStandIn 22=false:=by kernel_rfl
 have hm:=Array.mem_of_getElem? ht;have key:∀x∈([22,22,22,3,3]:List Nat),x=22∨x=3:=by decide
 have h3:=key t (by simpa using hm)
 rcases h3 with rfl|rfl
 ·exact w22
 exact w3
theorem hierarchyMonotone_card:Rows.HierarchyMonotoneUptoCardSaid:=
 Claim7.holds_tied_plain_at .later [] _ _ _ _ said (fun _ h=>by cases h) (by kernel_rfl) (fun _ h=>by cases h) hierarchyMonotoneUpto_row_tie rfl ⟨rfl,rfl⟩ (by kernel_rfl) rfl plain (by kernel_rfl)
end Go.Proofs.YtiihadmgkoamoaaGreatDoor
#print axioms Go.Proofs.YtiihadmgkoamoaaGreatDoor.hierarchyMonotone_card
