/- HierarchyLookup returns true and changes nothing, for arguments of bulk at most 1048576 (the card of the second form; conditions: those of the given row). Names are shortened by a program, for the claim's bound. Part 3. -/
import Derived.Scope
import Derived.Deep.Slices
import Derived.ChangeSame
import Derived.LaidLaws
import Derived.RowKit
import Derived.KernelRfl
import Derived.ChangeSlices
import Derived.ReadAgain
import Derived.ChangeMaps5
import Derived.Test.YtiihadmgkoamoaaGreatDoorQ02
set_option linter.unusedVariables false
set_option linter.unusedSimpArgs false
set_option maxRecDepth 100000
set_option maxHeartbeats 4000000
namespace Go.Tp
noncomputable def eO (l:Sl):Nat->Sl:=
 @List.rec (Nat×ac) (fun _=>Nat->Sl) (fun _=>[]) (fun p _ ih m=>@Bool.rec (fun _=>Sl) (p::ih (Nat.xor m (Nat.pow 2 p.1))) (ih m) (Nat.beq (Nat.land 1 (Nat.shiftRight m p.1)) 0)) l
theorem agX (m d:Nat):Nat.beq (Nat.land 1 (Nat.shiftRight m d)) 0=!(m.testBit d):=by
 have e:m.testBit d=(Nat.land 1 (Nat.shiftRight m d) != 0):=rfl;rw[e];generalize Nat.land 1 (Nat.shiftRight m d)=x
 by_cases h:x=0
 ·subst h;rfl
 have h1:Nat.beq x 0=false:=by rw[Bool.eq_false_iff];intro hc;rw[Nat.beq_eq] at hc;exact h hc
 have h2:(x != 0)=true:=by simpa using h
 rw[h1,h2];rfl
theorem wS (d:Nat) (v:ac) (r:Sl) (m:Nat):eO ((d,v)::r) m=if m.testBit d=true then (d,v)::eO r (m ^^^ 2 ^ d) else eO r m:=by
 have e:eO ((d,v)::r) m=@Bool.rec (fun _=>Sl) ((d,v)::eO r (m ^^^ 2 ^ d)) (eO r m) (Nat.beq (Nat.land 1 (Nat.shiftRight m d)) 0):=rfl;rw[e,agX]
 cases m.testBit d <;> simp
theorem si:∀(l:Sl) (m t:Nat),m.testBit t=false->rh (eO l m) t=.undef
 | [],_,_,_=>rfl
 |(d,v)::r,m,t,h=>by
  rw[wS]
  split
  ·rename_i hd;have hne:d≠t:=fun e=>by rw[e,h] at hd;simp at hd
   rw[iw,if_neg hne]
   apply si
   rw[Nat.testBit_xor,h,Nat.testBit_two_pow_of_ne hne];rfl
  exact si r m t h
theorem sj:∀(l:Sl) (m t:Nat),rh (eO l m) t=rh l t∨rh (eO l m) t=.undef
 | [],_,_=>.inl rfl
 |(d,v)::r,m,t=>by
  rw[wS,iw]
  split
  ·rw[iw]
   split
   ·exact .inl rfl
   exact sj r _ t
  rename_i hd
  split
  ·rename_i he;subst he;exact .inr (si r m d (by simpa using hd))
  exact sj r m t
theorem Gf {w:World} {R:Own} {N:Name->Option Nat}:∀{as as':List ac} {vs:List Value} {bs:List Nat},as'.length=as.length->(∀i:Nat,as'[i]?=as[i]?∨as'[i]?=some .undef)->ak w R N as vs bs->∃bs',ak w R N as' vs bs'/\bs'.Sublist bs
 | [],[],_,bs,_,_,h=>⟨bs,h,.refl _⟩
 | [],_::_,_,_,hl,_,_=>by simp at hl
 | _::_,[],_,_,hl,_,_=>by simp at hl
 | a::as,a'::as',vs,bs,hl,hi,h=>by
  obtain⟨v,vs',b1,b2,rfl,rfl,h1,h2⟩:=az h;obtain⟨bs',k1,k2⟩:=Gf (as:=as) (as':=as') (by simpa using hl) (fun i=>by simpa using hi (i+1)) h2
  rcases hi 0 with h0|h0
  ·simp at h0;subst h0;exact⟨b1++bs',aH h1 k1,List.Sublist.append (.refl _) k2⟩
  simp at h0;subst h0;exact⟨[]++bs',aH (aW _) k1,List.Sublist.append (List.nil_sublist _) k2⟩
def lj (f:ab) (m:Sl->Sl):ab:=match f with|⟨sl,locs,heap,next⟩=>⟨m sl,locs,heap,next⟩
theorem dh.prune {G:bJ} {w:World} {R:Own} {N:Name->Option Nat} {tmps:List Value} {n:Nat} {f:ab} {bsT bsL bsH bsF:List Nat} (h:dh G w R N tmps (f.aw n) undef .undef [] bsT bsL bsH bsF) (m:Nat) :
  ∃bsT',dh G w R N tmps ((lj f (fun l=>eO l m)).aw n) undef .undef [] bsT' bsL bsH bsF:=by
 obtain⟨sl,locs,heap,next⟩:=f;obtain⟨bsT',k1,k2⟩:=Gf (as':=Gb n 0 (eO sl m)) (by simp[ab.aw,nM]) (fun i=>by
  simp only[ab.aw,lR]
  split
  ·rcases sj sl m (0+i) with h|h
   ·exact .inl (by rw[h])
   exact .inr (by rw[h])
  exact .inl rfl) h.tmps
 exact⟨bsT',aW _,k1,h.locs,h.heap,List.Nodup.sublist (List.Sublist.append (.refl _) (List.Sublist.append k2 (.refl _))) h.nodup,h.next,h.glob,h.frame⟩
mutual
def du (k:Nat):ac->Bool
 | .ptr (.out o) _=>Nat.ble k o
 | .ptr (.loc _) _=>true
 | .map (.out o)=>Nat.ble k o
 | .map (.loc _)=>true
 | .win (.out o) _ _ _=>Nat.ble k o
 | .win (.loc _) _ _ _=>true
 | .fn _ a b=>dt k a||dt k b
 | .agg cs=>dt k cs
 | .tup cs=>dt k cs
 | _=>false
def dt (k:Nat):List ac->Bool
 | []=>false
 | a::r=>du k a||dt k r
end
def ko (k:Nat):Name->Bool
 | .out o=>Nat.blt o k
 | .loc _=>false
def eH (k:Nat):Heap->Heap
 | []=>[]
 |(m,o)::r=>match ko k m with|true=>(m,o)::eH k r|false=>eH k r
def ly (k:Nat):aT->Bool
 | .cells cs=>dt k cs
 | .map _=>false
def cC (k:Nat):Heap->Bool
 | []=>false
 |(_,o)::r=>ly k o||cC k r
mutual
def KZ:ac->List Nat
 | .ptr (.out o) _=>[o]
 | .map (.out o)=>[o]
 | .win (.out o) _ _ _=>[o]
 | .fn _ a b=>Ck a++Ck b
 | .agg cs=>Ck cs
 | .tup cs=>Ck cs
 | _=>[]
def Ck:List ac->List Nat
 | []=>[]
 | a::r=>KZ a++Ck r
end
def gI (o:Nat):List Nat->Bool
 | []=>false
 | x::r=>match Nat.beq x o with|true=>true|false=>gI o r
def addN:List Nat->List Nat->List Nat
 | [],l=>l
 | n::ns,l=>match gI n l with|true=>addN ns l|false=>addN ns (n::l)
def qH (k:Nat) (l:List Nat):Heap->List Nat
 | []=>l
 |(.out o,.cells cs)::r=>(match Nat.blt o k||gI o l with|true=>qH k (addN (Ck cs) l) r|false=>qH k l r)
 | _::r=>qH k l r
def Et (k:Nat) (h:Heap):Nat->List Nat->List Nat
 | 0,l=>l
 | n+1,l=>Et k h n (qH k l h)
def mV (k:Nat) (l:List Nat):Heap->Heap
 | []=>[]
 |(.out o,x)::r=>(match Nat.blt o k||gI o l with|true=>(.out o,x)::mV k l r|false=>mV k l r)
 | _::r=>mV k l r
def ri (k:Nat) (r:ew):ew:=
 match r with
 | ⟨val,heap,next⟩=>match du k val||cC k (eH k heap) with
  | false=>⟨val,eH k heap,k⟩
  | true=>⟨val,mV k (Et k heap 3 (KZ val)) heap,next⟩
section
variable {w:World} {R:Own} {M M2:Name->Option Nat}
theorem pu (k:Nat):∀{os:Heap} {bs:List Nat},ao w R M os bs->∃bs',ao w R M (eH k os) bs'/\bs'.Sublist bs
 | [],bs,h=>⟨bs,h,.refl _⟩
 |(m,o)::os,_,⟨b,b1,b2,e,hn,ho,hr⟩=>by
  subst e;obtain⟨bs',k1,k2⟩:=pu k hr;simp only[eH]
  split
  ·exact⟨b::(b1++bs'),⟨b,b1,bs',rfl,hn,ho,k1⟩,(List.Sublist.append (.refl _) k2).cons_cons _⟩
  exact⟨bs',k1,k2.trans ((List.sublist_append_right b1 b2).cons _)⟩
theorem kq (k:Nat) (l:List Nat):∀{os:Heap} {bs:List Nat},ao w R M os bs->∃bs',ao w R M (mV k l os) bs'/\bs'.Sublist bs
 | [],bs,h=>⟨bs,h,.refl _⟩
 |(.out m,o)::os,_,⟨b,b1,b2,e,hn,ho,hr⟩=>by
  subst e;obtain⟨bs',k1,k2⟩:=kq k l hr;simp only[mV]
  split
  ·exact⟨b::(b1++bs'),⟨b,b1,bs',rfl,hn,ho,k1⟩,(List.Sublist.append (.refl _) k2).cons_cons _⟩
  exact⟨bs',k1,k2.trans ((List.sublist_append_right b1 b2).cons _)⟩
 |(.loc m,o)::os,_,⟨b,b1,b2,e,hn,ho,hr⟩=>by
  subst e;obtain⟨bs',k1,k2⟩:=kq k l hr;exact⟨bs',k1,k2.trans ((List.sublist_append_right b1 b2).cons _)⟩
variable (hM:∀m b,(∃o,m=.out o)->M m=some b->M2 m=some b)
mutual
theorem al.low {k:Nat} (hM:∀o b,o < k->M (.out o)=some b->M2 (.out o)=some b):∀{a:ac} {v:Value} {bs:List Nat},du k a=false->al w R M a v bs->al w R M2 a v bs
 | .dat _,_,_,_,h=>by simp only[al] at h ⊢;exact h
 | .own _,_,_,_,h=>by simp only[al] at h ⊢;exact h
 | .ref _,_,_,_,h=>by simp only[al] at h ⊢;exact h
 | .ptr (.loc _) _,_,_,hn,_=>by simp[du] at hn
 | .ptr (.out o) _,_,_,hn,h=>by
  simp only[du] at hn;simp only[al] at h ⊢;obtain⟨h1,b,hb,e⟩:=h;exact⟨h1,b,hM o b (by rcases Nat.lt_or_ge o k with h|h;exact h;rw[fS h] at hn;simp at hn) hb,e⟩
 | .map (.loc _),_,_,hn,_=>by simp[du] at hn
 | .win (.loc _) _ _ _,_,_,hn,_=>by simp[du] at hn
 | .win (.out o) _ _ _,_,_,hn,h=>by
  simp only[du] at hn;simp only[al] at h ⊢;obtain⟨h1,b,cap,hb,e⟩:=h;exact⟨h1,b,cap,hM o b (by rcases Nat.lt_or_ge o k with h|h;exact h;rw[fS h] at hn;simp at hn) hb,e⟩
 | .map (.out o),_,_,hn,h=>by
  simp only[du] at hn;simp only[al] at h ⊢;obtain⟨h1,b,hb,e⟩:=h;exact⟨h1,b,hM o b (by rcases Nat.lt_or_ge o k with h|h;exact h;rw[fS h] at hn;simp at hn) hb,e⟩
 | .fn _ first captured,_,_,hn,h=>by
  simp only[du,Bool.or_eq_false_iff] at hn;simp only[al] at h ⊢;obtain⟨h1,vs',us',e,h2,h3⟩:=h;exact⟨h1,vs',us',e,ak.low hM (as:=first) hn.1 h2,ak.low hM (as:=captured) hn.2 h3⟩
 | .agg cs,_,_,hn,h=>by
  simp only[du] at hn;simp only[al] at h ⊢;obtain⟨vs',e,h2⟩:=h;exact⟨vs',e,ak.low hM (as:=cs) hn h2⟩
 | .tup cs,_,_,hn,h=>by
  simp only[du] at hn;simp only[al] at h ⊢;obtain⟨vs',e,h2⟩:=h;exact⟨vs',e,ak.low hM (as:=cs) hn h2⟩
 | .undef,_,_,_,h=>by simp only[al] at h ⊢;exact h
theorem ak.low {k:Nat} (hM:∀o b,o < k->M (.out o)=some b->M2 (.out o)=some b):∀{as:List ac} {vs:List Value} {bs:List Nat},dt k as=false->ak w R M as vs bs->ak w R M2 as vs bs
 | [],_,_,_,h=>by simp only[ak] at h ⊢;exact h
 | a::as,_,_,hn,h=>by
  simp only[dt,Bool.or_eq_false_iff] at hn;simp only[ak] at h ⊢;obtain⟨v',vs',b1',b2',e1,e2,h1,h2⟩:=h;exact⟨v',vs',b1',b2',e1,e2,al.low hM (a:=a) hn.1 h1,ak.low hM (as:=as) hn.2 h2⟩
end
theorem px (k:Nat):∀(l m:List ac),dt k (l++m)=(dt k l||dt k m)
 | [],m=>by simp[dt]
 | a::l,m=>by simp[dt,px k l m,Bool.or_assoc]
theorem Sa (k:Nat) (cs:List ac) (j:Nat):dt k (cs++List.replicate j .undef)=dt k cs:=by
 rw[px]
 have:dt k (List.replicate j .undef)=false:=by
  induction j with
  | zero=>rfl
  | succ j ih=>simp[List.replicate_succ,dt,du,ih]
 rw[this,Bool.or_false]
theorem ao.low {k:Nat} (hM:∀o b,o < k->M (.out o)=some b->M2 (.out o)=some b):∀{os:Heap} {bs:List Nat},(∀p∈os,ko k p.1=true)->cC k os=false->ao w R M os bs->ao w R M2 os bs
 | [],_,_,_,h=>h
 |(m,o)::os,_,hs,hn,⟨b,b1,b2,e,hb,ho,hr⟩=>by
  simp only[cC,Bool.or_eq_false_iff] at hn;have hm:=hs (m,o) (by simp);refine⟨b,b1,b2,e,?_,?_,ao.low hM (fun p hp=>hs p (by simp[hp])) hn.2 hr⟩
  ·cases m with
   | loc i=>simp[ko] at hm
   | out i=>exact hM i b (qi (by simpa [ko] using hm)) hb
  cases o with
  | cells cs=>
   obtain⟨vs,el,sp,hblk,hrr,hR⟩:=ho;exact⟨vs,el,sp,hblk,hrr.low hM (by rw[Sa];simpa [ly] using hn.1),hR⟩
  | map es=>exact ho
theorem lP (k:Nat):∀os:Heap,∀p∈eH k os,ko k p.1=true
 | [],p,h=>by simp[eH] at h
 |(m,o)::os,p,h=>by
  simp only[eH] at h
  split at h
  ·rename_i hm
   rcases List.mem_cons.1 h with rfl|h
   ·exact hm
   exact lP k os p h
  exact lP k os p h
end
theorem aC.gc {P:Program} {G:bJ} {f:FuncId} {args:List ac} {heap:Heap} {next:Nat} {r:ew} (h:aC P G f args heap next (XQ r)):aC P G f args heap next (XQ (ri next r)):=by
 intro w R N cargs bsA bsH bsF ha hh hnd hnx hg hF;refine (h w R N cargs bsA bsH bsF ha hh hnd hnx hg hF).mono ?_;rintro e w' ⟨v',cv,heap',next',R',N',bsV,bsH',rfl,⟨rfl,rfl,rfl⟩,hv',hh',hnd',hnx',hk,hN⟩;obtain⟨val,heap',next'⟩:=r;dsimp only at hv' hh' hnx' ⊢;unfold ri;dsimp only
 split
 ·rename_i hnew;simp only[Bool.or_eq_false_iff] at hnew;obtain⟨bs',k1,k2⟩:=pu next hh'
  let N2:Name->Option Nat:=fun m=>match m with|.loc i=>N' (.loc i)|.out o=>if o < next then N' (.out o) else none
  have hM:∀o b,o < next->outs N' (.out o)=some b->outs N2 (.out o)=some b:=by
   intro o b ho hb;simp only[outs] at hb ⊢;simp only[N2];rw[if_pos ho];exact hb
  refine⟨val,cv,eH next heap',next,R',N2,bsV,bs',rfl,⟨rfl,rfl,rfl⟩,hv'.low hM hnew.1,k1.low hM (lP next heap') hnew.2,?_,?_,hk,?_⟩
  ·exact List.Nodup.sublist (List.Sublist.append (.refl _) (List.Sublist.append k2 (.refl _))) hnd'
  ·intro o b hb;simp only[N2] at hb
   split at hb
   ·assumption
   simp at hb
  intro o b hb;simp only[N2];rw[if_pos (hnx o b hb)];exact hN o b hb
 obtain⟨bs',k1,k2⟩:=kq next (Et next heap' 3 (KZ val)) hh';exact⟨val,cv,_,next',R',N',bsV,bs',rfl,⟨rfl,rfl,rfl⟩,hv',k1,List.Nodup.sublist (List.Sublist.append (.refl _) (List.Sublist.append k2 (.refl _))) hnd',hnx',hk,hN⟩
section
variable (X:jB) (E:bG) (G:bJ) (H:Hints) (n:Nat)
def uB (f:ab) (r:ew) (dst:Option Tmp):ab:=
 match f,r with
 | ⟨sl,locs,_,_⟩,⟨v,heap,next⟩=>jY ⟨sl,locs,heap,next⟩ dst v
theorem lm (f:ab) (r:ew) (dst:Option Tmp):(uB f r dst).aw n=({f.aw n with heap:=r.heap,next:=r.next }:aa).put dst r.val:=by
 obtain⟨sl,locs,heap,next⟩:=f;obtain⟨v,h,k⟩:=r;simp only[uB,eI];rfl
noncomputable def JJ (all:List Oper) (o:Oper) (f:ab):Option ab:=
 match ib n all f o.guard with
 | none=>none
 | some b=>match b with
  | true=>
   (match dq o.op with
    | some c=>(match qT E G H n c f with
     | some (g,args,f2)=>(match X g args f2.heap f2.next with
      | some r=>some (uB f2 r o.dst)
      | none=>none)
     | none=>none)
    | none=>xi E G n (readOnly H.moves all o) (lF H all o) o f)
  | false=>some (jY f o.dst (.tup []))
theorem vU {all:List Oper} {o:Oper} {f f':ab} (h:JJ X E G H n all o f=some f'):HN X E G H all o (f.aw n)=some (f'.aw n):=by
 unfold JJ at h;unfold HN;rw[lg]
 cases hw:ib n all f o.guard with
 | none=>rw[hw] at h;simp at h
 | some b=>
  rw[hw] at h
  cases b with
  | false=>simp at h;subst h;simp[eI]
  | true=>
   dsimp only at h ⊢;rw[if_pos rfl]
   cases hc:dq o.op with
   | none=>
    rw[hc] at h;dsimp only at h ⊢;rw[uq,h];rfl
   | some c=>
    rw[hc] at h;dsimp only at h ⊢;rw[AN]
    cases hcal:qT E G H n c f with
    | none=>rw[hcal] at h;simp at h
    | some x=>
     obtain⟨g,args,f2⟩:=x;rw[hcal] at h;dsimp only[Option.map_some] at h ⊢;have e1:(f2.aw n).heap=f2.heap:=rfl;have e2:(f2.aw n).next=f2.next:=rfl;rw[e1,e2]
     cases hr:X g args f2.heap f2.next with
     | none=>rw[hr] at h;simp at h
     | some r=>
      rw[hr] at h;simp at h;subst h;simp[lm]
noncomputable def Ec (all:List Oper) (ops:List Oper):ab->Option ab:=
 @List.rec Oper (fun _=>ab->Option ab) (fun f=>some f) (fun o _ ih f=>match JJ X E G H n all o f with|some f'=>ih f'|none=>none) ops
theorem qQ {all:List Oper}:∀{ops:List Oper} {f f':ab},Ec X E G H n all ops f=some f'->ER X E G H all ops (f.aw n)=some (f'.aw n)
 | [],f,f',h=>by
  have e:Ec X E G H n all [] f=some f:=rfl;rw[e] at h;simp at h;subst h;rfl
 | o::rest,f,f',h=>by
  have e:Ec X E G H n all (o::rest) f=(match JJ X E G H n all o f with|some f'=>Ec X E G H n all rest f'|none=>none):=rfl;rw[e] at h;simp only[ER]
  cases ho:JJ X E G H n all o f with
  | none=>rw[ho] at h;simp at h
  | some f1=>
   rw[ho] at h;rw[vU X E G H n ho];exact qQ h
noncomputable def vQ (tk:List Nat) (t:Tmp) (f:ab):List Nat:=match Js (rl n f t) with|true=>[]|false=>tk
theorem CD (tk:List Nat) (t:Tmp) (f:ab):lE tk t (f.aw n)=vQ n tk t f:=by
 unfold lE vQ;rw[jH]
 cases Js (rl n f t) <;> rfl
noncomputable def JI (fh:Bool) (tk:List Nat) (all:List Oper) (o:Oper) (f:ab):Option ab:=
 match ib n all f o.guard with
 | none=>none
 | some b=>match b with
  | true=>
   (match dq o.op with
    | some c=>(match nc E G H n c f with
     | some (g,args,f2)=>(match ik H o with
      | true=>(match X g args [] f2.next with
       | some ⟨v,[],k⟩=>some (uB f2 ⟨v,f2.heap,k⟩ o.dst)
       | _=>none)
      | false=>(match X g args f2.heap f2.next with
       | some r=>(match !mw H o||vg f2.heap r.heap with
        | true=>some (uB f2 r o.dst)
        | false=>none)
       | none=>none))
     | none=>none)
    | none=>(match fK o.op with
     | some t=>(match lV n fh all (gd all t (vQ n tk t f)) f with
      | some f1=>xi E G n false false o f1
      | none=>none)
     | none=>(match ku o.op with
      | true=>xi E G n (readOnly H.moves all o) (lF H all o) o f
      | false=>none)))
  | false=>some (jY f o.dst (.tup []))
theorem vT {fh:Bool} {tk:List Nat} {all:List Oper} {o:Oper} {f f':ab} (h:JI X E G H n fh tk all o f=some f'):HM X E G H fh tk all o (f.aw n)=some (f'.aw n):=by
 unfold JI at h;unfold HM;rw[lg]
 cases hw:ib n all f o.guard with
 | none=>rw[hw] at h;simp at h
 | some b=>
  rw[hw] at h
  cases b with
  | false=>simp at h;subst h;simp[eI]
  | true=>
   dsimp only at h ⊢;rw[if_pos rfl]
   cases hc:dq o.op with
   | none=>
    rw[hc] at h;dsimp only at h ⊢
    cases ht:fK o.op with
    | none=>
     rw[ht] at h;dsimp only at h ⊢
     cases hst:ku o.op with
     | false=>rw[hst] at h;simp at h
     | true=>
      rw[hst] at h;dsimp only at h ⊢;rw[uq,h];rfl
    | some t=>
     rw[ht] at h;dsimp only at h ⊢;rw[CD]
     cases hs:lV n fh all (gd all t (vQ n tk t f)) f with
     | none=>rw[hs] at h;simp at h
     | some f1=>
      rw[hs] at h;rw[om n fh all _ _ _ hs];dsimp only at h ⊢;rw[uq,h];rfl
   | some c=>
    rw[hc] at h;dsimp only at h ⊢;rw[xq]
    cases hcal:nc E G H n c f with
    | none=>rw[hcal] at h;simp at h
    | some x=>
     obtain⟨g,args,f2⟩:=x;rw[hcal] at h;dsimp only[Option.map_some] at h ⊢;have e1:(f2.aw n).heap=f2.heap:=rfl;have e2:(f2.aw n).next=f2.next:=rfl;rw[e1,e2]
     cases hpu:ik H o with
     | true=>
      rw[hpu] at h;dsimp only at h ⊢
      split at h
      ·rename_i v k hr;simp at h;subst h;simp[lm,hr]
      simp at h
     | false=>
      rw[hpu] at h;dsimp only at h ⊢
      cases hr:X g args f2.heap f2.next with
      | none=>rw[hr] at h;simp at h
      | some r=>
       rw[hr] at h;dsimp only at h ⊢
       cases hst:(!mw H o||vg f2.heap r.heap) with
       | false=>rw[hst] at h;simp at h
       | true=>
        rw[hst] at h;simp at h;subst h;simp[lm]
noncomputable def GN (tk:List Nat) (fh:Bool) (fq:Nat->Bool) (all:List Oper) (l:List (Nat×Bool)):ab->Option ab:=
 @List.rec (Nat×Bool) (fun _=>ab->Option ab) (fun f=>some f) (fun p _ ih f=>
  match all[p.1]? with
  | none=>none
  | some o=>match p.2 with
   | true=>(match JI X E G H n fh tk all o f with|some f'=>ih f'|none=>none)
   | false=>(match pO E G n (fh||fq p.1) all o f with
    | some a=>ih (jY f o.dst a)
    | none=>none)) l
theorem NI {tk:List Nat} {fh:Bool} {fq:Nat->Bool} {all:List Oper} {i:Nat} {lone:Bool} {rest:List (Nat×Bool)} {f:ab}:GN X E G H n tk fh fq all ((i,lone)::rest) f=(match all[i]? with
   | none=>none
   | some o=>match lone with
    | true=>(match JI X E G H n fh tk all o f with|some f'=>GN X E G H n tk fh fq all rest f'|none=>none)
    | false=>(match pO E G n (fh||fq i) all o f with
     | some a=>GN X E G H n tk fh fq all rest (jY f o.dst a)
     | none=>none)):=rfl
theorem qP {tk:List Nat} {fh:Bool} {fq:Nat->Bool} {all:List Oper}:∀{l:List (Nat×Bool)} {f f':ab},GN X E G H n tk fh fq all l f=some f'->C7 X E G H tk fh fq all l (f.aw n)=some (f'.aw n)
 | [],f,f',h=>by
  have e:GN X E G H n tk fh fq all [] f=some f:=rfl;rw[e] at h;simp at h;subst h;rfl
 |(i,lone)::rest,f,f',h=>by
  rw[NI] at h;simp only[C7]
  cases hi:all[i]? with
  | none=>rw[hi] at h;simp at h
  | some o=>
   rw[hi] at h
   cases lone
   ·dsimp only at h ⊢;rw[if_neg (by simp),CE]
    cases ho:pO E G n (fh||fq i) all o f with
    | none=>rw[ho] at h;simp at h
    | some a=>
     rw[ho] at h;dsimp only at h ⊢;rw[←eI];exact qP h
   dsimp only at h ⊢;rw[if_pos rfl]
   cases ho:JI X E G H n fh tk all o f with
   | none=>rw[ho] at h;simp at h
   | some f1=>
    rw[ho] at h;rw[vT X E G H n ho];exact qP h
noncomputable def AL (all:List Oper):Nat->Array Bool->ab->Option ab
 | 0,_,f=>some f
 | m+1,listed,f=>match Region.ready .any all.toArray listed with
  | []=>some f
  | i::_=>(match all[i]? with
   | some o=>(match JJ X E G H n all o f with|some f1=>AL all m (bW listed i) f1|none=>none)
   | none=>none)
noncomputable def Ej (all:List Oper) (k:Nat) (s0:aa):Nat->Array Bool->ab->Bool
 | 0,listed,f=>(Region.ready .any all.toArray listed).isEmpty&&MV k s0 (f.aw n)
 | m+1,listed,f=>match Region.ready .any all.toArray listed with
  | []=>MV k s0 (f.aw n)
  | i::l=>(i::l).all fun i=>match all[i]? with
   | some o=>(match JJ X E G H n all o f with|some f1=>Ej all k s0 m (bW listed i) f1|none=>false)
   | none=>false
theorem xo {all:List Oper}:∀(m:Nat) (listed:Array Bool) (f f':ab),AL X E G H n all m listed f=some f'->Da X E G H all m listed (f.aw n)=some (f'.aw n)
 | 0,listed,f,f',h=>by simp only[AL,Option.some.injEq] at h;subst h;rfl
 | m+1,listed,f,f',h=>by
  simp only[AL] at h;simp only[Da]
  split at h
  ·rename_i he;rw[he];simp only[Option.some.injEq] at h;subst h;rfl
  rename_i i l he;rw[he];dsimp only
  split at h
  ·rename_i o ho;rw[ho];dsimp only
   split at h
   ·rename_i f1 hf1;rw[vU X E G H n hf1];exact xo m _ f1 f' h
   simp at h
  simp at h
theorem xp {all:List Oper} {k:Nat} {s0:aa}:∀(m:Nat) (listed:Array Bool) (f:ab),Ej X E G H n all k s0 m listed f=true->rS X E G H all k s0 m listed (f.aw n)=true
 | 0,listed,f,h=>h
 | m+1,listed,f,h=>by
  simp only[Ej] at h;simp only[rS]
  split at h
  ·rename_i he;rw[he];exact h
  rename_i i l he;rw[he];dsimp only;refine List.all_eq_true.2 fun j hj=>?_
  have h1:=List.all_eq_true.1 h j hj
  split at h1
  ·rename_i o ho;rw[ho];dsimp only
   split at h1
   ·rename_i f1 hf1;rw[vU X E G H n hf1];exact xp m _ f1 h1
   simp at h1
  simp at h1
noncomputable def AJ (h:ay) (all:List Oper):Nat->Array Bool->ab->Option ab
 | 0,_,f=>some f
 | m+1,listed,f=>match Region.ready .any all.toArray listed with
  | []=>none
  | i::_=>(match all[i]? with
   | some o=>(match JI X E G H n (aV H all h.pre) h.tk all o f with|some f1=>AJ h all m (bW listed i) f1|none=>none)
   | none=>none)
noncomputable def Eg (h:ay) (all:List Oper) (p:Array Bool) (s0:aa):Nat->Array Bool->ab->Bool
 | 0,listed,f=>rm listed.toList p.toList&&B6 s0 (f.aw n)
 | m+1,listed,f=>!rm listed.toList p.toList&&!(Region.ready .any all.toArray listed).isEmpty&&(Region.ready .any all.toArray listed).all fun i=>h.pre.contains (i,true)&&(match all[i]? with
   | some o=>(match JI X E G H n (aV H all h.pre) h.tk all o f with|some f1=>Eg h all p s0 m (bW listed i) f1|none=>false)
   | none=>false)
noncomputable def JR (all:List Oper) (h:ay) (f:ab):Option ab:=
 match GN X E G H n h.tk (aV H all h.pre) (quietAt H all h.pre) all (bY h.pre) f with
 | some f1=>(match AJ X E G H n h all (h.pre.length - (bY h.pre).length) (ee (bY h.pre) (Array.replicate all.length false)) f1 with
  | some f0=>(match Eg X E G H n h all (ee h.pre (Array.replicate all.length false)) (f0.aw n) (h.pre.length - (bY h.pre).length) (ee (bY h.pre) (Array.replicate all.length false)) f1 with
   | true=>(match oq E n all h.nw f0 with
    | some f2=>Ec X E G H n all (dO all h.tail) f2
    | none=>none)
   | false=>none)
  | none=>none)
 | none=>none
theorem xl {h:ay} {all:List Oper}:∀(m:Nat) (listed:Array Bool) (f f':ab),AJ X E G H n h all m listed f=some f'->C9 X E G H h all m listed (f.aw n)=some (f'.aw n)
 | 0,listed,f,f',hh=>by simp only[AJ,Option.some.injEq] at hh;subst hh;rfl
 | m+1,listed,f,f',hh=>by
  simp only[AJ] at hh;simp only[C9]
  split at hh
  ·simp at hh
  rename_i i l he;rw[he];dsimp only
  split at hh
  ·rename_i o ho;rw[ho];dsimp only
   split at hh
   ·rename_i f1 hf1;rw[vT X E G H n hf1];exact xl m _ f1 f' hh
   simp at hh
  simp at hh
theorem xm {h:ay} {all:List Oper} {p:Array Bool} {s0:aa}:∀(m:Nat) (listed:Array Bool) (f:ab),Eg X E G H n h all p s0 m listed f=true->rR X E G H h all p s0 m listed (f.aw n)=true
 | 0,listed,f,hh=>hh
 | m+1,listed,f,hh=>by
  simp only[Eg,Bool.and_eq_true] at hh;simp only[rR,Bool.and_eq_true];refine⟨hh.1,List.all_eq_true.2 fun j hj=>?_⟩;have h1:=List.all_eq_true.1 hh.2 j hj;simp only[Bool.and_eq_true] at h1 ⊢;refine⟨h1.1,?_⟩;have h2:=h1.2
  split at h2
  ·rename_i o ho;rw[ho];dsimp only
   split at h2
   ·rename_i f1 hf1;rw[vT X E G H n hf1];exact xm m _ f1 h2
   simp at h2
  simp at h2
theorem GY {all:List Oper} {h:ay} {f f':ab} (hh:JR X E G H n all h f=some f'):yK X E G H all h (f.aw n)=some (f'.aw n):=by
 unfold JR at hh;unfold yK
 split at hh
 ·rename_i f1 h1;rw[qP X E G H n h1];dsimp only
  split at hh
  ·rename_i f0 h0;rw[xl X E G H n _ _ _ _ h0];dsimp only
   split at hh
   ·rename_i h2;rw[xm X E G H n _ _ _ h2];dsimp only
    split at hh
    ·rename_i f2 h3;rw[kz E n all h.nw f0 f2 h3];exact qQ X E G H n hh
    simp at hh
   simp at hh
  simp at hh
 simp at hh
noncomputable def GZ (all:List Oper) (h:ay) (f:ab):Option ab:=
 match gA h with
 | true=>(match AL X E G H n all all.length (Array.replicate all.length false) f with
  | some f0=>(match Ej X E G H n all f.next (f0.aw n) all.length (Array.replicate all.length false) f with|true=>some f0|false=>none)
  | none=>none)
 | false=>
 match hC h with
 | true=>JR X E G H n all (fY h) f
 | false=>
 match GN X E G H n h.tk (aV H all h.pre) (quietAt H all h.pre) all h.pre f with
 | some f1=>(match oq E n all h.nw f1 with
  | some f2=>Ec X E G H n all (dO all h.tail) f2
  | none=>none)
 | none=>none
theorem JQ {all:List Oper} {h:ay} {f f':ab} (hh:GZ X E G H n all h f=some f'):Kn X E G H all h (f.aw n)=some (f'.aw n):=by
 unfold GZ at hh;unfold Kn
 cases hx:gA h with
 | true=>
  rw[hx] at hh;dsimp only at hh;rw[if_pos rfl]
  split at hh
  ·rename_i f0 h0;rw[xo X E G H n _ _ _ _ h0];dsimp only
   split at hh
   ·rename_i h2;simp only[Option.some.injEq] at hh;subst hh
    have:=xp X E G H n _ _ _ h2
    have e:(f.aw n).next=f.next:=rfl;rw[e,this]
   simp at hh
  simp at hh
 | false=>
 rw[hx] at hh;rw[if_neg (by simp)];dsimp only at hh
 cases hlm:hC h with
 | true=>
  rw[hlm] at hh;rw[if_pos rfl];exact GY X E G H n hh
 | false=>
 rw[hlm] at hh;rw[if_neg (by simp)];dsimp only at hh
 cases h1:GN X E G H n h.tk (aV H all h.pre) (quietAt H all h.pre) all h.pre f with
 | none=>rw[h1] at hh;simp at hh
 | some f1=>
  rw[h1] at hh;rw[qP X E G H n h1];dsimp only at hh ⊢
  cases h2:oq E n all h.nw f1 with
  | none=>rw[h2] at hh;simp at hh
  | some f2=>
   rw[h2] at hh;rw[kz E n all h.nw f1 f2 h2];exact qQ X E G H n hh
noncomputable def CH (body:ab->Option (Exit×ab)) (fuel:Nat):ab->Option (Exit×ab):=
 @Nat.rec (fun _=>ab->Option (Exit×ab)) (fun _=>none) (fun _ ih f=>match body f with
  | some (.normal,f')=>ih f'
  | r=>r) fuel
def uK:Nat->Nat->Nat->List Nat
 | 0,_,_=>[]
 | m+1,k,g=>match Nat.beq g 0 with
  | true=>[]
  | false=>(match Nat.beq (Nat.land g 1) 1 with|true=>k::uK m (k+1) (Nat.shiftRight g 1)|false=>uK m (k+1) (Nat.shiftRight g 1))
def zt (a:ac) (heap:Heap):Option (Nat×List aq):=
 match rowOf a with
 | some x=>Dm x.1 x.2 (qm (.out x.1) heap)
 | none=>none
theorem Fs (a:ac) (heap:Heap):zt a heap=yg a heap:=by
 unfold zt yg
 cases rowOf a with
 | none=>rfl
 | some x=>simp only[lq]
noncomputable def acQ (n t:Nat) (f:ab):Option ab:=
 match zt (rl n f t) f.heap with
 | some (m,es)=>(match jY f (some t) (.dat (.slice es)) with
  | ⟨sl,locs,heap,next⟩=>some ⟨sl,locs,uS (.out m) heap,next⟩)
 | none=>none
noncomputable def GW (n:Nat):List Nat->ab->Option ab
 | [],f=>some f
 | t::r,f=>(match acQ n t f with|some f'=>GW n r f'|none=>none)
noncomputable def Eb (n:Nat):List Nat->ab->ab
 | [],f=>f
 | t::r,f=>Eb n r (xk false (ux f [rl n f t]) f []).1
noncomputable def lk (n mask:Nat) (f:ab):Option ab:=
 match Nat.beq (Nat.shiftRight mask 4096) 0 with
 | true=>some f
 | false=>GW n (uK 1000 0 (Nat.land (Nat.shiftRight mask 4096) (2 ^ 1024 - 1))) (Eb n (uK 1000 0 (Nat.shiftRight mask 5120)) f)
theorem JP {n t:Nat} {f f':ab} (h:acQ n t f=some f'):iC G (f.aw n) (f'.aw n):=by
 unfold acQ at h;rw[Fs] at h
 split at h
 ·rename_i m es hv;have e:Dn t (f.aw n)=some (f'.aw n):=by
   unfold Dn;rw[jH];have e2:(f.aw n).heap=f.heap:=rfl;rw[e2,hv];have hp:=eI (n:=n) f (some t) (.dat (.slice es));generalize jY f (some t) (.dat (.slice es))=g at h hp;obtain⟨sl,locs,heap,next⟩:=g;simp only[Option.some.injEq] at h;subst h;simp only[ab.aw,aa.put,qo] at hp ⊢;have q1:=congrArg aa.tmps hp;have q2:=congrArg aa.locs hp;have q3:=congrArg aa.heap hp;have q4:=congrArg aa.next hp;simp only at q1 q2 q3 q4;rw[q1,q2,q3,q4]
  exact NF e
 simp at h
theorem xn {n:Nat}:∀(l:List Nat) {f f':ab},GW n l f=some f'->iC G (f.aw n) (f'.aw n)
 | [],f,f',h=>by simp[GW] at h;subst h;exact .refl _ _
 | t::r,f,f',h=>by
  simp only[GW] at h
  split at h
  ·rename_i f1 h1;exact (JP G h1).trans (xn r h)
  simp at h
theorem uv {n:Nat}:∀(l:List Nat) (f:ab),iC G (f.aw n) ((Eb n l f).aw n)
 | [],f=>.refl _ _
 | t::r,f=>by
  simp only[Eb];refine iC.trans ?_ (uv r _);have h:=JF (G:=G) (ux f [rl n f t]) (f.aw n);rw[uw] at h;exact h
theorem ou {n mask:Nat} {f f':ab} (h:lk n mask f=some f'):iC G (f.aw n) (f'.aw n):=by
 unfold lk at h
 split at h
 ·simp at h;subst h;exact .refl _ _
 exact (uv G _ _).trans (xn G _ h)
noncomputable def iS (live:Nat->Nat) (fuel:Nat) (c:Code):ab->Option (Exit×ab):=
 Code.rec (motive:=fun _=>ab->Option (Exit×ab))
  (skip:=fun f=>some (.normal,f))
  (region:=fun id ops draw f=>
   (match (match draw with|true=>GZ X E G H n ops.toList (H.ord id) f|false=>Ec X E G (H.at id) n ops.toList ops.toList f) with
    | some f'=>(match lk n (live id) (lj f' (fun l=>eO l (live id))) with|some f2=>some (.normal,f2)|none=>none)
    | none=>none))
  (seq:=fun _ _ ix iy f=>(match ix f with
   | some (.normal,f')=>iy f'
   | r=>r))
  (cond:=fun c _ _ ix iy f=>(match oR G n f c with
   | .dat (.flat (.bool b))=>(match b with|true=>ix f|false=>iy f)
   | _=>none))
  (block:=fun id _ ic f=>(match ic f with
   | some (.exit i,f')=>(match Nat.beq i id with|true=>some (.normal,f')|false=>some (.exit i,f'))
   | r=>r))
  (loop:=fun _ ic f=>CH ic fuel f)
  (rangeFunc:=fun _ _ _ _ _ _ _=>none)
  (exit:=fun id f=>some (.exit id,f))
  (scope:=fun _ ic f=>(match ic f with
   | some (.goto _,_)=>none
   | r=>r))
  (label:=fun _ f=>some (.normal,f))
  (goto:=fun _ _=>none)
  (ret:=fun f=>some (.ret,f))
  (refuse:=fun _ _=>none) c
theorem G1 {live:Nat->Nat} {fuel:Nat} {c:Code} {f:ab}:iS X E G H n live fuel (.scope c) f=(match iS X E G H n live fuel c f with
   | some (.goto _,_)=>none
   | r=>r):=rfl
theorem NO {live:Nat->Nat} {fuel:Nat} {x y:Code} {f:ab}:iS X E G H n live fuel (.seq x y) f=(match iS X E G H n live fuel x f with
   | some (.normal,f')=>iS X E G H n live fuel y f'
   | r=>r):=rfl
theorem G2 {live:Nat->Nat} {fuel:Nat} {id:Nat} {c:Code} {f:ab}:iS X E G H n live fuel (.block id c) f=(match iS X E G H n live fuel c f with
   | some (.exit i,f')=>(match Nat.beq i id with|true=>some (.normal,f')|false=>some (.exit i,f'))
   | r=>r):=rfl
theorem JS {live:Nat->Nat} {fuel:Nat} {c:Operand} {x y:Code} {f:ab}:iS X E G H n live fuel (.cond c x y) f=(match oR G n f c with
   | .dat (.flat (.bool b))=>(match b with|true=>iS X E G H n live fuel x f|false=>iS X E G H n live fuel y f)
   | _=>none):=rfl
theorem Ek {live:Nat->Nat} {fuel:Nat} {id:Nat} {ops:Array Oper} {draw:Bool} {f:ab}:iS X E G H n live fuel (.region id ops draw) f =
   (match (match draw with|true=>GZ X E G H n ops.toList (H.ord id) f|false=>Ec X E G (H.at id) n ops.toList ops.toList f) with
    | some f'=>(match lk n (live id) (lj f' (fun l=>eO l (live id))) with|some f2=>some (.normal,f2)|none=>none)
    | none=>none):=rfl
theorem GP {P:Program} {c:Code} {body:ab->Option (Exit×ab)} (hb:∀f e f',body f=some (e,f')->∀Q:Exit->aa->Prop,Q e (f'.aw n)->dz P G c Q (f.aw n)) {k:Nat} {f f':ab} {e:Exit}
  (h:CH body k f=some (e,f')) {Q:Exit->aa->Prop} (hQ:Q e (f'.aw n)):dz P G (.loop c) Q (f.aw n):=by
 intro w R N act bsT bsL bsH bsF hr D hd;refine wp_loop_ghost (I:=fun k a w'=>∃f1 R' N' bsT' bsL' bsH',CH body k f1=some (e,f')/\dh G w' R' N' a.tmps.toList (f1.aw n) undef .undef [] bsT' bsL' bsH' bsF/\a.defers=D/\bA w R w' R' bsF/\(∀o b,N (.out o)=some b->N' (.out o)=some b)) (n0:=k) ?_ ?_
 ·exact⟨f,R,N,bsT,bsL,bsH,h,hr,hd,bj _,fun _ _ h=>h⟩
 rintro k a w' ⟨f1,R',N',bsT',bsL',bsH',hx,hr',hd',hk,hN⟩
 cases k with
 | zero=>exact absurd hx (by intro hx;cases hx)
 | succ k=>
  have hx:(match body f1 with
   | some (.normal,f')=>CH body k f'
   | r=>r)=some (e,f'):=hx
  have key:∀e1 f2,body f1=some (e1,f2)->(e1=.normal->CH body k f2=some (e,f'))->(e1≠.normal->e1=e/\f2=f')->c.wp P (Exit.then (fun a' w'=>∃n',n' < k+1/\∃f1 R' N' bsT' bsL' bsH',CH body n' f1=some (e,f')/\dh G w' R' N' a'.tmps.toList (f1.aw n) undef .undef [] bsT' bsL' bsH' bsF/\a'.defers=D/\bA w R w' R' bsF/\(∀o b,N (.out o)=some b->N' (.out o)=some b)) (C6 G D Q w R N bsF)) a w':=by
   intro e1 f2 hbody h1 h2;refine wp_mono (hb f1 e1 f2 hbody (fun e' s''=>e'=e1/\s''=f2.aw n) ⟨rfl,rfl⟩ w' R' N' a bsT' bsL' bsH' bsF hr' hd') ?_;rintro e3 a3 w3 ⟨s3,R3,N3,bsT3,bsL3,bsH3,⟨rfl,rfl⟩,hr3,hd3,hk3,hN3⟩
   by_cases he:e3=.normal
   ·subst he;exact⟨k,Nat.lt_succ_self k,f2,R3,N3,bsT3,bsL3,bsH3,h1 rfl,hr3,hd3,hk.trans hk3,fun o b h=>hN3 o b (hN o b h)⟩
   obtain⟨rfl,rfl⟩:=h2 he
   have:C6 G D Q w R N bsF e3 a3 w3:=⟨_,R3,N3,bsT3,bsL3,bsH3,hQ,hr3,hd3,hk.trans hk3,fun o b h=>hN3 o b (hN o b h)⟩
   cases e3 with
   | normal=>exact (he rfl).elim
   | _=>exact this
  cases hbd:body f1 with
  | none=>rw[hbd] at hx;simp at hx
  | some r=>
   obtain⟨e1,f2⟩:=r;rw[hbd] at hx
   cases e1 with
   | normal=>exact key _ _ hbd (fun _=>hx) (fun h=>(h rfl).elim)
   | _=>simp at hx;exact key _ _ hbd (fun h=>by simp at h) (fun _=>hx)
theorem xI {P:Program} {c:Code} {s s2:aa} {Q:Exit->aa->Prop} (h:dz P G c (fun e s'=>e=.normal/\s'=s2) s) {s3:aa} (hg:iC G s2 s3) (hQ:Q .normal s3):dz P G c Q s:=by
 intro w R N act bsT bsL bsH bsF hr D hd;refine wp_mono (h w R N act bsT bsL bsH bsF hr hd) ?_;rintro e a w' ⟨s',R',N',bsT',bsL',bsH',⟨rfl,rfl⟩,hr',hd',hk,hN⟩;obtain⟨R2,N2,t2,l2,h2,hr2,hk2,hN2⟩:=hg _ _ _ _ _ _ _ _ hr';exact⟨s3,R2,N2,t2,l2,h2,hQ,hr2,hd',hk.trans hk2,fun o b ho=>hN2 o b (hN o b ho)⟩
theorem Bp {P:Program} {c:Code} {s s2:aa} {Q:Exit->aa->Prop} (h:dz P G c (fun e s'=>e=.normal/\s'=s2) s) {s3:aa}
  (hw:∀(w:World) (R:Own) (N:Name->Option Nat) (tmps:List Value) (bsT bsL bsH bsF:List Nat),dh G w R N tmps s2 undef .undef [] bsT bsL bsH bsF->∃bsT',dh G w R N tmps s3 undef .undef [] bsT' bsL bsH bsF) (hQ:Q .normal s3):dz P G c Q s:=by
 intro w R N act bsT bsL bsH bsF hr D hd;refine wp_mono (h w R N act bsT bsL bsH bsF hr hd) ?_;rintro e a w' ⟨s',R',N',bsT',bsL',bsH',⟨rfl,rfl⟩,hr',hd',hk,hN⟩;obtain⟨bsT2,hr2⟩:=hw _ _ _ _ _ _ _ _ hr';exact⟨s3,R',N',bsT2,bsL',bsH',hQ,hr2,hd',hk,hN⟩
theorem eJ {P:Program} (hE:E.Ok P) (hX:HI P G X) (live:Nat->Nat) (fuel:Nat):∀(c:Code) (f f':ab) (e:Exit),cR H c=true->iS X E G H n live fuel c f=some (e,f')->∀Q:Exit->aa->Prop,Q e (f'.aw n)->dz P G c Q (f.aw n)
 | .skip,f,f',e,_,h,Q,hQ=>by
  have h:some (Exit.normal,f)=some (e,f'):=h;simp at h;obtain⟨rfl,rfl⟩:=h;exact gD wp_skip hQ
 | .region id ops draw,f,f',e,hc,h,Q,hQ=>by
  rw[Ek] at h
  cases draw
  ·dsimp only at h
   cases h1:Ec X E G (H.at id) n ops.toList ops.toList f with
   | none=>rw[h1] at h;simp at h
   | some f1=>
    rw[h1] at h;dsimp only at h
    cases h2:lk n (live id) (lj f1 (fun l=>eO l (live id))) with
    | none=>rw[h2] at h;simp at h
    | some f2=>
    rw[h2] at h;simp at h;obtain⟨rfl,rfl⟩:=h;refine xI G (Bp G (uT hE (nA hX (qQ X E G (H.at id) n h1) ⟨rfl,rfl⟩)) ?_ ⟨rfl,rfl⟩) (ou G h2) hQ;intro w R N tmps bsT bsL bsH bsF hr;exact hr.prune _
  dsimp only at h
  cases h1:GZ X E G H n ops.toList (H.ord id) f with
  | none=>rw[h1] at h;simp at h
  | some f1=>
   rw[h1] at h;dsimp only at h
   cases h2:lk n (live id) (lj f1 (fun l=>eO l (live id))) with
   | none=>rw[h2] at h;simp at h
   | some f2=>
   rw[h2] at h;simp at h;obtain⟨rfl,rfl⟩:=h;refine xI G (Bp G (Bq hE hE.mixed (by simpa [cR] using hc) (ES hX (JQ X E G H n h1) ⟨rfl,rfl⟩)) ?_ ⟨rfl,rfl⟩) (ou G h2) hQ;intro w R N tmps bsT bsL bsH bsF hr;exact hr.prune _
 | .seq x y,f,f',e,hc,h,Q,hQ=>by
  simp only[cR,Bool.and_eq_true] at hc;rw[NO] at h;refine C3 ?_
  cases hx:iS X E G H n live fuel x f with
  | none=>rw[hx] at h;simp at h
  | some r=>
   obtain⟨e1,f1⟩:=r;rw[hx] at h;refine eJ hE hX live fuel x f f1 e1 hc.1 hx _ ?_
   cases e1 with
   | normal=>exact eJ hE hX live fuel y f1 f' e hc.2 h Q hQ
   | _=>simp at h;obtain⟨rfl,rfl⟩:=h;exact hQ
 | .cond c x y,f,f',e,hc,h,Q,hQ=>by
  simp only[cR,Bool.and_eq_true] at hc;intro w R N act bsT bsL bsH bsF hr D hd;rw[JS] at h
  split at h
  ·rename_i b hb;obtain⟨bs,he⟩:=pX hr.tmps hr.glob c;rw[nb,hb] at he;obtain⟨_,he,_⟩:=aL he;refine wp_cond he ?_
   cases b
   ·exact eJ hE hX live fuel y f f' e hc.2 h Q hQ w R N act bsT bsL bsH bsF hr hd
   exact eJ hE hX live fuel x f f' e hc.1 h Q hQ w R N act bsT bsL bsH bsF hr hd
  simp at h
 | .block id c,f,f',e,hc,h,Q,hQ=>by
  simp only[cR] at hc;rw[G2] at h
  cases hx:iS X E G H n live fuel c f with
  | none=>rw[hx] at h;simp at h
  | some r=>
   obtain⟨e1,f1⟩:=r;rw[hx] at h;intro w R N act bsT bsL bsH bsF hr D hd
   apply wp_block
   refine wp_mono (eJ hE hX live fuel c f f1 e1 hc hx (fun e' s''=>e'=e1/\s''=f1.aw n) ⟨rfl,rfl⟩ w R N act bsT bsL bsH bsF hr hd) ?_;rintro e2 a w' ⟨s2,R',N',bsT',bsL',bsH',⟨rfl,rfl⟩,rest⟩
   cases e2 with
   | exit i=>
    simp only[Exit.inBlock];dsimp only at h
    by_cases hi:i=id
    ·have hb:Nat.beq i id=true:=by rw[Nat.beq_eq];exact hi
     rw[if_pos hi];rw[hb] at h;simp at h;obtain⟨rfl,rfl⟩:=h;exact⟨_,R',N',bsT',bsL',bsH',hQ,rest⟩
    have hb:Nat.beq i id=false:=by rw[Bool.eq_false_iff];intro hc;rw[Nat.beq_eq] at hc;exact hi hc
    rw[if_neg hi];rw[hb] at h;simp at h;obtain⟨rfl,rfl⟩:=h;exact⟨_,R',N',bsT',bsL',bsH',hQ,rest⟩
   | _=>simp at h;obtain⟨rfl,rfl⟩:=h;exact⟨_,R',N',bsT',bsL',bsH',hQ,rest⟩
 | .exit id,f,f',e,_,h,Q,hQ=>by
  have h:some (Exit.exit id,f)=some (e,f'):=h;simp at h;obtain⟨rfl,rfl⟩:=h;exact gD wp_exit hQ
 | .ret,f,f',e,_,h,Q,hQ=>by
  have h:some (Exit.ret,f)=some (e,f'):=h;simp at h;obtain⟨rfl,rfl⟩:=h;exact gD wp_ret hQ
 | .loop c,f,f',e,hc,h,Q,hQ=>by
  simp only[cR] at hc;exact GP G n (fun f e f' hb Q hQ=>eJ hE hX live fuel c f f' e hc hb Q hQ) h hQ
 | .rangeFunc _ _ _ _,_,_,_,_,h,_,_=>by cases h
 | .scope c,f,f',e,hc,h,Q,hQ=>by
  simp only[cR] at hc;rw[G1] at h
  cases hx:iS X E G H n live fuel c f with
  | none=>rw[hx] at h;simp at h
  | some r=>
   obtain⟨e1,f1⟩:=r;rw[hx] at h;intro w R N act bsT bsL bsH bsF hr D hd
   apply wp_scope_straight
   refine wp_mono (eJ hE hX live fuel c f f1 e1 hc hx (fun e' s''=>e'=e1/\s''=f1.aw n) ⟨rfl,rfl⟩ w R N act bsT bsL bsH bsF hr hd) ?_;rintro e2 a w' ⟨s2,R',N',bsT',bsL',bsH',⟨rfl,rfl⟩,rest⟩
   cases e2 with
   | goto l=>simp at h
   | _=>simp at h;obtain⟨rfl,rfl⟩:=h;exact⟨_,R',N',bsT',bsL',bsH',hQ,rest⟩
 | .label _,f,f',e,_,h,Q,hQ=>by
  have h:some (Exit.normal,f)=some (e,f'):=h;simp at h;obtain⟨rfl,rfl⟩:=h;exact gD wp_label hQ
 | .goto _,_,_,_,_,h,_,_=>by cases h
 | .refuse _,_,_,_,_,h,_,_=>by cases h
noncomputable def uA (f:ab) (a:Tmp) (t:TypeId):Option ac:=
 match rl n f a with
 | .ptr k off=>(match Th f k,E.ty t with
  | some (.cells cs),some i=>loadCells i off cs
  | _,_=>none)
 | _=>none
theorem G3 (f:ab) (a:Tmp) (t:TypeId):yG E (f.aw n) a t=uA E n f a t:=by
 unfold yG uA;rw[jH]
 cases rl n f a with
 | ptr k off=>dsimp only;rw[Ed];rfl
 | _=>rfl
noncomputable def iQ:ab->List ResultVar->Option (List ac)
 | _,[]=>some []
 | f,.tmp t::r=>(match iQ (uz n f (some 0) [.tmp t]) r with|some vs=>some (rl n f t::vs)|none=>none)
 | f,.cell a t::r=>(match uA E n f a t,iQ f r with|some v,some vs=>some (v::vs)|_,_=>none)
theorem pQ:∀(rs:List ResultVar) (f:ab),ia E (f.aw n) rs=iQ E n f rs
 | [],_=>rfl
 | .tmp t::r,f=>by
  simp only[ia,iQ,←AM,pQ r,jH]
  cases iQ E n (uz n f (some 0) [.tmp t]) r <;> rfl
 | .cell a t::r,f=>by
  simp only[ia,iQ,G3,pQ r]
  cases uA E n f a t <;> cases iQ E n f r <;> rfl
noncomputable def GX:List Name->ab->List ac->ab×List ac
 | [],f,args=>(f,args)
 | k::ks,f,args=>
  (match (bg k args||jS k f.locs) with
   | true=>(match vS true k f args with
   | some (f',args')=>GX ks f' args'
   | none=>GX ks f args)
   | false=>GX ks f args)
theorem yD:∀(ks:List Name) (f:ab) (args:List ac),im ks (f.aw n) args=((GX ks f args).1.aw n,(GX ks f args).2)
 | [],_,_=>rfl
 | k::ks,f,args=>by
  simp only[im,GX,CG];have e:(f.aw n).locs=f.locs:=rfl;rw[e]
  cases (bg k args||jS k f.locs) with
  | false=>rw[if_neg (by simp)];exact yD ks f args
  | true=>
   rw[if_pos rfl]
   cases vS true k f args with
   | none=>exact yD ks f args
   | some x=>exact yD ks x.1 x.2
noncomputable def xY (rs:List ResultVar) (f:ab):Option ew:=
 match iQ E n f rs with
 | none=>none
 | some vs=>
  match bS (jK vs) with
  | true=>some ⟨pack (jK vs),f.heap,f.next⟩
  | false=>match GX (repeatL f.locs.length (mU f.locs)) f (jK vs) with
   |(f',vs')=>if bS vs'=true then some ⟨pack vs',f'.heap,f'.next⟩ else none
theorem Ea (rs:List ResultVar) (f:ab):UN E rs (f.aw n)=xY E n rs f:=by
 unfold UN xY;rw[pQ]
 cases iQ E n f rs with
 | none=>rfl
 | some vs=>
  dsimp only
  cases bS (jK vs) with
  | true=>rw[if_pos rfl];rfl
  | false=>
   rw[if_neg (by simp)];dsimp only;have e:(f.aw n).locs=f.locs:=rfl;rw[e,yD];generalize GX (repeatL f.locs.length (mU f.locs)) f (jK vs)=pr;obtain⟨f',vs'⟩:=pr;rfl
def zf:Nat->List ac->Sl
 | _,[]=>[]
 | k,a::r=>(k,a)::zf (k+1) r
theorem th:∀(as:List ac) (k t:Nat),rh (zf k as) t=if k<=t then bC as (t - k) else .undef
 | [],k,t=>by
  rw[zf,AD]
  split <;> simp[bC]
 | a::r,k,t=>by
  rw[zf,iw,th r (k+1) t]
  by_cases h:k=t
  ·subst h;simp[bC]
  rw[if_neg h]
  by_cases h2:k<=t
  ·rw[if_pos (by omega),if_pos h2];unfold bC;rw[show t - k=(t - (k+1))+1 by omega];simp
  rw[if_neg (by omega),if_neg h2]
end
section
variable (E:bG) (G:bJ) (moves caps:FuncId->Bool) (F:FuncId->Option fL) (M:jB) (fuel:Nat)
noncomputable def AO:Nat->jB
 | 0=>fun _ _ _ _=>none
 | k+1=>fun g args heap next=>
  match F g with
  | none=>none
  | some x=>match Nat.ble args.length x.ntmps with
   | false=>none
   | true=>(match iS (fun g args heap next=>match M g args heap next with|some r=>some r|none=>AO k g args heap next) E G ⟨moves,x.ord,caps,rowsOf caps g⟩ x.ntmps x.live fuel x.code ⟨zf 0 args,[],heap,next⟩ with
    | some (.ret,f)=>(match xY E x.ntmps x.results f with|some r=>some (ri next r)|none=>none)
    | some (.normal,f)=>(match xY E x.ntmps x.results f with|some r=>some (ri next r)|none=>none)
    | _=>none)
variable {E G moves caps F M}
theorem pV {P:Program} (hE:E.Ok P) (hF:FOk P moves caps F) (hM:HI P G M):∀k,HI P G (AO E G moves caps F M fuel k)
 | 0=>by intro f args heap next r h;cases h
 | k+1=>by
  intro g args heap next r h;simp only[AO] at h
  split at h
  ·simp at h
  rename_i x hx;obtain⟨fn,h1,h2,h3,h4,h5⟩:=hF g x hx;have ih:=pV hE hF hM k;have hX:HI P G (fun g args heap next=>match M g args heap next with|some r=>some r|none=>AO E G moves caps F M fuel k g args heap next):=by
   intro g args heap next r h;dsimp only at h
   split at h
   ·rename_i r' hr';simp at h;subst h;exact hM _ _ _ _ _ hr'
   exact ih _ _ _ _ _ h
  split at h
  ·simp at h
  rename_i hlen;have hlen:=fH hlen;have hent:(⟨zf 0 args,[],heap,next⟩:ab).aw x.ntmps=enter x.ntmps args heap next:=by
   simp only[ab.aw,enter];congr 1
   apply List.ext_getElem?
   intro i;rw[lR,Nat.zero_add,th,if_pos (Nat.zero_le _),Nat.sub_zero,List.getElem?_append]
   split
   ·split
    ·rename_i hi;unfold bC;rw[List.getElem?_eq_getElem hi]
    rename_i hi1 hi;rw[List.getElem?_replicate,if_pos (by omega)];unfold bC;rw[List.getElem?_eq_none (by omega)]
   rename_i hi;rw[if_neg (by omega),List.getElem?_replicate,if_neg (by omega)]
  have key:∀e f,iS (fun g args heap next=>match M g args heap next with|some r=>some r|none=>AO E G moves caps F M fuel k g args heap next) E G ⟨moves,x.ord,caps,rowsOf caps g⟩ x.ntmps x.live fuel x.code ⟨zf 0 args,[],heap,next⟩=some (e,f)->e=.ret∨e=.normal->
    (match xY E x.ntmps x.results f with|some r=>some (ri next r)|none=>none)=some r->aC P G g args heap next (XQ r):=by
   intro e f hx he hr
   cases hf:xY E x.ntmps x.results f with
   | none=>rw[hf] at hr;simp at hr
   | some r0=>
    rw[hf] at hr;simp at hr;subst hr
    apply aC.gc
    refine ke hE h1 h2 ?_;intro _ _;rw[h3,h4,←hent];refine eJ _ E G ⟨moves,x.ord,caps,rowsOf caps g⟩ x.ntmps hE hX x.live fuel x.code _ _ _ (by rw[dW];exact h5) hx _ ?_
    have:=rQ (E:=E) (rs:=x.results) (s:=f.aw x.ntmps) (r:=r0) (by rw[Ea];exact hf)
    rcases he with rfl|rfl <;> exact this
  split at h
  ·rename_i f hf;exact key _ _ hf (.inl rfl) h
  ·rename_i f hf;exact key _ _ hf (.inr rfl) h
  simp at h
end
end Go.Tp
namespace Go.Tp
variable {P:Program} {G:bJ}
end Go.Tp
namespace Go.Tp
mutual
def Nf:ac->Bool
 | .dat _=>true
 | .own _=>true
 | .ref _=>true
 | .undef=>true
 | .agg cs=>F9 cs
 | .tup cs=>F9 cs
 | .fn _ x y=>F9 x&&F9 y
 | .ptr _ _=>false
 | .map _=>false
 | .win _ _ _ _=>false
def F9:List ac->Bool
 | []=>true
 | a::r=>Nf a&&F9 r
end
section
variable {w:World} {R:Own} {N N':Name->Option Nat}
mutual
theorem al.nm:∀{a:ac} {v:Value} {bs:List Nat},al w R N a v bs->Nf a=true->al w R N' a v bs
 | .dat _,_,_,h,_=>by simp only[al] at h ⊢;exact h
 | .own _,_,_,h,_=>by simp only[al] at h ⊢;exact h
 | .ref _,_,_,h,_=>by simp only[al] at h ⊢;exact h
 | .ptr _ _,_,_,_,hn=>by simp[Nf] at hn
 | .map _,_,_,_,hn=>by simp[Nf] at hn
 | .win _ _ _ _,_,_,_,hn=>by simp[Nf] at hn
 | .fn _ x y,_,_,h,hn=>by
  simp only[Nf,Bool.and_eq_true] at hn;simp only[al] at h ⊢;obtain⟨h1,vs,us,e,h2,h3⟩:=h;exact⟨h1,vs,us,e,ak.nm (l:=x) h2 hn.1,ak.nm (l:=y) h3 hn.2⟩
 | .agg cs,_,_,h,hn=>by
  simp only[Nf] at hn;simp only[al] at h ⊢;obtain⟨vs,e,h⟩:=h;exact⟨vs,e,ak.nm (l:=cs) h hn⟩
 | .tup cs,_,_,h,hn=>by
  simp only[Nf] at hn;simp only[al] at h ⊢;obtain⟨vs,e,h⟩:=h;exact⟨vs,e,ak.nm (l:=cs) h hn⟩
 | .undef,_,_,h,_=>by simp only[al] at h ⊢;exact h
theorem ak.nm:∀{l:List ac} {vs:List Value} {bs:List Nat},ak w R N l vs bs->F9 l=true->ak w R N' l vs bs
 | [],_,_,h,_=>by simp only[ak] at h ⊢;exact h
 | a::l,_,_,h,hn=>by
  simp only[F9,Bool.and_eq_true] at hn;simp only[ak] at h ⊢;obtain⟨v,vs',b1,b2,e1,e2,h1,h2⟩:=h;exact⟨v,vs',b1,b2,e1,e2,al.nm (a:=a) h1 hn.1,ak.nm (l:=l) h2 hn.2⟩
end
end
structure Bt where
 fn:FuncId
 args:List ac
 val:ac
def Bt.ok (m:Bt):Bool:=F9 m.args&&Nf m.val
def sq:List Bt->jB
 | []=>fun _ _ _ _=>none
 | m::l=>fun g args heap next=>
  match Nat.beq m.fn g with
  | false=>sq l g args heap next
  | true=>(match xZ m.args args with
   | true=>some ⟨m.val,heap,next⟩
   | false=>sq l g args heap next)
variable {P:Program} {G:bJ}
theorem Iu {m:Bt} (hm:m.ok=true) (h:aC P G m.fn m.args [] 0 (XQ ⟨m.val,[],0⟩)) (heap:Heap) (next:Nat):aC P G m.fn m.args heap next (XQ ⟨m.val,heap,next⟩):=by
 unfold Bt.ok at hm;simp only[Bool.and_eq_true] at hm;intro w R N cargs bsA bsH bsF hargs hheap hnd hnx hglob hF;have h2:=h w R (fun _=>none) cargs bsA [] (bsH++bsF) (hargs.nm hm.1) (by simp[ao]) (by simpa using hnd) (by intro o b ho;simp at ho) hglob (by
  intro b hb
  rcases List.mem_append.1 hb with hb|hb
  ·exact hheap.lt b hb
  exact hF b hb)
 refine h2.mono ?_;rintro e w' ⟨v,cv,heap',next',R',N',bsV,bsH',rfl,⟨rfl,rfl,rfl⟩,hv,hh,hnd',_,hk,_⟩;have hH':bsH'=[]:=by simpa [ao] using hh
 subst hH';exact⟨_,cv,heap,next,R',N,bsV,bsH,rfl,⟨rfl,rfl,rfl⟩,hv.nm hm.2,hheap.keep (hk.sub (by intro b hb;simp[hb])),by simpa using hnd',hnx,hk.sub (by intro b hb;simp[hb]),fun _ _ h=>h⟩
theorem Ch:∀{l:List Bt},(∀m∈l,m.ok=true/\aC P G m.fn m.args [] 0 (XQ ⟨m.val,[],0⟩))->HI P G (sq l)
 | [],_=>by intro f args heap next r h;simp[sq] at h
 | m::l,hall=>by
  intro f args heap next r h;have ih:=Ch (l:=l) fun m hm=>hall m (by simp[hm])
  simp only[sq] at h
  split at h
  ·exact ih f args heap next r h
  rename_i hf;have hf:=Nat.eq_of_beq_eq_true hf
  split at h
  ·rename_i hc;have h2:=iA hc;subst hf;subst h2;simp only[Option.some.injEq] at h;subst h;obtain⟨q1,q2⟩:=hall m (by simp);exact Iu q1 q2 heap next
  exact ih f args heap next r h
end Go.Tp
namespace Go.Tp
inductive Qy (α:Type):Type where
 |fin (a:α)
 |fail
 |bool (t:Nat) (b:Bool) (k:Bool->Qy α)
 |out (t:Nat) (o:Option Out) (k:Out->Qy α)
 |res (g:FuncId) (args:List ac) (heap:Heap) (next:Nat) (k:ew->Qy α)
 |stay (h h':Heap) (k:Qy α)
 |loop (n:Nat) (c:Code) (f:ab) (k:Exit×ab->Qy α)
 |both (a b:Qy α)
section
variable (P:Program) (G:bJ) {α:Type} (T:α->Prop)
def Qy.sX:Qy α->Prop
 | .fin a=>T a
 | .fail=>False
 | .bool _ b k=>(k b).sX
 | .out _ o k=>∃x,o=some x/\(k x).sX
 | .res g args heap next k=>aC P G g args heap next (fun v h m=>nq v->ya h->(k ⟨v,h,m⟩).sX)
 | .stay h h' k=>UF h h'/\k.sX
 | .loop n c f k=>dz P G (.loop c) (fun e s=>∃f',s=f'.aw n/\(k (e,f')).sX) (f.aw n)
 | .both a b=>a.sX/\b.sX
end
def F0 (o:Oper):Nat:=
 match o.dst with
 | some t=>t
 | none=>(match o.op with
  | .store _ (.tmp u) _=>100000+u
  | .mapUpdate _ (.tmp u) _ _=>100000+u
  | .insert _ (.tmp u) _ _=>100000+u
  | .call c=>(match c.args.toList with|.tmp u::_=>100000+u|_=>0)
  | _=>0)
section
variable {α:Type} (A B:Nat->Bool) (E:bG) (G:bJ) (H:Hints) (n:Nat)
noncomputable def xS (d:Option Tmp) (f:ab) (k:ab->Qy α):Qy α:=
 match d with
 | none=>k f
 | some t=>(match A t with
  | true=>(match rl n f t with
   | .dat (.flat (.bool b))=>.bool t b (fun b=>k (jY f (some t) (.dat (.flat (.bool b)))))
   | _=>k f)
  | false=>k f)
def yA (out:Out):Option aT:=
 match out with
 | ⟨_,eff⟩=>match eff with
  | .grow ob' _ _=>some ob'
  | _=>none
noncomputable def Ei (o:Oper) (k:Option Name) (f:ab) (out:Out):Option ab:=
 match out with
 | ⟨_,eff⟩=>match eff with
  | .grow ob' sz len=>(match f with
   | ⟨sl,locs,heap,next⟩=>match k with
    | some (.loc j)=>some (jY ⟨sl,uS (.loc j) locs,(.out next,ob')::heap,next+1⟩ o.dst (.win (.out next) sz 0 len))
    | some (.out j)=>some (jY ⟨sl,locs,(.out next,ob')::uS (.out j) heap,next+1⟩ o.dst (.win (.out next) sz 0 len))
    | none=>some (jY ⟨sl,locs,(.out next,ob')::heap,next+1⟩ o.dst (.win (.out next) sz 0 len)))
  | _=>none
theorem NN {o:Oper} {k:Option Name} {f f':ab} {out:Out} {ob:aT} (h1:yA out=some ob) (h2:dj ob=true) (h3:Ei o k f out=some f'):mW o k f out=some f':=by
 obtain⟨val,eff⟩:=out;obtain⟨sl,locs,heap,next⟩:=f
 cases eff with
 | grow ob' sz len=>
  simp only[yA,Option.some.injEq] at h1;subst h1
  rcases k with _|⟨_|_⟩ <;> simp only[Ei] at h3 <;> simp only[mW,h2,if_true] <;> exact h3
 | _=>simp[yA] at h1
noncomputable def FF (q take:Bool) (o:Oper) (f:ab) (k:ab->Qy α):Qy α:=
 match B (F0 o) with
 | true=>.out (F0 o) (jJ E take o.op (gz G n f (kN q o.op) 0 (opsL o.op)) (qR f o.op (gz G n f (kN q o.op) 0 (opsL o.op))))
   (fun out=>match yA out with
    | some ob=>.bool (F0 o+500000) (dj ob) (fun b=>match b with
     | true=>(match Ei o (looks o.op (gz G n f (kN q o.op) 0 (opsL o.op))) (uz n f (kN q o.op) (opsL o.op)) out with
      | some f'=>xS A n o.dst f' k
      | none=>.fail)
     | false=>.fail)
    | none=>(match mW o (looks o.op (gz G n f (kN q o.op) 0 (opsL o.op))) (uz n f (kN q o.op) (opsL o.op)) out with
     | some f'=>xS A n o.dst f' k
     | none=>.fail))
 | false=>(match xi E G n q take o f with
  | some f'=>xS A n o.dst f' k
  | none=>.fail)
noncomputable def Qk (all:List Oper) (o:Oper) (f:ab) (k:ab->Qy α):Qy α:=
 match ib n all f o.guard with
 | none=>.fail
 | some b=>match b with
  | true=>
   (match dq o.op with
    | some c=>(match qT E G H n c f with
     | some (g,args,f2)=>.res g args f2.heap f2.next (fun r=>xS A n o.dst (uB f2 r o.dst) k)
     | none=>.fail)
    | none=>FF A B E G n (readOnly H.moves all o) (lF H all o) o f k)
  | false=>k (jY f o.dst (.tup []))
noncomputable def Qi (all:List Oper) (ops:List Oper):ab->(ab->Qy α)->Qy α:=
 @List.rec Oper (fun _=>ab->(ab->Qy α)->Qy α) (fun f k=>k f) (fun o _ ih f k=>Qk A B E G H n all o f (fun f'=>ih f' k)) ops
noncomputable def Qj (fh:Bool) (tk:List Nat) (all:List Oper) (o:Oper) (f:ab) (k:ab->Qy α):Qy α:=
 match ib n all f o.guard with
 | none=>.fail
 | some b=>match b with
  | true=>
   (match dq o.op with
    | some c=>(match nc E G H n c f with
     | some (g,args,f2)=>(match ik H o with
      | true=>.res g args [] f2.next (fun r=>match r with
       | ⟨v,[],m⟩=>xS A n o.dst (uB f2 ⟨v,f2.heap,m⟩ o.dst) k
       | _=>.fail)
      | false=>.res g args f2.heap f2.next (fun r=>match mw H o with
       | true=>.stay f2.heap r.heap (xS A n o.dst (uB f2 r o.dst) k)
       | false=>xS A n o.dst (uB f2 r o.dst) k))
     | none=>.fail)
    | none=>(match fK o.op with
     | some t=>(match lV n fh all (gd all t (vQ n tk t f)) f with
      | some f1=>FF A B E G n false false o f1 k
      | none=>.fail)
     | none=>(match ku o.op with
      | true=>FF A B E G n (readOnly H.moves all o) (lF H all o) o f k
      | false=>.fail)))
  | false=>k (jY f o.dst (.tup []))
noncomputable def Dr (fh:Bool) (all:List Oper) (o:Oper) (f:ab) (k:ac->Qy α):Qy α:=
 match B (F0 o) with
 | true=>(match ib n all f o.guard with
  | none=>.fail
  | some b=>match b with
   | true=>(match nY o.op with
    | true=>(match jJ E false o.op [] none with|some _=>k .undef|none=>.fail)
    | false=>(match dq o.op with
     | some _=>.fail
     | none=>(match jn o.op&&pA fh (looks o.op (gz G n f none 0 (opsL o.op))) with
      | true=>.out (F0 o) (jJ E false o.op (gz G n f none 0 (opsL o.op)) (qR f o.op (gz G n f none 0 (opsL o.op)))) (fun out=>match out with|⟨v,.keep⟩=>k v|_=>.fail)
      | false=>.fail)))
   | false=>k (.tup []))
 | false=>(match pO E G n fh all o f with
  | some a=>k a
  | none=>.fail)
noncomputable def M4 (tk:List Nat) (fh:Bool) (fq:Nat->Bool) (all:List Oper) (l:List (Nat×Bool)):ab->(ab->Qy α)->Qy α:=
 @List.rec (Nat×Bool) (fun _=>ab->(ab->Qy α)->Qy α) (fun f k=>k f) (fun p _ ih f k=>
  match all[p.1]? with
  | none=>.fail
  | some o=>match p.2 with
   | true=>Qj A B E G H n fh tk all o f (fun f'=>ih f' k)
   | false=>Dr B E G n (fh||fq p.1) all o f (fun a=>xS A n o.dst (jY f o.dst a) (fun f'=>ih f' k))) l
def KV (F:Nat->Qy α):Nat->List Nat->Qy α
 | i,[]=>F i
 | i,j::l=>.both (F i) (KV F j l)
noncomputable def FK (all:List Oper):Nat->Array Bool->ab->(ab->Qy α)->Qy α
 | 0,listed,f,k=>(match Region.ready .any all.toArray listed with
  | []=>k f
  | _=>.fail)
 | m+1,listed,f,k=>(match Region.ready .any all.toArray listed with
  | []=>k f
  | i::l=>KV (fun i=>match all[i]? with
   | some o=>Qk A B E G H n all o f (fun f'=>FK all m (bW listed i) f' k)
   | none=>.fail) i l)
noncomputable def FH (h:ay) (all:List Oper) (p:Array Bool):Nat->Array Bool->ab->(ab->Qy α)->Qy α
 | 0,listed,f,k=>(match rm listed.toList p.toList with
  | true=>k f
  | false=>.fail)
 | m+1,listed,f,k=>(match rm listed.toList p.toList with
  | true=>.fail
  | false=>(match Region.ready .any all.toArray listed with
   | []=>.fail
   | i::l=>KV (fun i=>match h.pre.contains (i,true) with
    | true=>(match all[i]? with
     | some o=>Qj A B E G H n (aV H all h.pre) h.tk all o f (fun f'=>FH h all p m (bW listed i) f' k)
     | none=>.fail)
    | false=>.fail) i l))
noncomputable def Qn (all:List Oper) (h:ay) (f:ab) (k:ab->Qy α):Qy α:=
 match gA h with
 | true=>FK A B E G H n all all.length (Array.replicate all.length false) f k
 | false=>(match hC h with
  | true=>M4 A B E G H n (fY h).tk (aV H all (fY h).pre) (quietAt H all (fY h).pre) all (bY (fY h).pre) f (fun f1=>
    FH A B E G H n (fY h) all (ee (fY h).pre (Array.replicate all.length false)) ((fY h).pre.length - (bY (fY h).pre).length) (ee (bY (fY h).pre) (Array.replicate all.length false)) f1 (fun f0=>
     match oq E n all (fY h).nw f0 with
     | some f2=>Qi A B E G H n all (dO all (fY h).tail) f2 k
     | none=>.fail))
  | false=>M4 A B E G H n h.tk (aV H all h.pre) (quietAt H all h.pre) all h.pre f (fun f1=>
    match oq E n all h.nw f1 with
    | some f2=>Qi A B E G H n all (dO all h.tail) f2 k
    | none=>.fail))
def vl:Sl->List Name
 | []=>[]
 | p::r=>Sc p.2++vl r
def aeJ (m:Name):List Name->Bool
 | []=>false
 | x::r=>match tN x m with|true=>true|false=>aeJ m r
def F1 (l:List Name):Heap->Heap
 | []=>[]
 |(m,o)::r=>match aeJ m l with|true=>(m,o)::F1 l r|false=>F1 l r
def agP (f:ab):ab:=
 match f with
 | ⟨sl,[],heap,next⟩=>⟨sl,[],heap,next⟩
 | ⟨sl,p::locs,heap,next⟩=>⟨sl,F1 (AZ (p::locs) (p::locs).length (sR (vl sl) [])) (p::locs),heap,next⟩
def aaY:FuncId:=4000000
def JO (caps:FuncId->Bool) (f:ab):ab:=match caps aaY with|true=>agP f|false=>f
noncomputable def yj (live:Nat->Nat) (id:Nat) (ops:Array Oper) (draw:Bool) (f:ab) (k:ab->Qy α):Qy α:=
 match draw with
 | true=>Qn A B E G H n ops.toList (H.ord id) f (fun f'=>match lk n (live id) (lj f' (fun l=>eO l (live id))) with|some f2=>k (JO H.caps f2)|none=>.fail)
 | false=>Qi A B E G (H.at id) n ops.toList ops.toList f (fun f'=>match lk n (live id) (lj f' (fun l=>eO l (live id))) with|some f2=>k (JO H.caps f2)|none=>.fail)
noncomputable def tE (live:Nat->Nat) (c:Code):ab->(Exit×ab->Qy α)->Qy α:=
 Code.rec (motive:=fun _=>ab->(Exit×ab->Qy α)->Qy α)
  (skip:=fun f k=>k (.normal,f))
  (region:=fun id ops draw f k=>yj A B E G H n live id ops draw f (fun f=>k (.normal,f)))
  (seq:=fun _ _ ix iy f k=>ix f (fun r=>match r with
   |(.normal,f')=>iy f' k
   | r=>k r))
  (cond:=fun c _ _ ix iy f k=>(match oR G n f c with
   | .dat (.flat (.bool b))=>(match b with|true=>ix f k|false=>iy f k)
   | _=>.fail))
  (block:=fun id _ ic f k=>ic f (fun r=>match r with
   |(.exit i,f')=>(match Nat.beq i id with|true=>k (.normal,f')|false=>k (.exit i,f'))
   | r=>k r))
  (loop:=fun c _ f k=>.loop n c f k)
  (rangeFunc:=fun _ _ _ _ _ _ _ _=>.fail)
  (exit:=fun id f k=>k (.exit id,f))
  (scope:=fun _ ic f k=>ic f (fun r=>match r with
   |(.goto _,_)=>.fail
   | r=>k r))
  (label:=fun _ f k=>k (.normal,f))
  (goto:=fun _ _ _=>.fail)
  (ret:=fun f k=>k (.ret,f))
  (refuse:=fun _ _ _=>.fail) c
end
noncomputable def Ql (A B:Nat->Bool) (E:bG) (G:bJ) (moves caps:FuncId->Bool) (x:fL) (g:FuncId) (args:List ac) (heap:Heap) (next:Nat):Qy ew:=
 match Nat.ble args.length x.ntmps with
 | false=>.fail
 | true=>tE A B E G ⟨moves,x.ord,caps,rowsOf caps g⟩ x.ntmps x.live x.code ⟨zf 0 args,[],heap,next⟩ (fun r=>match r with
  |(.ret,f)=>(match xY E x.ntmps x.results f with|some r=>.fin (ri next r)|none=>.fail)
  |(.normal,f)=>(match xY E x.ntmps x.results f with|some r=>.fin (ri next r)|none=>.fail)
  | _=>.fail)
section
variable {P:Program} {E:bG} {G:bJ} {H:Hints} {n:Nat} {α:Type} {A B:Nat->Bool} {T:α->Prop}
theorem wm {all:List Oper} {o:Oper} {K K':aa->Prop} {s:aa} (hk:∀s,K s->K' s) (h:mE (aC P G) E G H all o K s):mE (aC P G) E G H all o K' s:=by
 unfold mE at h ⊢
 split
 ·rename_i hw;simp[hw] at h
 rename_i b hw;simp only[hw] at h
 split
 ·rename_i hb;simp only[hb,if_true] at h
  split
  ·rename_i c hc;simp only[hc] at h
   split
   ·rename_i f args s2 ha;simp only[ha] at h;exact h.mono fun v heap n hq h1 h2=>hk _ (hq h1 h2)
   rename_i ha;simp[ha] at h
  rename_i hc;simp only[hc] at h
  split
  ·rename_i s' hs';simp only[hs'] at h;exact hk _ h
  rename_i hs';simp[hs'] at h
 rename_i hb;simp only[hb] at h;exact hk _ h
def uW (P:Program) (G:bJ) (n:Nat) (T:α->Prop) (k:ab->Qy α) (s:aa):Prop:=∃f',s=f'.aw n/\(k f').sX P G T
theorem lM {d:Option Tmp} {f:ab} {k:ab->Qy α} (h:(xS A n d f k).sX P G T):uW P G n T k (f.aw n):=by
 unfold xS at h
 cases d with
 | none=>exact⟨f,rfl,h⟩
 | some t=>
  dsimp only at h
  split at h
  ·split at h
   ·rename_i b hb;refine⟨jY f (some t) (.dat (.flat (.bool b))),?_,h⟩;rw[eI];rw[←jH] at hb;unfold aa.put;dsimp only;have hb2:(f.aw n).tmps[t]?=some (.dat (.flat (.bool b))):=by
     unfold bC at hb
     cases he:(f.aw n).tmps[t]? with
     | none=>rw[he] at hb;simp at hb
     | some v=>rw[he] at hb;simpa using hb
    rw[zn hb2]
   exact⟨f,rfl,h⟩
  exact⟨f,rfl,h⟩
theorem zP {q take:Bool} {o:Oper} {f:ab} {k:ab->Qy α} (h:(FF A B E G n q take o f k).sX P G T):∃s',cY E G q take o (f.aw n)=some s'/\uW P G n T k s':=by
 rw[uq];unfold FF at h
 split at h
 ·obtain⟨out,ho,h⟩:=h;dsimp only at h
  split at h
  ·rename_i ob hob;have h:(match dj ob with
     | true=>(match Ei o (looks o.op (gz G n f (kN q o.op) 0 (opsL o.op))) (uz n f (kN q o.op) (opsL o.op)) out with
      | some f'=>xS A n o.dst f' k
      | none=>.fail)
     | false=>.fail:Qy α).sX P G T:=h
   cases hn:dj ob with
   | false=>rw[hn] at h;exact h.elim
   | true=>
    rw[hn] at h;dsimp only at h
    split at h
    ·rename_i f' hf';refine⟨f'.aw n,?_,lM h⟩;unfold xi D9;rw[ho];dsimp only;rw[NN hob hn hf'];rfl
    exact h.elim
  split at h
  ·rename_i f' hf';refine⟨f'.aw n,?_,lM h⟩;unfold xi D9;rw[ho];dsimp only;rw[hf'];rfl
  exact h.elim
 split at h
 ·rename_i f' hf';exact⟨f'.aw n,by rw[hf'];rfl,lM h⟩
 exact h.elim
theorem KS {all:List Oper} {o:Oper} {f:ab} {k:ab->Qy α} (h:(Qk A B E G H n all o f k).sX P G T):mE (aC P G) E G H all o (uW P G n T k) (f.aw n):=by
 unfold Qk at h;unfold mE;rw[lg]
 cases hw:ib n all f o.guard with
 | none=>rw[hw] at h;exact h.elim
 | some b=>
  rw[hw] at h
  cases b with
  | false=>
   dsimp only at h ⊢;rw[if_neg (by simp)];exact⟨_,by rw[eI],h⟩
  | true=>
   dsimp only at h ⊢;rw[if_pos rfl]
   cases hc:dq o.op with
   | none=>
    rw[hc] at h;dsimp only at h ⊢;obtain⟨s',h1,h2⟩:=zP h;rw[h1];exact h2
   | some c=>
    rw[hc] at h;dsimp only at h ⊢;rw[AN]
    cases hcal:qT E G H n c f with
    | none=>rw[hcal] at h;exact h.elim
    | some x=>
     obtain⟨g,args,f2⟩:=x;rw[hcal] at h;dsimp only[Option.map_some] at h ⊢;refine aC.mono h ?_;intro v hh m hq b1 b2
     have:=lM (hq b1 b2)
     rw[lm] at this;exact this
theorem yl {all:List Oper} {k:ab->Qy α}:∀{ops:List Oper} {f:ab},(Qi A B E G H n all ops f k).sX P G T->mD (aC P G) E G H all (uW P G n T k) ops (f.aw n)
 | [],f,h=>⟨f,rfl,h⟩
 | o::rest,f,h=>by
  have h:(Qk A B E G H n all o f (fun f'=>Qi A B E G H n all rest f' k)).sX P G T:=h;simp only[mD,iX];refine wm ?_ (KS h);rintro s ⟨f',rfl,h'⟩;exact yl h'
theorem KR {fh:Bool} {tk:List Nat} {all:List Oper} {o:Oper} {f:ab} {k:ab->Qy α} (h:(Qj A B E G H n fh tk all o f k).sX P G T):Na (aC P G) E G H fh tk all o (uW P G n T k) (f.aw n):=by
 unfold Qj at h;unfold Na;rw[lg]
 cases hw:ib n all f o.guard with
 | none=>rw[hw] at h;exact h.elim
 | some b=>
  rw[hw] at h
  cases b with
  | false=>
   dsimp only at h ⊢;rw[if_neg (by simp)];exact⟨_,by rw[eI],h⟩
  | true=>
   dsimp only at h ⊢;rw[if_pos rfl]
   cases hc:dq o.op with
   | none=>
    rw[hc] at h;dsimp only at h ⊢
    cases ht:fK o.op with
    | none=>
     rw[ht] at h;dsimp only at h ⊢
     cases hst:ku o.op with
     | false=>rw[hst] at h;exact h.elim
     | true=>
      rw[hst] at h;dsimp only at h ⊢;obtain⟨s',h1,h2⟩:=zP h;rw[h1];exact h2
    | some t=>
     rw[ht] at h;dsimp only at h ⊢;rw[CD]
     cases hs:lV n fh all (gd all t (vQ n tk t f)) f with
     | none=>rw[hs] at h;exact h.elim
     | some f1=>
      rw[hs] at h;rw[om n fh all _ _ _ hs];dsimp only at h ⊢;obtain⟨s',h1,h2⟩:=zP h;rw[h1];exact h2
   | some c=>
    rw[hc] at h;dsimp only at h ⊢;rw[xq]
    cases hcal:nc E G H n c f with
    | none=>rw[hcal] at h;exact h.elim
    | some x=>
     obtain⟨g,args,f2⟩:=x;rw[hcal] at h;dsimp only[Option.map_some] at h ⊢
     cases hpu:ik H o with
     | true=>
      rw[hpu] at h;dsimp only at h ⊢;refine aC.mono h ?_;intro v hh m hq b1 b2;have hq:=hq b1 b2;dsimp only at hq
      cases hh with
      | nil=>
       dsimp only at hq
       have:=lM hq
       rw[lm] at this;exact⟨rfl,this⟩
      | cons _ _=>exact hq.elim
     | false=>
      rw[hpu] at h;dsimp only at h ⊢;refine aC.mono h ?_;intro v hh m hq b1 b2;have hq:=hq b1 b2
      cases hrd:mw H o with
      | true=>
       rw[hrd] at hq;dsimp only at hq;obtain⟨q1,q2⟩:=hq
       have:=lM q2
       rw[lm] at this;exact⟨fun _=>q1,this⟩
      | false=>
       rw[hrd] at hq;dsimp only at hq
       have:=lM hq
       rw[lm] at this;exact⟨fun hx=>by simp at hx,this⟩
theorem M1 {fh:Bool} {all:List Oper} {o:Oper} {f:ab} {k:ac->Qy α} (h:(Dr B E G n fh all o f k).sX P G T):∃a,pO E G n fh all o f=some a/\(k a).sX P G T:=by
 unfold Dr at h
 split at h
 ·unfold pO
  split at h
  ·exact h.elim
  rename_i b hw;rw[hw];dsimp only
  cases b with
  | false=>exact⟨_,rfl,h⟩
  | true=>
   rw[if_pos rfl];dsimp only at h
   split at h
   ·rename_i hal;rw[if_pos hal]
    split at h
    ·rename_i x hx;rw[hx];exact⟨_,rfl,h⟩
    exact h.elim
   rename_i hal;rw[if_neg (by simp[hal])]
   split at h
   ·exact h.elim
   rename_i hc;rw[hc];dsimp only
   split at h
   ·rename_i hq;rw[if_pos hq];obtain⟨out,ho,h⟩:=h;rw[ho];dsimp only at h ⊢
    split at h
    ·exact⟨_,rfl,h⟩
    exact h.elim
   exact h.elim
 split at h
 ·rename_i a ha;exact⟨a,ha,h⟩
 exact h.elim
theorem M3 {tk:List Nat} {fh:Bool} {fq:Nat->Bool} {all:List Oper} {i:Nat} {lone:Bool} {rest:List (Nat×Bool)} {f:ab} {k:ab->Qy α}:M4 A B E G H n tk fh fq all ((i,lone)::rest) f k=(match all[i]? with
  | none=>.fail
  | some o=>match lone with
   | true=>Qj A B E G H n fh tk all o f (fun f'=>M4 A B E G H n tk fh fq all rest f' k)
   | false=>Dr B E G n (fh||fq i) all o f (fun a=>xS A n o.dst (jY f o.dst a) (fun f'=>M4 A B E G H n tk fh fq all rest f' k))):=rfl
theorem yk {tk:List Nat} {fh:Bool} {fq:Nat->Bool} {all:List Oper} {k:ab->Qy α} {K:aa->Prop} (hK:∀s,uW P G n T k s->K s):∀{l:List (Nat×Bool)} {f:ab},(M4 A B E G H n tk fh fq all l f k).sX P G T->mc (aC P G) E G H tk fh fq all K l (f.aw n)
 | [],f,h=>hK _ ⟨f,rfl,h⟩
 |(i,lone)::rest,f,h=>by
  rw[M3] at h;simp only[mc,iX]
  cases hi:all[i]? with
  | none=>rw[hi] at h;exact h.elim
  | some o=>
   rw[hi] at h
   cases lone
   ·dsimp only at h ⊢;rw[if_neg (by simp),CE];obtain⟨a,h1,h2⟩:=M1 h;rw[h1];dsimp only;rw[←eI];obtain⟨f',e,h'⟩:=lM h2;rw[e];exact yk hK h'
   dsimp only at h ⊢;rw[if_pos rfl];refine pt ?_ (KR h);rintro s ⟨f',rfl,h'⟩;exact yk hK h'
theorem zQ {F:Nat->Qy α}:∀{l:List Nat} {i:Nat},(KV F i l).sX P G T->∀j∈i::l,(F j).sX P G T
 | [],i,h,j,hj=>by simp at hj;subst hj;exact h
 | x::l,i,h,j,hj=>by
  obtain⟨h1,h2⟩:=h
  rcases List.mem_cons.1 hj with rfl|hj
  ·exact h1
  exact zQ h2 j hj
theorem FJ {all:List Oper} {k:ab->Qy α}:∀(m:Nat) (listed:Array Bool) (f:ab),(FK A B E G H n all m listed f k).sX P G T->oV (aC P G) E G H all (uW P G n T k) m listed (f.aw n)
 | 0,listed,f,h=>by
  simp only[FK] at h
  split at h
  ·rename_i he;exact⟨he,f,rfl,h⟩
  exact h.elim
 | m+1,listed,f,h=>by
  simp only[FK] at h;simp only[oV]
  split at h
  ·rename_i he;exact .inl ⟨he,f,rfl,h⟩
  rename_i i l he;refine .inr ⟨by rw[he];simp,?_⟩;rw[he];intro j hj;have h1:=zQ h j hj
  split at h1
  ·rename_i o ho;refine⟨o,ho,wm ?_ (KS h1)⟩;rintro s ⟨f',rfl,h'⟩;exact FJ m _ f' h'
  exact h1.elim
theorem Bl {all:List Oper} {Q Q':aa->Prop} (hq:∀s,Q s->Q' s):∀(m:Nat) (listed:Array Bool) (s:aa),oV (aC P G) E G H all Q m listed s->oV (aC P G) E G H all Q' m listed s
 | 0,listed,s,h=>⟨h.1,hq _ h.2⟩
 | m+1,listed,s,h=>by
  simp only[oV] at h ⊢
  rcases h with h|h
  ·exact .inl ⟨h.1,hq _ h.2⟩
  refine .inr ⟨h.1,fun i hi=>?_⟩;obtain⟨o,ho,hh⟩:=h.2 i hi;exact⟨o,ho,wm (fun s hs=>Bl hq m _ s hs) hh⟩
theorem FG {h:ay} {all:List Oper} {p:Array Bool} {k:ab->Qy α} {K:aa->Prop} (hK:∀s,uW P G n T k s->K s):∀(m:Nat) (listed:Array Bool) (f:ab),(FH A B E G H n h all p m listed f k).sX P G T->wq (aC P G) E G H h all p K m listed (f.aw n)
 | 0,listed,f,hh=>by
  simp only[FH] at hh
  split at hh
  ·rename_i he;exact⟨Array.ext' (kQ.1 he),hK _ ⟨f,rfl,hh⟩⟩
  exact hh.elim
 | m+1,listed,f,hh=>by
  simp only[FH] at hh
  split at hh
  ·exact hh.elim
  rename_i hne
  split at hh
  ·exact hh.elim
  rename_i i l he;refine⟨fun e=>?_,by rw[he];simp,fun j hj=>?_⟩
  ·rw[e,kQ.2 rfl] at hne;simp at hne
  rw[he] at hj;have h1:=zQ hh j hj
  split at h1
  ·rename_i hc;refine⟨by simpa using hc,?_⟩
   split at h1
   ·rename_i o ho;refine⟨o,ho,pt ?_ (KR h1)⟩;rintro s ⟨f',rfl,h'⟩;exact FG hK m _ f' h'
   exact h1.elim
  exact h1.elim
theorem Qm {all:List Oper} {h:ay} {f:ab} {k:ab->Qy α} (hh:(Qn A B E G H n all h f k).sX P G T):Bo (aC P G) E G H all h (uW P G n T k) (f.aw n):=by
 unfold Qn at hh;unfold Bo
 cases hx:gA h with
 | true=>
  rw[hx] at hh;dsimp only at hh;rw[if_pos rfl];refine Bl ?_ _ _ _ (FJ _ _ _ hh);intro s hs;exact⟨s,hs,fun w R N tmps bsT bsL bsH bsF hr=>⟨N,bsT,bsL,bsH,hr,fun _ _ _ h=>h⟩⟩
 | false=>
  rw[hx] at hh;dsimp only at hh;rw[if_neg (by simp)]
  cases hlm:hC h with
  | true=>
   rw[hlm] at hh;dsimp only at hh;rw[if_pos rfl];unfold Bn;refine yk ?_ hh;rintro s ⟨f1,rfl,h1⟩;refine FG ?_ _ _ _ h1;rintro s ⟨f0,rfl,h0⟩;dsimp only at h0
   split at h0
   ·rename_i f2 hf2;rw[kz E n all _ f0 f2 hf2];exact yl h0
   exact h0.elim
  | false=>
   rw[hlm] at hh;dsimp only at hh;rw[if_neg (by simp)];refine yk ?_ hh;rintro s ⟨f1,rfl,h1⟩;dsimp only at h1
   split at h1
   ·rename_i f2 hf2;rw[kz E n all _ f1 f2 hf2];exact yl h1
   exact h1.elim
theorem GH (f:ab) (m:Nat):iC G (f.aw n) ((lj f (fun l=>eO l m)).aw n):=by
 intro w R N tmps bsT bsL bsH bsF hr;obtain⟨bsT',hr'⟩:=hr.prune m;exact⟨R,N,bsT',bsL,bsH,hr',bj _,fun _ _ h=>h⟩
theorem Cp {w:World} {R:Own} {M:Name->Option Nat} (l:List Name):∀{os:Heap} {bs:List Nat},ao w R M os bs->∃bs',ao w R M (F1 l os) bs'/\bs'.Sublist bs
 | [],bs,h=>⟨bs,h,.refl _⟩
 |(m,o)::os,_,⟨b,b1,b2,e,hn,ho,hr⟩=>by
  subst e;obtain⟨bs',k1,k2⟩:=Cp l hr;simp only[F1]
  split
  ·exact⟨b::(b1++bs'),⟨b,b1,bs',rfl,hn,ho,k1⟩,(List.Sublist.append (.refl _) k2).cons_cons _⟩
  exact⟨bs',k1,k2.trans ((List.sublist_append_right b1 b2).cons _)⟩
theorem NE (caps:FuncId->Bool) (f:ab):iC G (f.aw n) ((JO caps f).aw n):=by
 unfold JO
 split
 ·obtain⟨sl,locs,heap,next⟩:=f
  cases locs with
  | nil=>exact iC.refl _ _
  | cons p locs=>
   intro w R N tmps bsT bsL bsH bsF hr;obtain⟨bs',k1,k2⟩:=Cp (AZ (p::locs) (p::locs).length (sR (vl sl) [])) hr.locs;refine⟨R,N,bsT,bs',bsH,⟨aW _,hr.tmps,k1,hr.heap,?_,hr.next,hr.glob,hr.frame⟩,bj _,fun _ _ h=>h⟩;refine List.Nodup.sublist ?_ hr.nodup;exact List.Sublist.append (.refl _) (List.Sublist.append (.refl _) (List.Sublist.append k2 (.refl _)))
 exact iC.refl _ _
theorem uU {c:Code} {s:aa} {Q Q':Exit->aa->Prop} (h:dz P G c Q s) (hg:∀e s1,Q e s1->∃s2,iC G s1 s2/\Q' e s2):dz P G c Q' s:=by
 intro w R N act bsT bsL bsH bsF hr D hd;refine wp_mono (h w R N act bsT bsL bsH bsF hr hd) ?_;rintro e a w' ⟨s',R',N',bsT',bsL',bsH',hq,hr',hd',hk,hN⟩;obtain⟨s2,hg,hq2⟩:=hg e s' hq;obtain⟨R2,N2,t2,l2,h2,hr2,hk2,hN2⟩:=hg _ _ _ _ _ _ _ _ hr';exact⟨s2,R2,N2,t2,l2,h2,hq2,hr2,hd',hk.trans hk2,fun o b ho=>hN2 o b (hN o b ho)⟩
theorem Ir (hE:E.Ok P) {live:Nat->Nat} {id:Nat} {ops:Array Oper} {draw:Bool} {f:ab} {k:ab->Qy α} (hc:cR H (.region id ops draw)=true) (h:(yj A B E G H n live id ops draw f k).sX P G T) :
  dz P G (.region id ops draw) (fun e s=>e=.normal/\uW P G n T k s) (f.aw n):=by
 have key:∀s1,uW P G n T (fun f'=>match lk n (live id) (lj f' (fun l=>eO l (live id))) with|some f2=>k (JO H.caps f2)|none=>.fail) s1->∃s2,iC G s1 s2/\uW P G n T k s2:=by
  rintro s1 ⟨f1,rfl,h1⟩;dsimp only at h1
  split at h1
  ·rename_i f2 hf2;exact⟨_,((GH f1 (live id)).trans (ou G hf2)).trans (NE H.caps f2),_,rfl,h1⟩
  exact h1.elim
 unfold yj at h
 cases draw
 ·dsimp only at h;refine uU (uT (H:=H.at id) (Q:=fun e s=>e=.normal/\uW P G n T (fun f'=>match lk n (live id) (lj f' (fun l=>eO l (live id))) with|some f2=>k (JO H.caps f2)|none=>.fail) s) hE ?_) ?_
  ·have:=yl h
   simpa using this
  rintro e s1 ⟨rfl,h1⟩;obtain⟨s2,g,h2⟩:=key s1 h1;exact⟨s2,g,rfl,h2⟩
 dsimp only at h;refine uU (Bq (H:=H) (Q:=fun e s=>e=.normal/\uW P G n T (fun f'=>match lk n (live id) (lj f' (fun l=>eO l (live id))) with|some f2=>k (JO H.caps f2)|none=>.fail) s) hE hE.mixed (by simpa [cR] using hc) ?_) ?_
 ·have:=Qm h
  simpa using this
 rintro e s1 ⟨rfl,h1⟩;obtain⟨s2,g,h2⟩:=key s1 h1;exact⟨s2,g,rfl,h2⟩
def agj (P:Program) (G:bJ) (n:Nat) (T:α->Prop) (k:Exit×ab->Qy α) (e:Exit) (s:aa):Prop:=∃f',s=f'.aw n/\(k (e,f')).sX P G T
theorem Ds {live:Nat->Nat} {id:Nat} {ops:Array Oper} {draw:Bool} {f:ab} {k:Exit×ab->Qy α}:tE A B E G H n live (.region id ops draw) f k=yj A B E G H n live id ops draw f (fun f=>k (.normal,f)):=rfl
theorem iJ (hE:E.Ok P) (live:Nat->Nat):∀(c:Code) (f:ab) (k:Exit×ab->Qy α),cR H c=true->(tE A B E G H n live c f k).sX P G T->dz P G c (agj P G n T k) (f.aw n)
 | .skip,f,k,_,h=>gD wp_skip ⟨f,rfl,h⟩
 | .region id ops draw,f,k,hc,h=>by
  rw[Ds] at h;refine (Ir hE hc h).mono ?_;rintro e s ⟨rfl,f',rfl,h'⟩;exact⟨f',rfl,h'⟩
 | .seq x y,f,k,hc,h=>by
  simp only[cR,Bool.and_eq_true] at hc;refine C3 ?_;refine (iJ hE live x f (fun r=>match r with|(.normal,f')=>tE A B E G H n live y f' k|r=>k r) hc.1 h).mono ?_;rintro e s ⟨f',rfl,h'⟩
  cases e with
  | normal=>exact iJ hE live y f' k hc.2 h'
  | _=>exact⟨f',rfl,h'⟩
 | .cond c x y,f,k,hc,h=>by
  simp only[cR,Bool.and_eq_true] at hc;intro w R N act bsT bsL bsH bsF hr D hd;have h:(match oR G n f c with
   | .dat (.flat (.bool b))=>(match b with|true=>tE A B E G H n live x f k|false=>tE A B E G H n live y f k)
   | _=>.fail).sX P G T:=h
  split at h
  ·rename_i b hb;obtain⟨bs,he⟩:=pX hr.tmps hr.glob c;rw[nb,hb] at he;obtain⟨_,he,_⟩:=aL he;refine wp_cond he ?_
   cases b
   ·exact iJ hE live y f k hc.2 h w R N act bsT bsL bsH bsF hr hd
   exact iJ hE live x f k hc.1 h w R N act bsT bsL bsH bsF hr hd
  exact h.elim
 | .block id c,f,k,hc,h=>by
  simp only[cR] at hc;intro w R N act bsT bsL bsH bsF hr D hd
  apply wp_block
  refine wp_mono (iJ hE live c f (fun r=>match r with
   |(.exit i,f')=>(match Nat.beq i id with|true=>k (.normal,f')|false=>k (.exit i,f'))
   | r=>k r) hc h w R N act bsT bsL bsH bsF hr hd) ?_
  rintro e2 a w' ⟨s2,R',N',bsT',bsL',bsH',⟨f',rfl,h'⟩,rest⟩
  cases e2 with
  | exit i=>
   simp only[Exit.inBlock];dsimp only at h'
   by_cases hi:i=id
   ·have hb:Nat.beq i id=true:=by rw[Nat.beq_eq];exact hi
    rw[if_pos hi];rw[hb] at h';exact⟨_,R',N',bsT',bsL',bsH',⟨f',rfl,h'⟩,rest⟩
   have hb:Nat.beq i id=false:=by rw[Bool.eq_false_iff];intro hc;rw[Nat.beq_eq] at hc;exact hi hc
   rw[if_neg hi];rw[hb] at h';exact⟨_,R',N',bsT',bsL',bsH',⟨f',rfl,h'⟩,rest⟩
  | _=>exact⟨_,R',N',bsT',bsL',bsH',⟨f',rfl,h'⟩,rest⟩
 | .exit id,f,k,_,h=>gD wp_exit ⟨f,rfl,h⟩
 | .ret,f,k,_,h=>gD wp_ret ⟨f,rfl,h⟩
 | .loop c,f,k,_,h=>h
 | .rangeFunc _ _ _ _,_,_,_,h=>h.elim
 | .scope c,f,k,hc,h=>by
  simp only[cR] at hc;intro w R N act bsT bsL bsH bsF hr D hd
  apply wp_scope_straight
  refine wp_mono (iJ hE live c f (fun r=>match r with
   |(.goto _,_)=>.fail
   | r=>k r) hc h w R N act bsT bsL bsH bsF hr hd) ?_
  rintro e2 a w' ⟨s2,R',N',bsT',bsL',bsH',⟨f',rfl,h'⟩,rest⟩
  cases e2 with
  | goto l=>exact h'.elim
  | _=>exact⟨_,R',N',bsT',bsL',bsH',⟨f',rfl,h'⟩,rest⟩
 | .label _,f,k,_,h=>gD wp_label ⟨f,rfl,h⟩
 | .goto _,_,_,_,h=>h.elim
 | .refuse _,_,_,_,h=>h.elim
end
structure Qy.Ok {α:Type} (P:Program) (G:bJ) (T:α->Prop) (q:Qy α):Prop where
 ok:q.sX P G T
end Go.Tp
namespace Go.Tp
mutual
def eN (ρ:Nat->Nat):ac->ac
 | .ptr (.out o) off=>.ptr (.out (ρ o)) off
 | .map (.out o)=>.map (.out (ρ o))
 | .win (.out o) s off len=>.win (.out (ρ o)) s off len
 | .fn f a b=>.fn f (fO ρ a) (fO ρ b)
 | .agg cs=>.agg (fO ρ cs)
 | .tup cs=>.tup (fO ρ cs)
 | a=>a
def fO (ρ:Nat->Nat):List ac->List ac
 | []=>[]
 | a::r=>eN ρ a::fO ρ r
end
def mI (ρ:Nat->Nat):aT->aT
 | .cells cs=>.cells (fO ρ cs)
 | .map es=>.map es
def rf (ρ:Nat->Nat):Name->Name
 | .out o=>.out (ρ o)
 | m=>m
def kK (ρ:Nat->Nat):Heap->Heap
 | []=>[]
 |(m,o)::r=>(rf ρ m,mI ρ o)::kK ρ r
section
variable {w:World} {R:Own} {M M2:Name->Option Nat} {ρ:Nat->Nat}
mutual
theorem al.rn (hL:∀i,M (.loc i)=none) (hM:∀o b,M (.out o)=some b->M2 (.out (ρ o))=some b):∀{a:ac} {v:Value} {bs:List Nat},al w R M a v bs->al w R M2 (eN ρ a) v bs
 | .dat _,_,_,h=>by simp only[eN,al] at h ⊢;exact h
 | .own _,_,_,h=>by simp only[eN,al] at h ⊢;exact h
 | .ref _,_,_,h=>by simp only[eN,al] at h ⊢;exact h
 | .undef,_,_,h=>by simp only[eN,al] at h ⊢;exact h
 | .ptr (.loc i) _,_,_,h=>by simp only[al] at h;obtain⟨_,b,h2,_⟩:=h;rw[hL] at h2;simp at h2
 | .map (.loc i),_,_,h=>by simp only[al] at h;obtain⟨_,b,h2,_⟩:=h;rw[hL] at h2;simp at h2
 | .win (.loc i) _ _ _,_,_,h=>by simp only[al] at h;obtain⟨_,b,cap,h2,_⟩:=h;rw[hL] at h2;simp at h2
 | .ptr (.out o) off,_,_,h=>by
  simp only[eN,al] at h ⊢;obtain⟨h1,b,h2,h3⟩:=h;exact⟨h1,b,hM o b h2,h3⟩
 | .map (.out o),_,_,h=>by
  simp only[eN,al] at h ⊢;obtain⟨h1,b,h2,h3⟩:=h;exact⟨h1,b,hM o b h2,h3⟩
 | .win (.out o) s off len,_,_,h=>by
  simp only[eN,al] at h ⊢;obtain⟨h1,b,cap,h2,h3⟩:=h;exact⟨h1,b,cap,hM o b h2,h3⟩
 | .fn f a b,_,_,h=>by
  simp only[eN,al] at h ⊢;obtain⟨h1,vs,us,e,h2,h3⟩:=h;exact⟨h1,vs,us,e,ak.rn hL hM h2,ak.rn hL hM h3⟩
 | .agg cs,_,_,h=>by
  simp only[eN,al] at h ⊢;obtain⟨vs,e,h⟩:=h;exact⟨vs,e,ak.rn hL hM h⟩
 | .tup cs,_,_,h=>by
  simp only[eN,al] at h ⊢;obtain⟨vs,e,h⟩:=h;exact⟨vs,e,ak.rn hL hM h⟩
theorem ak.rn (hL:∀i,M (.loc i)=none) (hM:∀o b,M (.out o)=some b->M2 (.out (ρ o))=some b):∀{as:List ac} {vs:List Value} {bs:List Nat},ak w R M as vs bs->ak w R M2 (fO ρ as) vs bs
 | [],_,_,h=>by simp only[fO,ak] at h ⊢;exact h
 | a::r,_,_,h=>by
  simp only[fO,ak] at h ⊢;obtain⟨v,vs',b1,b2,e1,e2,h1,h2⟩:=h;exact⟨v,vs',b1,b2,e1,e2,al.rn hL hM h1,ak.rn hL hM h2⟩
end
mutual
theorem al.iH {k:Nat} (hM:∀o b,o < k->M2 (.out (ρ o))=some b->M (.out o)=some b):∀{a:ac} {v:Value} {bs:List Nat},du k a=false->al w R M2 (eN ρ a) v bs->al w R M a v bs
 | .dat _,_,_,_,h=>by simp only[eN,al] at h ⊢;exact h
 | .own _,_,_,_,h=>by simp only[eN,al] at h ⊢;exact h
 | .ref _,_,_,_,h=>by simp only[eN,al] at h ⊢;exact h
 | .undef,_,_,_,h=>by simp only[eN,al] at h ⊢;exact h
 | .ptr (.loc _) _,_,_,hn,_=>by simp[du] at hn
 | .map (.loc _),_,_,hn,_=>by simp[du] at hn
 | .win (.loc _) _ _ _,_,_,hn,_=>by simp[du] at hn
 | .ptr (.out o) off,_,_,hn,h=>by
  simp only[du] at hn;have ho:o < k:=by
   cases Nat.lt_or_ge o k with
   | inl h=>exact h
   | inr h=>rw[fS h] at hn;simp at hn
  simp only[eN,al] at h ⊢;obtain⟨h1,b,h2,h3⟩:=h;exact⟨h1,b,hM o b ho h2,h3⟩
 | .map (.out o),_,_,hn,h=>by
  simp only[du] at hn;have ho:o < k:=by
   cases Nat.lt_or_ge o k with
   | inl h=>exact h
   | inr h=>rw[fS h] at hn;simp at hn
  simp only[eN,al] at h ⊢;obtain⟨h1,b,h2,h3⟩:=h;exact⟨h1,b,hM o b ho h2,h3⟩
 | .win (.out o) s off len,_,_,hn,h=>by
  simp only[du] at hn;have ho:o < k:=by
   cases Nat.lt_or_ge o k with
   | inl h=>exact h
   | inr h=>rw[fS h] at hn;simp at hn
  simp only[eN,al] at h ⊢;obtain⟨h1,b,cap,h2,h3⟩:=h;exact⟨h1,b,cap,hM o b ho h2,h3⟩
 | .fn f a b,_,_,hn,h=>by
  simp only[du,Bool.or_eq_false_iff] at hn;simp only[eN,al] at h ⊢;obtain⟨h1,vs,us,e,h2,h3⟩:=h;exact⟨h1,vs,us,e,ak.iH hM hn.1 h2,ak.iH hM hn.2 h3⟩
 | .agg cs,_,_,hn,h=>by
  simp only[du] at hn;simp only[eN,al] at h ⊢;obtain⟨vs,e,h⟩:=h;exact⟨vs,e,ak.iH hM hn h⟩
 | .tup cs,_,_,hn,h=>by
  simp only[du] at hn;simp only[eN,al] at h ⊢;obtain⟨vs,e,h⟩:=h;exact⟨vs,e,ak.iH hM hn h⟩
theorem ak.iH {k:Nat} (hM:∀o b,o < k->M2 (.out (ρ o))=some b->M (.out o)=some b):∀{as:List ac} {vs:List Value} {bs:List Nat},dt k as=false->ak w R M2 (fO ρ as) vs bs->ak w R M as vs bs
 | [],_,_,_,h=>by simp only[fO,ak] at h ⊢;exact h
 | a::r,_,_,hn,h=>by
  simp only[dt,Bool.or_eq_false_iff] at hn;simp only[fO,ak] at h ⊢;obtain⟨v,vs',b1,b2,e1,e2,h1,h2⟩:=h;exact⟨v,vs',b1,b2,e1,e2,al.iH hM hn.1 h1,ak.iH hM hn.2 h2⟩
end
theorem Jr (a:ac):xV (eN ρ a)=xV a:=by
 cases a with
 | ptr n off=>cases n <;> rfl
 | map n=>cases n <;> rfl
 | win n s off len=>cases n <;> rfl
 | _=>rfl
theorem Uo (a b c:ac) (r:List ac):cN (a::b::c::r)=false:=by
 unfold cN
 split <;> rename_i h <;> first|rfl|simp at h
theorem Be:∀(cs:List ac),cN (fO ρ cs)=cN cs
 | []=>rfl
 | [a]=>by
  simp only[fO];unfold cN
  split <;> rename_i h <;> simp at h
  rfl
 | [a,b]=>by
  simp only[fO]
  cases b with
  | ptr n off=>cases n <;> rfl
  | map n=>cases n <;> rfl
  | win n s off len=>cases n <;> rfl
  | own es=>simp only[eN,cN,Jr]
  | dat d=>
   simp only[eN]
   cases d with
   | slice es=>simp only[cN,Jr]
   | agg es=>rfl
   | flat v=>
    have h:=Jr (ρ:=ρ) a
    cases v with
    | slice p len cap=>
     cases p with
     | some _=>rfl
     | none=>
      cases len with
      | succ _=>rfl
      | zero=>
       cases cap with
       | succ _=>rfl
       | zero=>exact h
    | _=>rfl
  | _=>rfl
 | a::b::c::r=>by
  simp only[fO,Uo]
theorem rX (l m:List ac):fO ρ (l++m)=fO ρ l++fO ρ m:=by
 induction l with
 | nil=>rfl
 | cons a l ih=>simp[fO,ih]
theorem qA:∀k:Nat,fO ρ (List.replicate k .undef)=List.replicate k .undef
 | 0=>rfl
 | k+1=>by simp[List.replicate_succ,fO,eN,qA k]
theorem Ah (k:Nat):∀j:Nat,dt k (List.replicate j .undef)=false
 | 0=>rfl
 | j+1=>by simp[List.replicate_succ,dt,du,Ah k j]
theorem aU.rn (hL:∀i,M (.loc i)=none) (hM:∀o b,M (.out o)=some b->M2 (.out (ρ o))=some b) {o:aT} {b:Nat} {bs:List Nat} (h:aU w R M o b bs):aU w R M2 (mI ρ o) b bs:=by
 cases o with
 | map es=>simp only[mI,aU] at h ⊢;exact h
 | cells cs=>
  simp only[mI,aU] at h ⊢;obtain⟨vs,elem,sp,h1,h2,h3,h4⟩:=h;refine⟨vs,elem,sp,h1,?_,h3,by rw[Be];exact h4⟩
  have:=ak.rn (ρ:=ρ) hL hM (as:=cs++List.replicate sp .undef) h2
  rwa [rX,qA] at this
theorem aU.iH {k:Nat} (hM:∀o b,o < k->M2 (.out (ρ o))=some b->M (.out o)=some b) {o:aT} {b:Nat} {bs:List Nat} (hn:ly k o=false) (h:aU w R M2 (mI ρ o) b bs):aU w R M o b bs:=by
 cases o with
 | map es=>simp only[mI,aU] at h ⊢;exact h
 | cells cs=>
  simp only[ly] at hn;simp only[mI,aU] at h ⊢;obtain⟨vs,elem,sp,h1,h2,h3,h4⟩:=h;refine⟨vs,elem,sp,h1,?_,h3,by rw[Be] at h4;exact h4⟩;refine ak.iH (ρ:=ρ) hM (as:=cs++List.replicate sp .undef) (by rw[px,hn,Ah];rfl) ?_;rw[rX,qA];exact h2
def tP (k:Nat):Heap->Bool
 | []=>true
 |(m,_)::r=>ko k m&&tP k r
theorem F3 {k:Nat} {m:Name} (h:ko k m=true):∃o,m=.out o/\o < k:=by
 cases m with
 | loc i=>simp[ko] at h
 | out o=>exact⟨o,rfl,qi h⟩
theorem ao.rn (hL:∀i,M (.loc i)=none) (hM:∀o b,M (.out o)=some b->M2 (.out (ρ o))=some b):∀{os:Heap} {bs:List Nat},ao w R M os bs->ao w R M2 (kK ρ os) bs
 | [],_,h=>h
 |(.loc i,o)::r,_,⟨b,b1,b2,e,h1,h2,h3⟩=>by rw[hL] at h1;simp at h1
 |(.out m,o)::r,_,⟨b,b1,b2,e,h1,h2,h3⟩=>⟨b,b1,b2,e,hM m b h1,h2.rn hL hM,ao.rn hL hM h3⟩
theorem ao.iH {k:Nat} (hM:∀o b,o < k->M2 (.out (ρ o))=some b->M (.out o)=some b):∀{os:Heap} {bs:List Nat},tP k os=true->cC k os=false->ao w R M2 (kK ρ os) bs->ao w R M os bs
 | [],_,_,_,h=>h
 |(m,o)::r,_,hl,hn,⟨b,b1,b2,e,h1,h2,h3⟩=>by
  simp only[tP,Bool.and_eq_true] at hl;simp only[cC,Bool.or_eq_false_iff] at hn;obtain⟨i,rfl,hi⟩:=F3 hl.1;exact⟨b,b1,b2,e,hM i b hi h1,h2.iH hM hn.1,ao.iH hM hl.2 hn.2 h3⟩
theorem ao.append:∀{os os2:Heap} {bs:List Nat},ao w R M (os++os2) bs->∃b1 b2,bs=b1++b2/\ao w R M os b1/\ao w R M os2 b2
 | [],os2,bs,h=>⟨[],bs,rfl,rfl,h⟩
 |(m,o)::r,os2,bs,⟨b,b1,b2,e,h1,h2,h3⟩=>by
  obtain⟨c1,c2,e2,k1,k2⟩:=ao.append h3;subst e;subst e2;exact⟨b::(b1++c1),c2,by simp,⟨b,b1,c1,rfl,h1,h2,k1⟩,k2⟩
theorem ao.join:∀{os os2:Heap} {b1 b2:List Nat},ao w R M os b1->ao w R M os2 b2->ao w R M (os++os2) (b1++b2)
 | [],os2,b1,b2,h,k=>by
  have h:b1=[]:=h;subst h;exact k
 |(m,o)::r,os2,_,b2,⟨b,c1,c2,e,h1,h2,h3⟩,k=>by
  subst e;exact⟨b,c1,c2++b2,by simp,h1,h2,h3.join k⟩
theorem ao.perm {os os2:Heap} (hp:os.Perm os2):∀{bs:List Nat},ao w R M os bs->∃bs',ao w R M os2 bs'/\bs.Perm bs':=by
 induction hp with
 | nil=>intro bs h;exact⟨bs,h,.refl _⟩
 | cons x _ ih=>
  intro bs h;obtain⟨b,b1,b2,e,h1,h2,h3⟩:=h;obtain⟨bs',k1,k2⟩:=ih h3;subst e;exact⟨b::(b1++bs'),⟨b,b1,bs',rfl,h1,h2,k1⟩,(k2.append_left b1).cons b⟩
 | swap x y l=>
  intro bs h;obtain⟨b,b1,_,e,h1,h2,c,c1,c2,e2,k1,k2,k3⟩:=h;subst e2;subst e;refine⟨c::(c1++(b::(b1++c2))),⟨c,c1,_,rfl,k1,k2,b,b1,c2,rfl,h1,h2,k3⟩,?_⟩;rw[←List.cons_append,←List.cons_append,←List.append_assoc,←List.cons_append,←List.cons_append,←List.append_assoc];exact List.Perm.append_right _ List.perm_append_comm
 | trans _ _ ih1 ih2=>
  intro bs h;obtain⟨b1,k1,k2⟩:=ih1 h;obtain⟨b2,k3,k4⟩:=ih2 k1;exact⟨b2,k3,k2.trans k4⟩
def hasName (o:Nat):Heap->Bool
 | []=>false
 |(.out m,_)::r=>Nat.beq m o||hasName o r
 |(.loc _,_)::r=>hasName o r
def uQ (h:Heap):Nat->Bool
 | 0=>true
 | k+1=>hasName k h&&uQ h k
theorem ao.named {o:Nat}:∀{os:Heap} {bs:List Nat},hasName o os=true->ao w R M (kK ρ os) bs->∃b,M (.out (ρ o))=some b
 | [],_,h,_=>by simp[hasName] at h
 |(.out m,x)::r,_,h,⟨b,b1,b2,e,h1,h2,h3⟩=>by
  simp only[hasName,Bool.or_eq_true] at h
  rcases h with h|h
  ·have:=Nat.eq_of_beq_eq_true h
   subst this;exact⟨b,h1⟩
  exact ao.named h h3
 |(.loc m,x)::r,_,h,⟨b,b1,b2,e,h1,h2,h3⟩=>ao.named (os:=r) (by simpa [hasName] using h) h3
theorem xG {h:Heap}:∀{k:Nat},uQ h k=true->∀o,o < k->hasName o h=true
 | 0,_,_,ho=>by omega
 | k+1,hh,o,ho=>by
  simp only[uQ,Bool.and_eq_true] at hh
  rcases Nat.lt_or_ge o k with h1|h1
  ·exact xG hh.2 o h1
  have:o=k:=by omega
  subst this;exact hh.1
end
def gv (ρ:Nat->Nat) (n0 d o:Nat):Nat:=match Nat.blt o n0 with|true=>ρ o|false=>d+(o - n0)
variable {P:Program} {G:bJ}
theorem aC.frame {g:FuncId} {args0:List ac} {h0:Heap} {n0:Nat} {Q:ac->Heap->Nat->Prop} (hc:aC P G g args0 h0 n0 Q) (ρ:Nat->Nat) {heap rest:Heap} {next:Nat}
  (hp:heap.Perm (kK ρ h0++rest)) (hlow:tP n0 h0=true) (hnew:cC n0 h0=false) (hall:uQ h0 n0=true) (ha:dt n0 args0=false) :
  aC P G g (fO ρ args0) heap next (fun v h m=>∃v0 h1 n1,Q v0 h1 n1/\v=eN (gv ρ n0 next) v0/\h=kK (gv ρ n0 next) h1++rest/\m=next+(n1 - n0)):=by
 intro w R N cargs bsA bsH bsF hargs hheap hnd hnx hglob hF;obtain⟨bsP,hP,pP⟩:=hheap.perm hp;obtain⟨b1,b2,e,h1,h2⟩:=ao.append hP;subst e
 let N0:Name->Option Nat:=fun m=>match m with|.loc _=>none|.out o=>if o < n0 then N (.out (ρ o)) else none
 have hback:∀o b,o < n0->outs N (.out (ρ o))=some b->outs N0 (.out o)=some b:=by
  intro o b ho hb;simp only[outs] at hb ⊢;simp only[N0];rw[if_pos ho];exact hb
 have hnd1:(bsA++(b1++(b2++bsF))).Nodup:=by
  refine (List.Perm.nodup_iff ?_).1 hnd;rw[←List.append_assoc b1];exact List.Perm.append_left _ (List.Perm.append_right _ pP)
 have h3:=hc w R N0 cargs bsA b1 (b2++bsF) (hargs.iH hback ha) (h1.iH hback hlow hnew) hnd1 (by
  intro o b ho;simp only[N0] at ho
  split at ho
  ·assumption
  ·simp at ho) hglob (by
  intro b hb
  rcases List.mem_append.1 hb with hb|hb
  ·exact h2.lt b hb
  exact hF b hb)
 refine h3.mono ?_;rintro e w' ⟨v0,cv,h1',n1,R',N1,bsV,bsH',rfl,hq,hv,hh,hnd',hnx',hk,hN⟩
 let N2:Name->Option Nat:=fun m=>match m with|.loc i=>N (.loc i)|.out x=>if x < next then N (.out x) else N1 (.out (x - next+n0))
 have hfwd:∀o b,outs N1 (.out o)=some b->outs N2 (.out (gv ρ n0 next o))=some b:=by
  intro o b hb;simp only[outs] at hb ⊢;unfold gv
  cases hlt:Nat.blt o n0 with
  | true=>
   have ho:=qi hlt;dsimp only;obtain⟨b',hb'⟩:=ao.named (M:=outs N) (ρ:=ρ) (xG hall o ho) h1;simp only[outs] at hb';have h4:N0 (.out o)=some b':=by simp only[N0];rw[if_pos ho];exact hb'
   have h5:=hN o b' h4;rw[hb] at h5;simp only[N2];rw[if_pos (hnx _ _ hb'),hb',h5]
  | false=>
   dsimp only;have ho:¬o < n0:=fun h=>by rw[←Nat.blt_eq,hlt] at h;simp at h
   simp only[N2];rw[if_neg (by omega),show next+(o - n0) - next+n0=o by omega];exact hb
 have hloc:∀i,outs N1 (.loc i)=none:=fun i=>rfl
 refine⟨_,cv,_,_,R',N2,bsV,bsH'++b2,rfl,⟨v0,h1',n1,hq,rfl,rfl,rfl⟩,hv.rn hloc hfwd,(hh.rn hloc hfwd).join ?_,by simpa using hnd',?_,hk.sub (by intro b hb;simp[hb]),?_⟩
 ·have h5:=h2.keep (hk.sub (by intro b hb;simp[hb]));refine h5.ext ?_;intro m b hm
  cases m with
  | loc i=>simp[outs] at hm
  | out x=>
   simp only[outs] at hm ⊢;simp only[N2];rw[if_pos (hnx x b hm)];exact hm
 ·intro x b hx;simp only[N2] at hx
  split at hx
  ·omega
  have:=hnx' _ _ hx
  omega
 intro x b hx;simp only[N2];rw[if_pos (hnx x b hx)];exact hx
end Go.Tp
namespace Go.Tp
section
variable {P:Program} {E:bG} {G:bJ}
theorem aC.gcQ {f:FuncId} {args:List ac} {heap:Heap} {next:Nat} {Q:ac->Heap->Nat->Prop} (h:aC P G f args heap next Q):aC P G f args heap next (fun v h m=>∃r:ew,Q r.val r.heap r.next/\(⟨v,h,m⟩:ew)=ri next r):=by
 intro w R N cargs bsA bsH bsF ha hh hnd hnx hg hF;refine (h w R N cargs bsA bsH bsF ha hh hnd hnx hg hF).mono ?_;rintro e w' ⟨val,cv,heap',next',R',N',bsV,bsH',rfl,hq,hv',hh',hnd',hnx',hk,hN⟩;have key:∀r:ew,r=ri next ⟨val,heap',next'⟩->∃R2 N2 bsV2 bsH2,al w' R2 (outs N2) r.val cv bsV2/\ao w' R2 (outs N2) r.heap bsH2/\(bsV2++(bsH2++bsF)).Nodup/\(∀o b,N2 (.out o)=some b->o < r.next)/\bA w R w' R2 bsF/\(∀o b,N (.out o)=some b->N2 (.out o)=some b):=by
  intro r hr;unfold ri at hr;dsimp only at hr
  split at hr
  ·rename_i hnew;subst hr;simp only[Bool.or_eq_false_iff] at hnew;obtain⟨bs',k1,k2⟩:=pu next hh'
   let N2:Name->Option Nat:=fun m=>match m with|.loc i=>N' (.loc i)|.out o=>if o < next then N' (.out o) else none
   have hM:∀o b,o < next->outs N' (.out o)=some b->outs N2 (.out o)=some b:=by
    intro o b ho hb;simp only[outs] at hb ⊢;simp only[N2];rw[if_pos ho];exact hb
   refine⟨R',N2,bsV,bs',hv'.low hM hnew.1,k1.low hM (lP next heap') hnew.2,?_,?_,hk,?_⟩
   ·exact List.Nodup.sublist (List.Sublist.append (.refl _) (List.Sublist.append k2 (.refl _))) hnd'
   ·intro o b hb;simp only[N2] at hb
    split at hb
    ·assumption
    simp at hb
   intro o b hb;simp only[N2];rw[if_pos (hnx o b hb)];exact hN o b hb
  subst hr;obtain⟨bs',k1,k2⟩:=kq next (Et next heap' 3 (KZ val)) hh';exact⟨R',N',bsV,bs',hv',k1,List.Nodup.sublist (List.Sublist.append (.refl _) (List.Sublist.append k2 (.refl _))) hnd',hnx',hk,hN⟩
 obtain⟨R2,N2,bsV2,bsH2,k⟩:=key _ rfl;exact⟨_,cv,_,_,R2,N2,bsV2,bsH2,rfl,⟨⟨val,heap',next'⟩,hq,rfl⟩,k⟩
theorem CZ {rs:List ResultVar} {Q Q':ac->List (Name×aT)->Nat->Prop} {s:aa} (hq:∀v h n,Q v h n->Q' v h n) (h:yc E rs Q s):yc E rs Q' s:=by
 unfold yc at h ⊢;generalize ia E s rs=rv at h ⊢
 cases rv with
 | none=>exact h
 | some vs=>
  dsimp only at h ⊢
  by_cases hn:bS (jK vs)=true
  ·rw[if_pos hn] at h ⊢;exact hq _ _ _ h
  rw[if_neg hn] at h ⊢;generalize im (repeatL s.locs.length (mU s.locs)) s (jK vs)=x at h ⊢;obtain⟨s',vs'⟩:=x;dsimp only at h ⊢
  by_cases hn2:bS vs'=true
  ·rw[if_pos hn2] at h ⊢;exact hq _ _ _ h
  rw[if_neg hn2] at h ⊢;exact h
theorem KT {A B:Nat->Bool} {moves caps:FuncId->Bool} {F:FuncId->Option fL} (hE:E.Ok P) (hF:FOk P moves caps F) {g:FuncId} {x:fL} (hx:F g=some x) {args:List ac} {heap:Heap} {next:Nat} {T:ew->Prop}
  (h:rq args->ya heap->(Ql A B E G moves caps x g args heap next).Ok P G T):aC P G g args heap next (fun v h m=>T ⟨v,h,m⟩):=by
 obtain⟨fn,h1,h2,h3,h4,h5⟩:=hF g x hx;have h6:aC P G g args heap next (fun v h m=>T (ri next ⟨v,h,m⟩)):=by
  refine ke hE h1 h2 ?_;intro b1 b2;have h:=(h b1 b2).ok;rw[h3,h4];unfold Ql at h
  split at h
  ·exact h.elim
  rename_i hlen;have hlen:=fH hlen;have hent:(⟨zf 0 args,[],heap,next⟩:ab).aw x.ntmps=enter x.ntmps args heap next:=by
   simp only[ab.aw,enter];congr 1
   apply List.ext_getElem?
   intro i;rw[lR,Nat.zero_add,th,if_pos (Nat.zero_le _),Nat.sub_zero,List.getElem?_append]
   split
   ·split
    ·rename_i hi;unfold bC;rw[List.getElem?_eq_getElem hi]
    rename_i hi1 hi;rw[List.getElem?_replicate,if_pos (by omega)];unfold bC;rw[List.getElem?_eq_none (by omega)]
   rename_i hi;rw[if_neg (by omega),List.getElem?_replicate,if_neg (by omega)]
  rw[←hent];refine (iJ (H:=⟨moves,x.ord,caps,rowsOf caps g⟩) hE x.live x.code _ _ (by rw[dW];exact h5) h).mono ?_;rintro e s ⟨f',rfl,h'⟩;have key:(match xY E x.ntmps x.results f' with|some r=>(Qy.fin (ri next r):Qy ew)|none=>.fail).sX P G T->yc E x.results (fun v h m=>T (ri next ⟨v,h,m⟩)) (f'.aw x.ntmps):=by
   intro hh
   split at hh
   ·rename_i r hr
    have:=rQ (E:=E) (rs:=x.results) (s:=f'.aw x.ntmps) (r:=r) (by rw[Ea];exact hr)
    exact CZ (by rintro v h m ⟨rfl,rfl,rfl⟩;exact hh) this
   exact hh.elim
  cases e with
  | ret=>exact key h'
  | normal=>exact key h'
  | _=>exact h'.elim
 refine h6.gcQ.mono ?_;rintro v h m ⟨r,hr,e⟩;rw[e];exact hr
theorem Sj {c:Code} {T:Exit->aa->Prop} (I:Nat->aa->Prop)
  (step:∀m s,I m s->dz P G c (iY (fun s'=>∃m',m' < m/\I m' s') T) s) {m:Nat} {s:aa} (h:I m s):dz P G (.loop c) T s:=by
 intro w R N act bsT bsL bsH bsF hr D hd;refine wp_loop_ghost (I:=fun k a w'=>∃s1 R' N' bsT' bsL' bsH',I k s1/\dh G w' R' N' a.tmps.toList s1 undef .undef [] bsT' bsL' bsH' bsF/\a.defers=D/\bA w R w' R' bsF/\(∀o b,N (.out o)=some b->N' (.out o)=some b)) (n0:=m) ?_ ?_
 ·exact⟨s,R,N,bsT,bsL,bsH,h,hr,hd,bj _,fun _ _ h=>h⟩
 rintro k a w' ⟨s1,R',N',bsT',bsL',bsH',hI,hr',hd',hk,hN⟩;refine wp_mono (step k s1 hI w' R' N' a bsT' bsL' bsH' bsF hr' hd') ?_;rintro e a2 w2 ⟨s2,R2,N2,bsT2,bsL2,bsH2,hq,hr2,hd2,hk2,hN2⟩
 cases e with
 | normal=>
  obtain⟨m',hlt,hI'⟩:=hq;exact⟨m',hlt,s2,R2,N2,bsT2,bsL2,bsH2,hI',hr2,hd2,hk.trans hk2,fun o b h=>hN2 o b (hN o b h)⟩
 | _=>exact⟨s2,R2,N2,bsT2,bsL2,bsH2,hq,hr2,hd2,hk.trans hk2,fun o b h=>hN2 o b (hN o b h)⟩
theorem M5 {A B:Nat->Bool} {H:Hints} {n:Nat} (hE:E.Ok P) (live:Nat->Nat) {c:Code} (hc:cR H c=true) {f:ab} {T:Exit->aa->Prop}
  (h:(tE A B E G H n live c f (fun r=>.fin r)).Ok P G (fun r=>T r.1 (r.2.aw n))):dz P G c T (f.aw n):=by
 refine (iJ hE live c f (fun r=>.fin r) hc h.ok).mono ?_;rintro e s ⟨f',rfl,h'⟩;exact h'
end
section
variable {P:Program} {G:bJ} {α:Type} {T:α->Prop}
def Qy.JN:Qy α->Option α
 | .fin a=>some a
 | _=>none
def Qy.Bd:Qy α->Option Bool
 | .bool _ b _=>some b
 | _=>none
def Qy.ofB:Qy α->Bool->Qy α
 | .bool _ _ k,b=>k b
 | _,_=>.fail
def Qy.VN:Qy α->Option (Option Out)
 | .out _ o _=>some o
 | _=>none
def Qy.ofO:Qy α->Out->Qy α
 | .out _ _ k,x=>k x
 | _,_=>.fail
def Qy.Ti:Qy α->Option FuncId
 | .res g _ _ _ _=>some g
 | _=>none
def Qy.xF:Qy α->List ac
 | .res _ args _ _ _=>args
 | _=>[]
def Qy.xb:Qy α->Nat
 | .res _ _ _ next _=>next
 | _=>0
def Qy.xg:Qy α->Heap
 | .res _ _ h _ _=>h
 | _=>[]
def Qy.ofR:Qy α->ew->Qy α
 | .res _ _ _ _ k,r=>k r
 | _,_=>.fail
def Qy.Ct:Qy α->Option (Nat×Code)
 | .loop n c _ _=>some (n,c)
 | _=>none
def Qy.Gj:Qy α->ab
 | .loop _ _ f _=>f
 | _=>⟨[],[],[],0⟩
def Qy.ofL:Qy α->Exit×ab->Qy α
 | .loop _ _ _ k,r=>k r
 | _,_=>.fail
theorem bB {q:Qy α} {a:α} (e:q.JN=some a) (h:T a):q.Ok P G T:=by
 cases q with
 | fin x=>simp only[Qy.JN,Option.some.injEq] at e;subst e;exact⟨h⟩
 | _=>simp[Qy.JN] at e
theorem bz {q:Qy α} {c b:Bool} (hc:c=b) (e:q.Bd=some c) (h:(q.ofB b).Ok P G T):q.Ok P G T:=by
 cases q with
 | bool _ x k=>simp only[Qy.Bd,Option.some.injEq] at e;subst e;subst hc;exact⟨h.ok⟩
 | _=>simp[Qy.Bd] at e
theorem F4 {q:Qy α} {c:Bool} (e:q.Bd=some c) (ht:c=true->(q.ofB true).Ok P G T) (hf:c=false->(q.ofB false).Ok P G T):q.Ok P G T:=by
 cases c
 ·exact bz rfl e (hf rfl)
 exact bz rfl e (ht rfl)
theorem aax {q:Qy α} {o:Option Out} {x:Out} (ho:o=some x) (e:q.VN=some o) (h:(q.ofO x).Ok P G T):q.Ok P G T:=by
 cases q with
 | out _ y k=>simp only[Qy.VN,Option.some.injEq] at e;subst e;exact⟨⟨x,ho,h.ok⟩⟩
 | _=>simp[Qy.VN] at e
theorem iL {q:Qy α} {n:Nat} {c:Code} {f:ab} {L:Exit->aa->Prop} (e:q.Ct=some (n,c)) (hs:q.Gj.aw n=f.aw n) (hl:dz P G (.loop c) L (f.aw n))
  (h:∀ex s,L ex s->∃f',s=f'.aw n/\(q.ofL (ex,f')).Ok P G T):q.Ok P G T:=by
 cases q with
 | loop n' c' f' k=>
  simp only[Qy.Ct,Option.some.injEq,Prod.mk.injEq] at e;obtain⟨rfl,rfl⟩:=e;simp only[Qy.Gj] at hs;refine⟨?_⟩;show dz P G (.loop c') _ (f'.aw n');rw[hs];exact hl.mono (fun e s hL=>by obtain⟨f2,h1,h2⟩:=h e s hL;exact⟨f2,h1,h2.ok⟩)
 | _=>simp[Qy.Ct] at e
end
end Go.Tp
namespace Go.Tp
mutual
def Bv (p:Nat->Bool):ac->Bool
 | .ptr (.out o) _=>p o
 | .map (.out o)=>p o
 | .win (.out o) _ _ _=>p o
 | .fn _ a b=>gR p a&&gR p b
 | .agg cs=>gR p cs
 | .tup cs=>gR p cs
 | _=>true
def gR (p:Nat->Bool):List ac->Bool
 | []=>true
 | a::r=>Bv p a&&gR p r
end
def IW (p:Nat->Bool):aT->Bool
 | .cells cs=>gR p cs
 | .map _=>true
def F6 (p:Nat->Bool):Heap->Bool
 | []=>true
 |(.out m,o)::r=>p m&&IW p o&&F6 p r
 |(.loc _,o)::r=>IW p o&&F6 p r
section
variable {w:World} {R:Own} {M M2:Name->Option Nat} {ρ:Nat->Nat} {p:Nat->Bool}
mutual
theorem al.HK (hL:∀i b,M (.loc i)=some b->M2 (.loc i)=some b) (hM:∀o b,p o=true->M (.out o)=some b->M2 (.out (ρ o))=some b):∀{a:ac} {v:Value} {bs:List Nat},Bv p a=true->al w R M a v bs->al w R M2 (eN ρ a) v bs
 | .dat _,_,_,_,h=>by simp only[eN,al] at h ⊢;exact h
 | .own _,_,_,_,h=>by simp only[eN,al] at h ⊢;exact h
 | .ref _,_,_,_,h=>by simp only[eN,al] at h ⊢;exact h
 | .undef,_,_,_,h=>by simp only[eN,al] at h ⊢;exact h
 | .ptr (.loc i) _,_,_,_,h=>by simp only[eN,al] at h ⊢;obtain⟨h1,b,h2,h3⟩:=h;exact⟨h1,b,hL _ _ h2,h3⟩
 | .map (.loc i),_,_,_,h=>by simp only[eN,al] at h ⊢;obtain⟨h1,b,h2,h3⟩:=h;exact⟨h1,b,hL _ _ h2,h3⟩
 | .win (.loc i) _ _ _,_,_,_,h=>by simp only[eN,al] at h ⊢;obtain⟨h1,b,cap,h2,h3⟩:=h;exact⟨h1,b,cap,hL _ _ h2,h3⟩
 | .ptr (.out o) off,_,_,hp,h=>by
  simp only[eN,al] at h ⊢;obtain⟨h1,b,h2,h3⟩:=h;exact⟨h1,b,hM o b hp h2,h3⟩
 | .map (.out o),_,_,hp,h=>by
  simp only[eN,al] at h ⊢;obtain⟨h1,b,h2,h3⟩:=h;exact⟨h1,b,hM o b hp h2,h3⟩
 | .win (.out o) s off len,_,_,hp,h=>by
  simp only[eN,al] at h ⊢;obtain⟨h1,b,cap,h2,h3⟩:=h;exact⟨h1,b,cap,hM o b hp h2,h3⟩
 | .fn f a b,_,_,hp,h=>by
  simp only[Bv,Bool.and_eq_true] at hp;simp only[eN,al] at h ⊢;obtain⟨h1,vs,us,e,h2,h3⟩:=h;exact⟨h1,vs,us,e,ak.HK hL hM hp.1 h2,ak.HK hL hM hp.2 h3⟩
 | .agg cs,_,_,hp,h=>by
  simp only[eN,al] at h ⊢;obtain⟨vs,e,h⟩:=h;exact⟨vs,e,ak.HK hL hM (by simpa only[Bv] using hp) h⟩
 | .tup cs,_,_,hp,h=>by
  simp only[eN,al] at h ⊢;obtain⟨vs,e,h⟩:=h;exact⟨vs,e,ak.HK hL hM (by simpa only[Bv] using hp) h⟩
theorem ak.HK (hL:∀i b,M (.loc i)=some b->M2 (.loc i)=some b) (hM:∀o b,p o=true->M (.out o)=some b->M2 (.out (ρ o))=some b):∀{as:List ac} {vs:List Value} {bs:List Nat},gR p as=true->ak w R M as vs bs->ak w R M2 (fO ρ as) vs bs
 | [],_,_,_,h=>by simp only[fO,ak] at h ⊢;exact h
 | a::r,_,_,hp,h=>by
  simp only[gR,Bool.and_eq_true] at hp;simp only[fO,ak] at h ⊢;obtain⟨v,vs',b1,b2,e1,e2,h1,h2⟩:=h;exact⟨v,vs',b1,b2,e1,e2,al.HK hL hM hp.1 h1,ak.HK hL hM hp.2 h2⟩
end
theorem F5 (l m:List ac):gR p (l++m)=(gR p l&&gR p m):=by
 induction l with
 | nil=>simp[gR]
 | cons a l ih=>simp[gR,ih,Bool.and_assoc]
theorem Ad:∀j:Nat,gR p (List.replicate j .undef)=true
 | 0=>rfl
 | j+1=>by simp[List.replicate_succ,gR,Bv,Ad j]
theorem aU.HK (hL:∀i b,M (.loc i)=some b->M2 (.loc i)=some b) (hM:∀o b,p o=true->M (.out o)=some b->M2 (.out (ρ o))=some b) {o:aT} {b:Nat} {bs:List Nat} (hp:IW p o=true) (h:aU w R M o b bs):aU w R M2 (mI ρ o) b bs:=by
 cases o with
 | map es=>simp only[mI,aU] at h ⊢;exact h
 | cells cs=>
  simp only[IW] at hp;simp only[mI,aU] at h ⊢;obtain⟨vs,elem,sp,h1,h2,h3,h4⟩:=h;refine⟨vs,elem,sp,h1,?_,h3,by rw[Be];exact h4⟩
  have:=ak.HK (ρ:=ρ) hL hM (as:=cs++List.replicate sp .undef) (by rw[F5,hp,Ad];rfl) h2
  rwa [rX,qA] at this
theorem ao.HK (hL:∀i b,M (.loc i)=some b->M2 (.loc i)=some b) (hM:∀o b,p o=true->M (.out o)=some b->M2 (.out (ρ o))=some b):∀{os:Heap} {bs:List Nat},F6 p os=true->ao w R M os bs->ao w R M2 (kK ρ os) bs
 | [],_,_,h=>h
 |(.loc i,o)::r,_,hp,⟨b,b1,b2,e,h1,h2,h3⟩=>by
  simp only[F6,Bool.and_eq_true] at hp;exact⟨b,b1,b2,e,hL i b h1,h2.HK hL hM hp.1,ao.HK hL hM hp.2 h3⟩
 |(.out m,o)::r,_,hp,⟨b,b1,b2,e,h1,h2,h3⟩=>by
  simp only[F6,Bool.and_eq_true] at hp;exact⟨b,b1,b2,e,hM m b hp.1.1 h1,h2.HK hL hM hp.1.2,ao.HK hL hM hp.2 h3⟩
end
section
variable {P:Program} {G:bJ}
end
def oX (o:Nat):List Nat->Nat->Nat
 | [],_=>o
 | q::r,k=>match Nat.beq q o with|true=>k|false=>oX o r (k+1)
def bI (q:Nat->Bool):Heap->Heap
 | []=>[]
 |(.out m,o)::r=>(match q m with|true=>(.out m,o)::bI q r|false=>bI q r)
 |(.loc m,o)::r=>(.loc m,o)::bI q r
theorem mo {w:World} {R:Own} {M:Name->Option Nat} (q:Nat->Bool):∀{os:Heap} {bs:List Nat},ao w R M os bs->∃bs',ao w R M (bI q os) bs'/\bs'.Sublist bs
 | [],bs,h=>⟨bs,h,.refl _⟩
 |(.out m,o)::os,_,⟨b,b1,b2,e,hn,ho,hr⟩=>by
  subst e;obtain⟨bs',k1,k2⟩:=mo q hr;simp only[bI]
  split
  ·exact⟨b::(b1++bs'),⟨b,b1,bs',rfl,hn,ho,k1⟩,(List.Sublist.append (.refl _) k2).cons_cons _⟩
  exact⟨bs',k1,k2.trans ((List.sublist_append_right b1 b2).cons _)⟩
 |(.loc m,o)::os,_,⟨b,b1,b2,e,hn,ho,hr⟩=>by
  subst e;obtain⟨bs',k1,k2⟩:=mo q hr;exact⟨b::(b1++bs'),⟨b,b1,bs',rfl,hn,ho,k1⟩,(List.Sublist.append (.refl _) k2).cons_cons _⟩
theorem LS {o:Nat}:∀{ps:List Nat} {k:Nat},gI o ps=true->k<=oX o ps k/\oX o ps k < k+ps.length/\ps[oX o ps k - k]?=some o
 | [],k,h=>by simp[gI] at h
 | q::r,k,h=>by
  simp only[oX]
  cases hq:Nat.beq q o with
  | true=>
   have:=Nat.eq_of_beq_eq_true hq
   subst this;dsimp only;refine⟨Nat.le_refl _,by simp,by simp⟩
  | false=>
   dsimp only;have h2:gI o r=true:=by
    simp only[gI,hq] at h;exact h
   obtain⟨h3,h4,h5⟩:=LS (ps:=r) (k:=k+1) h2;refine⟨by omega,by simp;omega,?_⟩;rw[show oX o r (k+1) - k=(oX o r (k+1) - (k+1))+1 by omega];simpa using h5
end Go.Tp
namespace Go.Tp
open Go.Deep
section
variable {X:jB} {E:bG} {G:bJ} {H:Hints} {n:Nat} {live:Nat->Nat} {fuel:Nat}
end
def xa:Own:=fun _ _=>False
theorem qO {P:Program} {W:World} {name:String} {g:Nat} {t e:TypeId} {l:List (List UInt8)} (hg:P.globalNamed name=some g) (hty:(P.globals[g]?).map (·.type)=some t) (ht:P.underlying t=some (.slice e)) (he:P.underlying e=some .string) (hc:P.cellsOf e=1)
  (hlen:l.length<=lim) (h:∃g t cs fuel p,P.globalNamed name=some g/\(P.globals[g]?).map (·.type)=some t/\W.var? P name=some cs/\DataW.trod (fun _=>()) P W 0 (fun _=>true) false fuel t cs.toList=some (.slice (l.map fun b=>.lit (.string b)) [],p)) :
  dX W xa g 0 [.slice (l.map fun b=>.flat (.string ⟨⟨b⟩⟩))]:=by
 obtain⟨g',t',cs,fuel,p,hg',ht',hvar,hd⟩:=h;obtain rfl:=Option.some.inj (hg.symm.trans hg');obtain rfl:=Option.some.inj (hty.symm.trans ht');have hcell:=World.var?_cell hg hvar 0;refine⟨?_,trivial⟩
 rcases open_slice1 ht hc hd with⟨_,h0⟩|⟨a,len,cap,m,k,V,D,Pl,hcs,_,hl,hm,hmm,hx,hi⟩
 ·simp at h0
 have h0:cs[0]?=some (.slice (some a) len cap):=by
  have:cs.toList[0]?=some (.slice (some a) len cap):=by rw[hcs];rfl
  simpa using this
 refine⟨_,hcell.trans h0,fun h=>h,?_⟩;simp only[Prod.mk.injEq,DataW.slice.injEq] at hx;obtain⟨⟨hx1,_⟩,_⟩:=hx;have hll:l.length=len:=by have:=congrArg List.length hx1;simpa using this
 have hlm:len<=m:=by rw[hmm];split <;> omega
 have hel:∀(i:Nat) b,l[i]?=some b->V i=.string ⟨⟨b⟩⟩/\b.length<=maxLen:=by
  intro i b hb;have hil:i < len:=by rw[←hll];exact (List.getElem?_eq_some_iff.1 hb).1
  obtain⟨_,h2⟩:=hi i (by omega);obtain⟨s,e1,e2,e3⟩:=DataW.trod_string he h2;have h3:((List.range len).map D)[i]?=(l.map fun b=>(DataW.lit (.string b):DataW Unit))[i]?:=by rw[hx1]
  rw[List.getElem?_map,List.getElem?_map,hb,List.getElem?_range hil] at h3;simp only[Option.map_some,Option.some.injEq] at h3;simp only[List.cons.injEq,and_true] at e1;simp only[Prod.mk.injEq] at e2;rw[h3] at e2;simp at e2;obtain⟨⟨sl⟩⟩:=s;simp at e2;rw[e1,e2.1];exact⟨rfl,e3⟩
 cases hz:len with
 | zero=>
  have:l=[]:=List.length_eq_zero_iff.1 (by omega)
  subst this;exact .nil _ _
 | succ k0=>
  have hsp:a.spot=none:=by
   have:=(hi 0 (by omega)).1
   have:=World.cell?_spot this
   simpa [Addr.add] using this
  obtain⟨b,off,spot⟩:=a;simp only at hsp;subst hsp;have e:k0+1=(l.map fun b=>(aq.flat (.string ⟨⟨b⟩⟩):aq)).length:=by simp;omega
  rw[e];refine .slice b off cap 1 _ (fun i _=>V i) (by omega) ?_ (by simp;omega) (by simpa using hlen) ?_ ?_
  ·intro d hd;obtain⟨x,_,rfl⟩:=List.mem_map.1 hd;rfl
  ·intro i j hil hj;obtain rfl:j=0:=by omega
   simp at hil;refine⟨?_,fun h=>h⟩
   have:=(hi i (by omega)).1
   simp only[Addr.add] at this;simp only[Nat.mul_one,Nat.add_zero]
   split at this
   ·rename_i h0;subst h0;exact this
   exact this
  intro i j d c hd hc;rw[List.getElem?_map] at hd
  cases hb:l[i]? with
  | none=>rw[hb] at hd;simp at hd
  | some x=>
   rw[hb] at hd;simp at hd;subst hd;obtain⟨e1,e2⟩:=hel i x hb
   have:c=.flat (.string ⟨⟨x⟩⟩):=by
    cases j with
    | zero=>simp[aq.cells] at hc;exact hc.symm
    | succ j=>simp[aq.cells] at hc
   subst this;rw[e1];refine .flat ?_;simp only[bE,decide_eq_true_eq]
   have:(ByteArray.mk ⟨x⟩).size=x.length:=rfl
   rw[this];unfold maxLen at e2;omega
theorem xU {W W':World} {R':Own} (h:Step W xa W' R'):W.keptBut W' (fun _=>False):=by
 refine⟨h.os,h.output,fun i hi=>?_⟩;rw[(h.block i hi (fun _ h=>h)).1]
 split
 ·rename_i e1 e2;rw[e1] at e2;simp at e2;obtain⟨rfl,rfl,rfl⟩:=e2;exact⟨rfl,rfl,rfl,fun _ _=>rfl⟩
 ·rename_i e1 e2;rw[e1] at e2;simp at e2;obtain⟨rfl,rfl⟩:=e2;exact .inr ⟨rfl,rfl⟩
 rfl
end Go.Tp
namespace Go.Tp
section
variable {X:jB} {E:bG} {G:bJ} {H:Hints} {n:Nat}
theorem yy {t:TypeId} {ti:TI} {m:Name} {s off len k:Nat} (he:elemOf E t=some ti) (hs:s=ti.size) (hk:k < len) :
  aJ E t [.win m s off len,.dat (.flat (.int .i64 (Int.ofNat k)))]=some ⟨.ptr m (off+k*s),.keep⟩:=by
 have h1:Nat.blt k len=true:=by rw[Nat.blt_eq];exact hk
 have h2:Nat.beq s ti.size=true:=by rw[Nat.beq_eq];exact hs
 simp only[aJ,he,h1,h2];simp
theorem Tq {es:List aq} {i:Nat} {d:aq} (h:es[i]?=some d):au.aI.elt es (Int.ofNat i)=some d:=by
 show D6 es i=some d;rw[uj];exact h
end
end Go.Tp
namespace Go.Tp
variable {E:bG}
theorem ra {t:TypeId} {i:TI} {es ds:List aq} {ob:Option aT} {take:Bool} {k:Nat} (he:elemOf E t=some i) (hp:E.pr=au.aI) (hs:i.size=k+1) (hd:sizedB (k+1) ds=true) (hes:sizedB (k+1) es=true)
  (hb:Nat.blt 0 i.bytes=true) (hl:(es.length+ds.length)*i.bytes<=140737488355328) (hl2:es.length+ds.length<=lim) (hby:fQ E t (es++ds)=true) (htake:(take&&es.isEmpty&&Ay (.dat (.slice ds)))=false) :
  cj E take t [.own es,.dat (.slice ds)] ob=some ⟨.own (es++ds),.keep⟩:=by
 simp only[cj,he];rw[if_neg (by rw[htake];simp)];simp only[eL,hp,hs,au.aI,hd,hes,hb,fS hl,fS hl2];rw[if_pos hby]
theorem uO {t:TypeId} {ti:TI} {es:List aq} {i:Nat} {d:aq} (he:elemOf E t=some ti) (hp:E.pr=au.aI) (h:es[i]?=some d) (hs:d.cells.length=ti.size) (h0:0 < ti.size) :
  aJ E t [.dat (.slice es),.dat (.flat (.int .i64 (Int.ofNat i)))]=some ⟨.ref d.cells,.keep⟩:=by
 have hel:E.pr.elt es (Int.ofNat i)=some d:=by rw[hp];exact Tq h
 simp only[aJ,he,hel];rw[if_pos ⟨hs,h0⟩]
theorem Xo {α:Type} {l:List α} {i:Nat} {a:α} (h:l[i]?=some a):D6 l i=some a:=by rw[uj];exact h
theorem gF {k:Nat} {l:List aq} (h:∀d∈l,d.cells.length=k):sizedB k l=true:=gg.2 h
theorem iM {i L:Nat}:bn (Int.ofNat i) (Int.ofNat L)=decide (i < L):=by rw[gr];simp
theorem bd {i L:Nat} (h:i < L):bn (Int.ofNat i) (Int.ofNat L)=true:=by rw[iM,decide_eq_true h]
theorem br {i L:Nat} (h:¬i < L):bn (Int.ofNat i) (Int.ofNat L)=false:=by rw[iM,decide_eq_false h]
theorem bb {i:Nat} (h:i < 9223372036854775807):aG .i64 (Int.ofNat i+1)=Int.ofNat (i+1):=by
 rw[dR];exact wrap_i64 (by simp;omega) (by simp;omega)
theorem qa {i L:Nat}:aQ (Int.ofNat i) (Int.ofNat L)=decide (i=L):=by
 rw[gV]
 by_cases h:i=L
 ·subst h;simp
 rw[decide_eq_false h];simp only[beq_eq_false_iff_ne];exact fun e=>h (Int.ofNat.inj e)
end Go.Tp
namespace Go.Tp
noncomputable def V0 (c:Code):List Code:=
 Code.rec (motive:=fun _=>List Code)
  (skip:=[]) (region:=fun _ _ _=>[]) (seq:=fun _ _ ix iy=>ix++iy) (cond:=fun _ _ _ ix iy=>ix++iy) (block:=fun _ _ ic=>ic) (loop:=fun c ic=>c::ic)
  (rangeFunc:=fun _ _ _ _ _ _=>[]) (exit:=fun _=>[]) (scope:=fun _ ic=>ic) (label:=fun _=>[]) (goto:=fun _=>[]) (ret:=[]) (refuse:=fun _=>[]) c
noncomputable def roundOf (fn:Func) (k:Nat):Code:=match (V0 (match fn.body with|some c=>c|none=>.skip))[k]? with|some c=>c|none=>.skip
def Oz (l:List Nat) (t:Nat):Bool:=gI t l
mutual
def Ow:ac->ac
 | .ptr _ _=>.undef
 | .map _=>.undef
 | .win _ _ _ _=>.undef
 | .fn f a b=>.fn f (Nc a) (Nc b)
 | .agg cs=>.agg (Nc cs)
 | .tup cs=>.tup (Nc cs)
 | a=>a
def Nc:List ac->List ac
 | []=>[]
 | a::r=>Ow a::Nc r
end
section
variable {w:World} {R:Own} {M M2:Name->Option Nat}
mutual
theorem al.np:∀{a:ac} {v:Value} {bs:List Nat},al w R M a v bs->al w R M2 (Ow a) v bs
 | .dat _,_,_,h=>by simp only[Ow,al] at h ⊢;exact h
 | .own _,_,_,h=>by simp only[Ow,al] at h ⊢;exact h
 | .ref _,_,_,h=>by simp only[Ow,al] at h ⊢;exact h
 | .undef,_,_,h=>by simp only[Ow,al] at h ⊢;exact h
 | .ptr _ _,_,_,h=>by simp only[Ow,al] at h ⊢;exact h.1
 | .map _,_,_,h=>by simp only[Ow,al] at h ⊢;exact h.1
 | .win _ _ _ _,_,_,h=>by simp only[Ow,al] at h ⊢;exact h.1
 | .fn f a b,_,_,h=>by
  simp only[Ow,al] at h ⊢;obtain⟨h1,vs,us,e,h2,h3⟩:=h;exact⟨h1,vs,us,e,ak.np h2,ak.np h3⟩
 | .agg cs,_,_,h=>by
  simp only[Ow,al] at h ⊢;obtain⟨vs,e,h⟩:=h;exact⟨vs,e,ak.np h⟩
 | .tup cs,_,_,h=>by
  simp only[Ow,al] at h ⊢;obtain⟨vs,e,h⟩:=h;exact⟨vs,e,ak.np h⟩
theorem ak.np:∀{as:List ac} {vs:List Value} {bs:List Nat},ak w R M as vs bs->ak w R M2 (Nc as) vs bs
 | [],_,_,h=>by simp only[Nc,ak] at h ⊢;exact h
 | a::r,_,_,h=>by
  simp only[Nc,ak] at h ⊢;obtain⟨v,vs',b1,b2,e1,e2,h1,h2⟩:=h;exact⟨v,vs',b1,b2,e1,e2,al.np h1,ak.np h2⟩
end
end
section
variable {P:Program} {G:bJ} {α:Type} {T:α->Prop}
theorem F7 {g:FuncId} {args:List ac} {Q:ac->Prop} (hQ:∀v,Q v->Nf v=true) (h:aC P G g (Nc args) [] 0 (fun v h m=>Q v/\h=[]/\m=0)) (heap:Heap) (next:Nat):aC P G g args heap next (fun v h m=>Q v/\h=heap/\m=next):=by
 intro w R N cargs bsA bsH bsF hargs hheap hnd hnx hglob hF;have h2:=h w R (fun _=>none) cargs bsA [] (bsH++bsF) hargs.np (by simp[ao]) (by simpa using hnd) (by intro o b ho;simp at ho) hglob (by
  intro b hb
  rcases List.mem_append.1 hb with hb|hb
  ·exact hheap.lt b hb
  exact hF b hb)
 refine h2.mono ?_;rintro e w' ⟨v,cv,heap',next',R',N',bsV,bsH',rfl,⟨hq,rfl,rfl⟩,hv,hh,hnd',_,hk,_⟩;have hH':bsH'=[]:=by simpa [ao] using hh
 subst hH';exact⟨_,cv,heap,next,R',N,bsV,bsH,rfl,⟨hq,rfl,rfl⟩,hv.nm (hQ _ hq),hheap.keep (hk.sub (by intro b hb;simp[hb])),by simpa using hnd',hnx,hk.sub (by intro b hb;simp[hb]),fun _ _ h=>h⟩
theorem aew {q:Qy α} {g:FuncId} {args0:List ac} {v:ac} (hc:aC P G g args0 [] 0 (XQ ⟨v,[],0⟩)) (e:q.Ti=some g) (ha:Nc q.xF=args0) (hm:Nf v=true)
  (h:nq v->(q.ofR ⟨v,q.xg,q.xb⟩).Ok P G T):q.Ok P G T:=by
 cases q with
 | res g' args' heap next' k=>
  simp only[Qy.Ti,Option.some.injEq] at e;subst e;simp only[Qy.xg,Qy.xF,Qy.xb] at ha h;refine⟨?_⟩;show aC P G g' _ heap next' _;subst ha;have h1:aC P G g' (Nc args') [] 0 (fun u h m=>u=v/\h=[]/\m=0):=hc.mono (by rintro u h m ⟨rfl,rfl,rfl⟩;exact⟨rfl,rfl,rfl⟩);refine (F7 (Q:=fun u=>u=v) (by rintro u rfl;exact hm) h1 heap next').mono ?_;rintro v' h' m ⟨rfl,rfl,rfl⟩ b1 b2;exact (h b1).ok
 | _=>simp[Qy.Ti] at e
theorem IV {q:Qy α} {g:FuncId} {args0:List ac} {Q:ac->Prop} (hc:aC P G g args0 [] 0 (fun v h m=>Q v/\h=[]/\m=0)) (e:q.Ti=some g) (ha:Nc q.xF=args0) (hQ:∀v,Q v->Nf v=true)
  (h:∀v,Q v->nq v->(q.ofR ⟨v,q.xg,q.xb⟩).Ok P G T):q.Ok P G T:=by
 cases q with
 | res g' args' heap next' k=>
  simp only[Qy.Ti,Option.some.injEq] at e;subst e;simp only[Qy.xg,Qy.xF,Qy.xb] at ha h;refine⟨?_⟩;show aC P G g' _ heap next' _;subst ha;refine (F7 hQ hc heap next').mono ?_;rintro v' h' m ⟨hq,rfl,rfl⟩ b1 b2;exact (h v' hq b1).ok
 | _=>simp[Qy.Ti] at e
theorem VR {q:Qy α} {g:FuncId} {args:List ac} {heap:Heap} {next:Nat} {r:ew} (hc:aC P G g args heap next (XQ r)) (e:q.Ti=some g) (ha:q.xF=args) (hh:q.xg=heap) (hn:q.xb=next)
  (h:(q.ofR r).Ok P G T):q.Ok P G T:=by
 cases q with
 | res g' args' heap' next' k=>
  simp only[Qy.Ti,Option.some.injEq] at e;simp only[Qy.xg,Qy.xF,Qy.xb] at ha hh hn;subst e;subst ha;subst hh;subst hn;refine⟨?_⟩;show aC P G g' _ heap' next' _;refine hc.mono ?_;rintro v h' m ⟨rfl,rfl,rfl⟩ b1 b2;exact h.ok
 | _=>simp[Qy.Ti] at e
theorem wv {g:FuncId} {args:List ac} {heap:Heap} {next:Nat} {r:ew} (h:aC P G g args heap next (fun v h m=>(⟨v,h,m⟩:ew)=r)):aC P G g args heap next (XQ r):=by
 refine h.mono ?_;rintro v h m e;subst e;exact⟨rfl,rfl,rfl⟩
theorem TY {E:bG} {H:Hints} {n:Nat} {X:jB} (hE:E.Ok P) (hX:HI P G X) {live:Nat->Nat} (fuel:Nat) {c:Code} (hc:cR H c=true) {f f':ab} {e:Exit} (h:iS X E G H n live fuel c f=some (e,f')) :
  dz P G c (fun e2 s=>e2=e/\s=f'.aw n) (f.aw n):=eJ X E G H n hE hX live fuel c f f' e hc h _ ⟨rfl,rfl⟩
def Qy.XD:Qy (Exit×ab)->Option Exit
 | .fin r=>some r.1
 | _=>none
def Qy.acP:Qy (Exit×ab)->ab
 | .fin r=>r.2
 | _=>⟨[],[],[],0⟩
theorem bZ {q:Qy (Exit×ab)} {T:Exit->aa->Prop} {n:Nat} {ex:Exit} (f:ab) (e:q.XD=some ex) (hs:q.acP.aw n=f.aw n) (h:T ex (f.aw n)):q.Ok P G (fun r=>T r.1 (r.2.aw n)):=by
 cases q with
 | fin r=>
  simp only[Qy.XD,Option.some.injEq] at e;simp only[Qy.acP] at hs;refine⟨?_⟩;show T r.1 (r.2.aw n);rw[e,hs];exact h
 | _=>simp[Qy.XD] at e
theorem ba {c:Code} {T:Exit->aa->Prop} (St:Nat->aa) (L:Nat) (round:∀i,i < L->dz P G c (iY (fun s=>s=St (i+1)) T) (St i))
  (last:dz P G c (iY (fun _=>False) T) (St L)) {i:Nat} (hi:i<=L):dz P G (.loop c) T (St i):=by
 refine Sj (I:=fun m s=>∃j,j<=L/\m=L - j/\s=St j) ?_ (m:=L - i) ⟨i,hi,rfl,rfl⟩;rintro m s ⟨j,hj,rfl,rfl⟩
 by_cases h:j < L
 ·refine (round j h).mono ?_;intro e s hs
  cases e with
  | normal=>
   have hs:s=St (j+1):=hs;exact⟨L - (j+1),by omega,j+1,by omega,rfl,hs⟩
  | _=>exact hs
 have:j=L:=by omega
 subst this;refine last.mono ?_;intro e s hs
 cases e with
 | normal=>exact hs.elim
 | _=>exact hs
theorem cE {c:Code} {T:Exit->aa->Prop} (St:Nat->aa) (Inv:Nat->Prop) (L:Nat) (round:∀i,i < L->Inv i->dz P G c (iY (fun s=>s=St (i+1)/\Inv (i+1)) T) (St i))
  (last:Inv L->dz P G c (iY (fun _=>False) T) (St L)) {i:Nat} (hi:i<=L) (h0:Inv i):dz P G (.loop c) T (St i):=by
 refine Sj (I:=fun m s=>∃j,j<=L/\m=L - j/\s=St j/\Inv j) ?_ (m:=L - i) ⟨i,hi,rfl,rfl,h0⟩;rintro m s ⟨j,hj,rfl,rfl,hI⟩
 by_cases h:j < L
 ·refine (round j h hI).mono ?_;intro e s hs
  cases e with
  | normal=>
   have hs:s=St (j+1)/\Inv (j+1):=hs;exact⟨L - (j+1),by omega,j+1,by omega,rfl,hs⟩
  | _=>exact hs
 have:j=L:=by omega
 subst this;refine (last hI).mono ?_;intro e s hs
 cases e with
 | normal=>exact hs.elim
 | _=>exact hs
end
end Go.Tp
namespace Go.Tp
section
variable {P:Program} {G:bJ} {α:Type} {T:α->Prop}
theorem oh {q:Qy α} {g:FuncId} {args:List ac} {heap:Heap} {next:Nat} {r:ew} (hc:aC P G g args heap next (XQ r)) (h:(q.ofR r).Ok P G T) (e:q.Ti=some g:=by kernel_rfl) (ha:q.xF=args:=by kernel_rfl) (hh:q.xg=heap:=by kernel_rfl) (hn:q.xb=next:=by kernel_rfl):q.Ok P G T:=
 VR hc e ha hh hn h
theorem on {q:Qy α} {g:FuncId} {args0:List ac} {v:ac} (hc:aC P G g args0 [] 0 (XQ ⟨v,[],0⟩)) (h:(q.ofR ⟨v,q.xg,q.xb⟩).Ok P G T) (e:q.Ti=some g:=by kernel_rfl) (ha:Nc q.xF=args0:=by kernel_rfl) (hm:Nf v=true:=by exact rfl):q.Ok P G T:=
 aew hc e ha hm (fun _=>h)
theorem ob {q:Qy α} {c b:Bool} (hc:c=b) (h:(q.ofB b).Ok P G T) (e:q.Bd=some c:=by kernel_rfl):q.Ok P G T:=bz hc e h
theorem ox {q:Qy α} {c b:Bool} (hc:c=b) (h:(q.ofB (!b)).Ok P G T) (e:q.Bd=some (!c):=by kernel_rfl):q.Ok P G T:=bz (by rw[hc]) e h
theorem oo {q:Qy α} {o:Option Out} {x:Out} (ho:o=some x) (h:(q.ofO x).Ok P G T) (e:q.VN=some o:=by kernel_rfl):q.Ok P G T:=aax ho e h
theorem fi {q:Qy α} {a:α} (e:q.JN=some a:=by kernel_rfl):q.Ok P G (fun y=>y=a):=bB e rfl
theorem oe {q:Qy (Exit×ab)} {T:Exit->aa->Prop} {n:Nat} {ex:Exit} {f:ab} (h:T ex (f.aw n)) (e:q.XD=some ex:=by kernel_rfl) (hs:q.acP.aw n=f.aw n:=by kernel_rfl):q.Ok P G (fun r=>T r.1 (r.2.aw n)):=bZ f e hs h
theorem lo {q:Qy α} {n:Nat} {c:Code} {f:ab} {L:Exit->aa->Prop} (hl:dz P G (.loop c) L (f.aw n)) (h:∀e s,L e s->∃f',s=f'.aw n/\(q.ofL (e,f')).Ok P G T) (e:q.Ct=some (n,c):=by kernel_rfl) (hs:q.Gj.aw n=f.aw n:=by kernel_rfl):q.Ok P G T:=iL e hs hl h
end
end Go.Tp
namespace Go.Tp
noncomputable def KU (A B:Nat->Bool) (E:bG) (G:bJ) (moves caps:FuncId->Bool) (x:fL) (g:FuncId) (args:List ac) (heap:Heap) (next:Nat):Qy ew:=
 match Nat.ble args.length x.ntmps with
 | false=>.fail
 | true=>tE A B E G ⟨moves,x.ord,caps,rowsOf caps g⟩ x.ntmps x.live x.code ⟨zf 0 args,[],heap,next⟩ (fun r=>match r with
  |(.ret,f)=>(match xY E x.ntmps x.results f with|some r=>.fin r|none=>.fail)
  |(.normal,f)=>(match xY E x.ntmps x.results f with|some r=>.fin r|none=>.fail)
  | _=>.fail)
section
variable {P:Program} {E:bG} {G:bJ}
theorem FI {A B:Nat->Bool} {moves caps:FuncId->Bool} {F:FuncId->Option fL} (hE:E.Ok P) (hF:FOk P moves caps F) {g:FuncId} {x:fL} (hx:F g=some x) {args:List ac} {heap:Heap} {next:Nat} {T:ew->Prop}
  (h:rq args->ya heap->(KU A B E G moves caps x g args heap next).Ok P G T):aC P G g args heap next (fun v h m=>T ⟨v,h,m⟩):=by
 obtain⟨fn,h1,h2,h3,h4,h5⟩:=hF g x hx;refine ke hE h1 h2 ?_;intro b1 b2;have h:=(h b1 b2).ok;rw[h3,h4];unfold KU at h
 split at h
 ·exact h.elim
 rename_i hlen;have hlen:=fH hlen;have hent:(⟨zf 0 args,[],heap,next⟩:ab).aw x.ntmps=enter x.ntmps args heap next:=by
  simp only[ab.aw,enter];congr 1
  apply List.ext_getElem?
  intro i;rw[lR,Nat.zero_add,th,if_pos (Nat.zero_le _),Nat.sub_zero,List.getElem?_append]
  split
  ·split
   ·rename_i hi;unfold bC;rw[List.getElem?_eq_getElem hi]
   rename_i hi1 hi;rw[List.getElem?_replicate,if_pos (by omega)];unfold bC;rw[List.getElem?_eq_none (by omega)]
  rename_i hi;rw[if_neg (by omega),List.getElem?_replicate,if_neg (by omega)]
 rw[←hent];refine (iJ (H:=⟨moves,x.ord,caps,rowsOf caps g⟩) hE x.live x.code _ _ (by rw[dW];exact h5) h).mono ?_;rintro e s ⟨f',rfl,h'⟩;have key:(match xY E x.ntmps x.results f' with|some r=>(Qy.fin r:Qy ew)|none=>.fail).sX P G T->yc E x.results (fun v h m=>T ⟨v,h,m⟩) (f'.aw x.ntmps):=by
  intro hh
  split at hh
  ·rename_i r hr
   have:=rQ (E:=E) (rs:=x.results) (s:=f'.aw x.ntmps) (r:=r) (by rw[Ea];exact hr)
   exact CZ (by rintro v h m ⟨rfl,rfl,rfl⟩;exact hh) this
  exact hh.elim
 cases e with
 | ret=>exact key h'
 | normal=>exact key h'
 | _=>exact h'.elim
def kj (k0:Nat) (ps:List Nat) (o:Nat):Nat:=match gI o ps with|true=>oX o ps k0|false=>o
def dP (k0:Nat) (ps:List Nat) (o:Nat):Bool:=Nat.blt o k0||gI o ps
theorem aC.rn {g:FuncId} {args:List ac} {heap:Heap} {next:Nat} {Q Q':ac->Heap->Nat->Prop} (h:aC P G g args heap next Q)
  (hq:∀v hp m,Q v hp m->∃ps,Bv (dP next ps) v=true/\F6 (dP next ps) (bI (dP next ps) hp)=true/\Q' (eN (kj next ps) v) (kK (kj next ps) (bI (dP next ps) hp)) (next+ps.length)):aC P G g args heap next Q':=by
 intro w R N cargs bsA bsH bsF ha hh hnd hnx hg hF;refine (h w R N cargs bsA bsH bsF ha hh hnd hnx hg hF).mono ?_;rintro e w' ⟨v,cv,hp,m,R',N',bsV,bsH',rfl,hq1,hv,hh',hnd',hnx',hk,hN⟩;obtain⟨ps,p1,p2,p3⟩:=hq _ _ _ hq1
 let N2:Name->Option Nat:=fun m=>match m with|.loc i=>N' (.loc i)|.out x=>if x < next then N' (.out x) else (match ps[x - next]? with|some o=>N' (.out o)|none=>none)
 have hM:∀o b,dP next ps o=true->outs N' (.out o)=some b->outs N2 (.out (kj next ps o))=some b:=by
  intro o b ho hb;simp only[outs] at hb ⊢;unfold kj
  cases hm:gI o ps with
  | true=>
   obtain⟨q1,q2,q3⟩:=LS (k:=next) hm;dsimp only[N2];rw[if_neg (by omega),q3];exact hb
  | false=>
   unfold dP at ho;rw[hm,Bool.or_false] at ho;dsimp only[N2];rw[if_pos (qi ho)];exact hb
 have hL:∀i b,outs N' (.loc i)=some b->outs N2 (.loc i)=some b:=fun i b h=>h
 obtain⟨bs',k1,k2⟩:=mo (dP next ps) hh';refine⟨_,cv,_,_,R',N2,bsV,bs',rfl,p3,hv.HK hL hM p1,k1.HK hL hM p2,?_,?_,hk,?_⟩
 ·exact List.Nodup.sublist (List.Sublist.append (.refl _) (List.Sublist.append k2 (.refl _))) hnd'
 ·intro x b hx;dsimp only[N2] at hx
  split at hx
  ·omega
  split at hx
  ·rename_i o ho
   have:=(List.getElem?_eq_some_iff.1 ho).1
   omega
  simp at hx
 intro o b hb;dsimp only[N2];rw[if_pos (hnx o b hb)];exact hN o b hb
end
end Go.Tp
namespace Go.Tp
inductive WkV:ac->ac->Prop
 |refl (a:ac):WkV a a
 |own (es:List aq):WkV (.own es) (.dat (.slice es))
 |nil:WkV (.dat (.flat (.slice none 0 0))) (.dat (.slice []))
inductive OB:List ac->List ac->Prop
 |nil:OB [] []
 |cons {a b:ac} {as bs:List ac} (h:WkV a b) (t:OB as bs):OB (a::as) (b::bs)
theorem OB.refl:∀l:List ac,OB l l
 | []=>.nil
 | a::r=>.cons (.refl a) (OB.refl r)
inductive WkO:aT->aT->Prop
 |refl (o:aT):WkO o o
 |cells {as bs:List ac} (h:OB as bs) (hb:cN bs=false):WkO (.cells as) (.cells bs)
inductive WkH:Heap->Heap->Prop
 |nil:WkH [] []
 |cons {n:Name} {o p:aT} {h k:Heap} (ho:WkO o p) (t:WkH h k):WkH ((n,o)::h) ((n,p)::k)
section
variable {w:World} {R:Own} {M:Name->Option Nat}
theorem al.wk {a b:ac} (h:WkV a b) {v:Value} {bs:List Nat} (hr:al w R M a v bs):∃bs',al w R M b v bs'/\bs'.Sublist bs:=by
 cases h with
 | refl=>exact⟨bs,hr,List.Sublist.refl _⟩
 | own es=>exact⟨[],bX (ct hr).rep,List.nil_sublist _⟩
 | nil=>
  simp only[al] at hr;obtain⟨rfl,hd⟩:=hr;refine⟨[],?_,List.Sublist.refl _⟩;refine bX ?_
  cases hd with
  | flat h=>exact .nil none 0
theorem ak.wk {as cs:List ac} (h:OB as cs):∀{vs:List Value} {bs:List Nat},ak w R M as vs bs->∃bs',ak w R M cs vs bs'/\bs'.Sublist bs:=by
 induction h with
 | nil=>intro vs bs hr;exact⟨bs,hr,List.Sublist.refl _⟩
 | cons h _ ih=>
  intro vs bs hr;simp only[ak] at hr;obtain⟨v,vs',b1,b2,rfl,rfl,h1,h2⟩:=hr;obtain⟨c1,k1,s1⟩:=h1.wk h;obtain⟨c2,k2,s2⟩:=ih h2;refine⟨c1++c2,?_,s1.append s2⟩;simp only[ak];exact⟨v,vs',c1,c2,rfl,rfl,k1,k2⟩
theorem OB.append {as bs:List ac} (h:OB as bs) (c:List ac):OB (as++c) (bs++c):=by
 induction h with
 | nil=>exact OB.refl c
 | cons h _ ih=>exact .cons h ih
theorem aU.wk {o p:aT} (h:WkO o p) {b:Nat} {bs:List Nat} (hr:aU w R M o b bs):∃bs',aU w R M p b bs'/\bs'.Sublist bs:=by
 cases h with
 | refl=>exact⟨bs,hr,List.Sublist.refl _⟩
 | cells hl hb=>
  simp only[aU] at hr;obtain⟨vs,elem,sp,h1,h2,h3,h4⟩:=hr;obtain⟨bs',k,s⟩:=h2.wk (hl.append _);refine⟨bs',?_,s⟩;simp only[aU];exact⟨vs,elem,sp,h1,k,h3,fun h=>by rw[hb] at h;simp at h⟩
theorem ao.wk {h k:Heap} (hw:WkH h k):∀{bs:List Nat},ao w R M h bs->∃bs',ao w R M k bs'/\bs'.Sublist bs:=by
 induction hw with
 | nil=>intro bs hr;exact⟨bs,hr,List.Sublist.refl _⟩
 | cons ho _ ih=>
  intro bs hr;simp only[ao] at hr;obtain⟨b,b1,b2,rfl,hn,h1,h2⟩:=hr;obtain⟨c1,k1,s1⟩:=h1.wk ho;obtain⟨c2,k2,s2⟩:=ih h2;refine⟨b::(c1++c2),?_,(s1.append s2).cons_cons b⟩;simp only[ao];exact⟨b,c1,c2,rfl,hn,k1,k2⟩
end
section
variable {P:Program} {G:bJ}
theorem aC.adC {g:FuncId} {args:List ac} {heap:Heap} {next:Nat} {v v2:ac} {h h2:Heap} {m:Nat} (hc:aC P G g args heap next (XQ ⟨v,h,m⟩)) (hv:WkV v v2) (hh:WkH h h2):aC P G g args heap next (XQ ⟨v2,h2,m⟩):=by
 intro w R N cargs bsA bsH bsF ha hp hnd hnx hg hF;refine (hc w R N cargs bsA bsH bsF ha hp hnd hnx hg hF).mono ?_;rintro e w' ⟨v',cv,h1,next',R',N',bsV,bsH',rfl,⟨rfl,rfl,rfl⟩,hv1,hh',hnd',hnx',hk,hN⟩;obtain⟨b1,k1,s1⟩:=hv1.wk hv;obtain⟨b2,k2,s2⟩:=hh'.wk hh;exact⟨_,cv,_,_,R',N',b1,b2,rfl,⟨rfl,rfl,rfl⟩,k1,k2,(s1.append (s2.append_right _)).nodup hnd',hnx',hk,hN⟩
end
end Go.Tp
namespace Go.Tp
open Go.ChangeShapes Go.WideShapes
def intD (x:Int):aq:=.flat (.int .i64 x)
theorem HC {H:Type} {enc:TypeId×Value->H} {P:Program} {W:World} {base:Nat} {sp:Nat->Bool} {held:Bool} {t e:TypeId} {v:Value} {d:DataW H} {ps:List MemPlace} (N:Name->Option Nat)
  (ht:P.underlying t=some (.slice e)) (he:P.underlying e=some (.int .i64)) (hc:P.cellsOf e=1) (hv:v.cells=#[v]) (h:DataW.Trod enc P W base sp held t v d ps) :
  ∃l:List Int,((d=.nil/\l=[])∨(∃els rest,d=.slice els rest/\els.length=l.length))/\(l.length<=lim->al W xa N (.dat (.slice (l.map intD))) v []):=by
 obtain⟨fuel,hf⟩:=h
 rcases open_ints ht he hc hf with⟨hcs,hx⟩|⟨a,len,cap,zs,hcs,_,hl,hm,hz,hx,hi,hw⟩
 ·rw[hv] at hcs;simp only[List.cons.injEq,and_true] at hcs;have hvn:v=.slice none 0 0:=by simpa using hcs
  subst hvn;refine⟨[],.inl ⟨?_,rfl⟩,fun _=>bX (d:=.slice []) (.nil none 0)⟩;simp only[Prod.mk.injEq] at hx;exact hx.1
 rw[hv] at hcs;have hvn:v=.slice (some a) len cap:=by simpa using hcs
 subst hvn;simp only[Prod.mk.injEq] at hx;have hlz:len<=zs.length:=by rw[hz];split <;> omega
 refine⟨zs.take len,.inr ⟨_,_,hx.1,by simp[lits]⟩,fun hb=>?_⟩;have htl:(zs.take len).length=len:=by rw[List.length_take];omega
 rw[htl] at hb;refine bX (d:=.slice _) ?_
 cases hk:len with
 | zero=>
  rw[hk] at hl;simp only[List.take_zero,List.map_nil];exact .nil (some a) cap
 | succ k0=>
  have hspot:a.spot=none:=by
   have:=hi 0 (by omega)
   have:=World.cell?_spot this
   simpa [Addr.add] using this
  obtain⟨b,off,spot⟩:=a;simp only at hspot;subst hspot;rw[←hk];have el:((zs.take len).map intD).length=len:=by rw[List.length_map,htl]
  have hgoal:dN W xa (.slice (some ⟨b,off,none⟩) ((zs.take len).map intD).length cap) (.slice ((zs.take len).map intD)):=by
   refine .slice b off cap 1 _ (fun i _=>.int .i64 (zs.getD i 0)) (by omega) ?_ (by omega) (by omega) ?_ ?_
   ·intro d hd;obtain⟨x,_,rfl⟩:=List.mem_map.1 hd;rfl
   ·intro i j hil hj;obtain rfl:j=0:=by omega
    rw[el] at hil;refine⟨?_,fun h=>h⟩
    have:=hi i (by omega)
    simp only[Addr.add] at this;simp only[Nat.mul_one,Nat.add_zero]
    split at this
    ·rename_i h0;subst h0;exact this
    exact this
   intro i j d c hd hcc;rw[List.getElem?_map] at hd
   cases hb2:(zs.take len)[i]? with
   | none=>rw[hb2] at hd;simp at hd
   | some x=>
    rw[hb2] at hd;simp at hd;subst hd
    have:c=.flat (.int .i64 x):=by
     cases j with
     | zero=>simp[intD,aq.cells] at hcc;exact hcc.symm
     | succ j=>simp[intD,aq.cells] at hcc
    subst this;have hx2:zs[i]?=some x:=by
     rw[List.getElem?_take] at hb2
     split at hb2
     ·exact hb2
     simp at hb2
    have:zs.getD i 0=x:=by simp[List.getD,hx2]
    rw[this];exact .flat (hw x (List.mem_of_getElem? hx2))
  rw[el] at hgoal;exact hgoal
theorem wb {P:Program} {G:bJ} {f:FuncId} {as:List ac} {args:List Value} {b:Bool} {r:ew} (W:World) (ha:ak W xa (outs fun _=>none) as args []) (h:aC P G f as [] 0 (XQ r)) (hr:r.val=bv b) (hG:∀g cs,G g=some cs->dX W xa g 0 cs) :
  Calls P f args.toArray W fun e W'=>e=.returned (.bool b)/\W.keptBut W' (fun _=>False)/\∀i,i < W.heap.size->W'.heap[i]?=W.heap[i]?:=by
 refine (h W xa (fun _=>none) args [] [] [] ha rfl (by simp) (by intro o b h;simp at h) hG (by simp)).mono ?_;rintro e W' ⟨v,cv,heap',next',R',N',bsV,bsH',rfl,⟨rfl,_,_⟩,hv,_,_,_,hk,_⟩;rw[hr] at hv;obtain⟨_,rfl,_⟩:=aL hv;exact⟨rfl,xU hk.step,fun i hi=>(hk.step.block i hi (fun _ h=>h)).1⟩
theorem yQ {H:Type} {enc:TypeId×Value->H} {P:Program} {W W':World} {base:Nat} {sp:Nat->Bool} {hd:Bool} (hB:∀i,i < W.heap.size->W'.heap[i]?=W.heap[i]?):∀{ts:List TypeId} {vs:List Value} {ds:List (DataW H)} {ps:List MemPlace},
  DataW.TrodAll enc P W base sp hd ts vs ds ps->DataW.TrodAll enc P W' base sp hd ts vs ds ps
 | [],_,_,_,h=>by
  obtain⟨rfl,rfl,rfl⟩:=trodAll_nil h;exact trodAll_mk0
 | _::_,_,_,_,h=>by
  obtain⟨v,vs1,d,ds1,a,b,rfl,rfl,rfl,⟨n,hn⟩,h2⟩:=trodAll_cons h;refine⟨a,b,⟨n,DataW.trod_carry n _ _ _ hn (fun p hp=>?_)⟩,yQ hB h2,rfl⟩;have hl:=DataW.trod_lt n _ _ _ hn p hp
  cases p with
  | cell b o=>exact World.cell?_of_block (w:=W) (hB b hl)
  | map b=>exact hB b hl
end Go.Tp
