/- IrClosed returns true and changes nothing, for arguments of bulk at most 1048576 (the card of the second form; conditions: those of the given row). Names are shortened by a program, for the claim's bound. Part 3. -/
import Derived.Scope
import Derived.Deep.Slices
import Derived.ChangeSame
import Derived.LaidLaws
import Derived.RowKit
import Derived.KernelRfl
import Derived.ChangeSlices
import Derived.ReadAgain
import Derived.ChangeMaps5
import Derived.Test.YtmpmgmmcaghacaaGreatDoorQ02
set_option linter.unusedVariables false
set_option linter.unusedSimpArgs false
set_option maxRecDepth 100000
set_option maxHeartbeats 4000000
namespace Go.Tp
noncomputable def dP (l:Sl):Nat->Sl:=
 @List.rec (Nat×ac) (fun _=>Nat->Sl) (fun _=>[]) (fun p _ ih m=>@Bool.rec (fun _=>Sl) (p::ih (Nat.xor m (Nat.pow 2 p.1))) (ih m) (Nat.beq (Nat.land 1 (Nat.shiftRight m p.1)) 0)) l
theorem adi (m d:Nat):Nat.beq (Nat.land 1 (Nat.shiftRight m d)) 0=!(m.testBit d):=by
 have e:m.testBit d=(Nat.land 1 (Nat.shiftRight m d) != 0):=rfl;rw[e];generalize Nat.land 1 (Nat.shiftRight m d)=x
 by_cases h:x=0
 ·subst h;rfl
 have h1:Nat.beq x 0=false:=by rw[Bool.eq_false_iff];intro hc;rw[Nat.beq_eq] at hc;exact h hc
 have h2:(x != 0)=true:=by simpa using h
 rw[h1,h2];rfl
theorem vZ (d:Nat) (v:ac) (r:Sl) (m:Nat):dP ((d,v)::r) m=if m.testBit d=true then (d,v)::dP r (m ^^^ 2 ^ d) else dP r m:=by
 have e:dP ((d,v)::r) m=@Bool.rec (fun _=>Sl) ((d,v)::dP r (m ^^^ 2 ^ d)) (dP r m) (Nat.beq (Nat.land 1 (Nat.shiftRight m d)) 0):=rfl;rw[e,adi]
 cases m.testBit d <;> simp
theorem rB:∀(l:Sl) (m t:Nat),m.testBit t=false->qA (dP l m) t=.undef
 | [],_,_,_=>rfl
 |(d,v)::r,m,t,h=>by
  rw[vZ]
  split
  ·rename_i hd;have hne:d≠t:=fun e=>by rw[e,h] at hd;simp at hd
   rw[gT,if_neg hne]
   apply rB
   rw[Nat.testBit_xor,h,Nat.testBit_two_pow_of_ne hne];rfl
  exact rB r m t h
theorem rC:∀(l:Sl) (m t:Nat),qA (dP l m) t=qA l t∨qA (dP l m) t=.undef
 | [],_,_=>.inl rfl
 |(d,v)::r,m,t=>by
  rw[vZ,gT]
  split
  ·rw[gT]
   split
   ·exact .inl rfl
   exact rC r _ t
  rename_i hd
  split
  ·rename_i he;subst he;exact .inr (rB r m d (by simpa using hd))
  exact rC r m t
theorem Fm {w:World} {R:Own} {N:Name->Option Nat}:∀{as as':List ac} {vs:List Value} {bs:List Nat},as'.length=as.length->(∀i:Nat,as'[i]?=as[i]?∨as'[i]?=some .undef)->ah w R N as vs bs->∃bs',ah w R N as' vs bs'/\bs'.Sublist bs
 | [],[],_,bs,_,_,h=>⟨bs,h,.refl _⟩
 | [],_::_,_,_,hl,_,_=>by simp at hl
 | _::_,[],_,_,hl,_,_=>by simp at hl
 | a::as,a'::as',vs,bs,hl,hi,h=>by
  obtain⟨v,vs',b1,b2,rfl,rfl,h1,h2⟩:=aw h;obtain⟨bs',k1,k2⟩:=Fm (as:=as) (as':=as') (by simpa using hl) (fun i=>by simpa using hi (i+1)) h2
  rcases hi 0 with h0|h0
  ·simp at h0;subst h0;exact⟨b1++bs',aF h1 k1,List.Sublist.append (.refl _) k2⟩
  simp at h0;subst h0;exact⟨[]++bs',aF (aI _) k1,List.Sublist.append (List.nil_sublist _) k2⟩
def gN (f:ab) (m:Sl->Sl):ab:=match f with|⟨sl,locs,heap,next⟩=>⟨m sl,locs,heap,next⟩
theorem cZ.prune {G:bw} {w:World} {R:Own} {N:Name->Option Nat} {tmps:List Value} {n:Nat} {f:ab} {bsT bsL bsH bsF:List Nat} (h:cZ G w R N tmps (f.an n) undef .undef [] bsT bsL bsH bsF) (m:Nat) :
  ∃bsT',cZ G w R N tmps ((gN f (fun l=>dP l m)).an n) undef .undef [] bsT' bsL bsH bsF:=by
 obtain⟨sl,locs,heap,next⟩:=f;obtain⟨bsT',k1,k2⟩:=Fm (as':=Fi n 0 (dP sl m)) (by simp[ab.an,nq]) (fun i=>by
  simp only[ab.an,lD]
  split
  ·rcases rC sl m (0+i) with h|h
   ·exact .inl (by rw[h])
   exact .inr (by rw[h])
  exact .inl rfl) h.tmps
 exact⟨bsT',aI _,k1,h.locs,h.heap,List.Nodup.sublist (List.Sublist.append (.refl _) (List.Sublist.append k2 (.refl _))) h.nodup,h.next,h.glob,h.frame⟩
mutual
def iB (k:Nat):ac->Bool
 | .ptr (.out o) _=>Nat.ble k o
 | .ptr (.loc _) _=>true
 | .map (.out o)=>Nat.ble k o
 | .map (.loc _)=>true
 | .win (.out o) _ _ _=>Nat.ble k o
 | .win (.loc _) _ _ _=>true
 | .fn _ a b=>iC k a||iC k b
 | .agg cs=>iC k cs
 | .tup cs=>iC k cs
 | _=>false
def iC (k:Nat):List ac->Bool
 | []=>false
 | a::r=>iB k a||iC k r
end
def lC (k:Nat):Name->Bool
 | .out o=>Nat.blt o k
 | .loc _=>false
def iY (k:Nat):Heap->Heap
 | []=>[]
 |(m,o)::r=>match lC k m with|true=>(m,o)::iY k r|false=>iY k r
def Ff (k:Nat):aM->Bool
 | .cells cs=>iC k cs
 | .map _=>false
def hZ (k:Nat):Heap->Bool
 | []=>false
 |(_,o)::r=>Ff k o||hZ k r
mutual
def JL:ac->List Nat
 | .ptr (.out o) _=>[o]
 | .map (.out o)=>[o]
 | .win (.out o) _ _ _=>[o]
 | .fn _ a b=>BM a++BM b
 | .agg cs=>BM cs
 | .tup cs=>BM cs
 | _=>[]
def BM:List ac->List Nat
 | []=>[]
 | a::r=>JL a++BM r
end
def nr (o:Nat):List Nat->Bool
 | []=>false
 | x::r=>match Nat.beq x o with|true=>true|false=>nr o r
def addN:List Nat->List Nat->List Nat
 | [],l=>l
 | n::ns,l=>match nr n l with|true=>addN ns l|false=>addN ns (n::l)
def qd (k:Nat) (l:List Nat):Heap->List Nat
 | []=>l
 |(.out o,.cells cs)::r=>(match Nat.blt o k||nr o l with|true=>qd k (addN (BM cs) l) r|false=>qd k l r)
 | _::r=>qd k l r
def DH (k:Nat) (h:Heap):Nat->List Nat->List Nat
 | 0,l=>l
 | n+1,l=>DH k h n (qd k l h)
def mJ (k:Nat) (l:List Nat):Heap->Heap
 | []=>[]
 |(.out o,x)::r=>(match Nat.blt o k||nr o l with|true=>(.out o,x)::mJ k l r|false=>mJ k l r)
 | _::r=>mJ k l r
def L0 (k:Nat) (r:eW):eW:=
 match r with
 | ⟨val,heap,next⟩=>match iB k val||hZ k (iY k heap) with
  | false=>⟨val,iY k heap,k⟩
  | true=>⟨val,mJ k (DH k heap 3 (JL val)) heap,next⟩
section
variable {w:World} {R:Own} {M M2:Name->Option Nat}
theorem oY (k:Nat):∀{os:Heap} {bs:List Nat},aj w R M os bs->∃bs',aj w R M (iY k os) bs'/\bs'.Sublist bs
 | [],bs,h=>⟨bs,h,.refl _⟩
 |(m,o)::os,_,⟨b,b1,b2,e,hn,ho,hr⟩=>by
  subst e;obtain⟨bs',k1,k2⟩:=oY k hr;simp only[iY]
  split
  ·exact⟨b::(b1++bs'),⟨b,b1,bs',rfl,hn,ho,k1⟩,(List.Sublist.append (.refl _) k2).cons_cons _⟩
  exact⟨bs',k1,k2.trans ((List.sublist_append_right b1 b2).cons _)⟩
theorem jW (k:Nat) (l:List Nat):∀{os:Heap} {bs:List Nat},aj w R M os bs->∃bs',aj w R M (mJ k l os) bs'/\bs'.Sublist bs
 | [],bs,h=>⟨bs,h,.refl _⟩
 |(.out m,o)::os,_,⟨b,b1,b2,e,hn,ho,hr⟩=>by
  subst e;obtain⟨bs',k1,k2⟩:=jW k l hr;simp only[mJ]
  split
  ·exact⟨b::(b1++bs'),⟨b,b1,bs',rfl,hn,ho,k1⟩,(List.Sublist.append (.refl _) k2).cons_cons _⟩
  exact⟨bs',k1,k2.trans ((List.sublist_append_right b1 b2).cons _)⟩
 |(.loc m,o)::os,_,⟨b,b1,b2,e,hn,ho,hr⟩=>by
  subst e;obtain⟨bs',k1,k2⟩:=jW k l hr;exact⟨bs',k1,k2.trans ((List.sublist_append_right b1 b2).cons _)⟩
variable (hM:∀m b,(∃o,m=.out o)->M m=some b->M2 m=some b)
mutual
theorem ai.low {k:Nat} (hM:∀o b,o < k->M (.out o)=some b->M2 (.out o)=some b):∀{a:ac} {v:Value} {bs:List Nat},iB k a=false->ai w R M a v bs->ai w R M2 a v bs
 | .dat _,_,_,_,h=>by simp only[ai] at h ⊢;exact h
 | .own _,_,_,_,h=>by simp only[ai] at h ⊢;exact h
 | .ref _,_,_,_,h=>by simp only[ai] at h ⊢;exact h
 | .ptr (.loc _) _,_,_,hn,_=>by simp[iB] at hn
 | .ptr (.out o) _,_,_,hn,h=>by
  simp only[iB] at hn;simp only[ai] at h ⊢;obtain⟨h1,b,hb,e⟩:=h;exact⟨h1,b,hM o b (by rcases Nat.lt_or_ge o k with h|h;exact h;rw[gm h] at hn;simp at hn) hb,e⟩
 | .map (.loc _),_,_,hn,_=>by simp[iB] at hn
 | .win (.loc _) _ _ _,_,_,hn,_=>by simp[iB] at hn
 | .win (.out o) _ _ _,_,_,hn,h=>by
  simp only[iB] at hn;simp only[ai] at h ⊢;obtain⟨h1,b,cap,hb,e⟩:=h;exact⟨h1,b,cap,hM o b (by rcases Nat.lt_or_ge o k with h|h;exact h;rw[gm h] at hn;simp at hn) hb,e⟩
 | .map (.out o),_,_,hn,h=>by
  simp only[iB] at hn;simp only[ai] at h ⊢;obtain⟨h1,b,hb,e⟩:=h;exact⟨h1,b,hM o b (by rcases Nat.lt_or_ge o k with h|h;exact h;rw[gm h] at hn;simp at hn) hb,e⟩
 | .fn _ first captured,_,_,hn,h=>by
  simp only[iB,Bool.or_eq_false_iff] at hn;simp only[ai] at h ⊢;obtain⟨h1,vs',us',e,h2,h3⟩:=h;exact⟨h1,vs',us',e,ah.low hM (as:=first) hn.1 h2,ah.low hM (as:=captured) hn.2 h3⟩
 | .agg cs,_,_,hn,h=>by
  simp only[iB] at hn;simp only[ai] at h ⊢;obtain⟨vs',e,h2⟩:=h;exact⟨vs',e,ah.low hM (as:=cs) hn h2⟩
 | .tup cs,_,_,hn,h=>by
  simp only[iB] at hn;simp only[ai] at h ⊢;obtain⟨vs',e,h2⟩:=h;exact⟨vs',e,ah.low hM (as:=cs) hn h2⟩
 | .undef,_,_,_,h=>by simp only[ai] at h ⊢;exact h
theorem ah.low {k:Nat} (hM:∀o b,o < k->M (.out o)=some b->M2 (.out o)=some b):∀{as:List ac} {vs:List Value} {bs:List Nat},iC k as=false->ah w R M as vs bs->ah w R M2 as vs bs
 | [],_,_,_,h=>by simp only[ah] at h ⊢;exact h
 | a::as,_,_,hn,h=>by
  simp only[iC,Bool.or_eq_false_iff] at hn;simp only[ah] at h ⊢;obtain⟨v',vs',b1',b2',e1,e2,h1,h2⟩:=h;exact⟨v',vs',b1',b2',e1,e2,ai.low hM (a:=a) hn.1 h1,ah.low hM (as:=as) hn.2 h2⟩
end
theorem pe (k:Nat):∀(l m:List ac),iC k (l++m)=(iC k l||iC k m)
 | [],m=>by simp[iC]
 | a::l,m=>by simp[iC,pe k l m,Bool.or_assoc]
theorem Pp (k:Nat) (cs:List ac) (j:Nat):iC k (cs++List.replicate j .undef)=iC k cs:=by
 rw[pe]
 have:iC k (List.replicate j .undef)=false:=by
  induction j with
  | zero=>rfl
  | succ j ih=>simp[List.replicate_succ,iC,iB,ih]
 rw[this,Bool.or_false]
theorem aj.low {k:Nat} (hM:∀o b,o < k->M (.out o)=some b->M2 (.out o)=some b):∀{os:Heap} {bs:List Nat},(∀p∈os,lC k p.1=true)->hZ k os=false->aj w R M os bs->aj w R M2 os bs
 | [],_,_,_,h=>h
 |(m,o)::os,_,hs,hn,⟨b,b1,b2,e,hb,ho,hr⟩=>by
  simp only[hZ,Bool.or_eq_false_iff] at hn;have hm:=hs (m,o) (by simp);refine⟨b,b1,b2,e,?_,?_,aj.low hM (fun p hp=>hs p (by simp[hp])) hn.2 hr⟩
  ·cases m with
   | loc i=>simp[lC] at hm
   | out i=>exact hM i b (nX (by simpa [lC] using hm)) hb
  cases o with
  | cells cs=>
   obtain⟨vs,el,sp,hblk,hrr,hR⟩:=ho;exact⟨vs,el,sp,hblk,hrr.low hM (by rw[Pp];simpa [Ff] using hn.1),hR⟩
  | map es=>exact ho
theorem lB (k:Nat):∀os:Heap,∀p∈iY k os,lC k p.1=true
 | [],p,h=>by simp[iY] at h
 |(m,o)::os,p,h=>by
  simp only[iY] at h
  split at h
  ·rename_i hm
   rcases List.mem_cons.1 h with rfl|h
   ·exact hm
   exact lB k os p h
  exact lB k os p h
end
theorem aD.gc {P:Program} {G:bw} {f:FuncId} {args:List ac} {heap:Heap} {next:Nat} {r:eW} (h:aD P G f args heap next (XQ r)):aD P G f args heap next (XQ (L0 next r)):=by
 intro w R N cargs bsA bsH bsF ha hh hnd hnx hg hF;refine (h w R N cargs bsA bsH bsF ha hh hnd hnx hg hF).mono ?_;rintro e w' ⟨v',cv,heap',next',R',N',bsV,bsH',rfl,⟨rfl,rfl,rfl⟩,hv',hh',hnd',hnx',hk,hN⟩;obtain⟨val,heap',next'⟩:=r;dsimp only at hv' hh' hnx' ⊢;unfold L0;dsimp only
 split
 ·rename_i hnew;simp only[Bool.or_eq_false_iff] at hnew;obtain⟨bs',k1,k2⟩:=oY next hh'
  let N2:Name->Option Nat:=fun m=>match m with|.loc i=>N' (.loc i)|.out o=>if o < next then N' (.out o) else none
  have hM:∀o b,o < next->outs N' (.out o)=some b->outs N2 (.out o)=some b:=by
   intro o b ho hb;simp only[outs] at hb ⊢;simp only[N2];rw[if_pos ho];exact hb
  refine⟨val,cv,iY next heap',next,R',N2,bsV,bs',rfl,⟨rfl,rfl,rfl⟩,hv'.low hM hnew.1,k1.low hM (lB next heap') hnew.2,?_,?_,hk,?_⟩
  ·exact List.Nodup.sublist (List.Sublist.append (.refl _) (List.Sublist.append k2 (.refl _))) hnd'
  ·intro o b hb;simp only[N2] at hb
   split at hb
   ·assumption
   simp at hb
  intro o b hb;simp only[N2];rw[if_pos (hnx o b hb)];exact hN o b hb
 obtain⟨bs',k1,k2⟩:=jW next (DH next heap' 3 (JL val)) hh';exact⟨val,cv,_,next',R',N',bsV,bs',rfl,⟨rfl,rfl,rfl⟩,hv',k1,List.Nodup.sublist (List.Sublist.append (.refl _) (List.Sublist.append k2 (.refl _))) hnd',hnx',hk,hN⟩
section
variable (X:ld) (E:bu) (G:bw) (H:Hints) (n:Nat)
def tC (f:ab) (r:eW) (dst:Option Tmp):ab:=
 match f,r with
 | ⟨sl,locs,_,_⟩,⟨v,heap,next⟩=>iD ⟨sl,locs,heap,next⟩ dst v
theorem kU (f:ab) (r:eW) (dst:Option Tmp):(tC f r dst).an n=({f.an n with heap:=r.heap,next:=r.next }:aa).put dst r.val:=by
 obtain⟨sl,locs,heap,next⟩:=f;obtain⟨v,h,k⟩:=r;simp only[tC,eE];rfl
noncomputable def ID (all:List Oper) (o:Oper) (f:ab):Option ab:=
 match gH n all f o.guard with
 | none=>none
 | some b=>match b with
  | true=>
   (match cY o.op with
    | some c=>(match qp E G H n c f with
     | some (g,args,f2)=>(match X g args f2.heap f2.next with
      | some r=>some (tC f2 r o.dst)
      | none=>none)
     | none=>none)
    | none=>wi E G n (readOnly H.moves all o) (lp H all o) o f)
  | false=>some (iD f o.dst (.tup []))
theorem vm {all:List Oper} {o:Oper} {f f':ab} (h:ID X E G H n all o f=some f'):GK X E G H all o (f.an n)=some (f'.an n):=by
 unfold ID at h;unfold GK;rw[kQ]
 cases hw:gH n all f o.guard with
 | none=>rw[hw] at h;simp at h
 | some b=>
  rw[hw] at h
  cases b with
  | false=>simp at h;subst h;simp[eE]
  | true=>
   dsimp only at h ⊢;rw[if_pos rfl]
   cases hc:cY o.op with
   | none=>
    rw[hc] at h;dsimp only at h ⊢;rw[tq,h];rfl
   | some c=>
    rw[hc] at h;dsimp only at h ⊢;rw[zR]
    cases hcal:qp E G H n c f with
    | none=>rw[hcal] at h;simp at h
    | some x=>
     obtain⟨g,args,f2⟩:=x;rw[hcal] at h;dsimp only[Option.map_some] at h ⊢;have e1:(f2.an n).heap=f2.heap:=rfl;have e2:(f2.an n).next=f2.next:=rfl;rw[e1,e2]
     cases hr:X g args f2.heap f2.next with
     | none=>rw[hr] at h;simp at h
     | some r=>
      rw[hr] at h;simp at h;subst h;simp[kU]
noncomputable def Dv (all:List Oper) (ops:List Oper):ab->Option ab:=
 @List.rec Oper (fun _=>ab->Option ab) (fun f=>some f) (fun o _ ih f=>match ID X E G H n all o f with|some f'=>ih f'|none=>none) ops
theorem qn {all:List Oper}:∀{ops:List Oper} {f f':ab},Dv X E G H n all ops f=some f'->DZ X E G H all ops (f.an n)=some (f'.an n)
 | [],f,f',h=>by
  have e:Dv X E G H n all [] f=some f:=rfl;rw[e] at h;simp at h;subst h;rfl
 | o::rest,f,f',h=>by
  have e:Dv X E G H n all (o::rest) f=(match ID X E G H n all o f with|some f'=>Dv X E G H n all rest f'|none=>none):=rfl;rw[e] at h;simp only[DZ]
  cases ho:ID X E G H n all o f with
  | none=>rw[ho] at h;simp at h
  | some f1=>
   rw[ho] at h;rw[vm X E G H n ho];exact qn h
noncomputable def ve (tk:List Nat) (t:Tmp) (f:ab):List Nat:=match Is (qB n f t) with|true=>[]|false=>tk
theorem B1 (tk:List Nat) (t:Tmp) (f:ab):ln tk t (f.an n)=ve n tk t f:=by
 unfold ln ve;rw[jb]
 cases Is (qB n f t) <;> rfl
noncomputable def IC (fh:Bool) (tk:List Nat) (all:List Oper) (o:Oper) (f:ab):Option ab:=
 match gH n all f o.guard with
 | none=>none
 | some b=>match b with
  | true=>
   (match cY o.op with
    | some c=>(match mM E G H n c f with
     | some (g,args,f2)=>(match gL H o with
      | true=>(match X g args [] f2.next with
       | some ⟨v,[],k⟩=>some (tC f2 ⟨v,f2.heap,k⟩ o.dst)
       | _=>none)
      | false=>(match X g args f2.heap f2.next with
       | some r=>(match !mc H o||uj f2.heap r.heap with
        | true=>some (tC f2 r o.dst)
        | false=>none)
       | none=>none))
     | none=>none)
    | none=>(match eQ o.op with
     | some t=>(match lF n fh all (fV all t (ve n tk t f)) f with
      | some f1=>wi E G n false false o f1
      | none=>none)
     | none=>(match ib o.op with
      | true=>wi E G n (readOnly H.moves all o) (lp H all o) o f
      | false=>none)))
  | false=>some (iD f o.dst (.tup []))
theorem vl {fh:Bool} {tk:List Nat} {all:List Oper} {o:Oper} {f f':ab} (h:IC X E G H n fh tk all o f=some f'):GJ X E G H fh tk all o (f.an n)=some (f'.an n):=by
 unfold IC at h;unfold GJ;rw[kQ]
 cases hw:gH n all f o.guard with
 | none=>rw[hw] at h;simp at h
 | some b=>
  rw[hw] at h
  cases b with
  | false=>simp at h;subst h;simp[eE]
  | true=>
   dsimp only at h ⊢;rw[if_pos rfl]
   cases hc:cY o.op with
   | none=>
    rw[hc] at h;dsimp only at h ⊢
    cases ht:eQ o.op with
    | none=>
     rw[ht] at h;dsimp only at h ⊢
     cases hst:ib o.op with
     | false=>rw[hst] at h;simp at h
     | true=>
      rw[hst] at h;dsimp only at h ⊢;rw[tq,h];rfl
    | some t=>
     rw[ht] at h;dsimp only at h ⊢;rw[B1]
     cases hs:lF n fh all (fV all t (ve n tk t f)) f with
     | none=>rw[hs] at h;simp at h
     | some f1=>
      rw[hs] at h;rw[nL n fh all _ _ _ hs];dsimp only at h ⊢;rw[tq,h];rfl
   | some c=>
    rw[hc] at h;dsimp only at h ⊢;rw[ww]
    cases hcal:mM E G H n c f with
    | none=>rw[hcal] at h;simp at h
    | some x=>
     obtain⟨g,args,f2⟩:=x;rw[hcal] at h;dsimp only[Option.map_some] at h ⊢;have e1:(f2.an n).heap=f2.heap:=rfl;have e2:(f2.an n).next=f2.next:=rfl;rw[e1,e2]
     cases hpu:gL H o with
     | true=>
      rw[hpu] at h;dsimp only at h ⊢
      split at h
      ·rename_i v k hr;simp at h;subst h;simp[kU,hr]
      simp at h
     | false=>
      rw[hpu] at h;dsimp only at h ⊢
      cases hr:X g args f2.heap f2.next with
      | none=>rw[hr] at h;simp at h
      | some r=>
       rw[hr] at h;dsimp only at h ⊢
       cases hst:(!mc H o||uj f2.heap r.heap) with
       | false=>rw[hst] at h;simp at h
       | true=>
        rw[hst] at h;simp at h;subst h;simp[kU]
noncomputable def FP (tk:List Nat) (fh:Bool) (fq:Nat->Bool) (all:List Oper) (l:List (Nat×Bool)):ab->Option ab:=
 @List.rec (Nat×Bool) (fun _=>ab->Option ab) (fun f=>some f) (fun p _ ih f=>
  match all[p.1]? with
  | none=>none
  | some o=>match p.2 with
   | true=>(match IC X E G H n fh tk all o f with|some f'=>ih f'|none=>none)
   | false=>(match px E G n (fh||fq p.1) all o f with
    | some a=>ih (iD f o.dst a)
    | none=>none)) l
theorem L2 {tk:List Nat} {fh:Bool} {fq:Nat->Bool} {all:List Oper} {i:Nat} {lone:Bool} {rest:List (Nat×Bool)} {f:ab}:FP X E G H n tk fh fq all ((i,lone)::rest) f=(match all[i]? with
   | none=>none
   | some o=>match lone with
    | true=>(match IC X E G H n fh tk all o f with|some f'=>FP X E G H n tk fh fq all rest f'|none=>none)
    | false=>(match px E G n (fh||fq i) all o f with
     | some a=>FP X E G H n tk fh fq all rest (iD f o.dst a)
     | none=>none)):=rfl
theorem qm {tk:List Nat} {fh:Bool} {fq:Nat->Bool} {all:List Oper}:∀{l:List (Nat×Bool)} {f f':ab},FP X E G H n tk fh fq all l f=some f'->Cu X E G H tk fh fq all l (f.an n)=some (f'.an n)
 | [],f,f',h=>by
  have e:FP X E G H n tk fh fq all [] f=some f:=rfl;rw[e] at h;simp at h;subst h;rfl
 |(i,lone)::rest,f,f',h=>by
  rw[L2] at h;simp only[Cu]
  cases hi:all[i]? with
  | none=>rw[hi] at h;simp at h
  | some o=>
   rw[hi] at h
   cases lone
   ·dsimp only at h ⊢;rw[if_neg (by simp),vg]
    cases ho:px E G n (fh||fq i) all o f with
    | none=>rw[ho] at h;simp at h
    | some a=>
     rw[ho] at h;dsimp only at h ⊢;rw[←eE];exact qm h
   dsimp only at h ⊢;rw[if_pos rfl]
   cases ho:IC X E G H n fh tk all o f with
   | none=>rw[ho] at h;simp at h
   | some f1=>
    rw[ho] at h;rw[vl X E G H n ho];exact qm h
noncomputable def zP (all:List Oper):Nat->Array Bool->ab->Option ab
 | 0,_,f=>some f
 | m+1,listed,f=>match Region.ready .any all.toArray listed with
  | []=>some f
  | i::_=>(match all[i]? with
   | some o=>(match ID X E G H n all o f with|some f1=>zP all m (bI listed i) f1|none=>none)
   | none=>none)
noncomputable def DA (all:List Oper) (k:Nat) (s0:aa):Nat->Array Bool->ab->Bool
 | 0,listed,f=>(Region.ready .any all.toArray listed).isEmpty&&Lm k s0 (f.an n)
 | m+1,listed,f=>match Region.ready .any all.toArray listed with
  | []=>Lm k s0 (f.an n)
  | i::l=>(i::l).all fun i=>match all[i]? with
   | some o=>(match ID X E G H n all o f with|some f1=>DA all k s0 m (bI listed i) f1|none=>false)
   | none=>false
theorem wu {all:List Oper}:∀(m:Nat) (listed:Array Bool) (f f':ab),zP X E G H n all m listed f=some f'->Cw X E G H all m listed (f.an n)=some (f'.an n)
 | 0,listed,f,f',h=>by simp only[zP,Option.some.injEq] at h;subst h;rfl
 | m+1,listed,f,f',h=>by
  simp only[zP] at h;simp only[Cw]
  split at h
  ·rename_i he;rw[he];simp only[Option.some.injEq] at h;subst h;rfl
  rename_i i l he;rw[he];dsimp only
  split at h
  ·rename_i o ho;rw[ho];dsimp only
   split at h
   ·rename_i f1 hf1;rw[vm X E G H n hf1];exact wu m _ f1 f' h
   simp at h
  simp at h
theorem wv {all:List Oper} {k:Nat} {s0:aa}:∀(m:Nat) (listed:Array Bool) (f:ab),DA X E G H n all k s0 m listed f=true->rh X E G H all k s0 m listed (f.an n)=true
 | 0,listed,f,h=>h
 | m+1,listed,f,h=>by
  simp only[DA] at h;simp only[rh]
  split at h
  ·rename_i he;rw[he];exact h
  rename_i i l he;rw[he];dsimp only;refine List.all_eq_true.2 fun j hj=>?_
  have h1:=List.all_eq_true.1 h j hj
  split at h1
  ·rename_i o ho;rw[ho];dsimp only
   split at h1
   ·rename_i f1 hf1;rw[vm X E G H n hf1];exact wv m _ f1 h1
   simp at h1
  simp at h1
noncomputable def zM (h:au) (all:List Oper):Nat->Array Bool->ab->Option ab
 | 0,_,f=>some f
 | m+1,listed,f=>match Region.ready .any all.toArray listed with
  | []=>none
  | i::_=>(match all[i]? with
   | some o=>(match IC X E G H n (aL H all h.pre) h.tk all o f with|some f1=>zM h all m (bI listed i) f1|none=>none)
   | none=>none)
noncomputable def Dy (h:au) (all:List Oper) (p:Array Bool) (s0:aa):Nat->Array Bool->ab->Bool
 | 0,listed,f=>qC listed.toList p.toList&&By s0 (f.an n)
 | m+1,listed,f=>!qC listed.toList p.toList&&!(Region.ready .any all.toArray listed).isEmpty&&(Region.ready .any all.toArray listed).all fun i=>h.pre.contains (i,true)&&(match all[i]? with
   | some o=>(match IC X E G H n (aL H all h.pre) h.tk all o f with|some f1=>Dy h all p s0 m (bI listed i) f1|none=>false)
   | none=>false)
noncomputable def IL (all:List Oper) (h:au) (f:ab):Option ab:=
 match FP X E G H n h.tk (aL H all h.pre) (quietAt H all h.pre) all (bN h.pre) f with
 | some f1=>(match zM X E G H n h all (h.pre.length - (bN h.pre).length) (eA (bN h.pre) (Array.replicate all.length false)) f1 with
  | some f0=>(match Dy X E G H n h all (eA h.pre (Array.replicate all.length false)) (f0.an n) (h.pre.length - (bN h.pre).length) (eA (bN h.pre) (Array.replicate all.length false)) f1 with
   | true=>(match nM E n all h.nw f0 with
    | some f2=>Dv X E G H n all (dN all h.tail) f2
    | none=>none)
   | false=>none)
  | none=>none)
 | none=>none
theorem wm {h:au} {all:List Oper}:∀(m:Nat) (listed:Array Bool) (f f':ab),zM X E G H n h all m listed f=some f'->Cv X E G H h all m listed (f.an n)=some (f'.an n)
 | 0,listed,f,f',hh=>by simp only[zM,Option.some.injEq] at hh;subst hh;rfl
 | m+1,listed,f,f',hh=>by
  simp only[zM] at hh;simp only[Cv]
  split at hh
  ·simp at hh
  rename_i i l he;rw[he];dsimp only
  split at hh
  ·rename_i o ho;rw[ho];dsimp only
   split at hh
   ·rename_i f1 hf1;rw[vl X E G H n hf1];exact wm m _ f1 f' hh
   simp at hh
  simp at hh
theorem wo {h:au} {all:List Oper} {p:Array Bool} {s0:aa}:∀(m:Nat) (listed:Array Bool) (f:ab),Dy X E G H n h all p s0 m listed f=true->rf X E G H h all p s0 m listed (f.an n)=true
 | 0,listed,f,hh=>hh
 | m+1,listed,f,hh=>by
  simp only[Dy,Bool.and_eq_true] at hh;simp only[rf,Bool.and_eq_true];refine⟨hh.1,List.all_eq_true.2 fun j hj=>?_⟩;have h1:=List.all_eq_true.1 hh.2 j hj;simp only[Bool.and_eq_true] at h1 ⊢;refine⟨h1.1,?_⟩;have h2:=h1.2
  split at h2
  ·rename_i o ho;rw[ho];dsimp only
   split at h2
   ·rename_i f1 hf1;rw[vl X E G H n hf1];exact wo m _ f1 h2
   simp at h2
  simp at h2
theorem FX {all:List Oper} {h:au} {f f':ab} (hh:IL X E G H n all h f=some f'):xE X E G H all h (f.an n)=some (f'.an n):=by
 unfold IL at hh;unfold xE
 split at hh
 ·rename_i f1 h1;rw[qm X E G H n h1];dsimp only
  split at hh
  ·rename_i f0 h0;rw[wm X E G H n _ _ _ _ h0];dsimp only
   split at hh
   ·rename_i h2;rw[wo X E G H n _ _ _ h2];dsimp only
    split at hh
    ·rename_i f2 h3;rw[jX E n all h.nw f0 f2 h3];exact qn X E G H n hh
    simp at hh
   simp at hh
  simp at hh
 simp at hh
noncomputable def FY (all:List Oper) (h:au) (f:ab):Option ab:=
 match gi h with
 | true=>(match zP X E G H n all all.length (Array.replicate all.length false) f with
  | some f0=>(match DA X E G H n all f.next (f0.an n) all.length (Array.replicate all.length false) f with|true=>some f0|false=>none)
  | none=>none)
 | false=>
 match gz h with
 | true=>IL X E G H n all (fT h) f
 | false=>
 match FP X E G H n h.tk (aL H all h.pre) (quietAt H all h.pre) all h.pre f with
 | some f1=>(match nM E n all h.nw f1 with
  | some f2=>Dv X E G H n all (dN all h.tail) f2
  | none=>none)
 | none=>none
theorem IK {all:List Oper} {h:au} {f f':ab} (hh:FY X E G H n all h f=some f'):Je X E G H all h (f.an n)=some (f'.an n):=by
 unfold FY at hh;unfold Je
 cases hx:gi h with
 | true=>
  rw[hx] at hh;dsimp only at hh;rw[if_pos rfl]
  split at hh
  ·rename_i f0 h0;rw[wu X E G H n _ _ _ _ h0];dsimp only
   split at hh
   ·rename_i h2;simp only[Option.some.injEq] at hh;subst hh
    have:=wv X E G H n _ _ _ h2
    have e:(f.an n).next=f.next:=rfl;rw[e,this]
   simp at hh
  simp at hh
 | false=>
 rw[hx] at hh;rw[if_neg (by simp)];dsimp only at hh
 cases hlm:gz h with
 | true=>
  rw[hlm] at hh;rw[if_pos rfl];exact FX X E G H n hh
 | false=>
 rw[hlm] at hh;rw[if_neg (by simp)];dsimp only at hh
 cases h1:FP X E G H n h.tk (aL H all h.pre) (quietAt H all h.pre) all h.pre f with
 | none=>rw[h1] at hh;simp at hh
 | some f1=>
  rw[h1] at hh;rw[qm X E G H n h1];dsimp only at hh ⊢
  cases h2:nM E n all h.nw f1 with
  | none=>rw[h2] at hh;simp at hh
  | some f2=>
   rw[h2] at hh;rw[jX E n all h.nw f1 f2 h2];exact qn X E G H n hh
noncomputable def B3 (body:ab->Option (Exit×ab)) (fuel:Nat):ab->Option (Exit×ab):=
 @Nat.rec (fun _=>ab->Option (Exit×ab)) (fun _=>none) (fun _ ih f=>match body f with
  | some (.normal,f')=>ih f'
  | r=>r) fuel
def tN:Nat->Nat->Nat->List Nat
 | 0,_,_=>[]
 | m+1,k,g=>match Nat.beq g 0 with
  | true=>[]
  | false=>(match Nat.beq (Nat.land g 1) 1 with|true=>k::tN m (k+1) (Nat.shiftRight g 1)|false=>tN m (k+1) (Nat.shiftRight g 1))
def yx (a:ac) (heap:Heap):Option (Nat×List al):=
 match rowOf a with
 | some x=>CM x.1 x.2 (pO (.out x.1) heap)
 | none=>none
theorem EH (a:ac) (heap:Heap):yx a heap=xd a heap:=by
 unfold yx xd
 cases rowOf a with
 | none=>rfl
 | some x=>simp only[jA]
noncomputable def Yh (n t:Nat) (f:ab):Option ab:=
 match yx (qB n f t) f.heap with
 | some (m,es)=>(match iD f (some t) (.dat (.slice es)) with
  | ⟨sl,locs,heap,next⟩=>some ⟨sl,locs,pR (.out m) heap,next⟩)
 | none=>none
noncomputable def FV (n:Nat):List Nat->ab->Option ab
 | [],f=>some f
 | t::r,f=>(match Yh n t f with|some f'=>FV n r f'|none=>none)
noncomputable def Du (n:Nat):List Nat->ab->ab
 | [],f=>f
 | t::r,f=>Du n r (wl false (tz f [qB n f t]) f []).1
noncomputable def kT (n mask:Nat) (f:ab):Option ab:=
 match Nat.beq (Nat.shiftRight mask 4096) 0 with
 | true=>some f
 | false=>FV n (tN 1000 0 (Nat.land (Nat.shiftRight mask 4096) (2 ^ 1024 - 1))) (Du n (tN 1000 0 (Nat.shiftRight mask 5120)) f)
theorem IJ {n t:Nat} {f f':ab} (h:Yh n t f=some f'):fw G (f.an n) (f'.an n):=by
 unfold Yh at h;rw[EH] at h
 split at h
 ·rename_i m es hv;have e:CN t (f.an n)=some (f'.an n):=by
   unfold CN;rw[jb];have e2:(f.an n).heap=f.heap:=rfl;rw[e2,hv];have hp:=eE (n:=n) f (some t) (.dat (.slice es));generalize iD f (some t) (.dat (.slice es))=g at h hp;obtain⟨sl,locs,heap,next⟩:=g;simp only[Option.some.injEq] at h;subst h;simp only[ab.an,aa.put,kX] at hp ⊢;have q1:=congrArg aa.tmps hp;have q2:=congrArg aa.locs hp;have q3:=congrArg aa.heap hp;have q4:=congrArg aa.next hp;simp only at q1 q2 q3 q4;rw[q1,q2,q3,q4]
  exact LX e
 simp at h
theorem wq {n:Nat}:∀(l:List Nat) {f f':ab},FV n l f=some f'->fw G (f.an n) (f'.an n)
 | [],f,f',h=>by simp[FV] at h;subst h;exact .refl _ _
 | t::r,f,f',h=>by
  simp only[FV] at h
  split at h
  ·rename_i f1 h1;exact (IJ G h1).trans (wq r h)
  simp at h
theorem tw {n:Nat}:∀(l:List Nat) (f:ab),fw G (f.an n) ((Du n l f).an n)
 | [],f=>.refl _ _
 | t::r,f=>by
  simp only[Du];refine fw.trans ?_ (tw r _);have h:=IA (G:=G) (tz f [qB n f t]) (f.an n);rw[tx] at h;exact h
theorem nO {n mask:Nat} {f f':ab} (h:kT n mask f=some f'):fw G (f.an n) (f'.an n):=by
 unfold kT at h
 split at h
 ·simp at h;subst h;exact .refl _ _
 exact (tw G _ _).trans (wq G _ h)
noncomputable def il (live:Nat->Nat) (fuel:Nat) (c:Code):ab->Option (Exit×ab):=
 Code.rec (motive:=fun _=>ab->Option (Exit×ab))
  (skip:=fun f=>some (.normal,f))
  (region:=fun id ops draw f=>
   (match (match draw with|true=>FY X E G H n ops.toList (H.ord id) f|false=>Dv X E G (H.at id) n ops.toList ops.toList f) with
    | some f'=>(match kT n (live id) (gN f' (fun l=>dP l (live id))) with|some f2=>some (.normal,f2)|none=>none)
    | none=>none))
  (seq:=fun _ _ ix iy f=>(match ix f with
   | some (.normal,f')=>iy f'
   | r=>r))
  (cond:=fun c _ _ ix iy f=>(match oA G n f c with
   | .dat (.flat (.bool b))=>(match b with|true=>ix f|false=>iy f)
   | _=>none))
  (block:=fun id _ ic f=>(match ic f with
   | some (.exit i,f')=>(match Nat.beq i id with|true=>some (.normal,f')|false=>some (.exit i,f'))
   | r=>r))
  (loop:=fun _ ic f=>B3 ic fuel f)
  (rangeFunc:=fun _ _ _ _ _ _ _=>none)
  (exit:=fun id f=>some (.exit id,f))
  (scope:=fun _ ic f=>(match ic f with
   | some (.goto _,_)=>none
   | r=>r))
  (label:=fun _ f=>some (.normal,f))
  (goto:=fun _ _=>none)
  (ret:=fun f=>some (.ret,f))
  (refuse:=fun _ _=>none) c
theorem F0 {live:Nat->Nat} {fuel:Nat} {c:Code} {f:ab}:il X E G H n live fuel (.scope c) f=(match il X E G H n live fuel c f with
   | some (.goto _,_)=>none
   | r=>r):=rfl
theorem L5 {live:Nat->Nat} {fuel:Nat} {x y:Code} {f:ab}:il X E G H n live fuel (.seq x y) f=(match il X E G H n live fuel x f with
   | some (.normal,f')=>il X E G H n live fuel y f'
   | r=>r):=rfl
theorem F1 {live:Nat->Nat} {fuel:Nat} {id:Nat} {c:Code} {f:ab}:il X E G H n live fuel (.block id c) f=(match il X E G H n live fuel c f with
   | some (.exit i,f')=>(match Nat.beq i id with|true=>some (.normal,f')|false=>some (.exit i,f'))
   | r=>r):=rfl
theorem IM {live:Nat->Nat} {fuel:Nat} {c:Operand} {x y:Code} {f:ab}:il X E G H n live fuel (.cond c x y) f=(match oA G n f c with
   | .dat (.flat (.bool b))=>(match b with|true=>il X E G H n live fuel x f|false=>il X E G H n live fuel y f)
   | _=>none):=rfl
theorem DB {live:Nat->Nat} {fuel:Nat} {id:Nat} {ops:Array Oper} {draw:Bool} {f:ab}:il X E G H n live fuel (.region id ops draw) f =
   (match (match draw with|true=>FY X E G H n ops.toList (H.ord id) f|false=>Dv X E G (H.at id) n ops.toList ops.toList f) with
    | some f'=>(match kT n (live id) (gN f' (fun l=>dP l (live id))) with|some f2=>some (.normal,f2)|none=>none)
    | none=>none):=rfl
theorem FQ {P:Program} {c:Code} {body:ab->Option (Exit×ab)} (hb:∀f e f',body f=some (e,f')->∀Q:Exit->aa->Prop,Q e (f'.an n)->cD P G c Q (f.an n)) {k:Nat} {f f':ab} {e:Exit}
  (h:B3 body k f=some (e,f')) {Q:Exit->aa->Prop} (hQ:Q e (f'.an n)):cD P G (.loop c) Q (f.an n):=by
 intro w R N act bsT bsL bsH bsF hr D hd;refine wp_loop_ghost (I:=fun k a w'=>∃f1 R' N' bsT' bsL' bsH',B3 body k f1=some (e,f')/\cZ G w' R' N' a.tmps.toList (f1.an n) undef .undef [] bsT' bsL' bsH' bsF/\a.defers=D/\bm w R w' R' bsF/\(∀o b,N (.out o)=some b->N' (.out o)=some b)) (n0:=k) ?_ ?_
 ·exact⟨f,R,N,bsT,bsL,bsH,h,hr,hd,aY _,fun _ _ h=>h⟩
 rintro k a w' ⟨f1,R',N',bsT',bsL',bsH',hx,hr',hd',hk,hN⟩
 cases k with
 | zero=>exact absurd hx (by intro hx;cases hx)
 | succ k=>
  have hx:(match body f1 with
   | some (.normal,f')=>B3 body k f'
   | r=>r)=some (e,f'):=hx
  have key:∀e1 f2,body f1=some (e1,f2)->(e1=.normal->B3 body k f2=some (e,f'))->(e1≠.normal->e1=e/\f2=f')->c.wp P (Exit.then (fun a' w'=>∃n',n' < k+1/\∃f1 R' N' bsT' bsL' bsH',B3 body n' f1=some (e,f')/\cZ G w' R' N' a'.tmps.toList (f1.an n) undef .undef [] bsT' bsL' bsH' bsF/\a'.defers=D/\bm w R w' R' bsF/\(∀o b,N (.out o)=some b->N' (.out o)=some b)) (Ct G D Q w R N bsF)) a w':=by
   intro e1 f2 hbody h1 h2;refine wp_mono (hb f1 e1 f2 hbody (fun e' s''=>e'=e1/\s''=f2.an n) ⟨rfl,rfl⟩ w' R' N' a bsT' bsL' bsH' bsF hr' hd') ?_;rintro e3 a3 w3 ⟨s3,R3,N3,bsT3,bsL3,bsH3,⟨rfl,rfl⟩,hr3,hd3,hk3,hN3⟩
   by_cases he:e3=.normal
   ·subst he;exact⟨k,Nat.lt_succ_self k,f2,R3,N3,bsT3,bsL3,bsH3,h1 rfl,hr3,hd3,hk.trans hk3,fun o b h=>hN3 o b (hN o b h)⟩
   obtain⟨rfl,rfl⟩:=h2 he
   have:Ct G D Q w R N bsF e3 a3 w3:=⟨_,R3,N3,bsT3,bsL3,bsH3,hQ,hr3,hd3,hk.trans hk3,fun o b h=>hN3 o b (hN o b h)⟩
   cases e3 with
   | normal=>exact (he rfl).elim
   | _=>exact this
  cases hbd:body f1 with
  | none=>rw[hbd] at hx;simp at hx
  | some r=>
   obtain⟨e1,f2⟩:=r;rw[hbd] at hx
   cases e1 with
   | normal=>exact key _ _ hbd (fun _=>hx) (fun h=>(h rfl).elim)
   | _=>simp at hx;exact key _ _ hbd (fun h=>by simp at h) (fun _=>hx)
theorem wI {P:Program} {c:Code} {s s2:aa} {Q:Exit->aa->Prop} (h:cD P G c (fun e s'=>e=.normal/\s'=s2) s) {s3:aa} (hg:fw G s2 s3) (hQ:Q .normal s3):cD P G c Q s:=by
 intro w R N act bsT bsL bsH bsF hr D hd;refine wp_mono (h w R N act bsT bsL bsH bsF hr hd) ?_;rintro e a w' ⟨s',R',N',bsT',bsL',bsH',⟨rfl,rfl⟩,hr',hd',hk,hN⟩;obtain⟨R2,N2,t2,l2,h2,hr2,hk2,hN2⟩:=hg _ _ _ _ _ _ _ _ hr';exact⟨s3,R2,N2,t2,l2,h2,hQ,hr2,hd',hk.trans hk2,fun o b ho=>hN2 o b (hN o b ho)⟩
theorem AF {P:Program} {c:Code} {s s2:aa} {Q:Exit->aa->Prop} (h:cD P G c (fun e s'=>e=.normal/\s'=s2) s) {s3:aa}
  (hw:∀(w:World) (R:Own) (N:Name->Option Nat) (tmps:List Value) (bsT bsL bsH bsF:List Nat),cZ G w R N tmps s2 undef .undef [] bsT bsL bsH bsF->∃bsT',cZ G w R N tmps s3 undef .undef [] bsT' bsL bsH bsF) (hQ:Q .normal s3):cD P G c Q s:=by
 intro w R N act bsT bsL bsH bsF hr D hd;refine wp_mono (h w R N act bsT bsL bsH bsF hr hd) ?_;rintro e a w' ⟨s',R',N',bsT',bsL',bsH',⟨rfl,rfl⟩,hr',hd',hk,hN⟩;obtain⟨bsT2,hr2⟩:=hw _ _ _ _ _ _ _ _ hr';exact⟨s3,R',N',bsT2,bsL',bsH',hQ,hr2,hd',hk,hN⟩
theorem eP {P:Program} (hE:E.Ok P) (hX:Jd P G X) (live:Nat->Nat) (fuel:Nat):∀(c:Code) (f f':ab) (e:Exit),cP H c=true->il X E G H n live fuel c f=some (e,f')->∀Q:Exit->aa->Prop,Q e (f'.an n)->cD P G c Q (f.an n)
 | .skip,f,f',e,_,h,Q,hQ=>by
  have h:some (Exit.normal,f)=some (e,f'):=h;simp at h;obtain⟨rfl,rfl⟩:=h;exact gn wp_skip hQ
 | .region id ops draw,f,f',e,hc,h,Q,hQ=>by
  rw[DB] at h
  cases draw
  ·dsimp only at h
   cases h1:Dv X E G (H.at id) n ops.toList ops.toList f with
   | none=>rw[h1] at h;simp at h
   | some f1=>
    rw[h1] at h;dsimp only at h
    cases h2:kT n (live id) (gN f1 (fun l=>dP l (live id))) with
    | none=>rw[h2] at h;simp at h
    | some f2=>
    rw[h2] at h;simp at h;obtain⟨rfl,rfl⟩:=h;refine wI G (AF G (tP hE (mY hX (qn X E G (H.at id) n h1) ⟨rfl,rfl⟩)) ?_ ⟨rfl,rfl⟩) (nO G h2) hQ;intro w R N tmps bsT bsL bsH bsF hr;exact hr.prune _
  dsimp only at h
  cases h1:FY X E G H n ops.toList (H.ord id) f with
  | none=>rw[h1] at h;simp at h
  | some f1=>
   rw[h1] at h;dsimp only at h
   cases h2:kT n (live id) (gN f1 (fun l=>dP l (live id))) with
   | none=>rw[h2] at h;simp at h
   | some f2=>
   rw[h2] at h;simp at h;obtain⟨rfl,rfl⟩:=h;refine wI G (AF G (AG hE hE.mixed (by simpa [cP] using hc) (D0 hX (IK X E G H n h1) ⟨rfl,rfl⟩)) ?_ ⟨rfl,rfl⟩) (nO G h2) hQ;intro w R N tmps bsT bsL bsH bsF hr;exact hr.prune _
 | .seq x y,f,f',e,hc,h,Q,hQ=>by
  simp only[cP,Bool.and_eq_true] at hc;rw[L5] at h;refine Cp ?_
  cases hx:il X E G H n live fuel x f with
  | none=>rw[hx] at h;simp at h
  | some r=>
   obtain⟨e1,f1⟩:=r;rw[hx] at h;refine eP hE hX live fuel x f f1 e1 hc.1 hx _ ?_
   cases e1 with
   | normal=>exact eP hE hX live fuel y f1 f' e hc.2 h Q hQ
   | _=>simp at h;obtain⟨rfl,rfl⟩:=h;exact hQ
 | .cond c x y,f,f',e,hc,h,Q,hQ=>by
  simp only[cP,Bool.and_eq_true] at hc;intro w R N act bsT bsL bsH bsF hr D hd;rw[IM] at h
  split at h
  ·rename_i b hb;obtain⟨bs,he⟩:=pA hr.tmps hr.glob c;rw[mL,hb] at he;obtain⟨_,he,_⟩:=aE he;refine wp_cond he ?_
   cases b
   ·exact eP hE hX live fuel y f f' e hc.2 h Q hQ w R N act bsT bsL bsH bsF hr hd
   exact eP hE hX live fuel x f f' e hc.1 h Q hQ w R N act bsT bsL bsH bsF hr hd
  simp at h
 | .block id c,f,f',e,hc,h,Q,hQ=>by
  simp only[cP] at hc;rw[F1] at h
  cases hx:il X E G H n live fuel c f with
  | none=>rw[hx] at h;simp at h
  | some r=>
   obtain⟨e1,f1⟩:=r;rw[hx] at h;intro w R N act bsT bsL bsH bsF hr D hd
   apply wp_block
   refine wp_mono (eP hE hX live fuel c f f1 e1 hc hx (fun e' s''=>e'=e1/\s''=f1.an n) ⟨rfl,rfl⟩ w R N act bsT bsL bsH bsF hr hd) ?_;rintro e2 a w' ⟨s2,R',N',bsT',bsL',bsH',⟨rfl,rfl⟩,rest⟩
   cases e2 with
   | exit i=>
    simp only[Exit.inBlock];dsimp only at h
    by_cases hi:i=id
    ·have hb:Nat.beq i id=true:=by rw[Nat.beq_eq];exact hi
     rw[if_pos hi];rw[hb] at h;simp at h;obtain⟨rfl,rfl⟩:=h;exact⟨_,R',N',bsT',bsL',bsH',hQ,rest⟩
    have hb:Nat.beq i id=false:=by rw[Bool.eq_false_iff];intro hc;rw[Nat.beq_eq] at hc;exact hi hc
    rw[if_neg hi];rw[hb] at h;simp at h;obtain⟨rfl,rfl⟩:=h;exact⟨_,R',N',bsT',bsL',bsH',hQ,rest⟩
   | _=>simp at h;obtain⟨rfl,rfl⟩:=h;exact⟨_,R',N',bsT',bsL',bsH',hQ,rest⟩
 | .exit id,f,f',e,_,h,Q,hQ=>by
  have h:some (Exit.exit id,f)=some (e,f'):=h;simp at h;obtain⟨rfl,rfl⟩:=h;exact gn wp_exit hQ
 | .ret,f,f',e,_,h,Q,hQ=>by
  have h:some (Exit.ret,f)=some (e,f'):=h;simp at h;obtain⟨rfl,rfl⟩:=h;exact gn wp_ret hQ
 | .loop c,f,f',e,hc,h,Q,hQ=>by
  simp only[cP] at hc;exact FQ G n (fun f e f' hb Q hQ=>eP hE hX live fuel c f f' e hc hb Q hQ) h hQ
 | .rangeFunc _ _ _ _,_,_,_,_,h,_,_=>by cases h
 | .scope c,f,f',e,hc,h,Q,hQ=>by
  simp only[cP] at hc;rw[F0] at h
  cases hx:il X E G H n live fuel c f with
  | none=>rw[hx] at h;simp at h
  | some r=>
   obtain⟨e1,f1⟩:=r;rw[hx] at h;intro w R N act bsT bsL bsH bsF hr D hd
   apply wp_scope_straight
   refine wp_mono (eP hE hX live fuel c f f1 e1 hc hx (fun e' s''=>e'=e1/\s''=f1.an n) ⟨rfl,rfl⟩ w R N act bsT bsL bsH bsF hr hd) ?_;rintro e2 a w' ⟨s2,R',N',bsT',bsL',bsH',⟨rfl,rfl⟩,rest⟩
   cases e2 with
   | goto l=>simp at h
   | _=>simp at h;obtain⟨rfl,rfl⟩:=h;exact⟨_,R',N',bsT',bsL',bsH',hQ,rest⟩
 | .label _,f,f',e,_,h,Q,hQ=>by
  have h:some (Exit.normal,f)=some (e,f'):=h;simp at h;obtain⟨rfl,rfl⟩:=h;exact gn wp_label hQ
 | .goto _,_,_,_,_,h,_,_=>by cases h
 | .refuse _,_,_,_,_,h,_,_=>by cases h
noncomputable def tB (f:ab) (a:Tmp) (t:TypeId):Option ac:=
 match qB n f a with
 | .ptr k off=>(match Qj f k,E.ty t with
  | some (.cells cs),some i=>loadCells i off cs
  | _,_=>none)
 | _=>none
theorem F3 (f:ab) (a:Tmp) (t:TypeId):xA E (f.an n) a t=tB E n f a t:=by
 unfold xA tB;rw[jb]
 cases qB n f a with
 | ptr k off=>dsimp only;rw[Dw];rfl
 | _=>rfl
noncomputable def ij:ab->List ResultVar->Option (List ac)
 | _,[]=>some []
 | f,.tmp t::r=>(match ij (tA n f (some 0) [.tmp t]) r with|some vs=>some (qB n f t::vs)|none=>none)
 | f,.cell a t::r=>(match tB E n f a t,ij f r with|some v,some vs=>some (v::vs)|_,_=>none)
theorem py:∀(rs:List ResultVar) (f:ab),gF E (f.an n) rs=ij E n f rs
 | [],_=>rfl
 | .tmp t::r,f=>by
  simp only[gF,ij,←zQ,py r,jb]
  cases ij E n (tA n f (some 0) [.tmp t]) r <;> rfl
 | .cell a t::r,f=>by
  simp only[gF,ij,F3,py r]
  cases tB E n f a t <;> cases ij E n f r <;> rfl
noncomputable def FW:List Name->ab->List ac->ab×List ac
 | [],f,args=>(f,args)
 | k::ks,f,args=>
  (match (aV k args||jm k f.locs) with
   | true=>(match vk true k f args with
   | some (f',args')=>FW ks f' args'
   | none=>FW ks f args)
   | false=>FW ks f args)
theorem xz:∀(ks:List Name) (f:ab) (args:List ac),gP ks (f.an n) args=((FW ks f args).1.an n,(FW ks f args).2)
 | [],_,_=>rfl
 | k::ks,f,args=>by
  simp only[gP,FW,B2];have e:(f.an n).locs=f.locs:=rfl;rw[e]
  cases (aV k args||jm k f.locs) with
  | false=>rw[if_neg (by simp)];exact xz ks f args
  | true=>
   rw[if_pos rfl]
   cases vk true k f args with
   | none=>exact xz ks f args
   | some x=>exact xz ks x.1 x.2
noncomputable def wX (rs:List ResultVar) (f:ab):Option eW:=
 match ij E n f rs with
 | none=>none
 | some vs=>
  match bA (jg vs) with
  | true=>some ⟨pack (jg vs),f.heap,f.next⟩
  | false=>match FW (repeatL f.locs.length (mI f.locs)) f (jg vs) with
   |(f',vs')=>if bA vs'=true then some ⟨pack vs',f'.heap,f'.next⟩ else none
theorem Dt (rs:List ResultVar) (f:ab):RA E rs (f.an n)=wX E n rs f:=by
 unfold RA wX;rw[py]
 cases ij E n f rs with
 | none=>rfl
 | some vs=>
  dsimp only
  cases bA (jg vs) with
  | true=>rw[if_pos rfl];rfl
  | false=>
   rw[if_neg (by simp)];dsimp only;have e:(f.an n).locs=f.locs:=rfl;rw[e,xz];generalize FW (repeatL f.locs.length (mI f.locs)) f (jg vs)=pr;obtain⟨f',vs'⟩:=pr;rfl
def yh:Nat->List ac->Sl
 | _,[]=>[]
 | k,a::r=>(k,a)::yh (k+1) r
theorem sd:∀(as:List ac) (k t:Nat),qA (yh k as) t=if k<=t then bn as (t - k) else .undef
 | [],k,t=>by
  rw[yh,zH]
  split <;> simp[bn]
 | a::r,k,t=>by
  rw[yh,gT,sd r (k+1) t]
  by_cases h:k=t
  ·subst h;simp[bn]
  rw[if_neg h]
  by_cases h2:k<=t
  ·rw[if_pos (by omega),if_pos h2];unfold bn;rw[show t - k=(t - (k+1))+1 by omega];simp
  rw[if_neg (by omega),if_neg h2]
end
section
variable (E:bu) (G:bw) (moves caps:FuncId->Bool) (F:FuncId->Option rP) (M:ld) (fuel:Nat)
noncomputable def B5:Nat->ld
 | 0=>fun _ _ _ _=>none
 | k+1=>fun g args heap next=>
  match F g with
  | none=>none
  | some x=>match Nat.ble args.length x.ntmps with
   | false=>none
   | true=>(match il (fun g args heap next=>match M g args heap next with|some r=>some r|none=>B5 k g args heap next) E G ⟨moves,x.ord,caps,rowsOf caps g⟩ x.ntmps x.live fuel x.code ⟨yh 0 args,[],heap,next⟩ with
    | some (.ret,f)=>(match wX E x.ntmps x.results f with|some r=>some (L0 next r)|none=>none)
    | some (.normal,f)=>(match wX E x.ntmps x.results f with|some r=>some (L0 next r)|none=>none)
    | _=>none)
variable {E G moves caps F M}
theorem wx {P:Program} (hE:E.Ok P) (hF:FOk P moves caps F) (hM:Jd P G M):∀k,Jd P G (B5 E G moves caps F M fuel k)
 | 0=>by intro f args heap next r h;cases h
 | k+1=>by
  intro g args heap next r h;simp only[B5] at h
  split at h
  ·simp at h
  rename_i x hx;obtain⟨fn,h1,h2,h3,h4,h5⟩:=hF g x hx;have ih:=wx hE hF hM k;have hX:Jd P G (fun g args heap next=>match M g args heap next with|some r=>some r|none=>B5 E G moves caps F M fuel k g args heap next):=by
   intro g args heap next r h;dsimp only at h
   split at h
   ·rename_i r' hr';simp at h;subst h;exact hM _ _ _ _ _ hr'
   exact ih _ _ _ _ _ h
  split at h
  ·simp at h
  rename_i hlen;have hlen:=fM hlen;have hent:(⟨yh 0 args,[],heap,next⟩:ab).an x.ntmps=enter x.ntmps args heap next:=by
   simp only[ab.an,enter];congr 1
   apply List.ext_getElem?
   intro i;rw[lD,Nat.zero_add,sd,if_pos (Nat.zero_le _),Nat.sub_zero,List.getElem?_append]
   split
   ·split
    ·rename_i hi;unfold bn;rw[List.getElem?_eq_getElem hi]
    rename_i hi1 hi;rw[List.getElem?_replicate,if_pos (by omega)];unfold bn;rw[List.getElem?_eq_none (by omega)]
   rename_i hi;rw[if_neg (by omega),List.getElem?_replicate,if_neg (by omega)]
  have key:∀e f,il (fun g args heap next=>match M g args heap next with|some r=>some r|none=>B5 E G moves caps F M fuel k g args heap next) E G ⟨moves,x.ord,caps,rowsOf caps g⟩ x.ntmps x.live fuel x.code ⟨yh 0 args,[],heap,next⟩=some (e,f)->e=.ret∨e=.normal->
    (match wX E x.ntmps x.results f with|some r=>some (L0 next r)|none=>none)=some r->aD P G g args heap next (XQ r):=by
   intro e f hx he hr
   cases hf:wX E x.ntmps x.results f with
   | none=>rw[hf] at hr;simp at hr
   | some r0=>
    rw[hf] at hr;simp at hr;subst hr
    apply aD.gc
    refine jJ hE h1 h2 ?_;intro _ _;rw[h3,h4,←hent];refine eP _ E G ⟨moves,x.ord,caps,rowsOf caps g⟩ x.ntmps hE hX x.live fuel x.code _ _ _ (by rw[eo];exact h5) hx _ ?_
    have:=re (E:=E) (rs:=x.results) (s:=f.an x.ntmps) (r:=r0) (by rw[Dt];exact hf)
    rcases he with rfl|rfl <;> exact this
  split at h
  ·rename_i f hf;exact key _ _ hf (.inl rfl) h
  ·rename_i f hf;exact key _ _ hf (.inr rfl) h
  simp at h
end
end Go.Tp
namespace Go.Tp
variable {P:Program} {G:bw}
end Go.Tp
namespace Go.Tp
mutual
def MB:ac->Bool
 | .dat _=>true
 | .own _=>true
 | .ref _=>true
 | .undef=>true
 | .agg cs=>H6 cs
 | .tup cs=>H6 cs
 | .fn _ x y=>H6 x&&H6 y
 | .ptr _ _=>false
 | .map _=>false
 | .win _ _ _ _=>false
def H6:List ac->Bool
 | []=>true
 | a::r=>MB a&&H6 r
end
section
variable {w:World} {R:Own} {N N':Name->Option Nat}
mutual
theorem ai.nm:∀{a:ac} {v:Value} {bs:List Nat},ai w R N a v bs->MB a=true->ai w R N' a v bs
 | .dat _,_,_,h,_=>by simp only[ai] at h ⊢;exact h
 | .own _,_,_,h,_=>by simp only[ai] at h ⊢;exact h
 | .ref _,_,_,h,_=>by simp only[ai] at h ⊢;exact h
 | .ptr _ _,_,_,_,hn=>by simp[MB] at hn
 | .map _,_,_,_,hn=>by simp[MB] at hn
 | .win _ _ _ _,_,_,_,hn=>by simp[MB] at hn
 | .fn _ x y,_,_,h,hn=>by
  simp only[MB,Bool.and_eq_true] at hn;simp only[ai] at h ⊢;obtain⟨h1,vs,us,e,h2,h3⟩:=h;exact⟨h1,vs,us,e,ah.nm (l:=x) h2 hn.1,ah.nm (l:=y) h3 hn.2⟩
 | .agg cs,_,_,h,hn=>by
  simp only[MB] at hn;simp only[ai] at h ⊢;obtain⟨vs,e,h⟩:=h;exact⟨vs,e,ah.nm (l:=cs) h hn⟩
 | .tup cs,_,_,h,hn=>by
  simp only[MB] at hn;simp only[ai] at h ⊢;obtain⟨vs,e,h⟩:=h;exact⟨vs,e,ah.nm (l:=cs) h hn⟩
 | .undef,_,_,h,_=>by simp only[ai] at h ⊢;exact h
theorem ah.nm:∀{l:List ac} {vs:List Value} {bs:List Nat},ah w R N l vs bs->H6 l=true->ah w R N' l vs bs
 | [],_,_,h,_=>by simp only[ah] at h ⊢;exact h
 | a::l,_,_,h,hn=>by
  simp only[H6,Bool.and_eq_true] at hn;simp only[ah] at h ⊢;obtain⟨v,vs',b1,b2,e1,e2,h1,h2⟩:=h;exact⟨v,vs',b1,b2,e1,e2,ai.nm (a:=a) h1 hn.1,ah.nm (l:=l) h2 hn.2⟩
end
end
variable {P:Program} {G:bw}
end Go.Tp
namespace Go.Tp
inductive Qy (α:Type):Type where
 |fin (a:α)
 |fail
 |bool (t:Nat) (b:Bool) (k:Bool->Qy α)
 |out (t:Nat) (o:Option Out) (k:Out->Qy α)
 |res (g:FuncId) (args:List ac) (heap:Heap) (next:Nat) (k:eW->Qy α)
 |stay (h h':Heap) (k:Qy α)
 |loop (n:Nat) (c:Code) (f:ab) (k:Exit×ab->Qy α)
 |both (a b:Qy α)
section
variable (P:Program) (G:bw) {α:Type} (T:α->Prop)
def Qy.rS:Qy α->Prop
 | .fin a=>T a
 | .fail=>False
 | .bool _ b k=>(k b).rS
 | .out _ o k=>∃x,o=some x/\(k x).rS
 | .res g args heap next k=>aD P G g args heap next (fun v h m=>mT v->wY h->(k ⟨v,h,m⟩).rS)
 | .stay h h' k=>Ro h h'/\k.rS
 | .loop n c f k=>cD P G (.loop c) (fun e s=>∃f',s=f'.an n/\(k (e,f')).rS) (f.an n)
 | .both a b=>a.rS/\b.rS
end
def E8 (o:Oper):Nat:=
 match o.dst with
 | some t=>t
 | none=>(match o.op with
  | .store _ (.tmp u) _=>100000+u
  | .mapUpdate _ (.tmp u) _ _=>100000+u
  | .insert _ (.tmp u) _ _=>100000+u
  | .call c=>(match c.args.toList with|.tmp u::_=>100000+u|_=>0)
  | _=>0)
section
variable {α:Type} (A B:Nat->Bool) (E:bu) (G:bw) (H:Hints) (n:Nat)
noncomputable def uG (d:Option Tmp) (f:ab) (k:ab->Qy α):Qy α:=
 match d with
 | none=>k f
 | some t=>(match A t with
  | true=>(match qB n f t with
   | .dat (.flat (.bool b))=>.bool t b (fun b=>k (iD f (some t) (.dat (.flat (.bool b)))))
   | _=>k f)
  | false=>k f)
def nJ (k:Option Name) (out:Out):Option aM:=
 match out with
 | ⟨_,eff⟩=>match eff with
  | .grow ob' _ _=>some ob'
  | .set ob'=>(match k with
   | some (.out _)=>some ob'
   | _=>none)
  | _=>none
noncomputable def zO (o:Oper) (k:Option Name) (f:ab) (out:Out):Option ab:=
 match out with
 | ⟨_,eff⟩=>match eff with
  | .grow ob' sz len=>(match f with
   | ⟨sl,locs,heap,next⟩=>match k with
    | some (.loc j)=>some (iD ⟨sl,pR (.loc j) locs,(.out next,ob')::heap,next+1⟩ o.dst (.win (.out next) sz 0 len))
    | some (.out j)=>some (iD ⟨sl,locs,(.out next,ob')::pR (.out j) heap,next+1⟩ o.dst (.win (.out next) sz 0 len))
    | none=>some (iD ⟨sl,locs,(.out next,ob')::heap,next+1⟩ o.dst (.win (.out next) sz 0 len)))
  | .set ob'=>(match f with
   | ⟨sl,locs,heap,next⟩=>match k with
    | some (.out j)=>(match out with|⟨val,_⟩=>some (iD ⟨sl,locs,pL (.out j) ob' heap,next⟩ o.dst val))
    | _=>none)
  | _=>none
theorem L4 {o:Oper} {k:Option Name} {f f':ab} {out:Out} {ob:aM} (h1:nJ k out=some ob) (h2:bC ob=true) (h3:zO o k f out=some f'):kR o k f out=some f':=by
 obtain⟨val,eff⟩:=out;obtain⟨sl,locs,heap,next⟩:=f
 cases eff with
 | grow ob' sz len=>
  simp only[nJ,Option.some.injEq] at h1;subst h1
  rcases k with _|⟨_|_⟩ <;> simp only[zO] at h3 <;> simp only[kR,h2,if_true] <;> exact h3
 | set ob'=>
  rcases k with _|⟨_|_⟩
  ·simp[nJ] at h1
  ·simp[nJ] at h1
  simp only[nJ,Option.some.injEq] at h1;subst h1;simp only[zO] at h3;simp only[kR,ql,h2,if_true];exact h3
 | _=>simp[nJ] at h1
noncomputable def ET (q take:Bool) (o:Oper) (f:ab) (k:ab->Qy α):Qy α:=
 match B (E8 o) with
 | true=>.out (E8 o) (jf E take o.op (fR G n f (jS q o.op) 0 (opsL o.op)) (qo f o.op (fR G n f (jS q o.op) 0 (opsL o.op))))
   (fun out=>match nJ (looks o.op (fR G n f (jS q o.op) 0 (opsL o.op))) out with
    | some ob=>.bool (E8 o+500000) (bC ob) (fun b=>match b with
     | true=>(match zO o (looks o.op (fR G n f (jS q o.op) 0 (opsL o.op))) (tA n f (jS q o.op) (opsL o.op)) out with
      | some f'=>uG A n o.dst f' k
      | none=>.fail)
     | false=>.fail)
    | none=>(match kR o (looks o.op (fR G n f (jS q o.op) 0 (opsL o.op))) (tA n f (jS q o.op) (opsL o.op)) out with
     | some f'=>uG A n o.dst f' k
     | none=>.fail))
 | false=>(match wi E G n q take o f with
  | some f'=>uG A n o.dst f' k
  | none=>.fail)
noncomputable def Oe (all:List Oper) (o:Oper) (f:ab) (k:ab->Qy α):Qy α:=
 match gH n all f o.guard with
 | none=>.fail
 | some b=>match b with
  | true=>
   (match cY o.op with
    | some c=>(match qp E G H n c f with
     | some (g,args,f2)=>.res g args f2.heap f2.next (fun r=>uG A n o.dst (tC f2 r o.dst) k)
     | none=>.fail)
    | none=>ET A B E G n (readOnly H.moves all o) (lp H all o) o f k)
  | false=>k (iD f o.dst (.tup []))
noncomputable def Oc (all:List Oper) (ops:List Oper):ab->(ab->Qy α)->Qy α:=
 @List.rec Oper (fun _=>ab->(ab->Qy α)->Qy α) (fun f k=>k f) (fun o _ ih f k=>Oe A B E G H n all o f (fun f'=>ih f' k)) ops
noncomputable def yM (fh:Bool) (all:List Oper) (o:Oper) (f:ab) (k:ac->Qy α):Qy α:=
 match B (E8 o) with
 | true=>(match gH n all f o.guard with
  | none=>.fail
  | some b=>match b with
   | true=>(match nE o.op with
    | true=>(match jf E false o.op [] none with|some _=>k .undef|none=>.fail)
    | false=>(match cY o.op with
     | some _=>.fail
     | none=>(match iK o.op&&ph fh (looks o.op (fR G n f none 0 (opsL o.op))) with
      | true=>.out (E8 o) (jf E false o.op (fR G n f none 0 (opsL o.op)) (qo f o.op (fR G n f none 0 (opsL o.op)))) (fun out=>match out with|⟨v,.keep⟩=>k v|_=>.fail)
      | false=>.fail)))
   | false=>k (.tup []))
 | false=>(match px E G n fh all o f with
  | some a=>k a
  | none=>.fail)
noncomputable def Od (fh:Bool) (tk:List Nat) (all:List Oper) (o:Oper) (f:ab) (k:ab->Qy α):Qy α:=
 match gH n all f o.guard with
 | none=>.fail
 | some b=>match b with
  | true=>
   (match cY o.op with
    | some c=>(match mM E G H n c f with
     | some (g,args,f2)=>(match gL H o with
      | true=>.res g args [] f2.next (fun r=>match r with
       | ⟨v,[],m⟩=>uG A n o.dst (tC f2 ⟨v,f2.heap,m⟩ o.dst) k
       | _=>.fail)
      | false=>.res g args f2.heap f2.next (fun r=>match mc H o with
       | true=>.stay f2.heap r.heap (uG A n o.dst (tC f2 r o.dst) k)
       | false=>uG A n o.dst (tC f2 r o.dst) k))
     | none=>.fail)
    | none=>(match eQ o.op with
     | some t=>(match lF n fh all (fV all t (ve n tk t f)) f with
      | some f1=>ET A B E G n false false o f1 k
      | none=>.fail)
     | none=>(match ib o.op with
      | true=>ET A B E G n (readOnly H.moves all o) (lp H all o) o f k
      | false=>yM B E G n fh all o f (fun a=>uG A n o.dst (iD f o.dst a) k))))
  | false=>k (iD f o.dst (.tup []))
noncomputable def Lr (tk:List Nat) (fh:Bool) (fq:Nat->Bool) (all:List Oper) (l:List (Nat×Bool)):ab->(ab->Qy α)->Qy α:=
 @List.rec (Nat×Bool) (fun _=>ab->(ab->Qy α)->Qy α) (fun f k=>k f) (fun p _ ih f k=>
  match all[p.1]? with
  | none=>.fail
  | some o=>match p.2 with
   | true=>Od A B E G H n fh tk all o f (fun f'=>ih f' k)
   | false=>yM B E G n (fh||fq p.1) all o f (fun a=>uG A n o.dst (iD f o.dst a) (fun f'=>ih f' k))) l
def JJ (F:Nat->Qy α):Nat->List Nat->Qy α
 | i,[]=>F i
 | i,j::l=>.both (F i) (JJ F j l)
noncomputable def EX (all:List Oper):Nat->Array Bool->ab->(ab->Qy α)->Qy α
 | 0,listed,f,k=>(match Region.ready .any all.toArray listed with
  | []=>k f
  | _=>.fail)
 | m+1,listed,f,k=>(match Region.ready .any all.toArray listed with
  | []=>k f
  | i::l=>JJ (fun i=>match all[i]? with
   | some o=>Oe A B E G H n all o f (fun f'=>EX all m (bI listed i) f' k)
   | none=>.fail) i l)
noncomputable def EV (h:au) (all:List Oper) (p:Array Bool):Nat->Array Bool->ab->(ab->Qy α)->Qy α
 | 0,listed,f,k=>(match qC listed.toList p.toList with
  | true=>k f
  | false=>.fail)
 | m+1,listed,f,k=>(match qC listed.toList p.toList with
  | true=>.fail
  | false=>(match Region.ready .any all.toArray listed with
   | []=>.fail
   | i::l=>JJ (fun i=>match h.pre.contains (i,true) with
    | true=>(match all[i]? with
     | some o=>Od A B E G H n (aL H all h.pre) h.tk all o f (fun f'=>EV h all p m (bI listed i) f' k)
     | none=>.fail)
    | false=>.fail) i l))
noncomputable def Oj (all:List Oper) (h:au) (f:ab) (k:ab->Qy α):Qy α:=
 match gi h with
 | true=>EX A B E G H n all all.length (Array.replicate all.length false) f k
 | false=>(match gz h with
  | true=>Lr A B E G H n (fT h).tk (aL H all (fT h).pre) (quietAt H all (fT h).pre) all (bN (fT h).pre) f (fun f1=>
    EV A B E G H n (fT h) all (eA (fT h).pre (Array.replicate all.length false)) ((fT h).pre.length - (bN (fT h).pre).length) (eA (bN (fT h).pre) (Array.replicate all.length false)) f1 (fun f0=>
     match nM E n all (fT h).nw f0 with
     | some f2=>Oc A B E G H n all (dN all (fT h).tail) f2 k
     | none=>.fail))
  | false=>Lr A B E G H n h.tk (aL H all h.pre) (quietAt H all h.pre) all h.pre f (fun f1=>
    match nM E n all h.nw f1 with
    | some f2=>Oc A B E G H n all (dN all h.tail) f2 k
    | none=>.fail))
def ux:Sl->List Name
 | []=>[]
 | p::r=>Pr p.2++ux r
def aaG (m:Name):List Name->Bool
 | []=>false
 | x::r=>match sM x m with|true=>true|false=>aaG m r
def E9 (l:List Name):Heap->Heap
 | []=>[]
 |(m,o)::r=>match aaG m l with|true=>(m,o)::E9 l r|false=>E9 l r
def ac4 (f:ab):ab:=
 match f with
 | ⟨sl,[],heap,next⟩=>⟨sl,[],heap,next⟩
 | ⟨sl,p::locs,heap,next⟩=>⟨sl,E9 (Ah (p::locs) (p::locs).length (rO (ux sl) [])) (p::locs),heap,next⟩
def WN:FuncId:=4000000
def II (caps:FuncId->Bool) (f:ab):ab:=match caps WN with|true=>ac4 f|false=>f
noncomputable def xg (live:Nat->Nat) (id:Nat) (ops:Array Oper) (draw:Bool) (f:ab) (k:ab->Qy α):Qy α:=
 match draw with
 | true=>Oj A B E G H n ops.toList (H.ord id) f (fun f'=>match kT n (live id) (gN f' (fun l=>dP l (live id))) with|some f2=>k (II H.caps f2)|none=>.fail)
 | false=>Oc A B E G (H.at id) n ops.toList ops.toList f (fun f'=>match kT n (live id) (gN f' (fun l=>dP l (live id))) with|some f2=>k (II H.caps f2)|none=>.fail)
noncomputable def sC (live:Nat->Nat) (c:Code):ab->(Exit×ab->Qy α)->Qy α:=
 Code.rec (motive:=fun _=>ab->(Exit×ab->Qy α)->Qy α)
  (skip:=fun f k=>k (.normal,f))
  (region:=fun id ops draw f k=>xg A B E G H n live id ops draw f (fun f=>k (.normal,f)))
  (seq:=fun _ _ ix iy f k=>ix f (fun r=>match r with
   |(.normal,f')=>iy f' k
   | r=>k r))
  (cond:=fun c _ _ ix iy f k=>(match oA G n f c with
   | .dat (.flat (.bool b))=>(match b with|true=>ix f k|false=>iy f k)
   | _=>.fail))
  (block:=fun id _ ic f k=>ic f (fun r=>match r with
   |(.exit i,f')=>(match Nat.beq i id with|true=>k (.normal,f')|false=>k (.exit i,f'))
   | r=>k r))
  (loop:=fun c _ f k=>.loop n c f k)
  (rangeFunc:=fun _ _ _ _ _ _ _ _=>.fail)
  (exit:=fun id f k=>k (.exit id,f))
  (scope:=fun _ ic f k=>ic f (fun r=>match r with
   |(.goto _,_)=>.fail
   | r=>k r))
  (label:=fun _ f k=>k (.normal,f))
  (goto:=fun _ _ _=>.fail)
  (ret:=fun f k=>k (.ret,f))
  (refuse:=fun _ _ _=>.fail) c
end
noncomputable def Oh (A B:Nat->Bool) (E:bu) (G:bw) (moves caps:FuncId->Bool) (x:rP) (g:FuncId) (args:List ac) (heap:Heap) (next:Nat):Qy eW:=
 match Nat.ble args.length x.ntmps with
 | false=>.fail
 | true=>sC A B E G ⟨moves,x.ord,caps,rowsOf caps g⟩ x.ntmps x.live x.code ⟨yh 0 args,[],heap,next⟩ (fun r=>match r with
  |(.ret,f)=>(match wX E x.ntmps x.results f with|some r=>.fin (L0 next r)|none=>.fail)
  |(.normal,f)=>(match wX E x.ntmps x.results f with|some r=>.fin (L0 next r)|none=>.fail)
  | _=>.fail)
section
variable {P:Program} {E:bu} {G:bw} {H:Hints} {n:Nat} {α:Type} {A B:Nat->Bool} {T:α->Prop}
theorem vE {all:List Oper} {o:Oper} {K K':aa->Prop} {s:aa} (hk:∀s,K s->K' s) (h:mr (aD P G) E G H all o K s):mr (aD P G) E G H all o K' s:=by
 unfold mr at h ⊢
 split
 ·rename_i hw;simp[hw] at h
 rename_i b hw;simp only[hw] at h
 split
 ·rename_i hb;simp only[hb,if_true] at h
  split
  ·rename_i c hc;simp only[hc] at h
   split
   ·rename_i f args s2 ha;simp only[ha] at h;exact h.mono fun v heap n hq h1 h2=>hk _ (hq h1 h2)
   rename_i ha;simp[ha] at h
  rename_i hc;simp only[hc] at h
  split
  ·rename_i s' hs';simp only[hs'] at h;exact hk _ h
  rename_i hs';simp[hs'] at h
 rename_i hb;simp only[hb] at h;exact hk _ h
def tV (P:Program) (G:bw) (n:Nat) (T:α->Prop) (k:ab->Qy α) (s:aa):Prop:=∃f',s=f'.an n/\(k f').rS P G T
theorem jP {d:Option Tmp} {f:ab} {k:ab->Qy α} (h:(uG A n d f k).rS P G T):tV P G n T k (f.an n):=by
 unfold uG at h
 cases d with
 | none=>exact⟨f,rfl,h⟩
 | some t=>
  dsimp only at h
  split at h
  ·split at h
   ·rename_i b hb;refine⟨iD f (some t) (.dat (.flat (.bool b))),?_,h⟩;rw[eE];rw[←jb] at hb;unfold aa.put;dsimp only;have hb2:(f.an n).tmps[t]?=some (.dat (.flat (.bool b))):=by
     unfold bn at hb
     cases he:(f.an n).tmps[t]? with
     | none=>rw[he] at hb;simp at hb
     | some v=>rw[he] at hb;simpa using hb
    rw[yq hb2]
   exact⟨f,rfl,h⟩
  exact⟨f,rfl,h⟩
theorem yL {q take:Bool} {o:Oper} {f:ab} {k:ab->Qy α} (h:(ET A B E G n q take o f k).rS P G T):∃s',cM E G q take o (f.an n)=some s'/\tV P G n T k s':=by
 rw[tq];unfold ET at h
 split at h
 ·obtain⟨out,ho,h⟩:=h;dsimp only at h
  split at h
  ·rename_i ob hob;have h:(match bC ob with
     | true=>(match zO o (looks o.op (fR G n f (jS q o.op) 0 (opsL o.op))) (tA n f (jS q o.op) (opsL o.op)) out with
      | some f'=>uG A n o.dst f' k
      | none=>.fail)
     | false=>.fail:Qy α).rS P G T:=h
   cases hn:bC ob with
   | false=>rw[hn] at h;exact h.elim
   | true=>
    rw[hn] at h;dsimp only at h
    split at h
    ·rename_i f' hf';refine⟨f'.an n,?_,jP h⟩;unfold wi Ds;rw[ho];dsimp only;rw[L4 hob hn hf'];rfl
    exact h.elim
  split at h
  ·rename_i f' hf';refine⟨f'.an n,?_,jP h⟩;unfold wi Ds;rw[ho];dsimp only;rw[hf'];rfl
  exact h.elim
 split at h
 ·rename_i f' hf';exact⟨f'.an n,by rw[hf'];rfl,jP h⟩
 exact h.elim
theorem JH {all:List Oper} {o:Oper} {f:ab} {k:ab->Qy α} (h:(Oe A B E G H n all o f k).rS P G T):mr (aD P G) E G H all o (tV P G n T k) (f.an n):=by
 unfold Oe at h;unfold mr;rw[kQ]
 cases hw:gH n all f o.guard with
 | none=>rw[hw] at h;exact h.elim
 | some b=>
  rw[hw] at h
  cases b with
  | false=>
   dsimp only at h ⊢;rw[if_neg (by simp)];exact⟨_,by rw[eE],h⟩
  | true=>
   dsimp only at h ⊢;rw[if_pos rfl]
   cases hc:cY o.op with
   | none=>
    rw[hc] at h;dsimp only at h ⊢;obtain⟨s',h1,h2⟩:=yL h;rw[h1];exact h2
   | some c=>
    rw[hc] at h;dsimp only at h ⊢;rw[zR]
    cases hcal:qp E G H n c f with
    | none=>rw[hcal] at h;exact h.elim
    | some x=>
     obtain⟨g,args,f2⟩:=x;rw[hcal] at h;dsimp only[Option.map_some] at h ⊢;refine aD.mono h ?_;intro v hh m hq b1 b2
     have:=jP (hq b1 b2)
     rw[kU] at this;exact this
theorem xj {all:List Oper} {k:ab->Qy α}:∀{ops:List Oper} {f:ab},(Oc A B E G H n all ops f k).rS P G T->mq (aD P G) E G H all (tV P G n T k) ops (f.an n)
 | [],f,h=>⟨f,rfl,h⟩
 | o::rest,f,h=>by
  have h:(Oe A B E G H n all o f (fun f'=>Oc A B E G H n all rest f' k)).rS P G T:=h;simp only[mq,iw];refine vE ?_ (JH h);rintro s ⟨f',rfl,h'⟩;exact xj h'
theorem BE {fh:Bool} {all:List Oper} {o:Oper} {f:ab} {k:ac->Qy α} (h:(yM B E G n fh all o f k).rS P G T):∃a,px E G n fh all o f=some a/\(k a).rS P G T:=by
 unfold yM at h
 split at h
 ·unfold px
  split at h
  ·exact h.elim
  rename_i b hw;rw[hw];dsimp only
  cases b with
  | false=>exact⟨_,rfl,h⟩
  | true=>
   rw[if_pos rfl];dsimp only at h
   split at h
   ·rename_i hal;rw[if_pos hal]
    split at h
    ·rename_i x hx;rw[hx];exact⟨_,rfl,h⟩
    exact h.elim
   rename_i hal;rw[if_neg (by simp[hal])]
   split at h
   ·exact h.elim
   rename_i hc;rw[hc];dsimp only
   split at h
   ·rename_i hq;rw[if_pos hq];obtain⟨out,ho,h⟩:=h;rw[ho];dsimp only at h ⊢
    split at h
    ·exact⟨_,rfl,h⟩
    exact h.elim
   exact h.elim
 split at h
 ·rename_i a ha;exact⟨a,ha,h⟩
 exact h.elim
theorem JG {fh:Bool} {tk:List Nat} {all:List Oper} {o:Oper} {f:ab} {k:ab->Qy α} (h:(Od A B E G H n fh tk all o f k).rS P G T):JT (aD P G) E G H fh tk all o (tV P G n T k) (f.an n):=by
 unfold Od at h;unfold JT;rw[kQ]
 cases hw:gH n all f o.guard with
 | none=>rw[hw] at h;exact h.elim
 | some b=>
  rw[hw] at h
  cases b with
  | false=>
   dsimp only at h ⊢;rw[if_neg (by simp)];exact⟨_,by rw[eE],h⟩
  | true=>
   dsimp only at h ⊢;rw[if_pos rfl]
   cases hc:cY o.op with
   | none=>
    rw[hc] at h;dsimp only at h ⊢
    cases ht:eQ o.op with
    | none=>
     rw[ht] at h;dsimp only at h ⊢
     cases hst:ib o.op with
     | false=>
      rw[hst] at h;dsimp only at h ⊢;rw[vg];obtain⟨a,h1,h2⟩:=BE h;rw[h1];dsimp only;rw[←eE];exact jP h2
     | true=>
      rw[hst] at h;dsimp only at h ⊢;obtain⟨s',h1,h2⟩:=yL h;rw[h1];exact h2
    | some t=>
     rw[ht] at h;dsimp only at h ⊢;rw[B1]
     cases hs:lF n fh all (fV all t (ve n tk t f)) f with
     | none=>rw[hs] at h;exact h.elim
     | some f1=>
      rw[hs] at h;rw[nL n fh all _ _ _ hs];dsimp only at h ⊢;obtain⟨s',h1,h2⟩:=yL h;rw[h1];exact h2
   | some c=>
    rw[hc] at h;dsimp only at h ⊢;rw[ww]
    cases hcal:mM E G H n c f with
    | none=>rw[hcal] at h;exact h.elim
    | some x=>
     obtain⟨g,args,f2⟩:=x;rw[hcal] at h;dsimp only[Option.map_some] at h ⊢
     cases hpu:gL H o with
     | true=>
      rw[hpu] at h;dsimp only at h ⊢;refine aD.mono h ?_;intro v hh m hq b1 b2;have hq:=hq b1 b2;dsimp only at hq
      cases hh with
      | nil=>
       dsimp only at hq
       have:=jP hq
       rw[kU] at this;exact⟨rfl,this⟩
      | cons _ _=>exact hq.elim
     | false=>
      rw[hpu] at h;dsimp only at h ⊢;refine aD.mono h ?_;intro v hh m hq b1 b2;have hq:=hq b1 b2
      cases hrd:mc H o with
      | true=>
       rw[hrd] at hq;dsimp only at hq;obtain⟨q1,q2⟩:=hq
       have:=jP q2
       rw[kU] at this;exact⟨fun _=>q1,this⟩
      | false=>
       rw[hrd] at hq;dsimp only at hq
       have:=jP hq
       rw[kU] at this;exact⟨fun hx=>by simp at hx,this⟩
theorem Lq {tk:List Nat} {fh:Bool} {fq:Nat->Bool} {all:List Oper} {i:Nat} {lone:Bool} {rest:List (Nat×Bool)} {f:ab} {k:ab->Qy α}:Lr A B E G H n tk fh fq all ((i,lone)::rest) f k=(match all[i]? with
  | none=>.fail
  | some o=>match lone with
   | true=>Od A B E G H n fh tk all o f (fun f'=>Lr A B E G H n tk fh fq all rest f' k)
   | false=>yM B E G n (fh||fq i) all o f (fun a=>uG A n o.dst (iD f o.dst a) (fun f'=>Lr A B E G H n tk fh fq all rest f' k))):=rfl
theorem xh {tk:List Nat} {fh:Bool} {fq:Nat->Bool} {all:List Oper} {k:ab->Qy α} {K:aa->Prop} (hK:∀s,tV P G n T k s->K s):∀{l:List (Nat×Bool)} {f:ab},(Lr A B E G H n tk fh fq all l f k).rS P G T->lN (aD P G) E G H tk fh fq all K l (f.an n)
 | [],f,h=>hK _ ⟨f,rfl,h⟩
 |(i,lone)::rest,f,h=>by
  rw[Lq] at h;simp only[lN,iw]
  cases hi:all[i]? with
  | none=>rw[hi] at h;exact h.elim
  | some o=>
   rw[hi] at h
   cases lone
   ·dsimp only at h ⊢;rw[if_neg (by simp),vg];obtain⟨a,h1,h2⟩:=BE h;rw[h1];dsimp only;rw[←eE];obtain⟨f',e,h'⟩:=jP h2;rw[e];exact xh hK h'
   dsimp only at h ⊢;rw[if_pos rfl];refine oX ?_ (JG h);rintro s ⟨f',rfl,h'⟩;exact xh hK h'
theorem yN {F:Nat->Qy α}:∀{l:List Nat} {i:Nat},(JJ F i l).rS P G T->∀j∈i::l,(F j).rS P G T
 | [],i,h,j,hj=>by simp at hj;subst hj;exact h
 | x::l,i,h,j,hj=>by
  obtain⟨h1,h2⟩:=h
  rcases List.mem_cons.1 hj with rfl|hj
  ·exact h1
  exact yN h2 j hj
theorem EW {all:List Oper} {k:ab->Qy α}:∀(m:Nat) (listed:Array Bool) (f:ab),(EX A B E G H n all m listed f k).rS P G T->oD (aD P G) E G H all (tV P G n T k) m listed (f.an n)
 | 0,listed,f,h=>by
  simp only[EX] at h
  split at h
  ·rename_i he;exact⟨he,f,rfl,h⟩
  exact h.elim
 | m+1,listed,f,h=>by
  simp only[EX] at h;simp only[oD]
  split at h
  ·rename_i he;exact .inl ⟨he,f,rfl,h⟩
  rename_i i l he;refine .inr ⟨by rw[he];simp,?_⟩;rw[he];intro j hj;have h1:=yN h j hj
  split at h1
  ·rename_i o ho;refine⟨o,ho,vE ?_ (JH h1)⟩;rintro s ⟨f',rfl,h'⟩;exact EW m _ f' h'
  exact h1.elim
theorem AB {all:List Oper} {Q Q':aa->Prop} (hq:∀s,Q s->Q' s):∀(m:Nat) (listed:Array Bool) (s:aa),oD (aD P G) E G H all Q m listed s->oD (aD P G) E G H all Q' m listed s
 | 0,listed,s,h=>⟨h.1,hq _ h.2⟩
 | m+1,listed,s,h=>by
  simp only[oD] at h ⊢
  rcases h with h|h
  ·exact .inl ⟨h.1,hq _ h.2⟩
  refine .inr ⟨h.1,fun i hi=>?_⟩;obtain⟨o,ho,hh⟩:=h.2 i hi;exact⟨o,ho,vE (fun s hs=>AB hq m _ s hs) hh⟩
theorem EU {h:au} {all:List Oper} {p:Array Bool} {k:ab->Qy α} {K:aa->Prop} (hK:∀s,tV P G n T k s->K s):∀(m:Nat) (listed:Array Bool) (f:ab),(EV A B E G H n h all p m listed f k).rS P G T->vF (aD P G) E G H h all p K m listed (f.an n)
 | 0,listed,f,hh=>by
  simp only[EV] at hh
  split at hh
  ·rename_i he;exact⟨Array.ext' (kr.1 he),hK _ ⟨f,rfl,hh⟩⟩
  exact hh.elim
 | m+1,listed,f,hh=>by
  simp only[EV] at hh
  split at hh
  ·exact hh.elim
  rename_i hne
  split at hh
  ·exact hh.elim
  rename_i i l he;refine⟨fun e=>?_,by rw[he];simp,fun j hj=>?_⟩
  ·rw[e,kr.2 rfl] at hne;simp at hne
  rw[he] at hj;have h1:=yN hh j hj
  split at h1
  ·rename_i hc;refine⟨by simpa using hc,?_⟩
   split at h1
   ·rename_i o ho;refine⟨o,ho,oX ?_ (JG h1)⟩;rintro s ⟨f',rfl,h'⟩;exact EU hK m _ f' h'
   exact h1.elim
  exact h1.elim
theorem Oi {all:List Oper} {h:au} {f:ab} {k:ab->Qy α} (hh:(Oj A B E G H n all h f k).rS P G T):AE (aD P G) E G H all h (tV P G n T k) (f.an n):=by
 unfold Oj at hh;unfold AE
 cases hx:gi h with
 | true=>
  rw[hx] at hh;dsimp only at hh;rw[if_pos rfl];refine AB ?_ _ _ _ (EW _ _ _ hh);intro s hs;exact⟨s,hs,fun w R N tmps bsT bsL bsH bsF hr=>⟨N,bsT,bsL,bsH,hr,fun _ _ _ h=>h⟩⟩
 | false=>
  rw[hx] at hh;dsimp only at hh;rw[if_neg (by simp)]
  cases hlm:gz h with
  | true=>
   rw[hlm] at hh;dsimp only at hh;rw[if_pos rfl];unfold AD;refine xh ?_ hh;rintro s ⟨f1,rfl,h1⟩;refine EU ?_ _ _ _ h1;rintro s ⟨f0,rfl,h0⟩;dsimp only at h0
   split at h0
   ·rename_i f2 hf2;rw[jX E n all _ f0 f2 hf2];exact xj h0
   exact h0.elim
  | false=>
   rw[hlm] at hh;dsimp only at hh;rw[if_neg (by simp)];refine xh ?_ hh;rintro s ⟨f1,rfl,h1⟩;dsimp only at h1
   split at h1
   ·rename_i f2 hf2;rw[jX E n all _ f1 f2 hf2];exact xj h1
   exact h1.elim
theorem jq (f:ab) (m:Nat):fw G (f.an n) ((gN f (fun l=>dP l m)).an n):=by
 intro w R N tmps bsT bsL bsH bsF hr;obtain⟨bsT',hr'⟩:=hr.prune m;exact⟨R,N,bsT',bsL,bsH,hr',aY _,fun _ _ h=>h⟩
theorem BP {w:World} {R:Own} {M:Name->Option Nat} (l:List Name):∀{os:Heap} {bs:List Nat},aj w R M os bs->∃bs',aj w R M (E9 l os) bs'/\bs'.Sublist bs
 | [],bs,h=>⟨bs,h,.refl _⟩
 |(m,o)::os,_,⟨b,b1,b2,e,hn,ho,hr⟩=>by
  subst e;obtain⟨bs',k1,k2⟩:=BP l hr;simp only[E9]
  split
  ·exact⟨b::(b1++bs'),⟨b,b1,bs',rfl,hn,ho,k1⟩,(List.Sublist.append (.refl _) k2).cons_cons _⟩
  exact⟨bs',k1,k2.trans ((List.sublist_append_right b1 b2).cons _)⟩
theorem LW (caps:FuncId->Bool) (f:ab):fw G (f.an n) ((II caps f).an n):=by
 unfold II
 split
 ·obtain⟨sl,locs,heap,next⟩:=f
  cases locs with
  | nil=>exact fw.refl _ _
  | cons p locs=>
   intro w R N tmps bsT bsL bsH bsF hr;obtain⟨bs',k1,k2⟩:=BP (Ah (p::locs) (p::locs).length (rO (ux sl) [])) hr.locs;refine⟨R,N,bsT,bs',bsH,⟨aI _,hr.tmps,k1,hr.heap,?_,hr.next,hr.glob,hr.frame⟩,aY _,fun _ _ h=>h⟩;refine List.Nodup.sublist ?_ hr.nodup;exact List.Sublist.append (.refl _) (List.Sublist.append (.refl _) (List.Sublist.append k2 (.refl _)))
 exact fw.refl _ _
theorem gw {c:Code} {s:aa} {Q Q':Exit->aa->Prop} (h:cD P G c Q s) (hg:∀e s1,Q e s1->∃s2,fw G s1 s2/\Q' e s2):cD P G c Q' s:=by
 intro w R N act bsT bsL bsH bsF hr D hd;refine wp_mono (h w R N act bsT bsL bsH bsF hr hd) ?_;rintro e a w' ⟨s',R',N',bsT',bsL',bsH',hq,hr',hd',hk,hN⟩;obtain⟨s2,hg,hq2⟩:=hg e s' hq;obtain⟨R2,N2,t2,l2,h2,hr2,hk2,hN2⟩:=hg _ _ _ _ _ _ _ _ hr';exact⟨s2,R2,N2,t2,l2,h2,hq2,hr2,hd',hk.trans hk2,fun o b ho=>hN2 o b (hN o b ho)⟩
theorem Hu (hE:E.Ok P) {live:Nat->Nat} {id:Nat} {ops:Array Oper} {draw:Bool} {f:ab} {k:ab->Qy α} (hc:cP H (.region id ops draw)=true) (h:(xg A B E G H n live id ops draw f k).rS P G T) :
  cD P G (.region id ops draw) (fun e s=>e=.normal/\tV P G n T k s) (f.an n):=by
 have key:∀s1,tV P G n T (fun f'=>match kT n (live id) (gN f' (fun l=>dP l (live id))) with|some f2=>k (II H.caps f2)|none=>.fail) s1->∃s2,fw G s1 s2/\tV P G n T k s2:=by
  rintro s1 ⟨f1,rfl,h1⟩;dsimp only at h1
  split at h1
  ·rename_i f2 hf2;exact⟨_,((jq f1 (live id)).trans (nO G hf2)).trans (LW H.caps f2),_,rfl,h1⟩
  exact h1.elim
 unfold xg at h
 cases draw
 ·dsimp only at h;refine gw (tP (H:=H.at id) (Q:=fun e s=>e=.normal/\tV P G n T (fun f'=>match kT n (live id) (gN f' (fun l=>dP l (live id))) with|some f2=>k (II H.caps f2)|none=>.fail) s) hE ?_) ?_
  ·have:=xj h
   simpa using this
  rintro e s1 ⟨rfl,h1⟩;obtain⟨s2,g,h2⟩:=key s1 h1;exact⟨s2,g,rfl,h2⟩
 dsimp only at h;refine gw (AG (H:=H) (Q:=fun e s=>e=.normal/\tV P G n T (fun f'=>match kT n (live id) (gN f' (fun l=>dP l (live id))) with|some f2=>k (II H.caps f2)|none=>.fail) s) hE hE.mixed (by simpa [cP] using hc) ?_) ?_
 ·have:=Oi h
  simpa using this
 rintro e s1 ⟨rfl,h1⟩;obtain⟨s2,g,h2⟩:=key s1 h1;exact⟨s2,g,rfl,h2⟩
def acj (P:Program) (G:bw) (n:Nat) (T:α->Prop) (k:Exit×ab->Qy α) (e:Exit) (s:aa):Prop:=∃f',s=f'.an n/\(k (e,f')).rS P G T
theorem CT {live:Nat->Nat} {id:Nat} {ops:Array Oper} {draw:Bool} {f:ab} {k:Exit×ab->Qy α}:sC A B E G H n live (.region id ops draw) f k=xg A B E G H n live id ops draw f (fun f=>k (.normal,f)):=rfl
theorem hU (hE:E.Ok P) (live:Nat->Nat):∀(c:Code) (f:ab) (k:Exit×ab->Qy α),cP H c=true->(sC A B E G H n live c f k).rS P G T->cD P G c (acj P G n T k) (f.an n)
 | .skip,f,k,_,h=>gn wp_skip ⟨f,rfl,h⟩
 | .region id ops draw,f,k,hc,h=>by
  rw[CT] at h;refine (Hu hE hc h).mono ?_;rintro e s ⟨rfl,f',rfl,h'⟩;exact⟨f',rfl,h'⟩
 | .seq x y,f,k,hc,h=>by
  simp only[cP,Bool.and_eq_true] at hc;refine Cp ?_;refine (hU hE live x f (fun r=>match r with|(.normal,f')=>sC A B E G H n live y f' k|r=>k r) hc.1 h).mono ?_;rintro e s ⟨f',rfl,h'⟩
  cases e with
  | normal=>exact hU hE live y f' k hc.2 h'
  | _=>exact⟨f',rfl,h'⟩
 | .cond c x y,f,k,hc,h=>by
  simp only[cP,Bool.and_eq_true] at hc;intro w R N act bsT bsL bsH bsF hr D hd;have h:(match oA G n f c with
   | .dat (.flat (.bool b))=>(match b with|true=>sC A B E G H n live x f k|false=>sC A B E G H n live y f k)
   | _=>.fail).rS P G T:=h
  split at h
  ·rename_i b hb;obtain⟨bs,he⟩:=pA hr.tmps hr.glob c;rw[mL,hb] at he;obtain⟨_,he,_⟩:=aE he;refine wp_cond he ?_
   cases b
   ·exact hU hE live y f k hc.2 h w R N act bsT bsL bsH bsF hr hd
   exact hU hE live x f k hc.1 h w R N act bsT bsL bsH bsF hr hd
  exact h.elim
 | .block id c,f,k,hc,h=>by
  simp only[cP] at hc;intro w R N act bsT bsL bsH bsF hr D hd
  apply wp_block
  refine wp_mono (hU hE live c f (fun r=>match r with
   |(.exit i,f')=>(match Nat.beq i id with|true=>k (.normal,f')|false=>k (.exit i,f'))
   | r=>k r) hc h w R N act bsT bsL bsH bsF hr hd) ?_
  rintro e2 a w' ⟨s2,R',N',bsT',bsL',bsH',⟨f',rfl,h'⟩,rest⟩
  cases e2 with
  | exit i=>
   simp only[Exit.inBlock];dsimp only at h'
   by_cases hi:i=id
   ·have hb:Nat.beq i id=true:=by rw[Nat.beq_eq];exact hi
    rw[if_pos hi];rw[hb] at h';exact⟨_,R',N',bsT',bsL',bsH',⟨f',rfl,h'⟩,rest⟩
   have hb:Nat.beq i id=false:=by rw[Bool.eq_false_iff];intro hc;rw[Nat.beq_eq] at hc;exact hi hc
   rw[if_neg hi];rw[hb] at h';exact⟨_,R',N',bsT',bsL',bsH',⟨f',rfl,h'⟩,rest⟩
  | _=>exact⟨_,R',N',bsT',bsL',bsH',⟨f',rfl,h'⟩,rest⟩
 | .exit id,f,k,_,h=>gn wp_exit ⟨f,rfl,h⟩
 | .ret,f,k,_,h=>gn wp_ret ⟨f,rfl,h⟩
 | .loop c,f,k,_,h=>h
 | .rangeFunc _ _ _ _,_,_,_,h=>h.elim
 | .scope c,f,k,hc,h=>by
  simp only[cP] at hc;intro w R N act bsT bsL bsH bsF hr D hd
  apply wp_scope_straight
  refine wp_mono (hU hE live c f (fun r=>match r with
   |(.goto _,_)=>.fail
   | r=>k r) hc h w R N act bsT bsL bsH bsF hr hd) ?_
  rintro e2 a w' ⟨s2,R',N',bsT',bsL',bsH',⟨f',rfl,h'⟩,rest⟩
  cases e2 with
  | goto l=>exact h'.elim
  | _=>exact⟨_,R',N',bsT',bsL',bsH',⟨f',rfl,h'⟩,rest⟩
 | .label _,f,k,_,h=>gn wp_label ⟨f,rfl,h⟩
 | .goto _,_,_,_,h=>h.elim
 | .refuse _,_,_,_,h=>h.elim
end
structure Qy.Ok {α:Type} (P:Program) (G:bw) (T:α->Prop) (q:Qy α):Prop where
 ok:q.rS P G T
end Go.Tp
namespace Go.Tp
mutual
def eS (ρ:Nat->Nat):ac->ac
 | .ptr (.out o) off=>.ptr (.out (ρ o)) off
 | .map (.out o)=>.map (.out (ρ o))
 | .win (.out o) s off len=>.win (.out (ρ o)) s off len
 | .fn f a b=>.fn f (gx ρ a) (gx ρ b)
 | .agg cs=>.agg (gx ρ cs)
 | .tup cs=>.tup (gx ρ cs)
 | a=>a
def gx (ρ:Nat->Nat):List ac->List ac
 | []=>[]
 | a::r=>eS ρ a::gx ρ r
end
def oE (ρ:Nat->Nat):aM->aM
 | .cells cs=>.cells (gx ρ cs)
 | .map es=>.map es
def tY (ρ:Nat->Nat):Name->Name
 | .out o=>.out (ρ o)
 | m=>m
def gS (ρ:Nat->Nat):Heap->Heap
 | []=>[]
 |(m,o)::r=>(tY ρ m,oE ρ o)::gS ρ r
section
variable {w:World} {R:Own} {M M2:Name->Option Nat} {ρ:Nat->Nat}
mutual
theorem ai.rn (hL:∀i,M (.loc i)=none) (hM:∀o b,M (.out o)=some b->M2 (.out (ρ o))=some b):∀{a:ac} {v:Value} {bs:List Nat},ai w R M a v bs->ai w R M2 (eS ρ a) v bs
 | .dat _,_,_,h=>by simp only[eS,ai] at h ⊢;exact h
 | .own _,_,_,h=>by simp only[eS,ai] at h ⊢;exact h
 | .ref _,_,_,h=>by simp only[eS,ai] at h ⊢;exact h
 | .undef,_,_,h=>by simp only[eS,ai] at h ⊢;exact h
 | .ptr (.loc i) _,_,_,h=>by simp only[ai] at h;obtain⟨_,b,h2,_⟩:=h;rw[hL] at h2;simp at h2
 | .map (.loc i),_,_,h=>by simp only[ai] at h;obtain⟨_,b,h2,_⟩:=h;rw[hL] at h2;simp at h2
 | .win (.loc i) _ _ _,_,_,h=>by simp only[ai] at h;obtain⟨_,b,cap,h2,_⟩:=h;rw[hL] at h2;simp at h2
 | .ptr (.out o) off,_,_,h=>by
  simp only[eS,ai] at h ⊢;obtain⟨h1,b,h2,h3⟩:=h;exact⟨h1,b,hM o b h2,h3⟩
 | .map (.out o),_,_,h=>by
  simp only[eS,ai] at h ⊢;obtain⟨h1,b,h2,h3⟩:=h;exact⟨h1,b,hM o b h2,h3⟩
 | .win (.out o) s off len,_,_,h=>by
  simp only[eS,ai] at h ⊢;obtain⟨h1,b,cap,h2,h3⟩:=h;exact⟨h1,b,cap,hM o b h2,h3⟩
 | .fn f a b,_,_,h=>by
  simp only[eS,ai] at h ⊢;obtain⟨h1,vs,us,e,h2,h3⟩:=h;exact⟨h1,vs,us,e,ah.rn hL hM h2,ah.rn hL hM h3⟩
 | .agg cs,_,_,h=>by
  simp only[eS,ai] at h ⊢;obtain⟨vs,e,h⟩:=h;exact⟨vs,e,ah.rn hL hM h⟩
 | .tup cs,_,_,h=>by
  simp only[eS,ai] at h ⊢;obtain⟨vs,e,h⟩:=h;exact⟨vs,e,ah.rn hL hM h⟩
theorem ah.rn (hL:∀i,M (.loc i)=none) (hM:∀o b,M (.out o)=some b->M2 (.out (ρ o))=some b):∀{as:List ac} {vs:List Value} {bs:List Nat},ah w R M as vs bs->ah w R M2 (gx ρ as) vs bs
 | [],_,_,h=>by simp only[gx,ah] at h ⊢;exact h
 | a::r,_,_,h=>by
  simp only[gx,ah] at h ⊢;obtain⟨v,vs',b1,b2,e1,e2,h1,h2⟩:=h;exact⟨v,vs',b1,b2,e1,e2,ai.rn hL hM h1,ah.rn hL hM h2⟩
end
mutual
theorem ai.hJ {k:Nat} (hM:∀o b,o < k->M2 (.out (ρ o))=some b->M (.out o)=some b):∀{a:ac} {v:Value} {bs:List Nat},iB k a=false->ai w R M2 (eS ρ a) v bs->ai w R M a v bs
 | .dat _,_,_,_,h=>by simp only[eS,ai] at h ⊢;exact h
 | .own _,_,_,_,h=>by simp only[eS,ai] at h ⊢;exact h
 | .ref _,_,_,_,h=>by simp only[eS,ai] at h ⊢;exact h
 | .undef,_,_,_,h=>by simp only[eS,ai] at h ⊢;exact h
 | .ptr (.loc _) _,_,_,hn,_=>by simp[iB] at hn
 | .map (.loc _),_,_,hn,_=>by simp[iB] at hn
 | .win (.loc _) _ _ _,_,_,hn,_=>by simp[iB] at hn
 | .ptr (.out o) off,_,_,hn,h=>by
  simp only[iB] at hn;have ho:o < k:=by
   cases Nat.lt_or_ge o k with
   | inl h=>exact h
   | inr h=>rw[gm h] at hn;simp at hn
  simp only[eS,ai] at h ⊢;obtain⟨h1,b,h2,h3⟩:=h;exact⟨h1,b,hM o b ho h2,h3⟩
 | .map (.out o),_,_,hn,h=>by
  simp only[iB] at hn;have ho:o < k:=by
   cases Nat.lt_or_ge o k with
   | inl h=>exact h
   | inr h=>rw[gm h] at hn;simp at hn
  simp only[eS,ai] at h ⊢;obtain⟨h1,b,h2,h3⟩:=h;exact⟨h1,b,hM o b ho h2,h3⟩
 | .win (.out o) s off len,_,_,hn,h=>by
  simp only[iB] at hn;have ho:o < k:=by
   cases Nat.lt_or_ge o k with
   | inl h=>exact h
   | inr h=>rw[gm h] at hn;simp at hn
  simp only[eS,ai] at h ⊢;obtain⟨h1,b,cap,h2,h3⟩:=h;exact⟨h1,b,cap,hM o b ho h2,h3⟩
 | .fn f a b,_,_,hn,h=>by
  simp only[iB,Bool.or_eq_false_iff] at hn;simp only[eS,ai] at h ⊢;obtain⟨h1,vs,us,e,h2,h3⟩:=h;exact⟨h1,vs,us,e,ah.hJ hM hn.1 h2,ah.hJ hM hn.2 h3⟩
 | .agg cs,_,_,hn,h=>by
  simp only[iB] at hn;simp only[eS,ai] at h ⊢;obtain⟨vs,e,h⟩:=h;exact⟨vs,e,ah.hJ hM hn h⟩
 | .tup cs,_,_,hn,h=>by
  simp only[iB] at hn;simp only[eS,ai] at h ⊢;obtain⟨vs,e,h⟩:=h;exact⟨vs,e,ah.hJ hM hn h⟩
theorem ah.hJ {k:Nat} (hM:∀o b,o < k->M2 (.out (ρ o))=some b->M (.out o)=some b):∀{as:List ac} {vs:List Value} {bs:List Nat},iC k as=false->ah w R M2 (gx ρ as) vs bs->ah w R M as vs bs
 | [],_,_,_,h=>by simp only[gx,ah] at h ⊢;exact h
 | a::r,_,_,hn,h=>by
  simp only[iC,Bool.or_eq_false_iff] at hn;simp only[gx,ah] at h ⊢;obtain⟨v,vs',b1,b2,e1,e2,h1,h2⟩:=h;exact⟨v,vs',b1,b2,e1,e2,ai.hJ hM hn.1 h1,ah.hJ hM hn.2 h2⟩
end
theorem Ir (a:ac):xr (eS ρ a)=xr a:=by
 cases a with
 | ptr n off=>cases n <;> rfl
 | map n=>cases n <;> rfl
 | win n s off len=>cases n <;> rfl
 | _=>rfl
theorem YI (a b c:ac) (r:List ac):cy (a::b::c::r)=false:=by
 unfold cy
 split <;> rename_i h <;> first|rfl|simp at h
theorem pJ:∀(cs:List ac),cy (gx ρ cs)=cy cs
 | []=>rfl
 | [a]=>by
  simp only[gx];unfold cy
  split <;> rename_i h <;> simp at h
  rfl
 | [a,b]=>by
  simp only[gx]
  cases b with
  | ptr n off=>cases n <;> rfl
  | map n=>cases n <;> rfl
  | win n s off len=>cases n <;> rfl
  | own es=>simp only[eS,cy,Ir]
  | dat d=>
   simp only[eS]
   cases d with
   | slice es=>simp only[cy,Ir]
   | agg es=>rfl
   | flat v=>
    have h:=Ir (ρ:=ρ) a
    cases v with
    | slice p len cap=>
     cases p with
     | some _=>rfl
     | none=>
      cases len with
      | succ _=>rfl
      | zero=>
       cases cap with
       | succ _=>rfl
       | zero=>exact h
    | _=>rfl
  | _=>rfl
 | a::b::c::r=>by
  simp only[gx,YI]
theorem kD (l m:List ac):gx ρ (l++m)=gx ρ l++gx ρ m:=by
 induction l with
 | nil=>rfl
 | cons a l ih=>simp[gx,ih]
theorem km:∀k:Nat,gx ρ (List.replicate k .undef)=List.replicate k .undef
 | 0=>rfl
 | k+1=>by simp[List.replicate_succ,gx,eS,km k]
theorem zg (k:Nat):∀j:Nat,iC k (List.replicate j .undef)=false
 | 0=>rfl
 | j+1=>by simp[List.replicate_succ,iC,iB,zg k j]
theorem aK.rn (hL:∀i,M (.loc i)=none) (hM:∀o b,M (.out o)=some b->M2 (.out (ρ o))=some b) {o:aM} {b:Nat} {bs:List Nat} (h:aK w R M o b bs):aK w R M2 (oE ρ o) b bs:=by
 cases o with
 | map es=>simp only[oE,aK] at h ⊢;exact h
 | cells cs=>
  simp only[oE,aK] at h ⊢;obtain⟨vs,elem,sp,h1,h2,h3,h4⟩:=h;refine⟨vs,elem,sp,h1,?_,h3,by rw[pJ];exact h4⟩
  have:=ah.rn (ρ:=ρ) hL hM (as:=cs++List.replicate sp .undef) h2
  rwa [kD,km] at this
theorem aK.hJ {k:Nat} (hM:∀o b,o < k->M2 (.out (ρ o))=some b->M (.out o)=some b) {o:aM} {b:Nat} {bs:List Nat} (hn:Ff k o=false) (h:aK w R M2 (oE ρ o) b bs):aK w R M o b bs:=by
 cases o with
 | map es=>simp only[oE,aK] at h ⊢;exact h
 | cells cs=>
  simp only[Ff] at hn;simp only[oE,aK] at h ⊢;obtain⟨vs,elem,sp,h1,h2,h3,h4⟩:=h;refine⟨vs,elem,sp,h1,?_,h3,by rw[pJ] at h4;exact h4⟩;refine ah.hJ (ρ:=ρ) hM (as:=cs++List.replicate sp .undef) (by rw[pe,hn,zg];rfl) ?_;rw[kD,km];exact h2
def sO (k:Nat):Heap->Bool
 | []=>true
 |(m,_)::r=>lC k m&&sO k r
theorem Fa {k:Nat} {m:Name} (h:lC k m=true):∃o,m=.out o/\o < k:=by
 cases m with
 | loc i=>simp[lC] at h
 | out o=>exact⟨o,rfl,nX h⟩
theorem aj.rn (hL:∀i,M (.loc i)=none) (hM:∀o b,M (.out o)=some b->M2 (.out (ρ o))=some b):∀{os:Heap} {bs:List Nat},aj w R M os bs->aj w R M2 (gS ρ os) bs
 | [],_,h=>h
 |(.loc i,o)::r,_,⟨b,b1,b2,e,h1,h2,h3⟩=>by rw[hL] at h1;simp at h1
 |(.out m,o)::r,_,⟨b,b1,b2,e,h1,h2,h3⟩=>⟨b,b1,b2,e,hM m b h1,h2.rn hL hM,aj.rn hL hM h3⟩
theorem aj.hJ {k:Nat} (hM:∀o b,o < k->M2 (.out (ρ o))=some b->M (.out o)=some b):∀{os:Heap} {bs:List Nat},sO k os=true->hZ k os=false->aj w R M2 (gS ρ os) bs->aj w R M os bs
 | [],_,_,_,h=>h
 |(m,o)::r,_,hl,hn,⟨b,b1,b2,e,h1,h2,h3⟩=>by
  simp only[sO,Bool.and_eq_true] at hl;simp only[hZ,Bool.or_eq_false_iff] at hn;obtain⟨i,rfl,hi⟩:=Fa hl.1;exact⟨b,b1,b2,e,hM i b hi h1,h2.hJ hM hn.1,aj.hJ hM hl.2 hn.2 h3⟩
theorem aj.append:∀{os os2:Heap} {bs:List Nat},aj w R M (os++os2) bs->∃b1 b2,bs=b1++b2/\aj w R M os b1/\aj w R M os2 b2
 | [],os2,bs,h=>⟨[],bs,rfl,rfl,h⟩
 |(m,o)::r,os2,bs,⟨b,b1,b2,e,h1,h2,h3⟩=>by
  obtain⟨c1,c2,e2,k1,k2⟩:=aj.append h3;subst e;subst e2;exact⟨b::(b1++c1),c2,by simp,⟨b,b1,c1,rfl,h1,h2,k1⟩,k2⟩
theorem aj.join:∀{os os2:Heap} {b1 b2:List Nat},aj w R M os b1->aj w R M os2 b2->aj w R M (os++os2) (b1++b2)
 | [],os2,b1,b2,h,k=>by
  have h:b1=[]:=h;subst h;exact k
 |(m,o)::r,os2,_,b2,⟨b,c1,c2,e,h1,h2,h3⟩,k=>by
  subst e;exact⟨b,c1,c2++b2,by simp,h1,h2,h3.join k⟩
theorem aj.perm {os os2:Heap} (hp:os.Perm os2):∀{bs:List Nat},aj w R M os bs->∃bs',aj w R M os2 bs'/\bs.Perm bs':=by
 induction hp with
 | nil=>intro bs h;exact⟨bs,h,.refl _⟩
 | cons x _ ih=>
  intro bs h;obtain⟨b,b1,b2,e,h1,h2,h3⟩:=h;obtain⟨bs',k1,k2⟩:=ih h3;subst e;exact⟨b::(b1++bs'),⟨b,b1,bs',rfl,h1,h2,k1⟩,(k2.append_left b1).cons b⟩
 | swap x y l=>
  intro bs h;obtain⟨b,b1,_,e,h1,h2,c,c1,c2,e2,k1,k2,k3⟩:=h;subst e2;subst e;refine⟨c::(c1++(b::(b1++c2))),⟨c,c1,_,rfl,k1,k2,b,b1,c2,rfl,h1,h2,k3⟩,?_⟩;rw[←List.cons_append,←List.cons_append,←List.append_assoc,←List.cons_append,←List.cons_append,←List.append_assoc];exact List.Perm.append_right _ List.perm_append_comm
 | trans _ _ ih1 ih2=>
  intro bs h;obtain⟨b1,k1,k2⟩:=ih1 h;obtain⟨b2,k3,k4⟩:=ih2 k1;exact⟨b2,k3,k2.trans k4⟩
def hasName (o:Nat):Heap->Bool
 | []=>false
 |(.out m,_)::r=>Nat.beq m o||hasName o r
 |(.loc _,_)::r=>hasName o r
def jz (h:Heap):Nat->Bool
 | 0=>true
 | k+1=>hasName k h&&jz h k
theorem aj.named {o:Nat}:∀{os:Heap} {bs:List Nat},hasName o os=true->aj w R M (gS ρ os) bs->∃b,M (.out (ρ o))=some b
 | [],_,h,_=>by simp[hasName] at h
 |(.out m,x)::r,_,h,⟨b,b1,b2,e,h1,h2,h3⟩=>by
  simp only[hasName,Bool.or_eq_true] at h
  rcases h with h|h
  ·have:=Nat.eq_of_beq_eq_true h
   subst this;exact⟨b,h1⟩
  exact aj.named h h3
 |(.loc m,x)::r,_,h,⟨b,b1,b2,e,h1,h2,h3⟩=>aj.named (os:=r) (by simpa [hasName] using h) h3
theorem pN {h:Heap}:∀{k:Nat},jz h k=true->∀o,o < k->hasName o h=true
 | 0,_,_,ho=>by omega
 | k+1,hh,o,ho=>by
  simp only[jz,Bool.and_eq_true] at hh
  rcases Nat.lt_or_ge o k with h1|h1
  ·exact pN hh.2 o h1
  have:o=k:=by omega
  subst this;exact hh.1
end
def gd (ρ:Nat->Nat) (n0 d o:Nat):Nat:=match Nat.blt o n0 with|true=>ρ o|false=>d+(o - n0)
variable {P:Program} {G:bw}
theorem aD.frame {g:FuncId} {args0:List ac} {h0:Heap} {n0:Nat} {Q:ac->Heap->Nat->Prop} (hc:aD P G g args0 h0 n0 Q) (ρ:Nat->Nat) {heap rest:Heap} {next:Nat}
  (hp:heap.Perm (gS ρ h0++rest)) (hlow:sO n0 h0=true) (hnew:hZ n0 h0=false) (hall:jz h0 n0=true) (ha:iC n0 args0=false) :
  aD P G g (gx ρ args0) heap next (fun v h m=>∃v0 h1 n1,Q v0 h1 n1/\v=eS (gd ρ n0 next) v0/\h=gS (gd ρ n0 next) h1++rest/\m=next+(n1 - n0)):=by
 intro w R N cargs bsA bsH bsF hargs hheap hnd hnx hglob hF;obtain⟨bsP,hP,pP⟩:=hheap.perm hp;obtain⟨b1,b2,e,h1,h2⟩:=aj.append hP;subst e
 let N0:Name->Option Nat:=fun m=>match m with|.loc _=>none|.out o=>if o < n0 then N (.out (ρ o)) else none
 have hback:∀o b,o < n0->outs N (.out (ρ o))=some b->outs N0 (.out o)=some b:=by
  intro o b ho hb;simp only[outs] at hb ⊢;simp only[N0];rw[if_pos ho];exact hb
 have hnd1:(bsA++(b1++(b2++bsF))).Nodup:=by
  refine (List.Perm.nodup_iff ?_).1 hnd;rw[←List.append_assoc b1];exact List.Perm.append_left _ (List.Perm.append_right _ pP)
 have h3:=hc w R N0 cargs bsA b1 (b2++bsF) (hargs.hJ hback ha) (h1.hJ hback hlow hnew) hnd1 (by
  intro o b ho;simp only[N0] at ho
  split at ho
  ·assumption
  ·simp at ho) hglob (by
  intro b hb
  rcases List.mem_append.1 hb with hb|hb
  ·exact h2.lt b hb
  exact hF b hb)
 refine h3.mono ?_;rintro e w' ⟨v0,cv,h1',n1,R',N1,bsV,bsH',rfl,hq,hv,hh,hnd',hnx',hk,hN⟩
 let N2:Name->Option Nat:=fun m=>match m with|.loc i=>N (.loc i)|.out x=>if x < next then N (.out x) else N1 (.out (x - next+n0))
 have hfwd:∀o b,outs N1 (.out o)=some b->outs N2 (.out (gd ρ n0 next o))=some b:=by
  intro o b hb;simp only[outs] at hb ⊢;unfold gd
  cases hlt:Nat.blt o n0 with
  | true=>
   have ho:=nX hlt;dsimp only;obtain⟨b',hb'⟩:=aj.named (M:=outs N) (ρ:=ρ) (pN hall o ho) h1;simp only[outs] at hb';have h4:N0 (.out o)=some b':=by simp only[N0];rw[if_pos ho];exact hb'
   have h5:=hN o b' h4;rw[hb] at h5;simp only[N2];rw[if_pos (hnx _ _ hb'),hb',h5]
  | false=>
   dsimp only;have ho:¬o < n0:=fun h=>by rw[←Nat.blt_eq,hlt] at h;simp at h
   simp only[N2];rw[if_neg (by omega),show next+(o - n0) - next+n0=o by omega];exact hb
 have hloc:∀i,outs N1 (.loc i)=none:=fun i=>rfl
 refine⟨_,cv,_,_,R',N2,bsV,bsH'++b2,rfl,⟨v0,h1',n1,hq,rfl,rfl,rfl⟩,hv.rn hloc hfwd,(hh.rn hloc hfwd).join ?_,by simpa using hnd',?_,hk.sub (by intro b hb;simp[hb]),?_⟩
 ·have h5:=h2.keep (hk.sub (by intro b hb;simp[hb]));refine h5.ext ?_;intro m b hm
  cases m with
  | loc i=>simp[outs] at hm
  | out x=>
   simp only[outs] at hm ⊢;simp only[N2];rw[if_pos (hnx x b hm)];exact hm
 ·intro x b hx;simp only[N2] at hx
  split at hx
  ·omega
  have:=hnx' _ _ hx
  omega
 intro x b hx;simp only[N2];rw[if_pos (hnx x b hx)];exact hx
def so:List Nat->Nat->Nat
 | [],o=>o
 | p::_,0=>p
 | _::ps,o+1=>so ps o
end Go.Tp
namespace Go.Tp
section
variable {P:Program} {E:bu} {G:bw}
theorem aD.gcQ {f:FuncId} {args:List ac} {heap:Heap} {next:Nat} {Q:ac->Heap->Nat->Prop} (h:aD P G f args heap next Q):aD P G f args heap next (fun v h m=>∃r:eW,Q r.val r.heap r.next/\(⟨v,h,m⟩:eW)=L0 next r):=by
 intro w R N cargs bsA bsH bsF ha hh hnd hnx hg hF;refine (h w R N cargs bsA bsH bsF ha hh hnd hnx hg hF).mono ?_;rintro e w' ⟨val,cv,heap',next',R',N',bsV,bsH',rfl,hq,hv',hh',hnd',hnx',hk,hN⟩;have key:∀r:eW,r=L0 next ⟨val,heap',next'⟩->∃R2 N2 bsV2 bsH2,ai w' R2 (outs N2) r.val cv bsV2/\aj w' R2 (outs N2) r.heap bsH2/\(bsV2++(bsH2++bsF)).Nodup/\(∀o b,N2 (.out o)=some b->o < r.next)/\bm w R w' R2 bsF/\(∀o b,N (.out o)=some b->N2 (.out o)=some b):=by
  intro r hr;unfold L0 at hr;dsimp only at hr
  split at hr
  ·rename_i hnew;subst hr;simp only[Bool.or_eq_false_iff] at hnew;obtain⟨bs',k1,k2⟩:=oY next hh'
   let N2:Name->Option Nat:=fun m=>match m with|.loc i=>N' (.loc i)|.out o=>if o < next then N' (.out o) else none
   have hM:∀o b,o < next->outs N' (.out o)=some b->outs N2 (.out o)=some b:=by
    intro o b ho hb;simp only[outs] at hb ⊢;simp only[N2];rw[if_pos ho];exact hb
   refine⟨R',N2,bsV,bs',hv'.low hM hnew.1,k1.low hM (lB next heap') hnew.2,?_,?_,hk,?_⟩
   ·exact List.Nodup.sublist (List.Sublist.append (.refl _) (List.Sublist.append k2 (.refl _))) hnd'
   ·intro o b hb;simp only[N2] at hb
    split at hb
    ·assumption
    simp at hb
   intro o b hb;simp only[N2];rw[if_pos (hnx o b hb)];exact hN o b hb
  subst hr;obtain⟨bs',k1,k2⟩:=jW next (DH next heap' 3 (JL val)) hh';exact⟨R',N',bsV,bs',hv',k1,List.Nodup.sublist (List.Sublist.append (.refl _) (List.Sublist.append k2 (.refl _))) hnd',hnx',hk,hN⟩
 obtain⟨R2,N2,bsV2,bsH2,k⟩:=key _ rfl;exact⟨_,cv,_,_,R2,N2,bsV2,bsH2,rfl,⟨⟨val,heap',next'⟩,hq,rfl⟩,k⟩
theorem Cm {rs:List ResultVar} {Q Q':ac->List (Name×aM)->Nat->Prop} {s:aa} (hq:∀v h n,Q v h n->Q' v h n) (h:xa E rs Q s):xa E rs Q' s:=by
 unfold xa at h ⊢;generalize gF E s rs=rv at h ⊢
 cases rv with
 | none=>exact h
 | some vs=>
  dsimp only at h ⊢
  by_cases hn:bA (jg vs)=true
  ·rw[if_pos hn] at h ⊢;exact hq _ _ _ h
  rw[if_neg hn] at h ⊢;generalize gP (repeatL s.locs.length (mI s.locs)) s (jg vs)=x at h ⊢;obtain⟨s',vs'⟩:=x;dsimp only at h ⊢
  by_cases hn2:bA vs'=true
  ·rw[if_pos hn2] at h ⊢;exact hq _ _ _ h
  rw[if_neg hn2] at h ⊢;exact h
theorem JI {A B:Nat->Bool} {moves caps:FuncId->Bool} {F:FuncId->Option rP} (hE:E.Ok P) (hF:FOk P moves caps F) {g:FuncId} {x:rP} (hx:F g=some x) {args:List ac} {heap:Heap} {next:Nat} {T:eW->Prop}
  (h:qE args->wY heap->(Oh A B E G moves caps x g args heap next).Ok P G T):aD P G g args heap next (fun v h m=>T ⟨v,h,m⟩):=by
 obtain⟨fn,h1,h2,h3,h4,h5⟩:=hF g x hx;have h6:aD P G g args heap next (fun v h m=>T (L0 next ⟨v,h,m⟩)):=by
  refine jJ hE h1 h2 ?_;intro b1 b2;have h:=(h b1 b2).ok;rw[h3,h4];unfold Oh at h
  split at h
  ·exact h.elim
  rename_i hlen;have hlen:=fM hlen;have hent:(⟨yh 0 args,[],heap,next⟩:ab).an x.ntmps=enter x.ntmps args heap next:=by
   simp only[ab.an,enter];congr 1
   apply List.ext_getElem?
   intro i;rw[lD,Nat.zero_add,sd,if_pos (Nat.zero_le _),Nat.sub_zero,List.getElem?_append]
   split
   ·split
    ·rename_i hi;unfold bn;rw[List.getElem?_eq_getElem hi]
    rename_i hi1 hi;rw[List.getElem?_replicate,if_pos (by omega)];unfold bn;rw[List.getElem?_eq_none (by omega)]
   rename_i hi;rw[if_neg (by omega),List.getElem?_replicate,if_neg (by omega)]
  rw[←hent];refine (hU (H:=⟨moves,x.ord,caps,rowsOf caps g⟩) hE x.live x.code _ _ (by rw[eo];exact h5) h).mono ?_;rintro e s ⟨f',rfl,h'⟩;have key:(match wX E x.ntmps x.results f' with|some r=>(Qy.fin (L0 next r):Qy eW)|none=>.fail).rS P G T->xa E x.results (fun v h m=>T (L0 next ⟨v,h,m⟩)) (f'.an x.ntmps):=by
   intro hh
   split at hh
   ·rename_i r hr
    have:=re (E:=E) (rs:=x.results) (s:=f'.an x.ntmps) (r:=r) (by rw[Dt];exact hr)
    exact Cm (by rintro v h m ⟨rfl,rfl,rfl⟩;exact hh) this
   exact hh.elim
  cases e with
  | ret=>exact key h'
  | normal=>exact key h'
  | _=>exact h'.elim
 refine h6.gcQ.mono ?_;rintro v h m ⟨r,hr,e⟩;rw[e];exact hr
theorem zi {c:Code} {T:Exit->aa->Prop} (I:Nat->aa->Prop)
  (step:∀m s,I m s->cD P G c (sj (fun s'=>∃m',m' < m/\I m' s') T) s) {m:Nat} {s:aa} (h:I m s):cD P G (.loop c) T s:=by
 intro w R N act bsT bsL bsH bsF hr D hd;refine wp_loop_ghost (I:=fun k a w'=>∃s1 R' N' bsT' bsL' bsH',I k s1/\cZ G w' R' N' a.tmps.toList s1 undef .undef [] bsT' bsL' bsH' bsF/\a.defers=D/\bm w R w' R' bsF/\(∀o b,N (.out o)=some b->N' (.out o)=some b)) (n0:=m) ?_ ?_
 ·exact⟨s,R,N,bsT,bsL,bsH,h,hr,hd,aY _,fun _ _ h=>h⟩
 rintro k a w' ⟨s1,R',N',bsT',bsL',bsH',hI,hr',hd',hk,hN⟩;refine wp_mono (step k s1 hI w' R' N' a bsT' bsL' bsH' bsF hr' hd') ?_;rintro e a2 w2 ⟨s2,R2,N2,bsT2,bsL2,bsH2,hq,hr2,hd2,hk2,hN2⟩
 cases e with
 | normal=>
  obtain⟨m',hlt,hI'⟩:=hq;exact⟨m',hlt,s2,R2,N2,bsT2,bsL2,bsH2,hI',hr2,hd2,hk.trans hk2,fun o b h=>hN2 o b (hN o b h)⟩
 | _=>exact⟨s2,R2,N2,bsT2,bsL2,bsH2,hq,hr2,hd2,hk.trans hk2,fun o b h=>hN2 o b (hN o b h)⟩
theorem Ls {A B:Nat->Bool} {H:Hints} {n:Nat} (hE:E.Ok P) (live:Nat->Nat) {c:Code} (hc:cP H c=true) {f:ab} {T:Exit->aa->Prop}
  (h:(sC A B E G H n live c f (fun r=>.fin r)).Ok P G (fun r=>T r.1 (r.2.an n))):cD P G c T (f.an n):=by
 refine (hU hE live c f (fun r=>.fin r) hc h.ok).mono ?_;rintro e s ⟨f',rfl,h'⟩;exact h'
end
section
variable {P:Program} {G:bw} {α:Type} {T:α->Prop}
def Qy.IH:Qy α->Option α
 | .fin a=>some a
 | _=>none
def Qy.As:Qy α->Option Bool
 | .bool _ b _=>some b
 | _=>none
def Qy.YQ:Qy α->Bool->Qy α
 | .bool _ _ k,b=>k b
 | _,_=>.fail
def Qy.Sq:Qy α->Option (Option Out)
 | .out _ o _=>some o
 | _=>none
def Qy.ofO:Qy α->Out->Qy α
 | .out _ _ k,x=>k x
 | _,_=>.fail
def Qy.Ql:Qy α->Option FuncId
 | .res g _ _ _ _=>some g
 | _=>none
def Qy.wG:Qy α->List ac
 | .res _ args _ _ _=>args
 | _=>[]
def Qy.we:Qy α->Nat
 | .res _ _ _ next _=>next
 | _=>0
def Qy.wg:Qy α->Heap
 | .res _ _ h _ _=>h
 | _=>[]
def Qy.ofR:Qy α->eW->Qy α
 | .res _ _ _ _ k,r=>k r
 | _,_=>.fail
def Qy.BS:Qy α->Option (Nat×Code)
 | .loop n c _ _=>some (n,c)
 | _=>none
def Qy.Fs:Qy α->ab
 | .loop _ _ f _=>f
 | _=>⟨[],[],[],0⟩
def Qy.ofL:Qy α->Exit×ab->Qy α
 | .loop _ _ _ k,r=>k r
 | _,_=>.fail
def Qy.left:Qy α->Option (Qy α)
 | .both a _=>some a
 | _=>none
def Qy.ofX:Qy α->Qy α
 | .both a _=>a
 | _=>.fail
def Qy.ofY:Qy α->Qy α
 | .both _ b=>b
 | _=>.fail
def Qy.PZ:Qy α->Bool
 | .both _ _=>true
 | _=>false
theorem fL {q:Qy α} {a:α} (e:q.IH=some a) (h:T a):q.Ok P G T:=by
 cases q with
 | fin x=>simp only[Qy.IH,Option.some.injEq] at e;subst e;exact⟨h⟩
 | _=>simp[Qy.IH] at e
theorem bi {q:Qy α} {c b:Bool} (hc:c=b) (e:q.As=some c) (h:(q.YQ b).Ok P G T):q.Ok P G T:=by
 cases q with
 | bool _ x k=>simp only[Qy.As,Option.some.injEq] at e;subst e;subst hc;exact⟨h.ok⟩
 | _=>simp[Qy.As] at e
theorem Fb {q:Qy α} {c:Bool} (e:q.As=some c) (ht:c=true->(q.YQ true).Ok P G T) (hf:c=false->(q.YQ false).Ok P G T):q.Ok P G T:=by
 cases c
 ·exact bi rfl e (hf rfl)
 exact bi rfl e (ht rfl)
theorem Wk {q:Qy α} {o:Option Out} {x:Out} (ho:o=some x) (e:q.Sq=some o) (h:(q.ofO x).Ok P G T):q.Ok P G T:=by
 cases q with
 | out _ y k=>simp only[Qy.Sq,Option.some.injEq] at e;subst e;exact⟨⟨x,ho,h.ok⟩⟩
 | _=>simp[Qy.Sq] at e
theorem hY {q:Qy α} {n:Nat} {c:Code} {f:ab} {L:Exit->aa->Prop} (e:q.BS=some (n,c)) (hs:q.Fs.an n=f.an n) (hl:cD P G (.loop c) L (f.an n))
  (h:∀ex s,L ex s->∃f',s=f'.an n/\(q.ofL (ex,f')).Ok P G T):q.Ok P G T:=by
 cases q with
 | loop n' c' f' k=>
  simp only[Qy.BS,Option.some.injEq,Prod.mk.injEq] at e;obtain⟨rfl,rfl⟩:=e;simp only[Qy.Fs] at hs;refine⟨?_⟩;show cD P G (.loop c') _ (f'.an n');rw[hs];exact hl.mono (fun e s hL=>by obtain⟨f2,h1,h2⟩:=h e s hL;exact⟨f2,h1,h2.ok⟩)
 | _=>simp[Qy.BS] at e
theorem bK {q:Qy α} (e:q.PZ=true) (h1:q.ofX.Ok P G T) (h2:q.ofY.Ok P G T):q.Ok P G T:=by
 cases q with
 | both a b=>exact⟨⟨h1.ok,h2.ok⟩⟩
 | _=>simp[Qy.PZ] at e
end
end Go.Tp
namespace Go.Tp
mutual
def Mz (p:Nat->Bool):ac->Bool
 | .ptr (.out o) _=>p o
 | .map (.out o)=>p o
 | .win (.out o) _ _ _=>p o
 | .fn _ a b=>lX p a&&lX p b
 | .agg cs=>lX p cs
 | .tup cs=>lX p cs
 | _=>true
def lX (p:Nat->Bool):List ac->Bool
 | []=>true
 | a::r=>Mz p a&&lX p r
end
def UK (p:Nat->Bool):aM->Bool
 | .cells cs=>lX p cs
 | .map _=>true
def Rt (p:Nat->Bool):Heap->Bool
 | []=>true
 |(.out m,o)::r=>p m&&UK p o&&Rt p r
 |(.loc _,o)::r=>UK p o&&Rt p r
section
variable {w:World} {R:Own} {M M2:Name->Option Nat} {ρ:Nat->Nat} {p:Nat->Bool}
mutual
theorem ai.GF (hL:∀i b,M (.loc i)=some b->M2 (.loc i)=some b) (hM:∀o b,p o=true->M (.out o)=some b->M2 (.out (ρ o))=some b):∀{a:ac} {v:Value} {bs:List Nat},Mz p a=true->ai w R M a v bs->ai w R M2 (eS ρ a) v bs
 | .dat _,_,_,_,h=>by simp only[eS,ai] at h ⊢;exact h
 | .own _,_,_,_,h=>by simp only[eS,ai] at h ⊢;exact h
 | .ref _,_,_,_,h=>by simp only[eS,ai] at h ⊢;exact h
 | .undef,_,_,_,h=>by simp only[eS,ai] at h ⊢;exact h
 | .ptr (.loc i) _,_,_,_,h=>by simp only[eS,ai] at h ⊢;obtain⟨h1,b,h2,h3⟩:=h;exact⟨h1,b,hL _ _ h2,h3⟩
 | .map (.loc i),_,_,_,h=>by simp only[eS,ai] at h ⊢;obtain⟨h1,b,h2,h3⟩:=h;exact⟨h1,b,hL _ _ h2,h3⟩
 | .win (.loc i) _ _ _,_,_,_,h=>by simp only[eS,ai] at h ⊢;obtain⟨h1,b,cap,h2,h3⟩:=h;exact⟨h1,b,cap,hL _ _ h2,h3⟩
 | .ptr (.out o) off,_,_,hp,h=>by
  simp only[eS,ai] at h ⊢;obtain⟨h1,b,h2,h3⟩:=h;exact⟨h1,b,hM o b hp h2,h3⟩
 | .map (.out o),_,_,hp,h=>by
  simp only[eS,ai] at h ⊢;obtain⟨h1,b,h2,h3⟩:=h;exact⟨h1,b,hM o b hp h2,h3⟩
 | .win (.out o) s off len,_,_,hp,h=>by
  simp only[eS,ai] at h ⊢;obtain⟨h1,b,cap,h2,h3⟩:=h;exact⟨h1,b,cap,hM o b hp h2,h3⟩
 | .fn f a b,_,_,hp,h=>by
  simp only[Mz,Bool.and_eq_true] at hp;simp only[eS,ai] at h ⊢;obtain⟨h1,vs,us,e,h2,h3⟩:=h;exact⟨h1,vs,us,e,ah.GF hL hM hp.1 h2,ah.GF hL hM hp.2 h3⟩
 | .agg cs,_,_,hp,h=>by
  simp only[eS,ai] at h ⊢;obtain⟨vs,e,h⟩:=h;exact⟨vs,e,ah.GF hL hM (by simpa only[Mz] using hp) h⟩
 | .tup cs,_,_,hp,h=>by
  simp only[eS,ai] at h ⊢;obtain⟨vs,e,h⟩:=h;exact⟨vs,e,ah.GF hL hM (by simpa only[Mz] using hp) h⟩
theorem ah.GF (hL:∀i b,M (.loc i)=some b->M2 (.loc i)=some b) (hM:∀o b,p o=true->M (.out o)=some b->M2 (.out (ρ o))=some b):∀{as:List ac} {vs:List Value} {bs:List Nat},lX p as=true->ah w R M as vs bs->ah w R M2 (gx ρ as) vs bs
 | [],_,_,_,h=>by simp only[gx,ah] at h ⊢;exact h
 | a::r,_,_,hp,h=>by
  simp only[lX,Bool.and_eq_true] at hp;simp only[gx,ah] at h ⊢;obtain⟨v,vs',b1,b2,e1,e2,h1,h2⟩:=h;exact⟨v,vs',b1,b2,e1,e2,ai.GF hL hM hp.1 h1,ah.GF hL hM hp.2 h2⟩
end
theorem Fc (l m:List ac):lX p (l++m)=(lX p l&&lX p m):=by
 induction l with
 | nil=>simp[lX]
 | cons a l ih=>simp[lX,ih,Bool.and_assoc]
theorem zc:∀j:Nat,lX p (List.replicate j .undef)=true
 | 0=>rfl
 | j+1=>by simp[List.replicate_succ,lX,Mz,zc j]
theorem aK.GF (hL:∀i b,M (.loc i)=some b->M2 (.loc i)=some b) (hM:∀o b,p o=true->M (.out o)=some b->M2 (.out (ρ o))=some b) {o:aM} {b:Nat} {bs:List Nat} (hp:UK p o=true) (h:aK w R M o b bs):aK w R M2 (oE ρ o) b bs:=by
 cases o with
 | map es=>simp only[oE,aK] at h ⊢;exact h
 | cells cs=>
  simp only[UK] at hp;simp only[oE,aK] at h ⊢;obtain⟨vs,elem,sp,h1,h2,h3,h4⟩:=h;refine⟨vs,elem,sp,h1,?_,h3,by rw[pJ];exact h4⟩
  have:=ah.GF (ρ:=ρ) hL hM (as:=cs++List.replicate sp .undef) (by rw[Fc,hp,zc];rfl) h2
  rwa [kD,km] at this
theorem aj.GF (hL:∀i b,M (.loc i)=some b->M2 (.loc i)=some b) (hM:∀o b,p o=true->M (.out o)=some b->M2 (.out (ρ o))=some b):∀{os:Heap} {bs:List Nat},Rt p os=true->aj w R M os bs->aj w R M2 (gS ρ os) bs
 | [],_,_,h=>h
 |(.loc i,o)::r,_,hp,⟨b,b1,b2,e,h1,h2,h3⟩=>by
  simp only[Rt,Bool.and_eq_true] at hp;exact⟨b,b1,b2,e,hL i b h1,h2.GF hL hM hp.1,aj.GF hL hM hp.2 h3⟩
 |(.out m,o)::r,_,hp,⟨b,b1,b2,e,h1,h2,h3⟩=>by
  simp only[Rt,Bool.and_eq_true] at hp;exact⟨b,b1,b2,e,hM m b hp.1.1 h1,h2.GF hL hM hp.1.2,aj.GF hL hM hp.2 h3⟩
end
section
variable {P:Program} {G:bw}
end
def zD (o:Nat):List Nat->Nat->Nat
 | [],_=>o
 | q::r,k=>match Nat.beq q o with|true=>k|false=>zD o r (k+1)
def dC (q:Nat->Bool):Heap->Heap
 | []=>[]
 |(.out m,o)::r=>(match q m with|true=>(.out m,o)::dC q r|false=>dC q r)
 |(.loc m,o)::r=>(.loc m,o)::dC q r
theorem lW {w:World} {R:Own} {M:Name->Option Nat} (q:Nat->Bool):∀{os:Heap} {bs:List Nat},aj w R M os bs->∃bs',aj w R M (dC q os) bs'/\bs'.Sublist bs
 | [],bs,h=>⟨bs,h,.refl _⟩
 |(.out m,o)::os,_,⟨b,b1,b2,e,hn,ho,hr⟩=>by
  subst e;obtain⟨bs',k1,k2⟩:=lW q hr;simp only[dC]
  split
  ·exact⟨b::(b1++bs'),⟨b,b1,bs',rfl,hn,ho,k1⟩,(List.Sublist.append (.refl _) k2).cons_cons _⟩
  exact⟨bs',k1,k2.trans ((List.sublist_append_right b1 b2).cons _)⟩
 |(.loc m,o)::os,_,⟨b,b1,b2,e,hn,ho,hr⟩=>by
  subst e;obtain⟨bs',k1,k2⟩:=lW q hr;exact⟨b::(b1++bs'),⟨b,b1,bs',rfl,hn,ho,k1⟩,(List.Sublist.append (.refl _) k2).cons_cons _⟩
theorem Ku {o:Nat}:∀{ps:List Nat} {k:Nat},nr o ps=true->k<=zD o ps k/\zD o ps k < k+ps.length/\ps[zD o ps k - k]?=some o
 | [],k,h=>by simp[nr] at h
 | q::r,k,h=>by
  simp only[zD]
  cases hq:Nat.beq q o with
  | true=>
   have:=Nat.eq_of_beq_eq_true hq
   subst this;dsimp only;refine⟨Nat.le_refl _,by simp,by simp⟩
  | false=>
   dsimp only;have h2:nr o r=true:=by
    simp only[nr,hq] at h;exact h
   obtain⟨h3,h4,h5⟩:=Ku (ps:=r) (k:=k+1) h2;refine⟨by omega,by simp;omega,?_⟩;rw[show zD o r (k+1) - k=(zD o r (k+1) - (k+1))+1 by omega];simpa using h5
end Go.Tp
namespace Go.Tp
open Go.Deep
section
variable {X:ld} {E:bu} {G:bw} {H:Hints} {n:Nat} {live:Nat->Nat} {fuel:Nat}
end
def sI:Own:=fun _ _=>False
theorem kq {P:Program} {W:World} {name:String} {g:Nat} {t e:TypeId} {l:List (List UInt8)} (hg:P.globalNamed name=some g) (hty:(P.globals[g]?).map (·.type)=some t) (ht:P.underlying t=some (.slice e)) (he:P.underlying e=some .string) (hc:P.cellsOf e=1)
  (hlen:l.length<=lim) (h:∃g t cs fuel p,P.globalNamed name=some g/\(P.globals[g]?).map (·.type)=some t/\W.var? P name=some cs/\DataW.trod (fun _=>()) P W 0 (fun _=>true) false fuel t cs.toList=some (.slice (l.map fun b=>.lit (.string b)) [],p)) :
  eu W sI g 0 [.slice (l.map fun b=>.flat (.string ⟨⟨b⟩⟩))]:=by
 obtain⟨g',t',cs,fuel,p,hg',ht',hvar,hd⟩:=h;obtain rfl:=Option.some.inj (hg.symm.trans hg');obtain rfl:=Option.some.inj (hty.symm.trans ht');have hcell:=World.var?_cell hg hvar 0;refine⟨?_,trivial⟩
 rcases open_slice1 ht hc hd with⟨_,h0⟩|⟨a,len,cap,m,k,V,D,Pl,hcs,_,hl,hm,hmm,hx,hi⟩
 ·simp at h0
 have h0:cs[0]?=some (.slice (some a) len cap):=by
  have:cs.toList[0]?=some (.slice (some a) len cap):=by rw[hcs];rfl
  simpa using this
 refine⟨_,hcell.trans h0,fun h=>h,?_⟩;simp only[Prod.mk.injEq,DataW.slice.injEq] at hx;obtain⟨⟨hx1,_⟩,_⟩:=hx;have hll:l.length=len:=by have:=congrArg List.length hx1;simpa using this
 have hlm:len<=m:=by rw[hmm];split <;> omega
 have hel:∀(i:Nat) b,l[i]?=some b->V i=.string ⟨⟨b⟩⟩/\b.length<=maxLen:=by
  intro i b hb;have hil:i < len:=by rw[←hll];exact (List.getElem?_eq_some_iff.1 hb).1
  obtain⟨_,h2⟩:=hi i (by omega);obtain⟨s,e1,e2,e3⟩:=DataW.trod_string he h2;have h3:((List.range len).map D)[i]?=(l.map fun b=>(DataW.lit (.string b):DataW Unit))[i]?:=by rw[hx1]
  rw[List.getElem?_map,List.getElem?_map,hb,List.getElem?_range hil] at h3;simp only[Option.map_some,Option.some.injEq] at h3;simp only[List.cons.injEq,and_true] at e1;simp only[Prod.mk.injEq] at e2;rw[h3] at e2;simp at e2;obtain⟨⟨sl⟩⟩:=s;simp at e2;rw[e1,e2.1];exact⟨rfl,e3⟩
 cases hz:len with
 | zero=>
  have:l=[]:=List.length_eq_zero_iff.1 (by omega)
  subst this;exact .nil _ _
 | succ k0=>
  have hsp:a.spot=none:=by
   have:=(hi 0 (by omega)).1
   have:=World.cell?_spot this
   simpa [Addr.add] using this
  obtain⟨b,off,spot⟩:=a;simp only at hsp;subst hsp;have e:k0+1=(l.map fun b=>(al.flat (.string ⟨⟨b⟩⟩):al)).length:=by simp;omega
  rw[e];refine .slice b off cap 1 _ (fun i _=>V i) (by omega) ?_ (by simp;omega) (by simpa using hlen) ?_ ?_
  ·intro d hd;obtain⟨x,_,rfl⟩:=List.mem_map.1 hd;rfl
  ·intro i j hil hj;obtain rfl:j=0:=by omega
   simp at hil;refine⟨?_,fun h=>h⟩
   have:=(hi i (by omega)).1
   simp only[Addr.add] at this;simp only[Nat.mul_one,Nat.add_zero]
   split at this
   ·rename_i h0;subst h0;exact this
   exact this
  intro i j d c hd hc;rw[List.getElem?_map] at hd
  cases hb:l[i]? with
  | none=>rw[hb] at hd;simp at hd
  | some x=>
   rw[hb] at hd;simp at hd;subst hd;obtain⟨e1,e2⟩:=hel i x hb
   have:c=.flat (.string ⟨⟨x⟩⟩):=by
    cases j with
    | zero=>simp[al.cells] at hc;exact hc.symm
    | succ j=>simp[al.cells] at hc
   subst this;rw[e1];refine .flat ?_;simp only[bH,decide_eq_true_eq]
   have:(ByteArray.mk ⟨x⟩).size=x.length:=rfl
   rw[this];unfold maxLen at e2;omega
theorem wV {W W':World} {R':Own} (h:Step W sI W' R'):W.keptBut W' (fun _=>False):=by
 refine⟨h.os,h.output,fun i hi=>?_⟩;rw[(h.block i hi (fun _ h=>h)).1]
 split
 ·rename_i e1 e2;rw[e1] at e2;simp at e2;obtain⟨rfl,rfl,rfl⟩:=e2;exact⟨rfl,rfl,rfl,fun _ _=>rfl⟩
 ·rename_i e1 e2;rw[e1] at e2;simp at e2;obtain⟨rfl,rfl⟩:=e2;exact .inr ⟨rfl,rfl⟩
 rfl
end Go.Tp
namespace Go.Tp
section
variable {X:ld} {E:bu} {G:bw} {H:Hints} {n:Nat}
theorem xu {t:TypeId} {ti:TI} {m:Name} {s off len k:Nat} (he:elemOf E t=some ti) (hs:s=ti.size) (hk:k < len) :
  aq E t [.win m s off len,.dat (.flat (.int .i64 (Int.ofNat k)))]=some ⟨.ptr m (off+k*s),.keep⟩:=by
 have h1:Nat.blt k len=true:=by rw[Nat.blt_eq];exact hk
 have h2:Nat.beq s ti.size=true:=by rw[Nat.beq_eq];exact hs
 simp only[aq,he,h1,h2];simp
theorem BU {t:TypeId} {i:TI} {m:Name} {off:Nat} {cs:List ac} {v:Value} {take:Bool} (ht:E.ty t=some i) (ha:i.isAgg=false) (h:cs[off]?=some (.dat (.flat v))) :
  er E take t [.ptr m off] (some (.cells cs))=some ⟨.dat (.flat v),.keep⟩:=by
 cases take <;> simp[er,ht,loadCells,ha,h,wU]
theorem xS {t:TypeId} {i:TI} {m:Name} {off:Nat} {cs:List ac} {v:Value} (ht:E.ty t=some i) (hs:i.size=1) (h:off < cs.length) (hb:cy (cO off [.dat (.flat v)] cs)=false) :
  dR E t [.ptr m off,.dat (.flat v)] (some (.cells cs))=some ⟨.undef,.set (.cells (cO off [.dat (.flat v)] cs))⟩:=by
 simp only[dR,ht];rw[if_pos]
 ·rfl
 refine⟨by rw[hs];rfl,by rw[hs];exact h,rfl,by rw[hs];decide,?_⟩;show (!cy (cO off [.dat (.flat v)] cs)||cy cs)=true;rw[hb];rfl
theorem Qq {es:List al} {i:Nat} {d:al} (h:es[i]?=some d):ak.aC.elt es (Int.ofNat i)=some d:=by
 show Dq es i=some d;rw[tp];exact h
end
end Go.Tp
namespace Go.Tp
variable {E:bu}
theorem xB {t:TypeId} {i:TI} {es ds:List al} {ob:Option aM} {take:Bool} {k:Nat} (he:elemOf E t=some i) (hp:E.pr=ak.aC) (hs:i.size=k+1) (hd:sizedB (k+1) ds=true) (hes:sizedB (k+1) es=true)
  (hb:Nat.blt 0 i.bytes=true) (hl:(es.length+ds.length)*i.bytes<=140737488355328) (hl2:es.length+ds.length<=lim) (hby:jI E t (es++ds)=true) (htake:(take&&es.isEmpty&&zB (.dat (.slice ds)))=false) :
  bU E take t [.own es,.dat (.slice ds)] ob=some ⟨.own (es++ds),.keep⟩:=by
 simp only[bU,he];rw[if_neg (by rw[htake];simp)];simp only[gC,hp,hs,ak.aC,hd,hes,hb,gm hl,gm hl2];rw[if_pos hby]
theorem lO {t:TypeId} {ti:TI} {es:List al} {i:Nat} {d:al} (he:elemOf E t=some ti) (hp:E.pr=ak.aC) (h:es[i]?=some d) (hs:d.cells.length=ti.size) (h0:0 < ti.size) :
  aq E t [.dat (.slice es),.dat (.flat (.int .i64 (Int.ofNat i)))]=some ⟨.ref d.cells,.keep⟩:=by
 have hel:E.pr.elt es (Int.ofNat i)=some d:=by rw[hp];exact Qq h
 simp only[aq,he,hel];rw[if_pos ⟨hs,h0⟩]
theorem Tm {α:Type} {l:List α} {i:Nat} {a:α} (h:l[i]?=some a):Dq l i=some a:=by rw[tp];exact h
theorem kj {k:Nat} {l:List al} (h:∀d∈l,d.cells.length=k):sizedB k l=true:=fX.2 h
theorem gI {i L:Nat}:aH (Int.ofNat i) (Int.ofNat L)=decide (i < L):=by rw[cW];simp
theorem bc {i L:Nat} (h:i < L):aH (Int.ofNat i) (Int.ofNat L)=true:=by rw[gI,decide_eq_true h]
theorem bW {i L:Nat} (h:¬i < L):aH (Int.ofNat i) (Int.ofNat L)=false:=by rw[gI,decide_eq_false h]
theorem ba {i:Nat} (h:i < 9223372036854775807):ap .i64 (Int.ofNat i+1)=Int.ofNat (i+1):=by
 rw[cF];exact wrap_i64 (by simp;omega) (by simp;omega)
theorem zT {i L:Nat}:aB (Int.ofNat i) (Int.ofNat L)=decide (i=L):=by
 rw[ct]
 by_cases h:i=L
 ·subst h;simp
 rw[decide_eq_false h];simp only[beq_eq_false_iff_ne];exact fun e=>h (Int.ofNat.inj e)
end Go.Tp
namespace Go.Tp
noncomputable def SB (c:Code):List Code:=
 Code.rec (motive:=fun _=>List Code)
  (skip:=[]) (region:=fun _ _ _=>[]) (seq:=fun _ _ ix iy=>ix++iy) (cond:=fun _ _ _ ix iy=>ix++iy) (block:=fun _ _ ic=>ic) (loop:=fun c ic=>c::ic)
  (rangeFunc:=fun _ _ _ _ _ _=>[]) (exit:=fun _=>[]) (scope:=fun _ ic=>ic) (label:=fun _=>[]) (goto:=fun _=>[]) (ret:=[]) (refuse:=fun _=>[]) c
noncomputable def roundOf (fn:Func) (k:Nat):Code:=match (SB (match fn.body with|some c=>c|none=>.skip))[k]? with|some c=>c|none=>.skip
def Rv (l:List Nat) (t:Nat):Bool:=nr t l
mutual
def MA:ac->ac
 | .ptr _ _=>.undef
 | .map _=>.undef
 | .win _ _ _ _=>.undef
 | .fn f a b=>.fn f (LC a) (LC b)
 | .agg cs=>.agg (LC cs)
 | .tup cs=>.tup (LC cs)
 | a=>a
def LC:List ac->List ac
 | []=>[]
 | a::r=>MA a::LC r
end
section
variable {w:World} {R:Own} {M M2:Name->Option Nat}
mutual
theorem ai.np:∀{a:ac} {v:Value} {bs:List Nat},ai w R M a v bs->ai w R M2 (MA a) v bs
 | .dat _,_,_,h=>by simp only[MA,ai] at h ⊢;exact h
 | .own _,_,_,h=>by simp only[MA,ai] at h ⊢;exact h
 | .ref _,_,_,h=>by simp only[MA,ai] at h ⊢;exact h
 | .undef,_,_,h=>by simp only[MA,ai] at h ⊢;exact h
 | .ptr _ _,_,_,h=>by simp only[MA,ai] at h ⊢;exact h.1
 | .map _,_,_,h=>by simp only[MA,ai] at h ⊢;exact h.1
 | .win _ _ _ _,_,_,h=>by simp only[MA,ai] at h ⊢;exact h.1
 | .fn f a b,_,_,h=>by
  simp only[MA,ai] at h ⊢;obtain⟨h1,vs,us,e,h2,h3⟩:=h;exact⟨h1,vs,us,e,ah.np h2,ah.np h3⟩
 | .agg cs,_,_,h=>by
  simp only[MA,ai] at h ⊢;obtain⟨vs,e,h⟩:=h;exact⟨vs,e,ah.np h⟩
 | .tup cs,_,_,h=>by
  simp only[MA,ai] at h ⊢;obtain⟨vs,e,h⟩:=h;exact⟨vs,e,ah.np h⟩
theorem ah.np:∀{as:List ac} {vs:List Value} {bs:List Nat},ah w R M as vs bs->ah w R M2 (LC as) vs bs
 | [],_,_,h=>by simp only[LC,ah] at h ⊢;exact h
 | a::r,_,_,h=>by
  simp only[LC,ah] at h ⊢;obtain⟨v,vs',b1,b2,e1,e2,h1,h2⟩:=h;exact⟨v,vs',b1,b2,e1,e2,ai.np h1,ah.np h2⟩
end
end
section
variable {P:Program} {G:bw} {α:Type} {T:α->Prop}
theorem Fe {g:FuncId} {args:List ac} {Q:ac->Prop} (hQ:∀v,Q v->MB v=true) (h:aD P G g (LC args) [] 0 (fun v h m=>Q v/\h=[]/\m=0)) (heap:Heap) (next:Nat):aD P G g args heap next (fun v h m=>Q v/\h=heap/\m=next):=by
 intro w R N cargs bsA bsH bsF hargs hheap hnd hnx hglob hF;have h2:=h w R (fun _=>none) cargs bsA [] (bsH++bsF) hargs.np (by simp[aj]) (by simpa using hnd) (by intro o b ho;simp at ho) hglob (by
  intro b hb
  rcases List.mem_append.1 hb with hb|hb
  ·exact hheap.lt b hb
  exact hF b hb)
 refine h2.mono ?_;rintro e w' ⟨v,cv,heap',next',R',N',bsV,bsH',rfl,⟨hq,rfl,rfl⟩,hv,hh,hnd',_,hk,_⟩;have hH':bsH'=[]:=by simpa [aj] using hh
 subst hH';exact⟨_,cv,heap,next,R',N,bsV,bsH,rfl,⟨hq,rfl,rfl⟩,hv.nm (hQ _ hq),hheap.keep (hk.sub (by intro b hb;simp[hb])),by simpa using hnd',hnx,hk.sub (by intro b hb;simp[hb]),fun _ _ h=>h⟩
theorem aal {q:Qy α} {g:FuncId} {args0:List ac} {v:ac} (hc:aD P G g args0 [] 0 (XQ ⟨v,[],0⟩)) (e:q.Ql=some g) (ha:LC q.wG=args0) (hm:MB v=true)
  (h:mT v->(q.ofR ⟨v,q.wg,q.we⟩).Ok P G T):q.Ok P G T:=by
 cases q with
 | res g' args' heap next' k=>
  simp only[Qy.Ql,Option.some.injEq] at e;subst e;simp only[Qy.wg,Qy.wG,Qy.we] at ha h;refine⟨?_⟩;show aD P G g' _ heap next' _;subst ha;have h1:aD P G g' (LC args') [] 0 (fun u h m=>u=v/\h=[]/\m=0):=hc.mono (by rintro u h m ⟨rfl,rfl,rfl⟩;exact⟨rfl,rfl,rfl⟩);refine (Fe (Q:=fun u=>u=v) (by rintro u rfl;exact hm) h1 heap next').mono ?_;rintro v' h' m ⟨rfl,rfl,rfl⟩ b1 b2;exact (h b1).ok
 | _=>simp[Qy.Ql] at e
theorem H4 {q:Qy α} {g:FuncId} {args0:List ac} {Q:ac->Prop} (hc:aD P G g args0 [] 0 (fun v h m=>Q v/\h=[]/\m=0)) (e:q.Ql=some g) (ha:LC q.wG=args0) (hQ:∀v,Q v->MB v=true)
  (h:∀v,Q v->mT v->(q.ofR ⟨v,q.wg,q.we⟩).Ok P G T):q.Ok P G T:=by
 cases q with
 | res g' args' heap next' k=>
  simp only[Qy.Ql,Option.some.injEq] at e;subst e;simp only[Qy.wg,Qy.wG,Qy.we] at ha h;refine⟨?_⟩;show aD P G g' _ heap next' _;subst ha;refine (Fe hQ hc heap next').mono ?_;rintro v' h' m ⟨hq,rfl,rfl⟩ b1 b2;exact (h v' hq b1).ok
 | _=>simp[Qy.Ql] at e
theorem Sx {q:Qy α} {g:FuncId} {args:List ac} {heap:Heap} {next:Nat} {r:eW} (hc:aD P G g args heap next (XQ r)) (e:q.Ql=some g) (ha:q.wG=args) (hh:q.wg=heap) (hn:q.we=next)
  (h:(q.ofR r).Ok P G T):q.Ok P G T:=by
 cases q with
 | res g' args' heap' next' k=>
  simp only[Qy.Ql,Option.some.injEq] at e;simp only[Qy.wg,Qy.wG,Qy.we] at ha hh hn;subst e;subst ha;subst hh;subst hn;refine⟨?_⟩;show aD P G g' _ heap' next' _;refine hc.mono ?_;rintro v h' m ⟨rfl,rfl,rfl⟩ b1 b2;exact h.ok
 | _=>simp[Qy.Ql] at e
theorem Cq {g:FuncId} {args:List ac} {heap:Heap} {next:Nat} {r:eW} (h:aD P G g args heap next (fun v h m=>(⟨v,h,m⟩:eW)=r)):aD P G g args heap next (XQ r):=by
 refine h.mono ?_;rintro v h m e;subst e;exact⟨rfl,rfl,rfl⟩
theorem QT {E:bu} {H:Hints} {n:Nat} {X:ld} (hE:E.Ok P) (hX:Jd P G X) {live:Nat->Nat} (fuel:Nat) {c:Code} (hc:cP H c=true) {f f':ab} {e:Exit} (h:il X E G H n live fuel c f=some (e,f')) :
  cD P G c (fun e2 s=>e2=e/\s=f'.an n) (f.an n):=eP X E G H n hE hX live fuel c f f' e hc h _ ⟨rfl,rfl⟩
def Qy.TG:Qy (Exit×ab)->Option Exit
 | .fin r=>some r.1
 | _=>none
def Qy.Yg:Qy (Exit×ab)->ab
 | .fin r=>r.2
 | _=>⟨[],[],[],0⟩
theorem bO {q:Qy (Exit×ab)} {T:Exit->aa->Prop} {n:Nat} {ex:Exit} (f:ab) (e:q.TG=some ex) (hs:q.Yg.an n=f.an n) (h:T ex (f.an n)):q.Ok P G (fun r=>T r.1 (r.2.an n)):=by
 cases q with
 | fin r=>
  simp only[Qy.TG,Option.some.injEq] at e;simp only[Qy.Yg] at hs;refine⟨?_⟩;show T r.1 (r.2.an n);rw[e,hs];exact h
 | _=>simp[Qy.TG] at e
theorem aZ {c:Code} {T:Exit->aa->Prop} (St:Nat->aa) (L:Nat) (round:∀i,i < L->cD P G c (sj (fun s=>s=St (i+1)) T) (St i))
  (last:cD P G c (sj (fun _=>False) T) (St L)) {i:Nat} (hi:i<=L):cD P G (.loop c) T (St i):=by
 refine zi (I:=fun m s=>∃j,j<=L/\m=L - j/\s=St j) ?_ (m:=L - i) ⟨i,hi,rfl,rfl⟩;rintro m s ⟨j,hj,rfl,rfl⟩
 by_cases h:j < L
 ·refine (round j h).mono ?_;intro e s hs
  cases e with
  | normal=>
   have hs:s=St (j+1):=hs;exact⟨L - (j+1),by omega,j+1,by omega,rfl,hs⟩
  | _=>exact hs
 have:j=L:=by omega
 subst this;refine last.mono ?_;intro e s hs
 cases e with
 | normal=>exact hs.elim
 | _=>exact hs
theorem cH {c:Code} {T:Exit->aa->Prop} (St:Nat->aa) (Inv:Nat->Prop) (L:Nat) (round:∀i,i < L->Inv i->cD P G c (sj (fun s=>s=St (i+1)/\Inv (i+1)) T) (St i))
  (last:Inv L->cD P G c (sj (fun _=>False) T) (St L)) {i:Nat} (hi:i<=L) (h0:Inv i):cD P G (.loop c) T (St i):=by
 refine zi (I:=fun m s=>∃j,j<=L/\m=L - j/\s=St j/\Inv j) ?_ (m:=L - i) ⟨i,hi,rfl,rfl,h0⟩;rintro m s ⟨j,hj,rfl,rfl,hI⟩
 by_cases h:j < L
 ·refine (round j h hI).mono ?_;intro e s hs
  cases e with
  | normal=>
   have hs:s=St (j+1)/\Inv (j+1):=hs;exact⟨L - (j+1),by omega,j+1,by omega,rfl,hs⟩
  | _=>exact hs
 have:j=L:=by omega
 subst this;refine (last hI).mono ?_;intro e s hs
 cases e with
 | normal=>exact hs.elim
 | _=>exact hs
end
end Go.Tp
namespace Go.Tp
section
variable {P:Program} {G:bw} {α:Type} {T:α->Prop}
theorem oh {q:Qy α} {g:FuncId} {args:List ac} {heap:Heap} {next:Nat} {r:eW} (hc:aD P G g args heap next (XQ r)) (h:(q.ofR r).Ok P G T) (e:q.Ql=some g:=by kernel_rfl) (ha:q.wG=args:=by kernel_rfl) (hh:q.wg=heap:=by kernel_rfl) (hn:q.we=next:=by kernel_rfl):q.Ok P G T:=
 Sx hc e ha hh hn h
theorem on {q:Qy α} {g:FuncId} {args0:List ac} {v:ac} (hc:aD P G g args0 [] 0 (XQ ⟨v,[],0⟩)) (h:(q.ofR ⟨v,q.wg,q.we⟩).Ok P G T) (e:q.Ql=some g:=by kernel_rfl) (ha:LC q.wG=args0:=by kernel_rfl) (hm:MB v=true:=by exact rfl):q.Ok P G T:=
 aal hc e ha hm (fun _=>h)
theorem ob {q:Qy α} {c b:Bool} (hc:c=b) (h:(q.YQ b).Ok P G T) (e:q.As=some c:=by kernel_rfl):q.Ok P G T:=bi hc e h
theorem ox {q:Qy α} {c b:Bool} (hc:c=b) (h:(q.YQ (!b)).Ok P G T) (e:q.As=some (!c):=by kernel_rfl):q.Ok P G T:=bi (by rw[hc]) e h
theorem oo {q:Qy α} {o:Option Out} {x:Out} (ho:o=some x) (h:(q.ofO x).Ok P G T) (e:q.Sq=some o:=by kernel_rfl):q.Ok P G T:=Wk ho e h
theorem fi {q:Qy α} {a:α} (e:q.IH=some a:=by kernel_rfl):q.Ok P G (fun y=>y=a):=fL e rfl
theorem oe {q:Qy (Exit×ab)} {T:Exit->aa->Prop} {n:Nat} {ex:Exit} {f:ab} (h:T ex (f.an n)) (e:q.TG=some ex:=by kernel_rfl) (hs:q.Yg.an n=f.an n:=by kernel_rfl):q.Ok P G (fun r=>T r.1 (r.2.an n)):=bO f e hs h
theorem lo {q:Qy α} {n:Nat} {c:Code} {f:ab} {L:Exit->aa->Prop} (hl:cD P G (.loop c) L (f.an n)) (h:∀e s,L e s->∃f',s=f'.an n/\(q.ofL (e,f')).Ok P G T) (e:q.BS=some (n,c):=by kernel_rfl) (hs:q.Fs.an n=f.an n:=by kernel_rfl):q.Ok P G T:=hY e hs hl h
end
end Go.Tp
namespace Go.Tp
noncomputable def Og (A B:Nat->Bool) (E:bu) (G:bw) (moves caps:FuncId->Bool) (x:rP) (g:FuncId) (args:List ac) (heap:Heap) (next:Nat):Qy eW:=
 match Nat.ble args.length x.ntmps with
 | false=>.fail
 | true=>sC A B E G ⟨moves,x.ord,caps,rowsOf caps g⟩ x.ntmps x.live x.code ⟨yh 0 args,[],heap,next⟩ (fun r=>match r with
  |(.ret,f)=>(match wX E x.ntmps x.results f with|some r=>.fin r|none=>.fail)
  |(.normal,f)=>(match wX E x.ntmps x.results f with|some r=>.fin r|none=>.fail)
  | _=>.fail)
section
variable {P:Program} {E:bu} {G:bw}
theorem Of {A B:Nat->Bool} {moves caps:FuncId->Bool} {F:FuncId->Option rP} (hE:E.Ok P) (hF:FOk P moves caps F) {g:FuncId} {x:rP} (hx:F g=some x) {args:List ac} {heap:Heap} {next:Nat} {T:eW->Prop}
  (h:qE args->wY heap->(Og A B E G moves caps x g args heap next).Ok P G T):aD P G g args heap next (fun v h m=>T ⟨v,h,m⟩):=by
 obtain⟨fn,h1,h2,h3,h4,h5⟩:=hF g x hx;refine jJ hE h1 h2 ?_;intro b1 b2;have h:=(h b1 b2).ok;rw[h3,h4];unfold Og at h
 split at h
 ·exact h.elim
 rename_i hlen;have hlen:=fM hlen;have hent:(⟨yh 0 args,[],heap,next⟩:ab).an x.ntmps=enter x.ntmps args heap next:=by
  simp only[ab.an,enter];congr 1
  apply List.ext_getElem?
  intro i;rw[lD,Nat.zero_add,sd,if_pos (Nat.zero_le _),Nat.sub_zero,List.getElem?_append]
  split
  ·split
   ·rename_i hi;unfold bn;rw[List.getElem?_eq_getElem hi]
   rename_i hi1 hi;rw[List.getElem?_replicate,if_pos (by omega)];unfold bn;rw[List.getElem?_eq_none (by omega)]
  rename_i hi;rw[if_neg (by omega),List.getElem?_replicate,if_neg (by omega)]
 rw[←hent];refine (hU (H:=⟨moves,x.ord,caps,rowsOf caps g⟩) hE x.live x.code _ _ (by rw[eo];exact h5) h).mono ?_;rintro e s ⟨f',rfl,h'⟩;have key:(match wX E x.ntmps x.results f' with|some r=>(Qy.fin r:Qy eW)|none=>.fail).rS P G T->xa E x.results (fun v h m=>T ⟨v,h,m⟩) (f'.an x.ntmps):=by
  intro hh
  split at hh
  ·rename_i r hr
   have:=re (E:=E) (rs:=x.results) (s:=f'.an x.ntmps) (r:=r) (by rw[Dt];exact hr)
   exact Cm (by rintro v h m ⟨rfl,rfl,rfl⟩;exact hh) this
  exact hh.elim
 cases e with
 | ret=>exact key h'
 | normal=>exact key h'
 | _=>exact h'.elim
def AS (k0:Nat) (ps:List Nat) (o:Nat):Nat:=match nr o ps with|true=>zD o ps k0|false=>o
def kN (k0:Nat) (ps:List Nat) (o:Nat):Bool:=Nat.blt o k0||nr o ps
theorem aD.rn {g:FuncId} {args:List ac} {heap:Heap} {next:Nat} {Q Q':ac->Heap->Nat->Prop} (h:aD P G g args heap next Q)
  (hq:∀v hp m,Q v hp m->∃ps,Mz (kN next ps) v=true/\Rt (kN next ps) (dC (kN next ps) hp)=true/\Q' (eS (AS next ps) v) (gS (AS next ps) (dC (kN next ps) hp)) (next+ps.length)):aD P G g args heap next Q':=by
 intro w R N cargs bsA bsH bsF ha hh hnd hnx hg hF;refine (h w R N cargs bsA bsH bsF ha hh hnd hnx hg hF).mono ?_;rintro e w' ⟨v,cv,hp,m,R',N',bsV,bsH',rfl,hq1,hv,hh',hnd',hnx',hk,hN⟩;obtain⟨ps,p1,p2,p3⟩:=hq _ _ _ hq1
 let N2:Name->Option Nat:=fun m=>match m with|.loc i=>N' (.loc i)|.out x=>if x < next then N' (.out x) else (match ps[x - next]? with|some o=>N' (.out o)|none=>none)
 have hM:∀o b,kN next ps o=true->outs N' (.out o)=some b->outs N2 (.out (AS next ps o))=some b:=by
  intro o b ho hb;simp only[outs] at hb ⊢;unfold AS
  cases hm:nr o ps with
  | true=>
   obtain⟨q1,q2,q3⟩:=Ku (k:=next) hm;dsimp only[N2];rw[if_neg (by omega),q3];exact hb
  | false=>
   unfold kN at ho;rw[hm,Bool.or_false] at ho;dsimp only[N2];rw[if_pos (nX ho)];exact hb
 have hL:∀i b,outs N' (.loc i)=some b->outs N2 (.loc i)=some b:=fun i b h=>h
 obtain⟨bs',k1,k2⟩:=lW (kN next ps) hh';refine⟨_,cv,_,_,R',N2,bsV,bs',rfl,p3,hv.GF hL hM p1,k1.GF hL hM p2,?_,?_,hk,?_⟩
 ·exact List.Nodup.sublist (List.Sublist.append (.refl _) (List.Sublist.append k2 (.refl _))) hnd'
 ·intro x b hx;dsimp only[N2] at hx
  split at hx
  ·omega
  split at hx
  ·rename_i o ho
   have:=(List.getElem?_eq_some_iff.1 ho).1
   omega
  simp at hx
 intro o b hb;dsimp only[N2];rw[if_pos (hnx o b hb)];exact hN o b hb
end
end Go.Tp
namespace Go.Tp
mutual
def P5 (k:Nat):ac->Bool
 | .ptr (.out o) _=>Nat.ble k o
 | .map (.out o)=>Nat.ble k o
 | .win (.out o) _ _ _=>Nat.ble k o
 | .fn _ a b=>tZ k a||tZ k b
 | .agg cs=>tZ k cs
 | .tup cs=>tZ k cs
 | _=>false
def tZ (k:Nat):List ac->Bool
 | []=>false
 | a::r=>P5 k a||tZ k r
end
def UR (k:Nat):aM->Bool
 | .cells cs=>tZ k cs
 | .map _=>false
def uZ (k:Nat):Heap->Bool
 | []=>false
 |(.out o,x)::r=>Nat.ble k o||(UR k x||uZ k r)
 |(.loc _,x)::r=>UR k x||uZ k r
theorem zE (k:Nat):∀(l m:List ac),tZ k (l++m)=(tZ k l||tZ k m)
 | [],m=>by simp[tZ]
 | a::l,m=>by simp[tZ,zE k l m,Bool.or_assoc]
theorem BY (k:Nat):∀j:Nat,tZ k (List.replicate j .undef)=false
 | 0=>rfl
 | j+1=>by simp[List.replicate_succ,tZ,P5,BY k j]
theorem JY {k o:Nat} (h:Nat.ble k o=false):o < k:=by
 cases Nat.lt_or_ge o k with
 | inl h=>exact h
 | inr h2=>rw[gm h2] at h;simp at h
section
variable {w:World} {R:Own} {M M2:Name->Option Nat} {ρ:Nat->Nat}
mutual
theorem ai.Hj (hM:∀m b,M m=some b->M2 (tY ρ m)=some b):∀{a:ac} {v:Value} {bs:List Nat},ai w R M a v bs->ai w R M2 (eS ρ a) v bs
 | .dat _,_,_,h=>by simp only[eS,ai] at h ⊢;exact h
 | .own _,_,_,h=>by simp only[eS,ai] at h ⊢;exact h
 | .ref _,_,_,h=>by simp only[eS,ai] at h ⊢;exact h
 | .undef,_,_,h=>by simp only[eS,ai] at h ⊢;exact h
 | .ptr (.loc i) _,_,_,h=>by
  simp only[eS,ai] at h ⊢;obtain⟨h1,b,h2,h3⟩:=h;exact⟨h1,b,hM _ b h2,h3⟩
 | .map (.loc i),_,_,h=>by
  simp only[eS,ai] at h ⊢;obtain⟨h1,b,h2,h3⟩:=h;exact⟨h1,b,hM _ b h2,h3⟩
 | .win (.loc i) _ _ _,_,_,h=>by
  simp only[eS,ai] at h ⊢;obtain⟨h1,b,cap,h2,h3⟩:=h;exact⟨h1,b,cap,hM _ b h2,h3⟩
 | .ptr (.out o) off,_,_,h=>by
  simp only[eS,ai] at h ⊢;obtain⟨h1,b,h2,h3⟩:=h;exact⟨h1,b,hM _ b h2,h3⟩
 | .map (.out o),_,_,h=>by
  simp only[eS,ai] at h ⊢;obtain⟨h1,b,h2,h3⟩:=h;exact⟨h1,b,hM _ b h2,h3⟩
 | .win (.out o) s off len,_,_,h=>by
  simp only[eS,ai] at h ⊢;obtain⟨h1,b,cap,h2,h3⟩:=h;exact⟨h1,b,cap,hM _ b h2,h3⟩
 | .fn f a b,_,_,h=>by
  simp only[eS,ai] at h ⊢;obtain⟨h1,vs,us,e,h2,h3⟩:=h;exact⟨h1,vs,us,e,ah.Hj hM h2,ah.Hj hM h3⟩
 | .agg cs,_,_,h=>by
  simp only[eS,ai] at h ⊢;obtain⟨vs,e,h⟩:=h;exact⟨vs,e,ah.Hj hM h⟩
 | .tup cs,_,_,h=>by
  simp only[eS,ai] at h ⊢;obtain⟨vs,e,h⟩:=h;exact⟨vs,e,ah.Hj hM h⟩
theorem ah.Hj (hM:∀m b,M m=some b->M2 (tY ρ m)=some b):∀{as:List ac} {vs:List Value} {bs:List Nat},ah w R M as vs bs->ah w R M2 (gx ρ as) vs bs
 | [],_,_,h=>by simp only[gx,ah] at h ⊢;exact h
 | a::r,_,_,h=>by
  simp only[gx,ah] at h ⊢;obtain⟨v,vs',b1,b2,e1,e2,h1,h2⟩:=h;exact⟨v,vs',b1,b2,e1,e2,ai.Hj hM h1,ah.Hj hM h2⟩
end
mutual
theorem ai.BA {k:Nat} (hl:∀i b,M2 (.loc i)=some b->M (.loc i)=some b) (hM:∀o b,o < k->M2 (.out (ρ o))=some b->M (.out o)=some b):∀{a:ac} {v:Value} {bs:List Nat},P5 k a=false->ai w R M2 (eS ρ a) v bs->ai w R M a v bs
 | .dat _,_,_,_,h=>by simp only[eS,ai] at h ⊢;exact h
 | .own _,_,_,_,h=>by simp only[eS,ai] at h ⊢;exact h
 | .ref _,_,_,_,h=>by simp only[eS,ai] at h ⊢;exact h
 | .undef,_,_,_,h=>by simp only[eS,ai] at h ⊢;exact h
 | .ptr (.loc i) _,_,_,_,h=>by
  simp only[eS,ai] at h ⊢;obtain⟨h1,b,h2,h3⟩:=h;exact⟨h1,b,hl i b h2,h3⟩
 | .map (.loc i),_,_,_,h=>by
  simp only[eS,ai] at h ⊢;obtain⟨h1,b,h2,h3⟩:=h;exact⟨h1,b,hl i b h2,h3⟩
 | .win (.loc i) _ _ _,_,_,_,h=>by
  simp only[eS,ai] at h ⊢;obtain⟨h1,b,cap,h2,h3⟩:=h;exact⟨h1,b,cap,hl i b h2,h3⟩
 | .ptr (.out o) off,_,_,hn,h=>by
  simp only[P5] at hn;simp only[eS,ai] at h ⊢;obtain⟨h1,b,h2,h3⟩:=h;exact⟨h1,b,hM o b (JY hn) h2,h3⟩
 | .map (.out o),_,_,hn,h=>by
  simp only[P5] at hn;simp only[eS,ai] at h ⊢;obtain⟨h1,b,h2,h3⟩:=h;exact⟨h1,b,hM o b (JY hn) h2,h3⟩
 | .win (.out o) s off len,_,_,hn,h=>by
  simp only[P5] at hn;simp only[eS,ai] at h ⊢;obtain⟨h1,b,cap,h2,h3⟩:=h;exact⟨h1,b,cap,hM o b (JY hn) h2,h3⟩
 | .fn f a b,_,_,hn,h=>by
  simp only[P5,Bool.or_eq_false_iff] at hn;simp only[eS,ai] at h ⊢;obtain⟨h1,vs,us,e,h2,h3⟩:=h;exact⟨h1,vs,us,e,ah.BA hl hM hn.1 h2,ah.BA hl hM hn.2 h3⟩
 | .agg cs,_,_,hn,h=>by
  simp only[P5] at hn;simp only[eS,ai] at h ⊢;obtain⟨vs,e,h⟩:=h;exact⟨vs,e,ah.BA hl hM hn h⟩
 | .tup cs,_,_,hn,h=>by
  simp only[P5] at hn;simp only[eS,ai] at h ⊢;obtain⟨vs,e,h⟩:=h;exact⟨vs,e,ah.BA hl hM hn h⟩
theorem ah.BA {k:Nat} (hl:∀i b,M2 (.loc i)=some b->M (.loc i)=some b) (hM:∀o b,o < k->M2 (.out (ρ o))=some b->M (.out o)=some b):∀{as:List ac} {vs:List Value} {bs:List Nat},tZ k as=false->ah w R M2 (gx ρ as) vs bs->ah w R M as vs bs
 | [],_,_,_,h=>by simp only[gx,ah] at h ⊢;exact h
 | a::r,_,_,hn,h=>by
  simp only[tZ,Bool.or_eq_false_iff] at hn;simp only[gx,ah] at h ⊢;obtain⟨v,vs',b1,b2,e1,e2,h1,h2⟩:=h;exact⟨v,vs',b1,b2,e1,e2,ai.BA hl hM hn.1 h1,ah.BA hl hM hn.2 h2⟩
end
theorem aK.Hj (hM:∀m b,M m=some b->M2 (tY ρ m)=some b) {o:aM} {b:Nat} {bs:List Nat} (h:aK w R M o b bs):aK w R M2 (oE ρ o) b bs:=by
 cases o with
 | map es=>simp only[oE,aK] at h ⊢;exact h
 | cells cs=>
  simp only[oE,aK] at h ⊢;obtain⟨vs,elem,sp,h1,h2,h3,h4⟩:=h;refine⟨vs,elem,sp,h1,?_,h3,by rw[pJ];exact h4⟩
  have:=ah.Hj (ρ:=ρ) hM (as:=cs++List.replicate sp .undef) h2
  rwa [kD,km] at this
theorem aK.BA {k:Nat} (hl:∀i b,M2 (.loc i)=some b->M (.loc i)=some b) (hM:∀o b,o < k->M2 (.out (ρ o))=some b->M (.out o)=some b) {o:aM} {b:Nat} {bs:List Nat} (hn:UR k o=false) (h:aK w R M2 (oE ρ o) b bs):aK w R M o b bs:=by
 cases o with
 | map es=>simp only[oE,aK] at h ⊢;exact h
 | cells cs=>
  simp only[UR] at hn;simp only[oE,aK] at h ⊢;obtain⟨vs,elem,sp,h1,h2,h3,h4⟩:=h;refine⟨vs,elem,sp,h1,?_,h3,by rw[pJ] at h4;exact h4⟩;refine ah.BA (ρ:=ρ) hl hM (as:=cs++List.replicate sp .undef) (by rw[zE,hn,BY];rfl) ?_;rw[kD,km];exact h2
theorem aj.Hj (hM:∀m b,M m=some b->M2 (tY ρ m)=some b):∀{os:Heap} {bs:List Nat},aj w R M os bs->aj w R M2 (gS ρ os) bs
 | [],_,h=>h
 |(m,o)::r,_,⟨b,b1,b2,e,h1,h2,h3⟩=>⟨b,b1,b2,e,hM m b h1,h2.Hj hM,aj.Hj hM h3⟩
theorem aj.BA {k:Nat} (hl:∀i b,M2 (.loc i)=some b->M (.loc i)=some b) (hM:∀o b,o < k->M2 (.out (ρ o))=some b->M (.out o)=some b):∀{os:Heap} {bs:List Nat},uZ k os=false->aj w R M2 (gS ρ os) bs->aj w R M os bs
 | [],_,_,h=>h
 |(.loc i,o)::r,_,hn,⟨b,b1,b2,e,h1,h2,h3⟩=>by
  simp only[uZ,Bool.or_eq_false_iff] at hn;exact⟨b,b1,b2,e,hl i b h1,h2.BA hl hM hn.1,aj.BA hl hM hn.2 h3⟩
 |(.out m,o)::r,_,hn,⟨b,b1,b2,e,h1,h2,h3⟩=>by
  simp only[uZ,Bool.or_eq_false_iff] at hn;exact⟨b,b1,b2,e,hM m b (JY hn.1) h1,h2.BA hl hM hn.2.1,aj.BA hl hM hn.2.2 h3⟩
end
def Hk (ρ:Nat->Nat) (next:Nat) (s:aa):aa:=⟨gx ρ s.tmps,gS ρ s.locs,gS ρ s.heap,next⟩
def Qn (s:aa):Bool:=!tZ s.next s.tmps&&(!uZ s.next s.locs&&(!uZ s.next s.heap&&jz s.heap s.next))
variable {P:Program} {G:bw}
theorem aj.Ia {w:World} {R:Own} {M:Name->Option Nat} {ρ:Nat->Nat} {o:Nat}:∀{os:Heap} {bs:List Nat},hasName o os=true->aj w R M (gS ρ os) bs->∃b,M (.out (ρ o))=some b
 | [],_,h,_=>by simp[hasName] at h
 |(.out m,x)::r,_,h,⟨b,b1,b2,e,h1,h2,h3⟩=>by
  simp only[hasName,Bool.or_eq_true] at h
  rcases h with h|h
  ·rw[Nat.beq_eq] at h;subst h;exact⟨b,h1⟩
  exact aj.Ia h h3
 |(.loc i,x)::r,_,h,⟨b,b1,b2,e,h1,h2,h3⟩=>by
  simp only[hasName] at h;exact aj.Ia h h3
theorem cD.rn {c:Code} {Q:Exit->aa->Prop} {s0:aa} (hc:cD P G c Q s0) (ρ:Nat->Nat) (next:Nat) (hf:Qn s0=true) :
  cD P G c (fun e s=>∃s1,Q e s1/\s=Hk (gd ρ s0.next next) (next+(s1.next - s0.next)) s1) (Hk ρ next s0):=by
 intro w R N act bsT bsL bsH bsF hr D hd;unfold Qn at hf;simp only[Bool.and_eq_true,Bool.not_eq_true'] at hf;obtain⟨f1,f2,f3,f4⟩:=hf;generalize hn0:s0.next=n0 at *
 let N0:Name->Option Nat:=fun m=>match m with|.loc i=>N (.loc i)|.out o=>if o < n0 then N (.out (ρ o)) else none
 have hl0:∀i b,N (.loc i)=some b->N0 (.loc i)=some b:=fun i b h=>h
 have hback:∀o b,o < n0->N (.out (ρ o))=some b->N0 (.out o)=some b:=by
  intro o b ho hb;simp only[N0];rw[if_pos ho];exact hb
 have hback2:∀o b,o < n0->outs N (.out (ρ o))=some b->outs N0 (.out o)=some b:=fun o b ho hb=>hback o b ho hb
 have hr0:cZ G w R N0 act.tmps.toList s0 undef .undef [] bsT bsL bsH bsF:=by
  refine⟨aI _,hr.tmps.BA hl0 hback f1,hr.locs.BA hl0 hback f2,hr.heap.BA (by intro i b h;simp[outs] at h) hback2 f3,hr.nodup,?_,hr.glob,hr.frame⟩;intro o b ho;simp only[N0] at ho;rw[hn0]
  split at ho
  ·assumption
  simp at ho
 refine wp_mono (hc w R N0 act bsT bsL bsH bsF hr0 hd) ?_;rintro e a w' ⟨s1,R',N1,bsT',bsL',bsH',hq,hr1,hd',hk,hN⟩
 let N2:Name->Option Nat:=fun m=>match m with|.loc i=>N1 (.loc i)|.out x=>if x < next then N (.out x) else N1 (.out (x - next+n0))
 have hnx:∀o b,N (.out o)=some b->o < next:=fun o b h=>hr.next o b h
 have hfwd:∀o b,N1 (.out o)=some b->N2 (.out (gd ρ n0 next o))=some b:=by
  intro o b hb;unfold gd
  cases hlt:Nat.blt o n0 with
  | true=>
   have ho:=nX hlt;dsimp only;obtain⟨b',hb'⟩:=aj.Ia (M:=outs N) (ρ:=ρ) (pN f4 o ho) hr.heap;simp only[outs] at hb';have h5:=hN o b' (hback o b' ho hb');rw[hb] at h5;simp only[N2];rw[if_pos (hnx _ _ hb'),hb',h5]
  | false=>
   dsimp only;have ho:¬o < n0:=fun h=>by rw[←Nat.blt_eq,hlt] at h;simp at h
   simp only[N2];rw[if_neg (by omega),show next+(o - n0) - next+n0=o by omega];exact hb
 have hfX:∀m b,N1 m=some b->N2 (tY (gd ρ n0 next) m)=some b:=by
  intro m b h
  cases m with
  | loc i=>exact h
  | out o=>exact hfwd o b h
 have hfY:∀m b,outs N1 m=some b->outs N2 (tY (gd ρ n0 next) m)=some b:=by
  intro m b h
  cases m with
  | loc i=>simp[outs] at h
  | out o=>exact hfwd o b h
 refine⟨_,R',N2,bsT',bsL',bsH',⟨s1,hq,rfl⟩,⟨aI _,hr1.tmps.Hj hfX,hr1.locs.Hj hfX,hr1.heap.Hj hfY,hr1.nodup,?_,hr1.glob,hr1.frame⟩,hd',hk,?_⟩
 ·intro x b hx;simp only[N2] at hx;show x < next+(s1.next - n0)
  split at hx
  ·omega
  have:=hr1.next _ _ hx
  omega
 intro x b hx;simp only[N2];rw[if_pos (hnx x b hx)];exact hx
theorem cZ.less {w:World} {R:Own} {N:Name->Option Nat} {tmps:List Value} {s:aa} {bsT bsL bsH bsF:List Nat} {h2 rest:Heap} (hr:cZ G w R N tmps s undef .undef [] bsT bsL bsH bsF) (hp:s.heap.Perm (h2++rest)) :
  ∃bsH',cZ G w R N tmps ⟨s.tmps,s.locs,h2,s.next⟩ undef .undef [] bsT bsL bsH' bsF:=by
 obtain⟨bsP,k1,k2⟩:=hr.heap.perm hp;obtain⟨b1,b2,e,h1,_⟩:=aj.append k1;subst e;refine⟨b1,aI _,hr.tmps,hr.locs,h1,?_,hr.next,hr.glob,hr.frame⟩;have hnd:=hr.nodup;simp only[List.nil_append] at hnd ⊢;have h3:(bsT++(bsL++((b1++b2)++bsF))).Nodup:=(List.Perm.append_left _ (List.Perm.append_left _ (List.Perm.append_right _ k2))).nodup_iff.1 hnd;refine List.Nodup.sublist ?_ h3;exact List.Sublist.append (.refl _) (List.Sublist.append (.refl _) (List.Sublist.append (List.sublist_append_left _ _) (.refl _)))
theorem cD.UM {c:Code} {Q Q':Exit->aa->Prop} {s:aa} (hc:cD P G c Q s) (hq:∀e s1,Q e s1->∃h2 rest,s1.heap.Perm (h2++rest)/\Q' e ⟨s1.tmps,s1.locs,h2,s1.next⟩):cD P G c Q' s:=by
 intro w R N act bsT bsL bsH bsF hr D hd;refine wp_mono (hc w R N act bsT bsL bsH bsF hr hd) ?_;rintro e a w' ⟨s1,R',N',bsT',bsL',bsH',hQ,hr1,hd',hk,hN⟩;obtain⟨h2,rest,hp,hq2⟩:=hq e s1 hQ;obtain⟨bsH2,hr2⟩:=hr1.less hp;exact⟨_,R',N',bsT',bsL',bsH2,hq2,hr2,hd',hk,hN⟩
mutual
theorem Wa:∀a:ac,eS (fun o=>o) a=a
 | .dat _=>rfl
 | .own _=>rfl
 | .ref _=>rfl
 | .undef=>rfl
 | .ptr (.loc _) _=>rfl
 | .ptr (.out _) _=>rfl
 | .map (.loc _)=>rfl
 | .map (.out _)=>rfl
 | .win (.loc _) _ _ _=>rfl
 | .win (.out _) _ _ _=>rfl
 | .fn f a b=>by simp only[eS,uA]
 | .agg cs=>by simp only[eS,uA]
 | .tup cs=>by simp only[eS,uA]
theorem uA:∀l:List ac,gx (fun o=>o) l=l
 | []=>rfl
 | a::r=>by simp only[gx,Wa a,uA r]
end
theorem NK (o:aM):oE (fun o=>o) o=o:=by
 cases o with
 | cells cs=>simp only[oE,uA]
 | map es=>rfl
theorem CP:∀h:Heap,gS (fun o=>o) h=h
 | []=>rfl
 |(.loc i,o)::r=>by simp only[gS,tY,NK,CP r]
 |(.out i,o)::r=>by simp only[gS,tY,NK,CP r]
theorem cD.low {c:Code} {Q Q':Exit->aa->Prop} {s:aa} (hc:cD P G c Q s)
  (hq:∀e s1,Q e s1->tZ s.next s1.tmps=false/\uZ s.next s1.locs=false/\uZ s.next s1.heap=false/\Q' e ⟨s1.tmps,s1.locs,s1.heap,s.next⟩):cD P G c Q' s:=by
 intro w R N act bsT bsL bsH bsF hr D hd;refine wp_mono (hc w R N act bsT bsL bsH bsF hr hd) ?_;rintro e a w' ⟨s1,R',N',bsT',bsL',bsH',hQ,hr1,hd',hk,hN⟩;obtain⟨k1,k2,k3,k4⟩:=hq e s1 hQ
 let N2:Name->Option Nat:=fun m=>match m with|.loc i=>N' (.loc i)|.out o=>if o < s.next then N' (.out o) else none
 have hl:∀i b,N' (.loc i)=some b->N2 (.loc i)=some b:=fun _ _ h=>h
 have hM:∀o b,o < s.next->N' (.out ((fun o=>o) o))=some b->N2 (.out o)=some b:=by
  intro o b ho hb;simp only[N2];rw[if_pos ho];exact hb
 have hM2:∀o b,o < s.next->outs N' (.out ((fun o=>o) o))=some b->outs N2 (.out o)=some b:=fun o b ho hb=>hM o b ho hb
 have e1:=hr1.tmps;have e2:=hr1.locs;have e3:=hr1.heap;rw[←uA s1.tmps] at e1;rw[←CP s1.locs] at e2;rw[←CP s1.heap] at e3;refine⟨_,R',N2,bsT',bsL',bsH',k4,⟨aI _,e1.BA hl hM k1,e2.BA hl hM k2,e3.BA (by intro i b h;simp[outs] at h) hM2 k3,hr1.nodup,?_,hr1.glob,hr1.frame⟩,hd',hk,?_⟩
 ·intro o b ho;simp only[N2] at ho
  split at ho
  ·assumption
  simp at ho
 intro o b ho;simp only[N2];rw[if_pos (hr.next o b ho)];exact hN o b ho
end Go.Tp
namespace Go.Tp
structure Gr where
 n:Nat
 succ:Nat->List Nat
 call:Nat->Bool
 lt:∀i,i < n->∀j∈succ i,j < n
variable {G:Gr}
def Gr.xK (G:Gr):Prop:=∃C:Nat->Prop,(∃i,C i)/\∀c,C c->c < G.n/\G.call c=false/\∃j∈G.succ c,C j
inductive Gr.Fin (G:Gr):List Nat->Prop
 |nil:Gr.Fin G []
 |cons {o:List Nat} {i:Nat}:Gr.Fin G o->(G.call i=true∨∀j∈G.succ i,j∈o)->Gr.Fin G (i::o)
def Gr.cover (G:Gr):Prop:=∃o,G.Fin o/\∀i,i < G.n->i∈o
def fS (st:List Nat) (i:Nat):Nat:=st.getD i 0
theorem dO {st:List Nat} {i j v:Nat} (h:i < st.length):fS (st.set i v) j=if j=i then v else fS st j:=by
 unfold fS;rw[List.getD_eq_getElem?_getD,List.getD_eq_getElem?_getD,List.getElem?_set]
 by_cases hji:j=i
 ·subst hji;simp[h]
 rw[if_neg (fun e=>hji e.symm),if_neg hji]
def Gr.Below (G:Gr) (st:List Nat):Nat->List (Nat×Nat)->Prop
 | _,[]=>True
 | a,(p,e)::r=>p < G.n/\0 < e/\fS st p=1/\G.call p=false/\(G.succ p)[e - 1]?=some a/\(∀k j,k < e - 1->(G.succ p)[k]?=some j->fS st j=2)/\G.Below st p r
def Gr.Top (G:Gr) (st:List Nat):List (Nat×Nat)->Prop
 | []=>True
 |(i,e)::r=>i < G.n/\e<=(G.succ i).length/\(0 < e->fS st i=1/\G.call i=false)/\(e=0->fS st i≠1)/\(∀k j,k < e->(G.succ i)[k]?=some j->fS st j=2)/\G.Below st i r
structure Gr.Inv (G:Gr) (st:List Nat) (stk:List (Nat×Nat)):Prop where
 len:st.length=G.n
 val:∀i,fS st i<=2
 fin:∃o,G.Fin o/\(∀i,i∈o↔i < G.n/\fS st i=2)
 act:∀i,fS st i=1->i∈stk.map Prod.fst
 nodup:(stk.map Prod.fst).Nodup
 top:G.Top st stk
theorem Gr.Below.done {st:List Nat} {i:Nat} (hi:i < st.length):∀{r:List (Nat×Nat)} {a:Nat},i∉r.map Prod.fst->G.Below st a r->G.Below (st.set i 2) a r
 | [],_,_,_=>trivial
 |(p,e)::r,a,hn,h=>by
  obtain⟨h1,h2,h3,h4,h5,h6,h7⟩:=h;simp only[List.map_cons,List.mem_cons,not_or] at hn;refine⟨h1,h2,?_,h4,h5,?_,Gr.Below.done hi hn.2 h7⟩
  ·rw[dO hi,if_neg (fun e=>hn.1 e.symm)];exact h3
  intro k j hk hj;rw[dO hi]
  by_cases hji:j=i
  ·rw[if_pos hji]
  rw[if_neg hji];exact h6 k j hk hj
theorem Gr.Below.act {st:List Nat} {i:Nat} (hi:i < st.length) (h2:fS st i≠2):∀{r:List (Nat×Nat)} {a:Nat},G.Below st a r->G.Below (st.set i 1) a r
 | [],_,_=>trivial
 |(p,e)::r,a,h=>by
  obtain⟨g1,g2,g3,g4,g5,g6,g7⟩:=h;refine⟨g1,g2,?_,g4,g5,?_,Gr.Below.act hi h2 g7⟩
  ·rw[dO hi]
   by_cases hp:p=i
   ·rw[if_pos hp]
   rw[if_neg hp];exact g3
  intro k j hk hj;rw[dO hi]
  by_cases hji:j=i
  ·subst hji;exact absurd (g6 k _ hk hj) h2
  rw[if_neg hji];exact g6 k j hk hj
theorem Gr.Inv.pop {st:List Nat} {i e:Nat} {r:List (Nat×Nat)} (h:G.Inv st ((i,e)::r)) (hd:fS st i=2∨G.call i=true∨e=(G.succ i).length):G.Inv (st.set i 2) r:=by
 obtain⟨hl,hv,⟨o,ho,hoi⟩,ha,hn,ht⟩:=h;obtain⟨t1,t2,t3,t4,t5,t6⟩:=ht;have hi:i < st.length:=by rw[hl];exact t1
 simp only[List.map_cons,List.nodup_cons] at hn;refine⟨by rw[List.length_set];exact hl,?_,?_,?_,hn.2,?_⟩
 ·intro j;rw[dO hi]
  by_cases hj:j=i
  ·rw[if_pos hj];exact Nat.le_refl 2
  rw[if_neg hj];exact hv j
 ·by_cases h2:fS st i=2
  ·refine⟨o,ho,?_⟩;intro j;rw[dO hi,hoi]
   by_cases hj:j=i
   ·subst hj;simp[h2]
   rw[if_neg hj]
  refine⟨i::o,.cons ho ?_,?_⟩
  ·rcases hd with hd|hd|hd
   ·exact absurd hd h2
   ·exact .inl hd
   refine .inr ?_;intro j hj;obtain⟨k,hk,he⟩:=List.mem_iff_getElem.1 hj;rw[hoi];refine⟨G.lt i t1 j hj,t5 k j (by omega) ?_⟩;rw[List.getElem?_eq_getElem hk,he]
  intro j;rw[List.mem_cons,dO hi,hoi]
  by_cases hj:j=i
  ·subst hj;simp[t1]
  rw[if_neg hj];simp[hj]
 ·intro j hj;rw[dO hi] at hj
  by_cases hji:j=i
  ·rw[if_pos hji] at hj;omega
  rw[if_neg hji] at hj
  have:=ha j hj
  simp only[List.map_cons,List.mem_cons] at this;exact this.resolve_left hji
 cases r with
 | nil=>trivial
 | cons q r=>
  obtain⟨p,ep⟩:=q;obtain⟨g1,g2,g3,g4,g5,g6,g7⟩:=t6;have hpi:p≠i:=by
   rintro rfl;exact hn.1 (by simp)
  have hle:ep<=(G.succ p).length:=by
   have:=(List.getElem?_eq_some_iff.1 g5).1
   omega
  refine⟨g1,hle,?_,by omega,?_,Gr.Below.done hi (fun hm=>hn.1 (by simp only[List.map_cons,List.mem_cons];exact .inr hm)) g7⟩
  ·intro _;refine⟨?_,g4⟩;rw[dO hi,if_neg hpi];exact g3
  intro k j hk hj;rw[dO hi]
  by_cases hji:j=i
  ·rw[if_pos hji]
  rw[if_neg hji]
  by_cases hke:k < ep - 1
  ·exact g6 k j hke hj
  have:k=ep - 1:=by omega
  subst this;rw[g5] at hj;exact absurd (Option.some.inj hj).symm hji
theorem Gr.Inv.mark {st:List Nat} {i e:Nat} {r:List (Nat×Nat)} (h:G.Inv st ((i,e)::r)) (h2:e=0->fS st i≠2):(∀j,fS (st.set i 1) j=if j=i then 1 else fS st j)/\(st.set i 1).length=G.n/\(∃o,G.Fin o/\(∀j,j∈o↔j < G.n/\fS (st.set i 1) j=2))/\(∀j,fS (st.set i 1) j=1->j∈((i,e)::r).map Prod.fst)/\G.Below (st.set i 1) i r/\(∀k j,k < e->(G.succ i)[k]?=some j->fS (st.set i 1) j=2):=by
 obtain⟨hl,hv,⟨o,ho,hoi⟩,ha,hn,ht⟩:=h;obtain⟨t1,t2,t3,t4,t5,t6⟩:=ht;have hi:i < st.length:=by rw[hl];exact t1
 have hne:fS st i≠2:=by
  by_cases he:e=0
  ·exact h2 he
  rw[(t3 (by omega)).1];omega
 refine⟨fun j=>dO hi,by rw[List.length_set];exact hl,⟨o,ho,?_⟩,?_,Gr.Below.act hi hne t6,?_⟩
 ·intro j;rw[dO hi,hoi]
  by_cases hj:j=i
  ·subst hj;simp[hne]
  rw[if_neg hj]
 ·intro j hj;rw[dO hi] at hj
  by_cases hji:j=i
  ·simp[hji]
  rw[if_neg hji] at hj;exact ha j hj
 intro k j hk hj;have h5:=t5 k j hk hj;rw[dO hi]
 by_cases hji:j=i
 ·subst hji;exact absurd h5 hne
 rw[if_neg hji];exact h5
theorem Gr.Inv.skip {st:List Nat} {i e j:Nat} {r:List (Nat×Nat)} (h:G.Inv st ((i,e)::r)) (h2:e=0->fS st i≠2) (hc:e=0->G.call i=false) (hj:(G.succ i)[e]?=some j) (hd:fS (st.set i 1) j=2):G.Inv (st.set i 1) ((i,e+1)::r):=by
 obtain⟨m1,m2,m3,m4,m5,m6⟩:=h.mark h2;obtain⟨t1,t2,t3,t4,t5,t6⟩:=h.top;have hcall:G.call i=false:=by
  by_cases he:e=0
  ·exact hc he
  exact (t3 (by omega)).2
 refine⟨m2,?_,m3,?_,h.nodup,⟨t1,?_,?_,by omega,?_,m5⟩⟩
 ·intro k;rw[m1]
  by_cases hk:k=i
  ·rw[if_pos hk];omega
  rw[if_neg hk];exact h.val k
 ·intro k hk;simpa using m4 k hk
 ·have:=(List.getElem?_eq_some_iff.1 hj).1;omega
 ·intro _;refine⟨?_,hcall⟩;rw[m1,if_pos rfl]
 intro k q hk hq
 by_cases hke:k < e
 ·exact m6 k q hke hq
 have:k=e:=by omega
 subst this;rw[hj] at hq;rw[←Option.some.inj hq];exact hd
theorem Gr.Inv.push {st:List Nat} {i e j:Nat} {r:List (Nat×Nat)} (h:G.Inv st ((i,e)::r)) (h2:e=0->fS st i≠2) (hc:e=0->G.call i=false) (hj:(G.succ i)[e]?=some j) (hd1:fS (st.set i 1) j≠1) (hd2:fS (st.set i 1) j≠2):G.Inv (st.set i 1) ((j,0)::(i,e+1)::r):=by
 obtain⟨m1,m2,m3,m4,m5,m6⟩:=h.mark h2;obtain⟨t1,t2,t3,t4,t5,t6⟩:=h.top;have hcall:G.call i=false:=by
  by_cases he:e=0
  ·exact hc he
  exact (t3 (by omega)).2
 have hjn:j < G.n:=G.lt i t1 j (List.mem_of_getElem? hj);have hall:∀q,G.Below (st.set i 1) q r->∀p∈r.map Prod.fst,fS (st.set i 1) p=1:=by
  intro q hb p hp;clear hj hd1 hd2 m3 m4 m6 hcall;revert q;have key:∀(r:List (Nat×Nat)) (q:Nat),G.Below (st.set i 1) q r->∀p∈r.map Prod.fst,fS (st.set i 1) p=1:=by
   intro r
   induction r with
   | nil=>intro q _ p hp;simp at hp
   | cons x r ih=>
    intro q hb p hp;obtain⟨x1,x2⟩:=x;obtain⟨_,_,g3,_,_,_,g7⟩:=hb;simp only[List.map_cons,List.mem_cons] at hp
    rcases hp with rfl|hp
    ·exact g3
    exact ih x1 g7 p hp
  intro q hb;exact key r q hb p hp
 refine⟨m2,?_,m3,?_,?_,⟨hjn,Nat.zero_le _,by omega,fun _=>hd1,fun k q hk=>by omega,?_⟩⟩
 ·intro k;rw[m1]
  by_cases hk:k=i
  ·rw[if_pos hk];omega
  rw[if_neg hk];exact h.val k
 ·intro k hk
  have:=m4 k hk
  simp only[List.map_cons,List.mem_cons] at this ⊢;exact .inr this
 ·simp only[List.map_cons,List.nodup_cons];have hn:=h.nodup;simp only[List.map_cons,List.nodup_cons] at hn;refine⟨?_,hn⟩;intro hm
  rcases List.mem_cons.1 hm with rfl|hm
  ·exact hd1 (by rw[m1,if_pos rfl])
  exact hd1 (hall i m5 j hm)
 refine⟨t1,by omega,by rw[m1,if_pos rfl],hcall,hj,?_,m5⟩;intro k q hk hq;exact m6 k q (by omega) hq
theorem Gr.Inv.xK {st:List Nat} {i e j:Nat} {r:List (Nat×Nat)} (h:G.Inv st ((i,e)::r)) (h2:e=0->fS st i≠2) (hc:e=0->G.call i=false) (hj:(G.succ i)[e]?=some j) (hd:fS (st.set i 1) j=1):G.xK:=by
 obtain⟨m1,m2,m3,m4,m5,m6⟩:=h.mark h2;obtain⟨t1,t2,t3,t4,t5,t6⟩:=h.top;have hcall:G.call i=false:=by
  by_cases he:e=0
  ·exact hc he
  exact (t3 (by omega)).2
 refine⟨fun c=>c∈((i,e)::r).map Prod.fst,⟨i,by simp⟩,?_⟩;have key:∀(r:List (Nat×Nat)) (q:Nat),G.Below st q r->∀c∈r.map Prod.fst,c < G.n/\G.call c=false/\∃j∈G.succ c,j=q∨j∈r.map Prod.fst:=by
  intro r
  induction r with
  | nil=>intro q _ c hc;simp at hc
  | cons x r ih=>
   intro q hb c hc;obtain⟨x1,x2⟩:=x;obtain⟨g1,_,g3,g4,g5,_,g7⟩:=hb;simp only[List.map_cons,List.mem_cons] at hc
   rcases hc with rfl|hc
   ·exact⟨g1,g4,q,List.mem_of_getElem? g5,.inl rfl⟩
   obtain⟨k1,k2,k,k3,k4⟩:=ih x1 g7 c hc;refine⟨k1,k2,k,k3,.inr ?_⟩;simp only[List.map_cons,List.mem_cons];exact k4
 intro c hc';simp only[List.map_cons,List.mem_cons] at hc'
 rcases hc' with rfl|hc'
 ·exact⟨t1,hcall,j,List.mem_of_getElem? hj,m4 j hd⟩
 obtain⟨k1,k2,k,k3,k4⟩:=key r i t6 c hc';refine⟨k1,k2,k,k3,?_⟩;simp only[List.map_cons,List.mem_cons];exact k4
theorem Gr.Inv.start {st:List Nat} {i:Nat} (h:G.Inv st []) (hi:i < G.n):G.Inv st [(i,0)]:=by
 have h1:∀j,fS st j≠1:=fun j hj=>by have:=h.act j hj;simp at this
 refine⟨h.len,h.val,h.fin,fun j hj=>absurd hj (h1 j),by simp,⟨hi,Nat.zero_le _,by omega,fun _=>h1 i,fun k j hk=>by omega,trivial⟩⟩
theorem Gr.Inv.init:G.Inv (List.replicate G.n 0) []:=by
 have h0:∀i,fS (List.replicate G.n 0) i=0:=by
  intro i;unfold fS;rw[List.getD_eq_getElem?_getD,List.getElem?_replicate]
  split <;> rfl
 refine⟨by simp,fun i=>by rw[h0];omega,⟨[],.nil,fun i=>by rw[h0];simp⟩,fun i hi=>by rw[h0] at hi;omega,by simp,trivial⟩
theorem Gr.Inv.cover {st:List Nat} (h:G.Inv st []) (hd:∀i,i < G.n->fS st i=2):G.cover:=by
 obtain⟨o,ho,hoi⟩:=h.fin;exact⟨o,ho,fun i hi=>(hoi i).2 ⟨hi,hd i hi⟩⟩
def KL (e d:Nat):Nat:=if e=0 then 1 else 2*(d - e)+1
def fresh (G:Gr) (st:List Nat):Nat->Nat
 | 0=>0
 | k+1=>fresh G st k+(if fS st k=0 then 2*(G.succ k).length+4 else 0)
def qz (G:Gr) (st:List Nat) (stk:List (Nat×Nat)):Nat:=fresh G st G.n+(stk.map (fun x=>KL x.2 (G.succ x.1).length)).sum
theorem tu {st:List Nat} {i v:Nat} (hi:i < st.length) (hv:v≠0):∀k,fresh G (st.set i v) k<=fresh G st k
 | 0=>Nat.le_refl _
 | k+1=>by
  have ih:=tu hi hv k;simp only[fresh];rw[dO hi]
  by_cases hk:k=i
  ·rw[if_pos hk,if_neg hv];omega
  rw[if_neg hk];omega
theorem FM {st:List Nat} {i v:Nat} (hi:i < st.length) (hv:v≠0) (h0:fS st i=0):∀k,i < k->fresh G (st.set i v) k+(2*(G.succ i).length+4)<=fresh G st k
 | 0,h=>by omega
 | k+1,h=>by
  simp only[fresh];rw[dO hi]
  by_cases hk:k=i
  ·subst hk;rw[if_pos rfl,if_neg hv,if_pos h0]
   have:=tu (G:=G) hi hv k
   omega
  rw[if_neg hk]
  have:=FM hi hv h0 k (by omega)
  omega
theorem Fl {st:List Nat} {i e v:Nat} {r:List (Nat×Nat)} (hi:i < st.length) (hv:v≠0):qz G (st.set i v) r < qz G st ((i,e)::r):=by
 have h1:=tu (G:=G) hi hv G.n;have h2:1<=KL e (G.succ i).length:=by unfold KL;split <;> omega
 simp only[qz,List.map_cons,List.sum_cons];omega
theorem BR {st:List Nat} {i e:Nat} {r s:List (Nat×Nat)} (h:G.Inv st ((i,e)::r)) (h2:e=0->fS st i≠2) (he:e < (G.succ i).length) (hs:s=[]∨∃j,s=[(j,0)]) :
  qz G (st.set i 1) (s++(i,e+1)::r) < qz G st ((i,e)::r):=by
 obtain⟨t1,t2,t3,t4,t5,t6⟩:=h.top;have hi:i < st.length:=by rw[h.len];exact t1
 have hs1:(s.map (fun x=>KL x.2 (G.succ x.1).length)).sum<=1:=by
  rcases hs with rfl|⟨j,rfl⟩
  ·simp
  simp[KL]
 have h1:=tu (G:=G) hi (v:=1) (by omega) G.n;have hw:KL (e+1) (G.succ i).length=2*((G.succ i).length - (e+1))+1:=by unfold KL;rw[if_neg (by omega)]
 simp only[qz,List.map_append,List.sum_append,List.map_cons,List.sum_cons];rw[hw]
 by_cases h0:e=0
 ·have hv:=h.val i;have hz:fS st i=0:=by have:=h2 h0;have:=t4 h0;omega
  have h3:=FM (G:=G) hi (v:=1) (by omega) hz G.n t1;omega
 have hw2:KL e (G.succ i).length=2*((G.succ i).length - e)+1:=by unfold KL;rw[if_neg h0]
 rw[hw2];omega
def Gr.Sound (G:Gr) (f:List Bool):Prop:=∀C:Nat->Prop,(∀c,C c->c < G.n/\G.call c=false/\∃j∈G.succ c,C j)->∀c,C c->f.getD c false=false
def Gr.eX (G:Gr) (f:List Bool):Prop:=∀i,i < G.n->(G.call i=true∨∀j∈G.succ i,f.getD j false=true)->f.getD i false=true
theorem Gr.Sound.set {f:List Bool} {i:Nat} (h:G.Sound f) (hi:i < f.length) (hd:G.call i=true∨∀j∈G.succ i,f.getD j false=true):G.Sound (f.set i true):=by
 intro C hC c hc;have h1:=h C hC c hc;rw[List.getD_eq_getElem?_getD,List.getElem?_set]
 by_cases hci:i=c
 ·subst hci
  exfalso
  obtain⟨_,h2,j,h3,h4⟩:=hC _ hc
  rcases hd with hd|hd
  ·rw[h2] at hd;simp at hd
  have h5:=hd j h3;rw[h C hC j h4] at h5;simp at h5
 rw[if_neg hci,←List.getD_eq_getElem?_getD];exact h1
theorem Gr.Sound.init {n:Nat}:G.Sound (List.replicate n false):=by
 intro C _ c _;rw[List.getD_eq_getElem?_getD,List.getElem?_replicate]
 split <;> rfl
theorem Gr.MO {f:List Bool} (hl:f.length=G.n) (h:G.Sound f) (ht:G.xK):f.any (fun b=>!b)=true:=by
 obtain⟨C,⟨i,hi⟩,hC⟩:=ht;have h1:=h C hC i hi;have hlt:=(hC i hi).1;rw[List.any_eq_true];refine⟨f[i]'(by omega),List.getElem_mem _,?_⟩;rw[List.getD_eq_getElem?_getD,List.getElem?_eq_getElem (by omega)] at h1;simpa using h1
theorem Gr.Fin.free {o:List Nat} (h:G.Fin o) {C:Nat->Prop} (hC:∀c,C c->c < G.n/\G.call c=false/\∃j∈G.succ c,C j):∀c,C c->c∉o:=by
 induction h with
 | nil=>intro c _ hm;simp at hm
 | @cons o i _ hk ih=>
  intro c hc hm
  rcases List.mem_cons.1 hm with rfl|hm
  ·obtain⟨_,h2,j,h3,h4⟩:=hC _ hc
   rcases hk with hk|hk
   ·rw[h2] at hk;simp at hk
   exact ih j h4 (hk j h3)
  exact ih c hc hm
theorem Gr.IT (h:G.cover):¬G.xK:=by
 obtain⟨o,ho,hall⟩:=h;rintro⟨C,⟨i,hi⟩,hC⟩;exact ho.free hC i hi (hall i (hC i hi).1)
theorem Gr.Rm {f:List Bool} (hl:f.length=G.n) (h:G.eX f) (ha:f.any (fun b=>!b)=true):G.xK:=by
 refine⟨fun i=>i < G.n/\f.getD i false=false,?_,?_⟩
 ·rw[List.any_eq_true] at ha;obtain⟨b,hb,hnb⟩:=ha;obtain⟨i,hi,he⟩:=List.mem_iff_getElem.1 hb;refine⟨i,by omega,?_⟩;rw[List.getD_eq_getElem?_getD,List.getElem?_eq_getElem hi,he];simpa using hnb
 rintro c ⟨h1,h2⟩;have h3:=h c h1;rw[h2] at h3;have h4:¬(G.call c=true∨∀j∈G.succ c,f.getD j false=true):=fun hd=>by have:=h3 hd;simp at this
 refine⟨h1,?_,?_⟩
 ·cases hc:G.call c with
  | false=>rfl
  | true=>exact absurd (.inl hc) h4
 have h5:¬ ∀j∈G.succ c,f.getD j false=true:=fun hd=>h4 (.inr hd)
 simp only[Classical.not_forall] at h5;obtain⟨j,hj,h6⟩:=h5;exact⟨j,hj,G.lt c h1 j hj,by simpa using h6⟩
structure Gr.Reach (G:Gr) (f:List Bool):Prop where
 len:f.length=G.n
 zero:f.getD 0 false=true
 closed:∀i,i < G.n->f.getD i false=true->∀j∈G.succ i,f.getD j false=true
 least:∀S:Nat->Prop,S 0->(∀i,i < G.n->S i->∀j∈G.succ i,S j)->∀i,f.getD i false=true->S i
structure Gr.tT (G:Gr) (f:List Bool) (ws:List Nat):Prop where
 len:f.length=G.n
 lt:∀i∈ws,i < G.n
 zero:f.getD 0 false=true∨0∈ws
 closed:∀i,i < G.n->f.getD i false=true->∀j∈G.succ i,f.getD j false=true∨j∈ws
 least:∀S:Nat->Prop,S 0->(∀i,i < G.n->S i->∀j∈G.succ i,S j)->(∀i,f.getD i false=true->S i)/\∀i∈ws,S i
theorem pu {f:List Bool} {i j:Nat} (h:i < f.length):(f.set i true).getD j false=(decide (j=i)||f.getD j false):=by
 rw[List.getD_eq_getElem?_getD,List.getD_eq_getElem?_getD,List.getElem?_set]
 by_cases hji:j=i
 ·subst hji;simp[h]
 rw[if_neg (fun e=>hji e.symm)];simp[hji]
theorem Gr.tT.init (h0:0 < G.n):G.tT (List.replicate G.n false) [0]:=by
 have hz:∀i,(List.replicate G.n false).getD i false=false:=by
  intro i;rw[List.getD_eq_getElem?_getD,List.getElem?_replicate]
  split <;> rfl
 refine⟨by simp,fun i hi=>by simp at hi;omega,.inr (by simp),fun i _ hi=>by rw[hz] at hi;simp at hi,fun S h1 _=>⟨fun i hi=>by rw[hz] at hi;simp at hi,fun i hi=>?_⟩⟩
 have:i=0:=by simpa using hi
 subst this;exact h1
theorem Gr.tT.skip {f:List Bool} {ws:List Nat} {i:Nat} (h:G.tT f (ws++[i])) (hi:f.getD i false=true):G.tT f ws:=by
 refine⟨h.len,fun j hj=>h.lt j (List.mem_append_left _ hj),?_,?_,fun S a b=>⟨(h.least S a b).1,fun j hj=>(h.least S a b).2 j (List.mem_append_left _ hj)⟩⟩
 ·rcases h.zero with h0|h0
  ·exact .inl h0
  rcases List.mem_append.1 h0 with h0|h0
  ·exact .inr h0
  have:0=i:=by simpa using h0
  subst this;exact .inl hi
 intro k hk hf j hj
 rcases h.closed k hk hf j hj with h1|h1
 ·exact .inl h1
 rcases List.mem_append.1 h1 with h1|h1
 ·exact .inr h1
 have:j=i:=by simpa using h1
 subst this;exact .inl hi
theorem Gr.tT.go {f:List Bool} {ws:List Nat} {i:Nat} (h:G.tT f (ws++[i])):G.tT (f.set i true) (ws++G.succ i):=by
 have hin:i < G.n:=h.lt i (by simp);have hif:i < f.length:=by rw[h.len];exact hin
 refine⟨by rw[List.length_set];exact h.len,?_,?_,?_,?_⟩
 ·intro j hj
  rcases List.mem_append.1 hj with hj|hj
  ·exact h.lt j (List.mem_append_left _ hj)
  exact G.lt i hin j hj
 ·rw[pu hif]
  rcases h.zero with h0|h0
  ·rw[h0];simp
  rcases List.mem_append.1 h0 with h0|h0
  ·exact .inr (List.mem_append_left _ h0)
  have:0=i:=by simpa using h0
  exact .inl (by simp[this])
 ·intro k hk hf j hj;rw[pu hif] at hf ⊢
  by_cases hki:k=i
  ·subst hki;exact .inr (List.mem_append_right _ hj)
  have hf:f.getD k false=true:=by simpa [hki] using hf
  rcases h.closed k hk hf j hj with h1|h1
  ·exact .inl (by rw[h1,Bool.or_true])
  rcases List.mem_append.1 h1 with h1|h1
  ·exact .inr (List.mem_append_left _ h1)
  have:j=i:=by simpa using h1
  exact .inl (by simp[this])
 intro S a b;obtain⟨h1,h2⟩:=h.least S a b;have hSi:S i:=h2 i (by simp);refine⟨?_,?_⟩
 ·intro j hj;rw[pu hif] at hj
  by_cases hji:j=i
  ·subst hji;exact hSi
  exact h1 j (by simpa [hji] using hj)
 intro j hj
 rcases List.mem_append.1 hj with hj|hj
 ·exact h2 j (List.mem_append_left _ hj)
 exact b i hin hSi j hj
theorem Gr.tT.done {f:List Bool} (h:G.tT f []):G.Reach f:=by
 refine⟨h.len,?_,?_,fun S a b=>(h.least S a b).1⟩
 ·rcases h.zero with h0|h0
  ·exact h0
  simp at h0
 intro i hi hf j hj
 rcases h.closed i hi hf j hj with h1|h1
 ·exact h1
 simp at h1
def todo (G:Gr) (f:List Bool):Nat->Nat
 | 0=>0
 | k+1=>todo G f k+(if f.getD k false=true then 0 else (G.succ k).length+1)
theorem D4 {f:List Bool} {i:Nat} (hi:i < f.length) (hf:f.getD i false=false):∀k,i < k->todo G (f.set i true) k+((G.succ i).length+1)<=todo G f k
 | 0,h=>by omega
 | k+1,h=>by
  simp only[todo];rw[pu hi]
  by_cases hk:k=i
  ·subst hk;rw[hf];have key:∀m,todo G (f.set k true) m<=todo G f m:=by
    intro m
    induction m with
    | zero=>exact Nat.le_refl _
    | succ m ih=>
     simp only[todo];rw[pu hi]
     by_cases hm:m=k
     ·rw[if_pos (by simp[hm])];omega
     simp only[hm,decide_false,Bool.false_or];omega
   have:=key k
   rw[if_pos (by simp),if_neg (by simp)];omega
  have:=D4 hi hf k (by omega)
  simp only[hk,decide_false,Bool.false_or];omega
end Go.Tp
namespace Go.Tp
theorem RB {w:World} {R:Own} {N:Name->Option Nat} {k sz len:Nat} {v:Value} {bs0:List Nat} {heap:Heap} {cs:List ac} {es:List al} {bsH:List Nat} (hv:ai w R (outs N) (.win (.out k) sz 0 len) v bs0) (hh:aj w R (outs N) heap bsH) (ho:dV (.out k) heap=some (.cells cs))
  (hnd:bsH.Nodup) (hes:es.length=len) (hle:len<=lim)
  (hcell:∀i d,es[i]?=some d->d.cells.length=sz/\∀j c,d.cells[j]?=some c->∃a,cs[i*sz+j]?=some a/\jc a=some c) :
  ∃(b:Nat) (R2:Own) (bsH2:List Nat),b∈bsH/\b∉bsH2/\bs0=[]/\ai w R2 (outs N) (.dat (.slice es)) v []/\aj w R2 (outs N) (iV (.out k) heap) bsH2/\bsH2.Sublist bsH/\(∀bs,b∉bs->bm w R w R2 bs):=by
 simp only[ai] at hv;obtain⟨rfl,b,cap,hb,rfl,hcap,⟨hsz,_⟩,hblt,hrow⟩:=hv;obtain⟨pre,b',b1,post,e1,hb',hobj,_,bs',hdel,hsub⟩:=aj.ki hh ho
 have:b'=b:=by rw[hb] at hb';simpa using hb'.symm
 subst this;obtain⟨vs,elem,sp,hblk,hrv,hRv,_⟩:=hobj;obtain⟨R',hR'⟩:∃R':Own,R'=fun c off=>c≠b'/\R c off:=⟨_,rfl⟩
 have hstep:Step w R w R':=⟨rfl,rfl,rfl,Nat.le_refl _,fun c _ hno=>⟨rfl,fun off h=>by subst hR';exact hno off h.2⟩,fun c off _ hno=>⟨fun h=>by subst hR';exact hno h.2,rfl⟩,fun _ _=>rfl⟩;have hk:∀bs,b'∉bs->bm w R w R' bs:=fun bs hbs=>⟨hstep,fun c hc _=>⟨rfl,fun off h=>by subst hR';exact⟨fun e=>hbs (e ▸ hc),h⟩⟩⟩
 subst e1;have hp:((pre++(b'::b1))++post).Perm (b'::(b1++(pre++post))):=by
  rw[List.perm_iff_count];intro q;simp only[List.count_append,List.count_cons];omega
 have hnd2:=List.nodup_cons.1 (hp.nodup_iff.1 hnd);have hno:=hnd2.1;simp only[List.mem_append,not_or] at hno;have n5:b'∉bs':=fun hm=>by
  rcases List.mem_append.1 (hsub.subset hm) with h|h
  ·exact hno.2.1 h
  exact hno.2.2 h
 have hrep:eF w R' (.slice (some ⟨b',0,none⟩) len cap) (.slice es):=by
  subst hes;have hc:∀i j e c,es[i]?=some e->e.cells[j]?=some c->∃a x bx,cs[i*sz+j]?=some a/\jc a=some c/\vs[i*sz+j]?=some x/\ai w R (outs N) a x bx:=by
   intro i j e c he hc;obtain⟨a,ha,hd⟩:=(hcell i e he).2 j c hc;obtain⟨x,bx,q1,q2,_⟩:=dM hrv (qj ha);exact⟨a,x,bx,ha,hd,by rw[←Array.getElem?_toList];exact q1,q2⟩
  refine .slice b' 0 cap sz _ (fun i j=>vs[i*sz+j]?.getD default) hsz ?_ hcap hle ?_ ?_
  ·intro e he;obtain⟨i,hi,rfl⟩:=List.getElem_of_mem he;exact (hcell i _ (List.getElem?_eq_getElem hi)).1
  ·intro i j hi hj;have hei:es[i]?=some es[i]:=List.getElem?_eq_getElem hi;have hl:=(hcell i _ hei).1;have hcj:es[i].cells[j]?=some (es[i].cells[j]'(by omega)):=List.getElem?_eq_getElem (by omega);obtain⟨a,x,bx,_,hd,hvx,hx⟩:=hc i j _ _ hei hcj;refine⟨?_,fun h=>by subst hR';exact h.1 rfl⟩;rw[cell_of_row w b' _ vs elem (0,0) hblk];rw[Nat.zero_add,hvx];rfl
  intro i j e c he hcc;obtain⟨a,x,bx,_,hd,hvx,hx⟩:=hc i j e c he hcc;obtain⟨k1,k2⟩:=pG hd hx;have hx2:vs[i*sz+j]?.getD default=x:=by rw[hvx];rfl
  show eF w R' (vs[i*sz+j]?.getD default) c;rw[hx2];exact k1.step hstep
 refine⟨b',R',bs',by simp,n5,rfl,bR (d:=.slice es) hrep,hdel.keep (hk bs' n5),?_,hk⟩;refine hsub.trans ?_;exact List.Sublist.append (List.sublist_append_left pre (b'::b1)) (List.Sublist.refl post)
section
variable {P:Program} {G:bw}
theorem aD.vh {g:FuncId} {args:List ac} {sz len m:Nat} {cs:List ac} {es:List al} (hc:aD P G g args [] 0 (XQ ⟨.win (.out 0) sz 0 len,[(.out 0,.cells cs)],m⟩)) (hes:es.length=len) (hle:len<=lim)
  (hcell:∀i d,es[i]?=some d->d.cells.length=sz/\∀j c,d.cells[j]?=some c->∃a,cs[i*sz+j]?=some a/\jc a=some c):aD P G g args [] 0 (XQ ⟨.dat (.slice es),[],0⟩):=by
 intro w R N cargs bsA bsH bsF ha hp hnd hnx hg hF;refine (hc w R N cargs bsA bsH bsF ha hp hnd hnx hg hF).mono ?_;rintro e w' ⟨v',cv,h1,next',R',N',bsV,bsH',rfl,⟨rfl,rfl,rfl⟩,hv1,hh',hnd',hnx',hk,hN⟩;have hnd3:bsH'.Nodup:=(List.nodup_append.1 (List.nodup_append.1 hnd').2.1).1;obtain⟨b,R2,bsH2,m1,m2,m3,m4,m5,m6,m7⟩:=RB hv1 hh' (by simp[dV]) hnd3 hes hle hcell;have hbF:b∉bsF:=by
  intro hb;exact (List.nodup_append.1 (List.nodup_append.1 hnd').2.1).2.2 b m1 b hb rfl
 refine⟨_,cv,_,_,R2,N,[],[],rfl,⟨rfl,rfl,rfl⟩,?_,rfl,?_,hnx,hk.trans (m7 bsF hbF),fun _ _ h=>h⟩
 ·simp only[ai] at m4 ⊢;exact m4
 simpa using (List.nodup_append.1 (List.nodup_append.1 hnd').2.1).2.1
end
end Go.Tp
namespace Go.Tp
open Go.ChangeShapes Go.WideShapes
def intD (x:Int):al:=.flat (.int .i64 x)
theorem WK {x:Int} (h:(Lit.int .i64 x).wf=true):-9223372036854775808<=x/\x < 9223372036854775808:=by
 have h1:decide (-9223372036854775808<=x)=true/\decide (x<=9223372036854775807)=true:=(Bool.and_eq_true _ _).mp h;have h2:=of_decide_eq_true h1.1;have h3:=of_decide_eq_true h1.2;omega
theorem Mt {H:Type} {enc:TypeId×Value->H} {P:Program} {W:World} {base:Nat} {sp:Nat->Bool} {held:Bool} {t e:TypeId} {v:Value} {d:DataW H} {ps:List MemPlace} (N:Name->Option Nat)
  (ht:P.underlying t=some (.slice e)) (he:P.underlying e=some (.int .i64)) (hc:P.cellsOf e=1) (hv:v.cells=#[v]) (h:DataW.Trod enc P W base sp held t v d ps) :
  ∃l:List Int,((d=.nil/\l=[])∨(∃els rest,d=.slice els rest/\els.length=l.length))/\(∀x∈l,-9223372036854775808<=x/\x < 9223372036854775808)/\(l.length<=lim->ai W sI N (.dat (.slice (l.map intD))) v []):=by
 obtain⟨fuel,hf⟩:=h
 rcases open_ints ht he hc hf with⟨hcs,hx⟩|⟨a,len,cap,zs,hcs,_,hl,hm,hz,hx,hi,hw⟩
 ·rw[hv] at hcs;simp only[List.cons.injEq,and_true] at hcs;have hvn:v=.slice none 0 0:=by simpa using hcs
  subst hvn;refine⟨[],.inl ⟨?_,rfl⟩,by simp,fun _=>bR (d:=.slice []) (.nil none 0)⟩;simp only[Prod.mk.injEq] at hx;exact hx.1
 rw[hv] at hcs;have hvn:v=.slice (some a) len cap:=by simpa using hcs
 subst hvn;simp only[Prod.mk.injEq] at hx;have hlz:len<=zs.length:=by rw[hz];split <;> omega
 refine⟨zs.take len,.inr ⟨_,_,hx.1,by simp[lits]⟩,fun x hx=>WK (hw x (List.mem_of_mem_take hx)),fun hb=>?_⟩;have htl:(zs.take len).length=len:=by rw[List.length_take];omega
 rw[htl] at hb;refine bR (d:=.slice _) ?_
 cases hk:len with
 | zero=>
  rw[hk] at hl;simp only[List.take_zero,List.map_nil];exact .nil (some a) cap
 | succ k0=>
  have hspot:a.spot=none:=by
   have:=hi 0 (by omega)
   have:=World.cell?_spot this
   simpa [Addr.add] using this
  obtain⟨b,off,spot⟩:=a;simp only at hspot;subst hspot;rw[←hk];have el:((zs.take len).map intD).length=len:=by rw[List.length_map,htl]
  have hgoal:eF W sI (.slice (some ⟨b,off,none⟩) ((zs.take len).map intD).length cap) (.slice ((zs.take len).map intD)):=by
   refine .slice b off cap 1 _ (fun i _=>.int .i64 (zs.getD i 0)) (by omega) ?_ (by omega) (by omega) ?_ ?_
   ·intro d hd;obtain⟨x,_,rfl⟩:=List.mem_map.1 hd;rfl
   ·intro i j hil hj;obtain rfl:j=0:=by omega
    rw[el] at hil;refine⟨?_,fun h=>h⟩
    have:=hi i (by omega)
    simp only[Addr.add] at this;simp only[Nat.mul_one,Nat.add_zero]
    split at this
    ·rename_i h0;subst h0;exact this
    exact this
   intro i j d c hd hcc;rw[List.getElem?_map] at hd
   cases hb2:(zs.take len)[i]? with
   | none=>rw[hb2] at hd;simp at hd
   | some x=>
    rw[hb2] at hd;simp at hd;subst hd
    have:c=.flat (.int .i64 x):=by
     cases j with
     | zero=>simp[intD,al.cells] at hcc;exact hcc.symm
     | succ j=>simp[intD,al.cells] at hcc
    subst this;have hx2:zs[i]?=some x:=by
     rw[List.getElem?_take] at hb2
     split at hb2
     ·exact hb2
     simp at hb2
    have:zs.getD i 0=x:=by simp[List.getD,hx2]
    rw[this];exact .flat (hw x (List.mem_of_getElem? hx2))
  rw[el] at hgoal;exact hgoal
theorem Ri {H:Type} {enc:TypeId×Value->H} {P:Program} {W:World} {base:Nat} {sp:Nat->Bool} {held:Bool} {t e:TypeId} {v:Value} {d:DataW H} {ps:List MemPlace} (N:Name->Option Nat)
  (ht:P.underlying t=some (.slice e)) (he:P.underlying e=some (.int .i64)) (hc:P.cellsOf e=1) (hv:v.cells=#[v]) (h:DataW.Trod enc P W base sp held t v d ps) :
  ∃l:List Int,((d=.nil/\l=[])∨(∃els rest,d=.slice els rest/\els.length=l.length))/\(l.length<=lim->ai W sI N (.dat (.slice (l.map intD))) v []):=by
 obtain⟨l,h1,_,h2⟩:=Mt (enc:=enc) (P:=P) (W:=W) (base:=base) (sp:=sp) (held:=held) (ps:=ps) N ht he hc hv h;exact⟨l,h1,h2⟩
theorem vw {P:Program} {G:bw} {f:FuncId} {as:List ac} {args:List Value} {b:Bool} {r:eW} (W:World) (ha:ah W sI (outs fun _=>none) as args []) (h:aD P G f as [] 0 (XQ r)) (hr:r.val=bv b) (hG:∀g cs,G g=some cs->eu W sI g 0 cs) :
  Calls P f args.toArray W fun e W'=>e=.returned (.bool b)/\W.keptBut W' (fun _=>False)/\∀i,i < W.heap.size->W'.heap[i]?=W.heap[i]?:=by
 refine (h W sI (fun _=>none) args [] [] [] ha rfl (by simp) (by intro o b h;simp at h) hG (by simp)).mono ?_;rintro e W' ⟨v,cv,heap',next',R',N',bsV,bsH',rfl,⟨rfl,_,_⟩,hv,_,_,_,hk,_⟩;rw[hr] at hv;obtain⟨_,rfl,_⟩:=aE hv;exact⟨rfl,wV hk.step,fun i hi=>(hk.step.block i hi (fun _ h=>h)).1⟩
theorem xI {H:Type} {enc:TypeId×Value->H} {P:Program} {W W':World} {base:Nat} {sp:Nat->Bool} {hd:Bool} (hB:∀i,i < W.heap.size->W'.heap[i]?=W.heap[i]?):∀{ts:List TypeId} {vs:List Value} {ds:List (DataW H)} {ps:List MemPlace},
  DataW.TrodAll enc P W base sp hd ts vs ds ps->DataW.TrodAll enc P W' base sp hd ts vs ds ps
 | [],_,_,_,h=>by
  obtain⟨rfl,rfl,rfl⟩:=trodAll_nil h;exact trodAll_mk0
 | _::_,_,_,_,h=>by
  obtain⟨v,vs1,d,ds1,a,b,rfl,rfl,rfl,⟨n,hn⟩,h2⟩:=trodAll_cons h;refine⟨a,b,⟨n,DataW.trod_carry n _ _ _ hn (fun p hp=>?_)⟩,xI hB h2,rfl⟩;have hl:=DataW.trod_lt n _ _ _ hn p hp
  cases p with
  | cell b o=>exact World.cell?_of_block (w:=W) (hB b hl)
  | map b=>exact hB b hl
end Go.Tp
