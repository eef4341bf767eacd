/- Part 3 of what the last text proves. -/
import Derived.Scope
import Derived.Deep.Slices
import Derived.ChangeSame
import Derived.LaidLaws
import Derived.RowKit
import Derived.KernelRfl
import Derived.ChangeSlices
import Derived.ReadAgain
import Derived.ChangeMaps5
import Derived.Test.YtmpmgmmcaghacaaGreatDoorQ02
set_option linter.unusedVariables false
set_option linter.unusedSimpArgs false
open Int (ofNat)
set_option maxRecDepth 100000
set_option maxHeartbeats 4000000
namespace Go.Tp
noncomputable def eE (l:Sl):Nat->Sl:=
 @List.rec (Nat×ac) (fun _=>Nat->Sl) (fun _=>[]) (fun p _ ih m=>@Bool.rec (fun _=>Sl) (p::ih (Nat.xor m (Nat.pow 2 p.1))) (ih m) (Nat.beq (Nat.land 1 (Nat.shiftRight m p.1)) 0)) l
theorem afg (m d:Nat):Nat.beq (Nat.land 1 (Nat.shiftRight m d)) 0=!(m.testBit d):=by
 have e:m.testBit d=(Nat.land 1 (Nat.shiftRight m d) != 0):=rfl;rw[e];generalize Nat.land 1 (Nat.shiftRight m d)=x
 by_cases h:x=0
 ·subst h;rfl
 have h1:Nat.beq x 0=false:=by rw[Bool.eq_false_iff];intro hc;rw[Nat.beq_eq] at hc;exact h hc
 have h2:(x != 0)=true:=by simpa using h
 rw[h1,h2];rfl
theorem xe (d:Nat) (v:ac) (r:Sl) (m:Nat):eE ((d,v)::r) m=if m.testBit d=true then (d,v)::eE r (m ^^^ 2 ^ d) else eE r m:=by
 have e:eE ((d,v)::r) m=@Bool.rec (fun _=>Sl) ((d,v)::eE r (m ^^^ 2 ^ d)) (eE r m) (Nat.beq (Nat.land 1 (Nat.shiftRight m d)) 0):=rfl;rw[e,afg]
 cases m.testBit d <;> simp
theorem sG:∀(l:Sl) (m t:Nat),m.testBit t=false->rJ (eE l m) t=.undef
 | [],_,_,_=>rfl
 |(d,v)::r,m,t,h=>by
  rw[xe]
  split
  ·rename_i hd;have hne:d≠t:=fun e=>by rw[e,h] at hd;simp at hd
   rw[ij,if_neg hne]
   apply sG
   rw[Nat.testBit_xor,h,Nat.testBit_two_pow_of_ne hne];rfl
  exact sG r m t h
theorem sH:∀(l:Sl) (m t:Nat),rJ (eE l m) t=rJ l t∨rJ (eE l m) t=.undef
 | [],_,_=>.inl rfl
 |(d,v)::r,m,t=>by
  rw[xe,ij]
  split
  ·rw[ij]
   split
   ·exact .inl rfl
   exact sH r _ t
  rename_i hd
  split
  ·rename_i he;subst he;exact .inr (sG r m d (by simpa using hd))
  exact sH r m t
theorem Gs {w:World} {R:Own} {N:Name->Option Nat}:∀{as as':List ac} {vs:List Value} {bs:List Nat},as'.length=as.length->(∀i:Nat,as'[i]?=as[i]?∨as'[i]?=some .undef)->ah w R N as vs bs->∃bs',ah w R N as' vs bs'/\bs'.Sublist bs
 | [],[],_,bs,_,_,h=>⟨bs,h,.refl _⟩
 | [],_::_,_,_,hl,_,_=>by simp at hl
 | _::_,[],_,_,hl,_,_=>by simp at hl
 | a::as,a'::as',vs,bs,hl,hi,h=>by
  obtain⟨v,vs',b1,b2,rfl,rfl,h1,h2⟩:=au h;obtain⟨bs',k1,k2⟩:=Gs (as:=as) (as':=as') (by simpa using hl) (fun i=>by simpa using hi (i+1)) h2
  rcases hi 0 with h0|h0
  ·simp at h0;subst h0;exact⟨b1++bs',aD h1 k1,List.Sublist.append (.refl _) k2⟩
  simp at h0;subst h0;exact⟨[]++bs',aD (aJ _) k1,List.Sublist.append (List.nil_sublist _) k2⟩
def iL (f:ab) (m:Sl->Sl):ab:=match f with|⟨sl,locs,heap,next⟩=>⟨m sl,locs,heap,next⟩
theorem dw.prune {G:bA} {w:World} {R:Own} {N:Name->Option Nat} {tmps:List Value} {n:Nat} {f:ab} {bsT bsL bsH bsF:List Nat} (h:dw G w R N tmps (f.al n) undef .undef [] bsT bsL bsH bsF) (m:Nat) :
  ∃bsT',dw G w R N tmps ((iL f (fun l=>eE l m)).al n) undef .undef [] bsT' bsL bsH bsF:=by
 obtain⟨sl,locs,heap,next⟩:=f;obtain⟨bsT',k1,k2⟩:=Gs (as':=Gn n 0 (eE sl m)) (by simp[ab.al,oq]) (fun i=>by
  simp only[ab.al,kq]
  split
  ·rcases sH sl m (0+i) with h|h
   ·exact .inl (by rw[h])
   exact .inr (by rw[h])
  exact .inl rfl) h.tmps
 exact⟨bsT',aJ _,k1,h.locs,h.heap,List.Nodup.sublist (List.Sublist.append (.refl _) (List.Sublist.append k2 (.refl _))) h.nodup,h.next,h.glob,h.frame⟩
mutual
def iq (k:Nat):ac->Bool
 | .ptr (.out o) _=>Nat.ble k o
 | .ptr (.loc _) _=>true
 | .map (.out o)=>Nat.ble k o
 | .map (.loc _)=>true
 | .win (.out o) _ _ _=>Nat.ble k o
 | .win (.loc _) _ _ _=>true
 | .fn _ a b=>gZ k a||gZ k b
 | .agg cs=>gZ k cs
 | .tup cs=>gZ k cs
 | _=>false
def gZ (k:Nat):List ac->Bool
 | []=>false
 | a::r=>iq k a||gZ k r
end
def mb (k:Nat):Name->Bool
 | .out o=>Nat.blt o k
 | .loc _=>false
def jz (k:Nat):Heap->Heap
 | []=>[]
 |(m,o)::r=>match mb k m with|true=>(m,o)::jz k r|false=>jz k r
def BS (k:Nat):aL->Bool
 | .cells cs=>gZ k cs
 | .map _=>false
def gH (k:Nat):Heap->Bool
 | []=>false
 |(_,o)::r=>BS k o||gH k r
mutual
def KM:ac->List Nat
 | .ptr (.out o) _=>[o]
 | .map (.out o)=>[o]
 | .win (.out o) _ _ _=>[o]
 | .fn _ a b=>CM a++CM b
 | .agg cs=>CM cs
 | .tup cs=>CM cs
 | _=>[]
def CM:List ac->List Nat
 | []=>[]
 | a::r=>KM a++CM r
end
def ot (o:Nat):List Nat->Bool
 | []=>false
 | x::r=>match Nat.beq x o with|true=>true|false=>ot o r
def addN:List Nat->List Nat->List Nat
 | [],l=>l
 | n::ns,l=>match ot n l with|true=>addN ns l|false=>addN ns (n::l)
def rc (k:Nat) (l:List Nat):Heap->List Nat
 | []=>l
 |(.out o,.cells cs)::r=>(match Nat.blt o k||ot o l with|true=>rc k (addN (CM cs) l) r|false=>rc k l r)
 | _::r=>rc k l r
def EM (k:Nat) (h:Heap):Nat->List Nat->List Nat
 | 0,l=>l
 | n+1,l=>EM k h n (rc k l h)
def nr (k:Nat) (l:List Nat):Heap->Heap
 | []=>[]
 |(.out o,x)::r=>(match Nat.blt o k||ot o l with|true=>(.out o,x)::nr k l r|false=>nr k l r)
 | _::r=>nr k l r
def M0 (k:Nat) (r:eX):eX:=
 match r with
 | ⟨val,heap,next⟩=>match iq k val||gH k (jz k heap) with
  | false=>⟨val,jz k heap,k⟩
  | true=>⟨val,nr k (EM k heap 3 (KM val)) heap,next⟩
section
variable {w:World} {R:Own} {M M2:Name->Option Nat}
theorem qd (k:Nat):∀{os:Heap} {bs:List Nat},aj w R M os bs->∃bs',aj w R M (jz k os) bs'/\bs'.Sublist bs
 | [],bs,h=>⟨bs,h,.refl _⟩
 |(m,o)::os,_,⟨b,b1,b2,e,hn,ho,hr⟩=>by
  subst e;obtain⟨bs',k1,k2⟩:=qd k hr;simp only[jz]
  split
  ·exact⟨b::(b1++bs'),⟨b,b1,bs',rfl,hn,ho,k1⟩,(List.Sublist.append (.refl _) k2).cons_cons _⟩
  exact⟨bs',k1,k2.trans ((List.sublist_append_right b1 b2).cons _)⟩
theorem ky (k:Nat) (l:List Nat):∀{os:Heap} {bs:List Nat},aj w R M os bs->∃bs',aj w R M (nr k l os) bs'/\bs'.Sublist bs
 | [],bs,h=>⟨bs,h,.refl _⟩
 |(.out m,o)::os,_,⟨b,b1,b2,e,hn,ho,hr⟩=>by
  subst e;obtain⟨bs',k1,k2⟩:=ky k l hr;simp only[nr]
  split
  ·exact⟨b::(b1++bs'),⟨b,b1,bs',rfl,hn,ho,k1⟩,(List.Sublist.append (.refl _) k2).cons_cons _⟩
  exact⟨bs',k1,k2.trans ((List.sublist_append_right b1 b2).cons _)⟩
 |(.loc m,o)::os,_,⟨b,b1,b2,e,hn,ho,hr⟩=>by
  subst e;obtain⟨bs',k1,k2⟩:=ky k l hr;exact⟨bs',k1,k2.trans ((List.sublist_append_right b1 b2).cons _)⟩
variable (hM:∀m b,(∃o,m=.out o)->M m=some b->M2 m=some b)
mutual
theorem ai.low {k:Nat} (hM:∀o b,o < k->M (.out o)=some b->M2 (.out o)=some b):∀{a:ac} {v:Value} {bs:List Nat},iq k a=false->ai w R M a v bs->ai w R M2 a v bs
 | .dat _,_,_,_,h=>by simp only[ai] at h ⊢;exact h
 | .own _,_,_,_,h=>by simp only[ai] at h ⊢;exact h
 | .ref _,_,_,_,h=>by simp only[ai] at h ⊢;exact h
 | .ptr (.loc _) _,_,_,hn,_=>by simp[iq] at hn
 | .ptr (.out o) _,_,_,hn,h=>by
  simp only[iq] at hn;simp only[ai] at h ⊢;obtain⟨h1,b,hb,e⟩:=h;exact⟨h1,b,hM o b (by rcases Nat.lt_or_ge o k with h|h;exact h;rw[gC h] at hn;simp at hn) hb,e⟩
 | .map (.loc _),_,_,hn,_=>by simp[iq] at hn
 | .win (.loc _) _ _ _,_,_,hn,_=>by simp[iq] at hn
 | .win (.out o) _ _ _,_,_,hn,h=>by
  simp only[iq] at hn;simp only[ai] at h ⊢;obtain⟨h1,b,cap,hb,e⟩:=h;exact⟨h1,b,cap,hM o b (by rcases Nat.lt_or_ge o k with h|h;exact h;rw[gC h] at hn;simp at hn) hb,e⟩
 | .map (.out o),_,_,hn,h=>by
  simp only[iq] at hn;simp only[ai] at h ⊢;obtain⟨h1,b,hb,e⟩:=h;exact⟨h1,b,hM o b (by rcases Nat.lt_or_ge o k with h|h;exact h;rw[gC h] at hn;simp at hn) hb,e⟩
 | .fn _ first captured,_,_,hn,h=>by
  simp only[iq,Bool.or_eq_false_iff] at hn;simp only[ai] at h ⊢;obtain⟨h1,vs',us',e,h2,h3⟩:=h;exact⟨h1,vs',us',e,ah.low hM (as:=first) hn.1 h2,ah.low hM (as:=captured) hn.2 h3⟩
 | .agg cs,_,_,hn,h=>by
  simp only[iq] at hn;simp only[ai] at h ⊢;obtain⟨vs',e,h2⟩:=h;exact⟨vs',e,ah.low hM (as:=cs) hn h2⟩
 | .tup cs,_,_,hn,h=>by
  simp only[iq] at hn;simp only[ai] at h ⊢;obtain⟨vs',e,h2⟩:=h;exact⟨vs',e,ah.low hM (as:=cs) hn h2⟩
 | .undef,_,_,_,h=>by simp only[ai] at h ⊢;exact h
theorem ah.low {k:Nat} (hM:∀o b,o < k->M (.out o)=some b->M2 (.out o)=some b):∀{as:List ac} {vs:List Value} {bs:List Nat},gZ k as=false->ah w R M as vs bs->ah w R M2 as vs bs
 | [],_,_,_,h=>by simp only[ah] at h ⊢;exact h
 | a::as,_,_,hn,h=>by
  simp only[gZ,Bool.or_eq_false_iff] at hn;simp only[ah] at h ⊢;obtain⟨v',vs',b1',b2',e1,e2,h1,h2⟩:=h;exact⟨v',vs',b1',b2',e1,e2,ai.low hM (a:=a) hn.1 h1,ah.low hM (as:=as) hn.2 h2⟩
end
theorem qh (k:Nat):∀(l m:List ac),gZ k (l++m)=(gZ k l||gZ k m)
 | [],m=>by simp[gZ]
 | a::l,m=>by simp[gZ,qh k l m,Bool.or_assoc]
theorem Qh (k:Nat) (cs:List ac) (j:Nat):gZ k (cs++List.replicate j .undef)=gZ k cs:=by
 rw[qh]
 have:gZ k (List.replicate j .undef)=false:=by
  induction j with
  | zero=>rfl
  | succ j ih=>simp[List.replicate_succ,gZ,iq,ih]
 rw[this,Bool.or_false]
theorem aj.low {k:Nat} (hM:∀o b,o < k->M (.out o)=some b->M2 (.out o)=some b):∀{os:Heap} {bs:List Nat},(∀p∈os,mb k p.1=true)->gH k os=false->aj w R M os bs->aj w R M2 os bs
 | [],_,_,_,h=>h
 |(m,o)::os,_,hs,hn,⟨b,b1,b2,e,hb,ho,hr⟩=>by
  simp only[gH,Bool.or_eq_false_iff] at hn;have hm:=hs (m,o) (by simp);refine⟨b,b1,b2,e,?_,?_,aj.low hM (fun p hp=>hs p (by simp[hp])) hn.2 hr⟩
  ·cases m with
   | loc i=>simp[mb] at hm
   | out i=>exact hM i b (oY (by simpa [mb] using hm)) hb
  cases o with
  | cells cs=>
   obtain⟨vs,el,sp,hblk,hrr,hR⟩:=ho;exact⟨vs,el,sp,hblk,hrr.low hM (by rw[Qh];simpa [BS] using hn.1),hR⟩
  | map es=>exact ho
theorem ma (k:Nat):∀os:Heap,∀p∈jz k os,mb k p.1=true
 | [],p,h=>by simp[jz] at h
 |(m,o)::os,p,h=>by
  simp only[jz] at h
  split at h
  ·rename_i hm
   rcases List.mem_cons.1 h with rfl|h
   ·exact hm
   exact ma k os p h
  exact ma k os p h
end
theorem ay.gc {P:Program} {G:bA} {f:FuncId} {args:List ac} {heap:Heap} {next:Nat} {r:eX} (h:ay P G f args heap next (XQ r)):ay P G f args heap next (XQ (M0 next r)):=by
 intro w R N cargs bsA bsH bsF ha hh hnd hnx hg hF;refine (h w R N cargs bsA bsH bsF ha hh hnd hnx hg hF).mono ?_;rintro e w' ⟨v',cv,heap',next',R',N',bsV,bsH',rfl,⟨rfl,rfl,rfl⟩,hv',hh',hnd',hnx',hk,hN⟩;obtain⟨val,heap',next'⟩:=r;dsimp only at hv' hh' hnx' ⊢;unfold M0;dsimp only
 split
 ·rename_i hnew;simp only[Bool.or_eq_false_iff] at hnew;obtain⟨bs',k1,k2⟩:=qd next hh'
  let N2:Name->Option Nat:=fun m=>match m with|.loc i=>N' (.loc i)|.out o=>if o < next then N' (.out o) else none
  have hM:∀o b,o < next->outs N' (.out o)=some b->outs N2 (.out o)=some b:=by
   intro o b ho hb;simp only[outs] at hb ⊢;simp only[N2];rw[if_pos ho];exact hb
  refine⟨val,cv,jz next heap',next,R',N2,bsV,bs',rfl,⟨rfl,rfl,rfl⟩,hv'.low hM hnew.1,k1.low hM (ma next heap') hnew.2,?_,?_,hk,?_⟩
  ·exact List.Nodup.sublist (List.Sublist.append (.refl _) (List.Sublist.append k2 (.refl _))) hnd'
  ·intro o b hb;simp only[N2] at hb
   split at hb
   ·assumption
   simp at hb
  intro o b hb;simp only[N2];rw[if_pos (hnx o b hb)];exact hN o b hb
 obtain⟨bs',k1,k2⟩:=ky next (EM next heap' 3 (KM val)) hh';exact⟨val,cv,_,next',R',N',bsV,bs',rfl,⟨rfl,rfl,rfl⟩,hv',k1,List.Nodup.sublist (List.Sublist.append (.refl _) (List.Sublist.append k2 (.refl _))) hnd',hnx',hk,hN⟩
section
variable (X:lH) (E:bz) (G:bA) (H:Hints) (n:Nat)
def uM (f:ab) (r:eX) (dst:Option Tmp):ab:=
 match f,r with
 | ⟨sl,locs,_,_⟩,⟨v,heap,next⟩=>iW ⟨sl,locs,heap,next⟩ dst v
theorem lB (f:ab) (r:eX) (dst:Option Tmp):(uM f r dst).al n=({f.al n with heap:=r.heap,next:=r.next }:aa).put dst r.val:=by
 obtain⟨sl,locs,heap,next⟩:=f;obtain⟨v,h,k⟩:=r;simp only[uM,eT];rfl
noncomputable def JH (all:List Oper) (o:Oper) (f:ab):Option ab:=
 match gW n all f o.guard with
 | none=>none
 | some b=>match b with
  | true=>
   (match dv o.op with
    | some c=>(match ru E G H n c f with
     | some (g,args,f2)=>(match X g args f2.heap f2.next with
      | some r=>some (uM f2 r o.dst)
      | none=>none)
     | none=>none)
    | none=>xp E G n (readOnly H.moves all o) (lQ H all o) o f)
  | false=>some (iW f o.dst (.tup []))
theorem wl {all:List Oper} {o:Oper} {f f':ab} (h:JH X E G H n all o f=some f'):HP X E G H all o (f.al n)=some (f'.al n):=by
 unfold JH at h;unfold HP;rw[lx]
 cases hw:gW n all f o.guard with
 | none=>rw[hw] at h;simp at h
 | some b=>
  rw[hw] at h
  cases b with
  | false=>simp at h;subst h;simp[eT]
  | true=>
   dsimp only at h ⊢;rw[if_pos rfl]
   cases hc:dv o.op with
   | none=>
    rw[hc] at h;dsimp only at h ⊢;rw[uE,h];rfl
   | some c=>
    rw[hc] at h;dsimp only at h ⊢;rw[AY]
    cases hcal:ru E G H n c f with
    | none=>rw[hcal] at h;simp at h
    | some x=>
     obtain⟨g,args,f2⟩:=x;rw[hcal] at h;dsimp only[Option.map_some] at h ⊢;have e1:(f2.al n).heap=f2.heap:=rfl;have e2:(f2.al n).next=f2.next:=rfl;rw[e1,e2]
     cases hr:X g args f2.heap f2.next with
     | none=>rw[hr] at h;simp at h
     | some r=>
      rw[hr] at h;simp at h;subst h;simp[lB]
noncomputable def EB (all:List Oper) (ops:List Oper):ab->Option ab:=
 @List.rec Oper (fun _=>ab->Option ab) (fun f=>some f) (fun o _ ih f=>match JH X E G H n all o f with|some f'=>ih f'|none=>none) ops
theorem rp {all:List Oper}:∀{ops:List Oper} {f f':ab},EB X E G H n all ops f=some f'->E3 X E G H all ops (f.al n)=some (f'.al n)
 | [],f,f',h=>by
  have e:EB X E G H n all [] f=some f:=rfl;rw[e] at h;simp at h;subst h;rfl
 | o::rest,f,f',h=>by
  have e:EB X E G H n all (o::rest) f=(match JH X E G H n all o f with|some f'=>EB X E G H n all rest f'|none=>none):=rfl;rw[e] at h;simp only[E3]
  cases ho:JH X E G H n all o f with
  | none=>rw[ho] at h;simp at h
  | some f1=>
   rw[ho] at h;rw[wl X E G H n ho];exact rp h
noncomputable def wg (tk:List Nat) (t:Tmp) (f:ab):List Nat:=match Jw (rK n f t) with|true=>[]|false=>tk
theorem C4 (tk:List Nat) (t:Tmp) (f:ab):lP tk t (f.al n)=wg n tk t f:=by
 unfold lP wg;rw[jC]
 cases Jw (rK n f t) <;> rfl
noncomputable def JG (fh:Bool) (tk:List Nat) (all:List Oper) (o:Oper) (f:ab):Option ab:=
 match gW n all f o.guard with
 | none=>none
 | some b=>match b with
  | true=>
   (match dv o.op with
    | some c=>(match ny E G H n c f with
     | some (g,args,f2)=>(match hO H o with
      | true=>(match X g args [] f2.next with
       | some ⟨v,[],k⟩=>some (uM f2 ⟨v,f2.heap,k⟩ o.dst)
       | _=>none)
      | false=>(match X g args f2.heap f2.next with
       | some r=>(match !mK H o||vn f2.heap r.heap with
        | true=>some (uM f2 r o.dst)
        | false=>none)
       | none=>none))
     | none=>none)
    | none=>(match fk o.op with
     | some t=>(match mf n fh all (gk all t (wg n tk t f)) f with
      | some f1=>xp E G n false false o f1
      | none=>none)
     | none=>(match iI o.op with
      | true=>xp E G n (readOnly H.moves all o) (lQ H all o) o f
      | false=>none)))
  | false=>some (iW f o.dst (.tup []))
theorem wk {fh:Bool} {tk:List Nat} {all:List Oper} {o:Oper} {f f':ab} (h:JG X E G H n fh tk all o f=some f'):HO X E G H fh tk all o (f.al n)=some (f'.al n):=by
 unfold JG at h;unfold HO;rw[lx]
 cases hw:gW n all f o.guard with
 | none=>rw[hw] at h;simp at h
 | some b=>
  rw[hw] at h
  cases b with
  | false=>simp at h;subst h;simp[eT]
  | true=>
   dsimp only at h ⊢;rw[if_pos rfl]
   cases hc:dv o.op with
   | none=>
    rw[hc] at h;dsimp only at h ⊢
    cases ht:fk o.op with
    | none=>
     rw[ht] at h;dsimp only at h ⊢
     cases hst:iI o.op with
     | false=>rw[hst] at h;simp at h
     | true=>
      rw[hst] at h;dsimp only at h ⊢;rw[uE,h];rfl
    | some t=>
     rw[ht] at h;dsimp only at h ⊢;rw[C4]
     cases hs:mf n fh all (gk all t (wg n tk t f)) f with
     | none=>rw[hs] at h;simp at h
     | some f1=>
      rw[hs] at h;rw[oL n fh all _ _ _ hs];dsimp only at h ⊢;rw[uE,h];rfl
   | some c=>
    rw[hc] at h;dsimp only at h ⊢;rw[xz]
    cases hcal:ny E G H n c f with
    | none=>rw[hcal] at h;simp at h
    | some x=>
     obtain⟨g,args,f2⟩:=x;rw[hcal] at h;dsimp only[Option.map_some] at h ⊢;have e1:(f2.al n).heap=f2.heap:=rfl;have e2:(f2.al n).next=f2.next:=rfl;rw[e1,e2]
     cases hpu:hO H o with
     | true=>
      rw[hpu] at h;dsimp only at h ⊢
      split at h
      ·rename_i v k hr;simp at h;subst h;simp[lB,hr]
      simp at h
     | false=>
      rw[hpu] at h;dsimp only at h ⊢
      cases hr:X g args f2.heap f2.next with
      | none=>rw[hr] at h;simp at h
      | some r=>
       rw[hr] at h;dsimp only at h ⊢
       cases hst:(!mK H o||vn f2.heap r.heap) with
       | false=>rw[hst] at h;simp at h
       | true=>
        rw[hst] at h;simp at h;subst h;simp[lB]
noncomputable def G0 (tk:List Nat) (fh:Bool) (fq:Nat->Bool) (all:List Oper) (l:List (Nat×Bool)):ab->Option ab:=
 @List.rec (Nat×Bool) (fun _=>ab->Option ab) (fun f=>some f) (fun p _ ih f=>
  match all[p.1]? with
  | none=>none
  | some o=>match p.2 with
   | true=>(match JG X E G H n fh tk all o f with|some f'=>ih f'|none=>none)
   | false=>(match qt E G n (fh||fq p.1) all o f with
    | some a=>ih (iW f o.dst a)
    | none=>none)) l
theorem M3 {tk:List Nat} {fh:Bool} {fq:Nat->Bool} {all:List Oper} {i:Nat} {lone:Bool} {rest:List (Nat×Bool)} {f:ab}:G0 X E G H n tk fh fq all ((i,lone)::rest) f=(match all[i]? with
   | none=>none
   | some o=>match lone with
    | true=>(match JG X E G H n fh tk all o f with|some f'=>G0 X E G H n tk fh fq all rest f'|none=>none)
    | false=>(match qt E G n (fh||fq i) all o f with
     | some a=>G0 X E G H n tk fh fq all rest (iW f o.dst a)
     | none=>none)):=rfl
theorem rm {tk:List Nat} {fh:Bool} {fq:Nat->Bool} {all:List Oper}:∀{l:List (Nat×Bool)} {f f':ab},G0 X E G H n tk fh fq all l f=some f'->Dy X E G H tk fh fq all l (f.al n)=some (f'.al n)
 | [],f,f',h=>by
  have e:G0 X E G H n tk fh fq all [] f=some f:=rfl;rw[e] at h;simp at h;subst h;rfl
 |(i,lone)::rest,f,f',h=>by
  rw[M3] at h;simp only[Dy]
  cases hi:all[i]? with
  | none=>rw[hi] at h;simp at h
  | some o=>
   rw[hi] at h
   cases lone
   ·dsimp only at h ⊢;rw[if_neg (by simp),wh]
    cases ho:qt E G n (fh||fq i) all o f with
    | none=>rw[ho] at h;simp at h
    | some a=>
     rw[ho] at h;dsimp only at h ⊢;rw[←eT];exact rm h
   dsimp only at h ⊢;rw[if_pos rfl]
   cases ho:JG X E G H n fh tk all o f with
   | none=>rw[ho] at h;simp at h
   | some f1=>
    rw[ho] at h;rw[wk X E G H n ho];exact rm h
noncomputable def AW (all:List Oper):Nat->Array Bool->ab->Option ab
 | 0,_,f=>some f
 | m+1,listed,f=>match Region.ready .any all.toArray listed with
  | []=>some f
  | i::_=>(match all[i]? with
   | some o=>(match JH X E G H n all o f with|some f1=>AW all m (bK listed i) f1|none=>none)
   | none=>none)
noncomputable def EG (all:List Oper) (k:Nat) (s0:aa):Nat->Array Bool->ab->Bool
 | 0,listed,f=>(Region.ready .any all.toArray listed).isEmpty&&Mu k s0 (f.al n)
 | m+1,listed,f=>match Region.ready .any all.toArray listed with
  | []=>Mu k s0 (f.al n)
  | i::l=>(i::l).all fun i=>match all[i]? with
   | some o=>(match JH X E G H n all o f with|some f1=>EG all k s0 m (bK listed i) f1|none=>false)
   | none=>false
theorem xx {all:List Oper}:∀(m:Nat) (listed:Array Bool) (f f':ab),AW X E G H n all m listed f=some f'->DA X E G H all m listed (f.al n)=some (f'.al n)
 | 0,listed,f,f',h=>by simp only[AW,Option.some.injEq] at h;subst h;rfl
 | m+1,listed,f,f',h=>by
  simp only[AW] at h;simp only[DA]
  split at h
  ·rename_i he;rw[he];simp only[Option.some.injEq] at h;subst h;rfl
  rename_i i l he;rw[he];dsimp only
  split at h
  ·rename_i o ho;rw[ho];dsimp only
   split at h
   ·rename_i f1 hf1;rw[wl X E G H n hf1];exact xx m _ f1 f' h
   simp at h
  simp at h
theorem xy {all:List Oper} {k:Nat} {s0:aa}:∀(m:Nat) (listed:Array Bool) (f:ab),EG X E G H n all k s0 m listed f=true->sr X E G H all k s0 m listed (f.al n)=true
 | 0,listed,f,h=>h
 | m+1,listed,f,h=>by
  simp only[EG] at h;simp only[sr]
  split at h
  ·rename_i he;rw[he];exact h
  rename_i i l he;rw[he];dsimp only;refine List.all_eq_true.2 fun j hj=>?_
  have h1:=List.all_eq_true.1 h j hj
  split at h1
  ·rename_i o ho;rw[ho];dsimp only
   split at h1
   ·rename_i f1 hf1;rw[wl X E G H n hf1];exact xy m _ f1 h1
   simp at h1
  simp at h1
noncomputable def AS (h:aw) (all:List Oper):Nat->Array Bool->ab->Option ab
 | 0,_,f=>some f
 | m+1,listed,f=>match Region.ready .any all.toArray listed with
  | []=>none
  | i::_=>(match all[i]? with
   | some o=>(match JG X E G H n (aK H all h.pre) h.tk all o f with|some f1=>AS h all m (bK listed i) f1|none=>none)
   | none=>none)
noncomputable def EE (h:aw) (all:List Oper) (p:Array Bool) (s0:aa):Nat->Array Bool->ab->Bool
 | 0,listed,f=>rL listed.toList p.toList&&Cx s0 (f.al n)
 | m+1,listed,f=>!rL listed.toList p.toList&&!(Region.ready .any all.toArray listed).isEmpty&&(Region.ready .any all.toArray listed).all fun i=>h.pre.contains (i,true)&&(match all[i]? with
   | some o=>(match JG X E G H n (aK H all h.pre) h.tk all o f with|some f1=>EE h all p s0 m (bK listed i) f1|none=>false)
   | none=>false)
noncomputable def JP (all:List Oper) (h:aw) (f:ab):Option ab:=
 match G0 X E G H n h.tk (aK H all h.pre) (quietAt H all h.pre) all (bR h.pre) f with
 | some f1=>(match AS X E G H n h all (h.pre.length - (bR h.pre).length) (eR (bR h.pre) (Array.replicate all.length false)) f1 with
  | some f0=>(match EE X E G H n h all (eR h.pre (Array.replicate all.length false)) (f0.al n) (h.pre.length - (bR h.pre).length) (eR (bR h.pre) (Array.replicate all.length false)) f1 with
   | true=>(match oM E n all h.nw f0 with
    | some f2=>EB X E G H n all (dZ all h.tail) f2
    | none=>none)
   | false=>none)
  | none=>none)
 | none=>none
theorem xu {h:aw} {all:List Oper}:∀(m:Nat) (listed:Array Bool) (f f':ab),AS X E G H n h all m listed f=some f'->Dz X E G H h all m listed (f.al n)=some (f'.al n)
 | 0,listed,f,f',hh=>by simp only[AS,Option.some.injEq] at hh;subst hh;rfl
 | m+1,listed,f,f',hh=>by
  simp only[AS] at hh;simp only[Dz]
  split at hh
  ·simp at hh
  rename_i i l he;rw[he];dsimp only
  split at hh
  ·rename_i o ho;rw[ho];dsimp only
   split at hh
   ·rename_i f1 hf1;rw[wk X E G H n hf1];exact xu m _ f1 f' hh
   simp at hh
  simp at hh
theorem xv {h:aw} {all:List Oper} {p:Array Bool} {s0:aa}:∀(m:Nat) (listed:Array Bool) (f:ab),EE X E G H n h all p s0 m listed f=true->sq X E G H h all p s0 m listed (f.al n)=true
 | 0,listed,f,hh=>hh
 | m+1,listed,f,hh=>by
  simp only[EE,Bool.and_eq_true] at hh;simp only[sq,Bool.and_eq_true];refine⟨hh.1,List.all_eq_true.2 fun j hj=>?_⟩;have h1:=List.all_eq_true.1 hh.2 j hj;simp only[Bool.and_eq_true] at h1 ⊢;refine⟨h1.1,?_⟩;have h2:=h1.2
  split at h2
  ·rename_i o ho;rw[ho];dsimp only
   split at h2
   ·rename_i f1 hf1;rw[wk X E G H n hf1];exact xv m _ f1 h2
   simp at h2
  simp at h2
theorem G7 {all:List Oper} {h:aw} {f f':ab} (hh:JP X E G H n all h f=some f'):yF X E G H all h (f.al n)=some (f'.al n):=by
 unfold JP at hh;unfold yF
 split at hh
 ·rename_i f1 h1;rw[rm X E G H n h1];dsimp only
  split at hh
  ·rename_i f0 h0;rw[xu X E G H n _ _ _ _ h0];dsimp only
   split at hh
   ·rename_i h2;rw[xv X E G H n _ _ _ h2];dsimp only
    split at hh
    ·rename_i f2 h3;rw[kz E n all h.nw f0 f2 h3];exact rp X E G H n hh
    simp at hh
   simp at hh
  simp at hh
 simp at hh
noncomputable def G8 (all:List Oper) (h:aw) (f:ab):Option ab:=
 match gz h with
 | true=>(match AW X E G H n all all.length (Array.replicate all.length false) f with
  | some f0=>(match EG X E G H n all f.next (f0.al n) all.length (Array.replicate all.length false) f with|true=>some f0|false=>none)
  | none=>none)
 | false=>
 match gP h with
 | true=>JP X E G H n all (gh h) f
 | false=>
 match G0 X E G H n h.tk (aK H all h.pre) (quietAt H all h.pre) all h.pre f with
 | some f1=>(match oM E n all h.nw f1 with
  | some f2=>EB X E G H n all (dZ all h.tail) f2
  | none=>none)
 | none=>none
theorem JO {all:List Oper} {h:aw} {f f':ab} (hh:G8 X E G H n all h f=some f'):Kh X E G H all h (f.al n)=some (f'.al n):=by
 unfold G8 at hh;unfold Kh
 cases hx:gz h with
 | true=>
  rw[hx] at hh;dsimp only at hh;rw[if_pos rfl]
  split at hh
  ·rename_i f0 h0;rw[xx X E G H n _ _ _ _ h0];dsimp only
   split at hh
   ·rename_i h2;simp only[Option.some.injEq] at hh;subst hh
    have:=xy X E G H n _ _ _ h2
    have e:(f.al n).next=f.next:=rfl;rw[e,this]
   simp at hh
  simp at hh
 | false=>
 rw[hx] at hh;rw[if_neg (by simp)];dsimp only at hh
 cases hlm:gP h with
 | true=>
  rw[hlm] at hh;rw[if_pos rfl];exact G7 X E G H n hh
 | false=>
 rw[hlm] at hh;rw[if_neg (by simp)];dsimp only at hh
 cases h1:G0 X E G H n h.tk (aK H all h.pre) (quietAt H all h.pre) all h.pre f with
 | none=>rw[h1] at hh;simp at hh
 | some f1=>
  rw[h1] at hh;rw[rm X E G H n h1];dsimp only at hh ⊢
  cases h2:oM E n all h.nw f1 with
  | none=>rw[h2] at hh;simp at hh
  | some f2=>
   rw[h2] at hh;rw[kz E n all h.nw f1 f2 h2];exact rp X E G H n hh
noncomputable def C6 (body:ab->Option (Exit×ab)) (fuel:Nat):ab->Option (Exit×ab):=
 @Nat.rec (fun _=>ab->Option (Exit×ab)) (fun _=>none) (fun _ ih f=>match body f with
  | some (.normal,f')=>ih f'
  | r=>r) fuel
def uV:Nat->Nat->Nat->List Nat
 | 0,_,_=>[]
 | m+1,k,g=>match Nat.beq g 0 with
  | true=>[]
  | false=>(match Nat.beq (Nat.land g 1) 1 with|true=>k::uV m (k+1) (Nat.shiftRight g 1)|false=>uV m (k+1) (Nat.shiftRight g 1))
def zD (a:ac) (heap:Heap):Option (Nat×List ak):=
 match rowOf a with
 | some x=>DU x.1 x.2 (qJ (.out x.1) heap)
 | none=>none
theorem FL (a:ac) (heap:Heap):zD a heap=yh a heap:=by
 unfold zD yh
 cases rowOf a with
 | none=>rfl
 | some x=>simp only[jS]
noncomputable def Zw (n t:Nat) (f:ab):Option ab:=
 match zD (rK n f t) f.heap with
 | some (m,es)=>(match iW f (some t) (.dat (.slice es)) with
  | ⟨sl,locs,heap,next⟩=>some ⟨sl,locs,qL (.out m) heap,next⟩)
 | none=>none
noncomputable def G5 (n:Nat):List Nat->ab->Option ab
 | [],f=>some f
 | t::r,f=>(match Zw n t f with|some f'=>G5 n r f'|none=>none)
noncomputable def EA (n:Nat):List Nat->ab->ab
 | [],f=>f
 | t::r,f=>EA n r (xt false (uJ f [rK n f t]) f []).1
noncomputable def lA (n mask:Nat) (f:ab):Option ab:=
 match Nat.beq (Nat.shiftRight mask 4096) 0 with
 | true=>some f
 | false=>G5 n (uV 1000 0 (Nat.land (Nat.shiftRight mask 4096) (2 ^ 1024 - 1))) (EA n (uV 1000 0 (Nat.shiftRight mask 5120)) f)
theorem JN {n t:Nat} {f f':ab} (h:Zw n t f=some f'):gF G (f.al n) (f'.al n):=by
 unfold Zw at h;rw[FL] at h
 split at h
 ·rename_i m es hv;have e:DV t (f.al n)=some (f'.al n):=by
   unfold DV;rw[jC];have e2:(f.al n).heap=f.heap:=rfl;rw[e2,hv];have hp:=eT (n:=n) f (some t) (.dat (.slice es));generalize iW f (some t) (.dat (.slice es))=g at h hp;obtain⟨sl,locs,heap,next⟩:=g;simp only[Option.some.injEq] at h;subst h;simp only[ab.al,aa.put,lE] at hp ⊢;have q1:=congrArg aa.tmps hp;have q2:=congrArg aa.locs hp;have q3:=congrArg aa.heap hp;have q4:=congrArg aa.next hp;simp only at q1 q2 q3 q4;rw[q1,q2,q3,q4]
  exact MX e
 simp at h
theorem xw {n:Nat}:∀(l:List Nat) {f f':ab},G5 n l f=some f'->gF G (f.al n) (f'.al n)
 | [],f,f',h=>by simp[G5] at h;subst h;exact .refl _ _
 | t::r,f,f',h=>by
  simp only[G5] at h
  split at h
  ·rename_i f1 h1;exact (JN G h1).trans (xw r h)
  simp at h
theorem uH {n:Nat}:∀(l:List Nat) (f:ab),gF G (f.al n) ((EA n l f).al n)
 | [],f=>.refl _ _
 | t::r,f=>by
  simp only[EA];refine gF.trans ?_ (uH r _);have h:=JD (G:=G) (uJ f [rK n f t]) (f.al n);rw[uI] at h;exact h
theorem oO {n mask:Nat} {f f':ab} (h:lA n mask f=some f'):gF G (f.al n) (f'.al n):=by
 unfold lA at h
 split at h
 ·simp at h;subst h;exact .refl _ _
 exact (uH G _ _).trans (xw G _ h)
noncomputable def iO (live:Nat->Nat) (fuel:Nat) (c:Code):ab->Option (Exit×ab):=
 Code.rec (motive:=fun _=>ab->Option (Exit×ab))
  (skip:=fun f=>some (.normal,f))
  (region:=fun id ops draw f=>
   (match (match draw with|true=>G8 X E G H n ops.toList (H.ord id) f|false=>EB X E G (H.at id) n ops.toList ops.toList f) with
    | some f'=>(match lA n (live id) (iL f' (fun l=>eE l (live id))) with|some f2=>some (.normal,f2)|none=>none)
    | none=>none))
  (seq:=fun _ _ ix iy f=>(match ix f with
   | some (.normal,f')=>iy f'
   | r=>r))
  (cond:=fun c _ _ ix iy f=>(match py G n f c with
   | .dat (.flat (.bool b))=>(match b with|true=>ix f|false=>iy f)
   | _=>none))
  (block:=fun id _ ic f=>(match ic f with
   | some (.exit i,f')=>(match Nat.beq i id with|true=>some (.normal,f')|false=>some (.exit i,f'))
   | r=>r))
  (loop:=fun _ ic f=>C6 ic fuel f)
  (rangeFunc:=fun _ _ _ _ _ _ _=>none)
  (exit:=fun id f=>some (.exit id,f))
  (scope:=fun _ ic f=>(match ic f with
   | some (.goto _,_)=>none
   | r=>r))
  (label:=fun _ f=>some (.normal,f))
  (goto:=fun _ _=>none)
  (ret:=fun f=>some (.ret,f))
  (refuse:=fun _ _=>none) c
theorem Ha {live:Nat->Nat} {fuel:Nat} {c:Code} {f:ab}:iO X E G H n live fuel (.scope c) f=(match iO X E G H n live fuel c f with
   | some (.goto _,_)=>none
   | r=>r):=rfl
theorem M6 {live:Nat->Nat} {fuel:Nat} {x y:Code} {f:ab}:iO X E G H n live fuel (.seq x y) f=(match iO X E G H n live fuel x f with
   | some (.normal,f')=>iO X E G H n live fuel y f'
   | r=>r):=rfl
theorem Hb {live:Nat->Nat} {fuel:Nat} {id:Nat} {c:Code} {f:ab}:iO X E G H n live fuel (.block id c) f=(match iO X E G H n live fuel c f with
   | some (.exit i,f')=>(match Nat.beq i id with|true=>some (.normal,f')|false=>some (.exit i,f'))
   | r=>r):=rfl
theorem JQ {live:Nat->Nat} {fuel:Nat} {c:Operand} {x y:Code} {f:ab}:iO X E G H n live fuel (.cond c x y) f=(match py G n f c with
   | .dat (.flat (.bool b))=>(match b with|true=>iO X E G H n live fuel x f|false=>iO X E G H n live fuel y f)
   | _=>none):=rfl
theorem EH {live:Nat->Nat} {fuel:Nat} {id:Nat} {ops:Array Oper} {draw:Bool} {f:ab}:iO X E G H n live fuel (.region id ops draw) f =
   (match (match draw with|true=>G8 X E G H n ops.toList (H.ord id) f|false=>EB X E G (H.at id) n ops.toList ops.toList f) with
    | some f'=>(match lA n (live id) (iL f' (fun l=>eE l (live id))) with|some f2=>some (.normal,f2)|none=>none)
    | none=>none):=rfl
theorem G1 {P:Program} {c:Code} {body:ab->Option (Exit×ab)} (hb:∀f e f',body f=some (e,f')->∀Q:Exit->aa->Prop,Q e (f'.al n)->cL P G c Q (f.al n)) {k:Nat} {f f':ab} {e:Exit}
  (h:C6 body k f=some (e,f')) {Q:Exit->aa->Prop} (hQ:Q e (f'.al n)):cL P G (.loop c) Q (f.al n):=by
 intro w R N act bsT bsL bsH bsF hr D hd;refine wp_loop_ghost (I:=fun k a w'=>∃f1 R' N' bsT' bsL' bsH',C6 body k f1=some (e,f')/\dw G w' R' N' a.tmps.toList (f1.al n) undef .undef [] bsT' bsL' bsH' bsF/\a.defers=D/\bp w R w' R' bsF/\(∀o b,N (.out o)=some b->N' (.out o)=some b)) (n0:=k) ?_ ?_
 ·exact⟨f,R,N,bsT,bsL,bsH,h,hr,hd,aZ _,fun _ _ h=>h⟩
 rintro k a w' ⟨f1,R',N',bsT',bsL',bsH',hx,hr',hd',hk,hN⟩
 cases k with
 | zero=>exact absurd hx (by intro hx;cases hx)
 | succ k=>
  have hx:(match body f1 with
   | some (.normal,f')=>C6 body k f'
   | r=>r)=some (e,f'):=hx
  have key:∀e1 f2,body f1=some (e1,f2)->(e1=.normal->C6 body k f2=some (e,f'))->(e1≠.normal->e1=e/\f2=f')->c.wp P (Exit.then (fun a' w'=>∃n',n' < k+1/\∃f1 R' N' bsT' bsL' bsH',C6 body n' f1=some (e,f')/\dw G w' R' N' a'.tmps.toList (f1.al n) undef .undef [] bsT' bsL' bsH' bsF/\a'.defers=D/\bp w R w' R' bsF/\(∀o b,N (.out o)=some b->N' (.out o)=some b)) (Dx G D Q w R N bsF)) a w':=by
   intro e1 f2 hbody h1 h2;refine wp_mono (hb f1 e1 f2 hbody (fun e' s''=>e'=e1/\s''=f2.al n) ⟨rfl,rfl⟩ w' R' N' a bsT' bsL' bsH' bsF hr' hd') ?_;rintro e3 a3 w3 ⟨s3,R3,N3,bsT3,bsL3,bsH3,⟨rfl,rfl⟩,hr3,hd3,hk3,hN3⟩
   by_cases he:e3=.normal
   ·subst he;exact⟨k,Nat.lt_succ_self k,f2,R3,N3,bsT3,bsL3,bsH3,h1 rfl,hr3,hd3,hk.trans hk3,fun o b h=>hN3 o b (hN o b h)⟩
   obtain⟨rfl,rfl⟩:=h2 he
   have:Dx G D Q w R N bsF e3 a3 w3:=⟨_,R3,N3,bsT3,bsL3,bsH3,hQ,hr3,hd3,hk.trans hk3,fun o b h=>hN3 o b (hN o b h)⟩
   cases e3 with
   | normal=>exact (he rfl).elim
   | _=>exact this
  cases hbd:body f1 with
  | none=>rw[hbd] at hx;simp at hx
  | some r=>
   obtain⟨e1,f2⟩:=r;rw[hbd] at hx
   cases e1 with
   | normal=>exact key _ _ hbd (fun _=>hx) (fun h=>(h rfl).elim)
   | _=>simp at hx;exact key _ _ hbd (fun h=>by simp at h) (fun _=>hx)
theorem xL {P:Program} {c:Code} {s s2:aa} {Q:Exit->aa->Prop} (h:cL P G c (fun e s'=>e=.normal/\s'=s2) s) {s3:aa} (hg:gF G s2 s3) (hQ:Q .normal s3):cL P G c Q s:=by
 intro w R N act bsT bsL bsH bsF hr D hd;refine wp_mono (h w R N act bsT bsL bsH bsF hr hd) ?_;rintro e a w' ⟨s',R',N',bsT',bsL',bsH',⟨rfl,rfl⟩,hr',hd',hk,hN⟩;obtain⟨R2,N2,t2,l2,h2,hr2,hk2,hN2⟩:=hg _ _ _ _ _ _ _ _ hr';exact⟨s3,R2,N2,t2,l2,h2,hQ,hr2,hd',hk.trans hk2,fun o b ho=>hN2 o b (hN o b ho)⟩
theorem BA {P:Program} {c:Code} {s s2:aa} {Q:Exit->aa->Prop} (h:cL P G c (fun e s'=>e=.normal/\s'=s2) s) {s3:aa}
  (hw:∀(w:World) (R:Own) (N:Name->Option Nat) (tmps:List Value) (bsT bsL bsH bsF:List Nat),dw G w R N tmps s2 undef .undef [] bsT bsL bsH bsF->∃bsT',dw G w R N tmps s3 undef .undef [] bsT' bsL bsH bsF) (hQ:Q .normal s3):cL P G c Q s:=by
 intro w R N act bsT bsL bsH bsF hr D hd;refine wp_mono (h w R N act bsT bsL bsH bsF hr hd) ?_;rintro e a w' ⟨s',R',N',bsT',bsL',bsH',⟨rfl,rfl⟩,hr',hd',hk,hN⟩;obtain⟨bsT2,hr2⟩:=hw _ _ _ _ _ _ _ _ hr';exact⟨s3,R',N',bsT2,bsL',bsH',hQ,hr2,hd',hk,hN⟩
theorem fj {P:Program} (hE:E.Ok P) (hX:Kg P G X) (live:Nat->Nat) (fuel:Nat):∀(c:Code) (f f':ab) (e:Exit),dh H c=true->iO X E G H n live fuel c f=some (e,f')->∀Q:Exit->aa->Prop,Q e (f'.al n)->cL P G c Q (f.al n)
 | .skip,f,f',e,_,h,Q,hQ=>by
  have h:some (Exit.normal,f)=some (e,f'):=h;simp at h;obtain⟨rfl,rfl⟩:=h;exact gD wp_skip hQ
 | .region id ops draw,f,f',e,hc,h,Q,hQ=>by
  rw[EH] at h
  cases draw
  ·dsimp only at h
   cases h1:EB X E G (H.at id) n ops.toList ops.toList f with
   | none=>rw[h1] at h;simp at h
   | some f1=>
    rw[h1] at h;dsimp only at h
    cases h2:lA n (live id) (iL f1 (fun l=>eE l (live id))) with
    | none=>rw[h2] at h;simp at h
    | some f2=>
    rw[h2] at h;simp at h;obtain⟨rfl,rfl⟩:=h;refine xL G (BA G (uY hE (nN hX (rp X E G (H.at id) n h1) ⟨rfl,rfl⟩)) ?_ ⟨rfl,rfl⟩) (oO G h2) hQ;intro w R N tmps bsT bsL bsH bsF hr;exact hr.prune _
  dsimp only at h
  cases h1:G8 X E G H n ops.toList (H.ord id) f with
  | none=>rw[h1] at h;simp at h
  | some f1=>
   rw[h1] at h;dsimp only at h
   cases h2:lA n (live id) (iL f1 (fun l=>eE l (live id))) with
   | none=>rw[h2] at h;simp at h
   | some f2=>
   rw[h2] at h;simp at h;obtain⟨rfl,rfl⟩:=h;refine xL G (BA G (BB hE hE.mixed (by simpa [dh] using hc) (E4 hX (JO X E G H n h1) ⟨rfl,rfl⟩)) ?_ ⟨rfl,rfl⟩) (oO G h2) hQ;intro w R N tmps bsT bsL bsH bsF hr;exact hr.prune _
 | .seq x y,f,f',e,hc,h,Q,hQ=>by
  simp only[dh,Bool.and_eq_true] at hc;rw[M6] at h;refine wK ?_
  cases hx:iO X E G H n live fuel x f with
  | none=>rw[hx] at h;simp at h
  | some r=>
   obtain⟨e1,f1⟩:=r;rw[hx] at h;refine fj hE hX live fuel x f f1 e1 hc.1 hx _ ?_
   cases e1 with
   | normal=>exact fj hE hX live fuel y f1 f' e hc.2 h Q hQ
   | _=>simp at h;obtain⟨rfl,rfl⟩:=h;exact hQ
 | .cond c x y,f,f',e,hc,h,Q,hQ=>by
  simp only[dh,Bool.and_eq_true] at hc;intro w R N act bsT bsL bsH bsF hr D hd;rw[JQ] at h
  split at h
  ·rename_i b hb;obtain⟨bs,he⟩:=qw hr.tmps hr.glob c;rw[nv,hb] at he;obtain⟨_,he,_⟩:=aC he;refine wp_cond he ?_
   cases b
   ·exact fj hE hX live fuel y f f' e hc.2 h Q hQ w R N act bsT bsL bsH bsF hr hd
   exact fj hE hX live fuel x f f' e hc.1 h Q hQ w R N act bsT bsL bsH bsF hr hd
  simp at h
 | .block id c,f,f',e,hc,h,Q,hQ=>by
  simp only[dh] at hc;rw[Hb] at h
  cases hx:iO X E G H n live fuel c f with
  | none=>rw[hx] at h;simp at h
  | some r=>
   obtain⟨e1,f1⟩:=r;rw[hx] at h;intro w R N act bsT bsL bsH bsF hr D hd
   apply wp_block
   refine wp_mono (fj hE hX live fuel c f f1 e1 hc hx (fun e' s''=>e'=e1/\s''=f1.al n) ⟨rfl,rfl⟩ w R N act bsT bsL bsH bsF hr hd) ?_;rintro e2 a w' ⟨s2,R',N',bsT',bsL',bsH',⟨rfl,rfl⟩,rest⟩
   cases e2 with
   | exit i=>
    simp only[Exit.inBlock];dsimp only at h
    by_cases hi:i=id
    ·have hb:Nat.beq i id=true:=by rw[Nat.beq_eq];exact hi
     rw[if_pos hi];rw[hb] at h;simp at h;obtain⟨rfl,rfl⟩:=h;exact⟨_,R',N',bsT',bsL',bsH',hQ,rest⟩
    have hb:Nat.beq i id=false:=by rw[Bool.eq_false_iff];intro hc;rw[Nat.beq_eq] at hc;exact hi hc
    rw[if_neg hi];rw[hb] at h;simp at h;obtain⟨rfl,rfl⟩:=h;exact⟨_,R',N',bsT',bsL',bsH',hQ,rest⟩
   | _=>simp at h;obtain⟨rfl,rfl⟩:=h;exact⟨_,R',N',bsT',bsL',bsH',hQ,rest⟩
 | .exit id,f,f',e,_,h,Q,hQ=>by
  have h:some (Exit.exit id,f)=some (e,f'):=h;simp at h;obtain⟨rfl,rfl⟩:=h;exact gD wp_exit hQ
 | .ret,f,f',e,_,h,Q,hQ=>by
  have h:some (Exit.ret,f)=some (e,f'):=h;simp at h;obtain⟨rfl,rfl⟩:=h;exact gD wp_ret hQ
 | .loop c,f,f',e,hc,h,Q,hQ=>by
  simp only[dh] at hc;exact G1 G n (fun f e f' hb Q hQ=>fj hE hX live fuel c f f' e hc hb Q hQ) h hQ
 | .rangeFunc _ _ _ _,_,_,_,_,h,_,_=>by cases h
 | .scope c,f,f',e,hc,h,Q,hQ=>by
  simp only[dh] at hc;rw[Ha] at h
  cases hx:iO X E G H n live fuel c f with
  | none=>rw[hx] at h;simp at h
  | some r=>
   obtain⟨e1,f1⟩:=r;rw[hx] at h;intro w R N act bsT bsL bsH bsF hr D hd
   apply wp_scope_straight
   refine wp_mono (fj hE hX live fuel c f f1 e1 hc hx (fun e' s''=>e'=e1/\s''=f1.al n) ⟨rfl,rfl⟩ w R N act bsT bsL bsH bsF hr hd) ?_;rintro e2 a w' ⟨s2,R',N',bsT',bsL',bsH',⟨rfl,rfl⟩,rest⟩
   cases e2 with
   | goto l=>simp at h
   | _=>simp at h;obtain⟨rfl,rfl⟩:=h;exact⟨_,R',N',bsT',bsL',bsH',hQ,rest⟩
 | .label _,f,f',e,_,h,Q,hQ=>by
  have h:some (Exit.normal,f)=some (e,f'):=h;simp at h;obtain⟨rfl,rfl⟩:=h;exact gD wp_label hQ
 | .goto _,_,_,_,_,h,_,_=>by cases h
 | .refuse _,_,_,_,_,h,_,_=>by cases h
noncomputable def uL (f:ab) (a:Tmp) (t:TypeId):Option ac:=
 match rK n f a with
 | .ptr k off=>(match Rc f k,E.ty t with
  | some (.cells cs),some i=>loadCells i off cs
  | _,_=>none)
 | _=>none
theorem Hc (f:ab) (a:Tmp) (t:TypeId):yC E (f.al n) a t=uL E n f a t:=by
 unfold yC uL;rw[jC]
 cases rK n f a with
 | ptr k off=>dsimp only;rw[EC];rfl
 | _=>rfl
noncomputable def iK:ab->List ResultVar->Option (List ac)
 | _,[]=>some []
 | f,.tmp t::r=>(match iK (uK n f (some 0) [.tmp t]) r with|some vs=>some (rK n f t::vs)|none=>none)
 | f,.cell a t::r=>(match uL E n f a t,iK f r with|some v,some vs=>some (v::vs)|_,_=>none)
theorem qu:∀(rs:List ResultVar) (f:ab),gU E (f.al n) rs=iK E n f rs
 | [],_=>rfl
 | .tmp t::r,f=>by
  simp only[gU,iK,←AX,qu r,jC]
  cases iK E n (uK n f (some 0) [.tmp t]) r <;> rfl
 | .cell a t::r,f=>by
  simp only[gU,iK,Hc,qu r]
  cases uL E n f a t <;> cases iK E n f r <;> rfl
noncomputable def G6:List Name->ab->List ac->ab×List ac
 | [],f,args=>(f,args)
 | k::ks,f,args=>
  (match (aU k args||jL k f.locs) with
   | true=>(match wj true k f args with
   | some (f',args')=>G6 ks f' args'
   | none=>G6 ks f args)
   | false=>G6 ks f args)
theorem yB:∀(ks:List Name) (f:ab) (args:List ac),hY ks (f.al n) args=((G6 ks f args).1.al n,(G6 ks f args).2)
 | [],_,_=>rfl
 | k::ks,f,args=>by
  simp only[hY,G6,C5];have e:(f.al n).locs=f.locs:=rfl;rw[e]
  cases (aU k args||jL k f.locs) with
  | false=>rw[if_neg (by simp)];exact yB ks f args
  | true=>
   rw[if_pos rfl]
   cases wj true k f args with
   | none=>exact yB ks f args
   | some x=>exact yB ks x.1 x.2
noncomputable def sU (rs:List ResultVar) (f:ab):Option eX:=
 match iK E n f rs with
 | none=>none
 | some vs=>
  match aW (jF vs) with
  | true=>some ⟨pack (jF vs),f.heap,f.next⟩
  | false=>match G6 (repeatL f.locs.length (nq f.locs)) f (jF vs) with
   |(f',vs')=>if aW vs'=true then some ⟨pack vs',f'.heap,f'.next⟩ else none
theorem yz (rs:List ResultVar) (f:ab):SB E rs (f.al n)=sU E n rs f:=by
 unfold SB sU;rw[qu]
 cases iK E n f rs with
 | none=>rfl
 | some vs=>
  dsimp only
  cases aW (jF vs) with
  | true=>rw[if_pos rfl];rfl
  | false=>
   rw[if_neg (by simp)];dsimp only;have e:(f.al n).locs=f.locs:=rfl;rw[e,yB];generalize G6 (repeatL f.locs.length (nq f.locs)) f (jF vs)=pr;obtain⟨f',vs'⟩:=pr;rfl
def rG:Nat->List ac->Sl
 | _,[]=>[]
 | k,a::r=>(k,a)::rG (k+1) r
theorem pS:∀(as:List ac) (k t:Nat),rJ (rG k as) t=if k<=t then bq as (t - k) else .undef
 | [],k,t=>by
  rw[rG,AM]
  split <;> simp[bq]
 | a::r,k,t=>by
  rw[rG,ij,pS r (k+1) t]
  by_cases h:k=t
  ·subst h;simp[bq]
  rw[if_neg h]
  by_cases h2:k<=t
  ·rw[if_pos (by omega),if_pos h2];unfold bq;rw[show t - k=(t - (k+1))+1 by omega];simp
  rw[if_neg (by omega),if_neg h2]
end
section
variable (E:bz) (G:bA) (moves caps:FuncId->Bool) (F:FuncId->Option qS) (M:lH) (fuel:Nat)
noncomputable def C8:Nat->lH
 | 0=>fun _ _ _ _=>none
 | k+1=>fun g args heap next=>
  match F g with
  | none=>none
  | some x=>match Nat.ble args.length x.ntmps with
   | false=>none
   | true=>(match iO (fun g args heap next=>match M g args heap next with|some r=>some r|none=>C8 k g args heap next) E G ⟨moves,x.ord,caps,rowsOf caps g⟩ x.ntmps x.live fuel x.code ⟨rG 0 args,[],heap,next⟩ with
    | some (.ret,f)=>(match sU E x.ntmps x.results f with|some r=>some (M0 next r)|none=>none)
    | some (.normal,f)=>(match sU E x.ntmps x.results f with|some r=>some (M0 next r)|none=>none)
    | _=>none)
variable {E G moves caps F M}
theorem xA {P:Program} (hE:E.Ok P) (hF:Z9 P moves caps F) (hM:Kg P G M):∀k,Kg P G (C8 E G moves caps F M fuel k)
 | 0=>by intro f args heap next r h;cases h
 | k+1=>by
  intro g args heap next r h;simp only[C8] at h
  split at h
  ·simp at h
  rename_i x hx;obtain⟨fn,h1,h2,h3,h4,h5⟩:=hF g x hx;have ih:=xA hE hF hM k;have hX:Kg P G (fun g args heap next=>match M g args heap next with|some r=>some r|none=>C8 E G moves caps F M fuel k g args heap next):=by
   intro g args heap next r h;dsimp only at h
   split at h
   ·rename_i r' hr';simp at h;subst h;exact hM _ _ _ _ _ hr'
   exact ih _ _ _ _ _ h
  split at h
  ·simp at h
  rename_i hlen;have hlen:=fD hlen;have hent:(⟨rG 0 args,[],heap,next⟩:ab).al x.ntmps=enter x.ntmps args heap next:=by
   simp only[ab.al,enter];congr 1
   apply List.ext_getElem?
   intro i;rw[kq,Nat.zero_add,pS,if_pos (Nat.zero_le _),Nat.sub_zero,List.getElem?_append]
   split
   ·split
    ·rename_i hi;unfold bq;rw[List.getElem?_eq_getElem hi]
    rename_i hi1 hi;rw[List.getElem?_replicate,if_pos (by omega)];unfold bq;rw[List.getElem?_eq_none (by omega)]
   rename_i hi;rw[if_neg (by omega),List.getElem?_replicate,if_neg (by omega)]
  have key:∀e f,iO (fun g args heap next=>match M g args heap next with|some r=>some r|none=>C8 E G moves caps F M fuel k g args heap next) E G ⟨moves,x.ord,caps,rowsOf caps g⟩ x.ntmps x.live fuel x.code ⟨rG 0 args,[],heap,next⟩=some (e,f)->e=.ret∨e=.normal->
    (match sU E x.ntmps x.results f with|some r=>some (M0 next r)|none=>none)=some r->ay P G g args heap next (XQ r):=by
   intro e f hx he hr
   cases hf:sU E x.ntmps x.results f with
   | none=>rw[hf] at hr;simp at hr
   | some r0=>
    rw[hf] at hr;simp at hr;subst hr
    apply ay.gc
    refine gX hE h1 h2 ?_;intro _ _;rw[h3,h4,←hent];refine fj _ E G ⟨moves,x.ord,caps,rowsOf caps g⟩ x.ntmps hE hX x.live fuel x.code _ _ _ (by rw[eM];exact h5) hx _ ?_
    have:=nL (E:=E) (rs:=x.results) (s:=f.al x.ntmps) (r:=r0) (by rw[yz];exact hf)
    rcases he with rfl|rfl <;> exact this
  split at h
  ·rename_i f hf;exact key _ _ hf (.inl rfl) h
  ·rename_i f hf;exact key _ _ hf (.inr rfl) h
  simp at h
end
end Go.Tp
namespace Go.Tp
variable {P:Program} {G:bA}
end Go.Tp
namespace Go.Tp
mutual
def NB:ac->Bool
 | .dat _=>true
 | .own _=>true
 | .ref _=>true
 | .undef=>true
 | .agg cs=>Jc cs
 | .tup cs=>Jc cs
 | .fn _ x y=>Jc x&&Jc y
 | .ptr _ _=>false
 | .map _=>false
 | .win _ _ _ _=>false
def Jc:List ac->Bool
 | []=>true
 | a::r=>NB a&&Jc r
end
section
variable {w:World} {R:Own} {N N':Name->Option Nat}
mutual
theorem ai.nm:∀{a:ac} {v:Value} {bs:List Nat},ai w R N a v bs->NB a=true->ai w R N' a v bs
 | .dat _,_,_,h,_=>by simp only[ai] at h ⊢;exact h
 | .own _,_,_,h,_=>by simp only[ai] at h ⊢;exact h
 | .ref _,_,_,h,_=>by simp only[ai] at h ⊢;exact h
 | .ptr _ _,_,_,_,hn=>by simp[NB] at hn
 | .map _,_,_,_,hn=>by simp[NB] at hn
 | .win _ _ _ _,_,_,_,hn=>by simp[NB] at hn
 | .fn _ x y,_,_,h,hn=>by
  simp only[NB,Bool.and_eq_true] at hn;simp only[ai] at h ⊢;obtain⟨h1,vs,us,e,h2,h3⟩:=h;exact⟨h1,vs,us,e,ah.nm (l:=x) h2 hn.1,ah.nm (l:=y) h3 hn.2⟩
 | .agg cs,_,_,h,hn=>by
  simp only[NB] at hn;simp only[ai] at h ⊢;obtain⟨vs,e,h⟩:=h;exact⟨vs,e,ah.nm (l:=cs) h hn⟩
 | .tup cs,_,_,h,hn=>by
  simp only[NB] at hn;simp only[ai] at h ⊢;obtain⟨vs,e,h⟩:=h;exact⟨vs,e,ah.nm (l:=cs) h hn⟩
 | .undef,_,_,h,_=>by simp only[ai] at h ⊢;exact h
theorem ah.nm:∀{l:List ac} {vs:List Value} {bs:List Nat},ah w R N l vs bs->Jc l=true->ah w R N' l vs bs
 | [],_,_,h,_=>by simp only[ah] at h ⊢;exact h
 | a::l,_,_,h,hn=>by
  simp only[Jc,Bool.and_eq_true] at hn;simp only[ah] at h ⊢;obtain⟨v,vs',b1,b2,e1,e2,h1,h2⟩:=h;exact⟨v,vs',b1,b2,e1,e2,ai.nm (a:=a) h1 hn.1,ah.nm (l:=l) h2 hn.2⟩
end
end
variable {P:Program} {G:bA}
end Go.Tp
namespace Go.Tp
inductive Qy (α:Type):Type where
 |fin (a:α)
 |fail
 |bool (t:Nat) (b:Bool) (k:Bool->Qy α)
 |out (t:Nat) (o:Option Out) (k:Out->Qy α)
 |res (g:FuncId) (args:List ac) (heap:Heap) (next:Nat) (k:eX->Qy α)
 |stay (h h':Heap) (k:Qy α)
 |loop (n:Nat) (c:Code) (f:ab) (k:Exit×ab->Qy α)
 |both (a b:Qy α)
section
variable (P:Program) (G:bA) {α:Type} (T:α->Prop)
def Qy.tg:Qy α->Prop
 | .fin a=>T a
 | .fail=>False
 | .bool _ b k=>(k b).tg
 | .out _ o k=>∃x,o=some x/\(k x).tg
 | .res g args heap next k=>ay P G g args heap next (fun v h m=>nH v->yc h->(k ⟨v,h,m⟩).tg)
 | .stay h h' k=>Sk h h'/\k.tg
 | .loop n c f k=>cL P G (.loop c) (fun e s=>∃f',s=f'.al n/\(k (e,f')).tg) (f.al n)
 | .both a b=>a.tg/\b.tg
end
def Gf (o:Oper):Nat:=
 match o.dst with
 | some t=>t
 | none=>(match o.op with
  | .store _ (.tmp u) _=>100000+u
  | .mapUpdate _ (.tmp u) _ _=>100000+u
  | .insert _ (.tmp u) _ _=>100000+u
  | .call c=>(match c.args.toList with|.tmp u::_=>100000+u|_=>0)
  | _=>0)
section
variable {α:Type} (A B:Nat->Bool) (E:bz) (G:bA) (H:Hints) (n:Nat)
noncomputable def vG (d:Option Tmp) (f:ab) (k:ab->Qy α):Qy α:=
 match d with
 | none=>k f
 | some t=>(match A t with
  | true=>(match rK n f t with
   | .dat (.flat (.bool b))=>.bool t b (fun b=>k (iW f (some t) (.dat (.flat (.bool b)))))
   | _=>k f)
  | false=>k f)
def oJ (k:Option Name) (out:Out):Option aL:=
 match out with
 | ⟨_,eff⟩=>match eff with
  | .grow ob' _ _=>some ob'
  | .set ob'=>(match k with
   | some (.out _)=>some ob'
   | _=>none)
  | _=>none
noncomputable def AV (o:Oper) (k:Option Name) (f:ab) (out:Out):Option ab:=
 match out with
 | ⟨_,eff⟩=>match eff with
  | .grow ob' sz len=>(match f with
   | ⟨sl,locs,heap,next⟩=>match k with
    | some (.loc j)=>some (iW ⟨sl,qL (.loc j) locs,(.out next,ob')::heap,next+1⟩ o.dst (.win (.out next) sz 0 len))
    | some (.out j)=>some (iW ⟨sl,locs,(.out next,ob')::qL (.out j) heap,next+1⟩ o.dst (.win (.out next) sz 0 len))
    | none=>some (iW ⟨sl,locs,(.out next,ob')::heap,next+1⟩ o.dst (.win (.out next) sz 0 len)))
  | .set ob'=>(match f with
   | ⟨sl,locs,heap,next⟩=>match k with
    | some (.out j)=>(match out with|⟨val,_⟩=>some (iW ⟨sl,locs,qG (.out j) ob' heap,next⟩ o.dst val))
    | _=>none)
  | _=>none
theorem M5 {o:Oper} {k:Option Name} {f f':ab} {out:Out} {ob:aL} (h1:oJ k out=some ob) (h2:bh ob=true) (h3:AV o k f out=some f'):ly o k f out=some f':=by
 obtain⟨val,eff⟩:=out;obtain⟨sl,locs,heap,next⟩:=f
 cases eff with
 | grow ob' sz len=>
  simp only[oJ,Option.some.injEq] at h1;subst h1
  rcases k with _|⟨_|_⟩ <;> simp only[AV] at h3 <;> simp only[ly,h2,if_true] <;> exact h3
 | set ob'=>
  rcases k with _|⟨_|_⟩
  ·simp[oJ] at h1
  ·simp[oJ] at h1
  simp only[oJ,Option.some.injEq] at h1;subst h1;simp only[AV] at h3;simp only[ly,rl,h2,if_true];exact h3
 | _=>simp[oJ] at h1
noncomputable def FZ (q take:Bool) (o:Oper) (f:ab) (k:ab->Qy α):Qy α:=
 match B (Gf o) with
 | true=>.out (Gf o) (jE E take o.op (gf G n f (kp q o.op) 0 (opsL o.op)) (rq f o.op (gf G n f (kp q o.op) 0 (opsL o.op))))
   (fun out=>match oJ (looks o.op (gf G n f (kp q o.op) 0 (opsL o.op))) out with
    | some ob=>.bool (Gf o+500000) (bh ob) (fun b=>match b with
     | true=>(match AV o (looks o.op (gf G n f (kp q o.op) 0 (opsL o.op))) (uK n f (kp q o.op) (opsL o.op)) out with
      | some f'=>vG A n o.dst f' k
      | none=>.fail)
     | false=>.fail)
    | none=>(match ly o (looks o.op (gf G n f (kp q o.op) 0 (opsL o.op))) (uK n f (kp q o.op) (opsL o.op)) out with
     | some f'=>vG A n o.dst f' k
     | none=>.fail))
 | false=>(match xp E G n q take o f with
  | some f'=>vG A n o.dst f' k
  | none=>.fail)
noncomputable def Pc (all:List Oper) (o:Oper) (f:ab) (k:ab->Qy α):Qy α:=
 match gW n all f o.guard with
 | none=>.fail
 | some b=>match b with
  | true=>
   (match dv o.op with
    | some c=>(match ru E G H n c f with
     | some (g,args,f2)=>.res g args f2.heap f2.next (fun r=>vG A n o.dst (uM f2 r o.dst) k)
     | none=>.fail)
    | none=>FZ A B E G n (readOnly H.moves all o) (lQ H all o) o f k)
  | false=>k (iW f o.dst (.tup []))
noncomputable def O9 (all:List Oper) (ops:List Oper):ab->(ab->Qy α)->Qy α:=
 @List.rec Oper (fun _=>ab->(ab->Qy α)->Qy α) (fun f k=>k f) (fun o _ ih f k=>Pc A B E G H n all o f (fun f'=>ih f' k)) ops
noncomputable def zU (fh:Bool) (all:List Oper) (o:Oper) (f:ab) (k:ac->Qy α):Qy α:=
 match B (Gf o) with
 | true=>(match gW n all f o.guard with
  | none=>.fail
  | some b=>match b with
   | true=>(match oE o.op with
    | true=>(match jE E false o.op [] none with|some _=>k .undef|none=>.fail)
    | false=>(match dv o.op with
     | some _=>.fail
     | none=>(match jf o.op&&qk fh (looks o.op (gf G n f none 0 (opsL o.op))) with
      | true=>.out (Gf o) (jE E false o.op (gf G n f none 0 (opsL o.op)) (rq f o.op (gf G n f none 0 (opsL o.op)))) (fun out=>match out with|⟨v,.keep⟩=>k v|_=>.fail)
      | false=>.fail)))
   | false=>k (.tup []))
 | false=>(match qt E G n fh all o f with
  | some a=>k a
  | none=>.fail)
noncomputable def Pb (fh:Bool) (tk:List Nat) (all:List Oper) (o:Oper) (f:ab) (k:ab->Qy α):Qy α:=
 match gW n all f o.guard with
 | none=>.fail
 | some b=>match b with
  | true=>
   (match dv o.op with
    | some c=>(match ny E G H n c f with
     | some (g,args,f2)=>(match hO H o with
      | true=>.res g args [] f2.next (fun r=>match r with
       | ⟨v,[],m⟩=>vG A n o.dst (uM f2 ⟨v,f2.heap,m⟩ o.dst) k
       | _=>.fail)
      | false=>.res g args f2.heap f2.next (fun r=>match mK H o with
       | true=>.stay f2.heap r.heap (vG A n o.dst (uM f2 r o.dst) k)
       | false=>vG A n o.dst (uM f2 r o.dst) k))
     | none=>.fail)
    | none=>(match fk o.op with
     | some t=>(match mf n fh all (gk all t (wg n tk t f)) f with
      | some f1=>FZ A B E G n false false o f1 k
      | none=>.fail)
     | none=>(match iI o.op with
      | true=>FZ A B E G n (readOnly H.moves all o) (lQ H all o) o f k
      | false=>zU B E G n fh all o f (fun a=>vG A n o.dst (iW f o.dst a) k))))
  | false=>k (iW f o.dst (.tup []))
noncomputable def My (tk:List Nat) (fh:Bool) (fq:Nat->Bool) (all:List Oper) (l:List (Nat×Bool)):ab->(ab->Qy α)->Qy α:=
 @List.rec (Nat×Bool) (fun _=>ab->(ab->Qy α)->Qy α) (fun f k=>k f) (fun p _ ih f k=>
  match all[p.1]? with
  | none=>.fail
  | some o=>match p.2 with
   | true=>Pb A B E G H n fh tk all o f (fun f'=>ih f' k)
   | false=>zU B E G n (fh||fq p.1) all o f (fun a=>vG A n o.dst (iW f o.dst a) (fun f'=>ih f' k))) l
def KK (F:Nat->Qy α):Nat->List Nat->Qy α
 | i,[]=>F i
 | i,j::l=>.both (F i) (KK F j l)
noncomputable def F4 (all:List Oper):Nat->Array Bool->ab->(ab->Qy α)->Qy α
 | 0,listed,f,k=>(match Region.ready .any all.toArray listed with
  | []=>k f
  | _=>.fail)
 | m+1,listed,f,k=>(match Region.ready .any all.toArray listed with
  | []=>k f
  | i::l=>KK (fun i=>match all[i]? with
   | some o=>Pc A B E G H n all o f (fun f'=>F4 all m (bK listed i) f' k)
   | none=>.fail) i l)
noncomputable def F1 (h:aw) (all:List Oper) (p:Array Bool):Nat->Array Bool->ab->(ab->Qy α)->Qy α
 | 0,listed,f,k=>(match rL listed.toList p.toList with
  | true=>k f
  | false=>.fail)
 | m+1,listed,f,k=>(match rL listed.toList p.toList with
  | true=>.fail
  | false=>(match Region.ready .any all.toArray listed with
   | []=>.fail
   | i::l=>KK (fun i=>match h.pre.contains (i,true) with
    | true=>(match all[i]? with
     | some o=>Pb A B E G H n (aK H all h.pre) h.tk all o f (fun f'=>F1 h all p m (bK listed i) f' k)
     | none=>.fail)
    | false=>.fail) i l))
noncomputable def Ph (all:List Oper) (h:aw) (f:ab) (k:ab->Qy α):Qy α:=
 match gz h with
 | true=>F4 A B E G H n all all.length (Array.replicate all.length false) f k
 | false=>(match gP h with
  | true=>My A B E G H n (gh h).tk (aK H all (gh h).pre) (quietAt H all (gh h).pre) all (bR (gh h).pre) f (fun f1=>
    F1 A B E G H n (gh h) all (eR (gh h).pre (Array.replicate all.length false)) ((gh h).pre.length - (bR (gh h).pre).length) (eR (bR (gh h).pre) (Array.replicate all.length false)) f1 (fun f0=>
     match oM E n all (gh h).nw f0 with
     | some f2=>O9 A B E G H n all (dZ all (gh h).tail) f2 k
     | none=>.fail))
  | false=>My A B E G H n h.tk (aK H all h.pre) (quietAt H all h.pre) all h.pre f (fun f1=>
    match oM E n all h.nw f1 with
    | some f2=>O9 A B E G H n all (dZ all h.tail) f2 k
    | none=>.fail))
def vx:Sl->List Name
 | []=>[]
 | p::r=>Qj p.2++vx r
def acd (m:Name):List Name->Bool
 | []=>false
 | x::r=>match tX x m with|true=>true|false=>acd m r
def Gg (l:List Name):Heap->Heap
 | []=>[]
 |(m,o)::r=>match acd m l with|true=>(m,o)::Gg l r|false=>Gg l r
def ae4 (f:ab):ab:=
 match f with
 | ⟨sl,[],heap,next⟩=>⟨sl,[],heap,next⟩
 | ⟨sl,p::locs,heap,next⟩=>⟨sl,Gg (Bf (p::locs) (p::locs).length (tb (vx sl) [])) (p::locs),heap,next⟩
def X5:FuncId:=4000000
def JM (caps:FuncId->Bool) (f:ab):ab:=match caps X5 with|true=>ae4 f|false=>f
noncomputable def yk (live:Nat->Nat) (id:Nat) (ops:Array Oper) (draw:Bool) (f:ab) (k:ab->Qy α):Qy α:=
 match draw with
 | true=>Ph A B E G H n ops.toList (H.ord id) f (fun f'=>match lA n (live id) (iL f' (fun l=>eE l (live id))) with|some f2=>k (JM H.caps f2)|none=>.fail)
 | false=>O9 A B E G (H.at id) n ops.toList ops.toList f (fun f'=>match lA n (live id) (iL f' (fun l=>eE l (live id))) with|some f2=>k (JM H.caps f2)|none=>.fail)
noncomputable def tL (live:Nat->Nat) (c:Code):ab->(Exit×ab->Qy α)->Qy α:=
 Code.rec (motive:=fun _=>ab->(Exit×ab->Qy α)->Qy α)
  (skip:=fun f k=>k (.normal,f))
  (region:=fun id ops draw f k=>yk A B E G H n live id ops draw f (fun f=>k (.normal,f)))
  (seq:=fun _ _ ix iy f k=>ix f (fun r=>match r with
   |(.normal,f')=>iy f' k
   | r=>k r))
  (cond:=fun c _ _ ix iy f k=>(match py G n f c with
   | .dat (.flat (.bool b))=>(match b with|true=>ix f k|false=>iy f k)
   | _=>.fail))
  (block:=fun id _ ic f k=>ic f (fun r=>match r with
   |(.exit i,f')=>(match Nat.beq i id with|true=>k (.normal,f')|false=>k (.exit i,f'))
   | r=>k r))
  (loop:=fun c _ f k=>.loop n c f k)
  (rangeFunc:=fun _ _ _ _ _ _ _ _=>.fail)
  (exit:=fun id f k=>k (.exit id,f))
  (scope:=fun _ ic f k=>ic f (fun r=>match r with
   |(.goto _,_)=>.fail
   | r=>k r))
  (label:=fun _ f k=>k (.normal,f))
  (goto:=fun _ _ _=>.fail)
  (ret:=fun f k=>k (.ret,f))
  (refuse:=fun _ _ _=>.fail) c
end
noncomputable def Pf (A B:Nat->Bool) (E:bz) (G:bA) (moves caps:FuncId->Bool) (x:qS) (g:FuncId) (args:List ac) (heap:Heap) (next:Nat):Qy eX:=
 match Nat.ble args.length x.ntmps with
 | false=>.fail
 | true=>tL A B E G ⟨moves,x.ord,caps,rowsOf caps g⟩ x.ntmps x.live x.code ⟨rG 0 args,[],heap,next⟩ (fun r=>match r with
  |(.ret,f)=>(match sU E x.ntmps x.results f with|some r=>.fin (M0 next r)|none=>.fail)
  |(.normal,f)=>(match sU E x.ntmps x.results f with|some r=>.fin (M0 next r)|none=>.fail)
  | _=>.fail)
section
variable {P:Program} {E:bz} {G:bA} {H:Hints} {n:Nat} {α:Type} {A B:Nat->Bool} {T:α->Prop}
theorem wH {all:List Oper} {o:Oper} {K K':aa->Prop} {s:aa} (hk:∀s,K s->K' s) (h:mT (ay P G) E G H all o K s):mT (ay P G) E G H all o K' s:=by
 unfold mT at h ⊢
 split
 ·rename_i hw;simp[hw] at h
 rename_i b hw;simp only[hw] at h
 split
 ·rename_i hb;simp only[hb,if_true] at h
  split
  ·rename_i c hc;simp only[hc] at h
   split
   ·rename_i f args s2 ha;simp only[ha] at h;exact h.mono fun v heap n hq h1 h2=>hk _ (hq h1 h2)
   rename_i ha;simp[ha] at h
  rename_i hc;simp only[hc] at h
  split
  ·rename_i s' hs';simp only[hs'] at h;exact hk _ h
  rename_i hs';simp[hs'] at h
 rename_i hb;simp only[hb] at h;exact hk _ h
def vg (P:Program) (G:bA) (n:Nat) (T:α->Prop) (k:ab->Qy α) (s:aa):Prop:=∃f',s=f'.al n/\(k f').tg P G T
theorem km {d:Option Tmp} {f:ab} {k:ab->Qy α} (h:(vG A n d f k).tg P G T):vg P G n T k (f.al n):=by
 unfold vG at h
 cases d with
 | none=>exact⟨f,rfl,h⟩
 | some t=>
  dsimp only at h
  split at h
  ·split at h
   ·rename_i b hb;refine⟨iW f (some t) (.dat (.flat (.bool b))),?_,h⟩;rw[eT];rw[←jC] at hb;unfold aa.put;dsimp only;have hb2:(f.al n).tmps[t]?=some (.dat (.flat (.bool b))):=by
     unfold bq at hb
     cases he:(f.al n).tmps[t]? with
     | none=>rw[he] at hb;simp at hb
     | some v=>rw[he] at hb;simpa using hb
    rw[zx hb2]
   exact⟨f,rfl,h⟩
  exact⟨f,rfl,h⟩
theorem zT {q take:Bool} {o:Oper} {f:ab} {k:ab->Qy α} (h:(FZ A B E G n q take o f k).tg P G T):∃s',dg E G q take o (f.al n)=some s'/\vg P G n T k s':=by
 rw[uE];unfold FZ at h
 split at h
 ·obtain⟨out,ho,h⟩:=h;dsimp only at h
  split at h
  ·rename_i ob hob;have h:(match bh ob with
     | true=>(match AV o (looks o.op (gf G n f (kp q o.op) 0 (opsL o.op))) (uK n f (kp q o.op) (opsL o.op)) out with
      | some f'=>vG A n o.dst f' k
      | none=>.fail)
     | false=>.fail:Qy α).tg P G T:=h
   cases hn:bh ob with
   | false=>rw[hn] at h;exact h.elim
   | true=>
    rw[hn] at h;dsimp only at h
    split at h
    ·rename_i f' hf';refine⟨f'.al n,?_,km h⟩;unfold xp Ez;rw[ho];dsimp only;rw[M5 hob hn hf'];rfl
    exact h.elim
  split at h
  ·rename_i f' hf';refine⟨f'.al n,?_,km h⟩;unfold xp Ez;rw[ho];dsimp only;rw[hf'];rfl
  exact h.elim
 split at h
 ·rename_i f' hf';exact⟨f'.al n,by rw[hf'];rfl,km h⟩
 exact h.elim
theorem KI {all:List Oper} {o:Oper} {f:ab} {k:ab->Qy α} (h:(Pc A B E G H n all o f k).tg P G T):mT (ay P G) E G H all o (vg P G n T k) (f.al n):=by
 unfold Pc at h;unfold mT;rw[lx]
 cases hw:gW n all f o.guard with
 | none=>rw[hw] at h;exact h.elim
 | some b=>
  rw[hw] at h
  cases b with
  | false=>
   dsimp only at h ⊢;rw[if_neg (by simp)];exact⟨_,by rw[eT],h⟩
  | true=>
   dsimp only at h ⊢;rw[if_pos rfl]
   cases hc:dv o.op with
   | none=>
    rw[hc] at h;dsimp only at h ⊢;obtain⟨s',h1,h2⟩:=zT h;rw[h1];exact h2
   | some c=>
    rw[hc] at h;dsimp only at h ⊢;rw[AY]
    cases hcal:ru E G H n c f with
    | none=>rw[hcal] at h;exact h.elim
    | some x=>
     obtain⟨g,args,f2⟩:=x;rw[hcal] at h;dsimp only[Option.map_some] at h ⊢;refine ay.mono h ?_;intro v hh m hq b1 b2
     have:=km (hq b1 b2)
     rw[lB] at this;exact this
theorem ym {all:List Oper} {k:ab->Qy α}:∀{ops:List Oper} {f:ab},(O9 A B E G H n all ops f k).tg P G T->mS (ay P G) E G H all (vg P G n T k) ops (f.al n)
 | [],f,h=>⟨f,rfl,h⟩
 | o::rest,f,h=>by
  have h:(Pc A B E G H n all o f (fun f'=>O9 A B E G H n all rest f' k)).tg P G T:=h;simp only[mS,iT];refine wH ?_ (KI h);rintro s ⟨f',rfl,h'⟩;exact ym h'
theorem CD {fh:Bool} {all:List Oper} {o:Oper} {f:ab} {k:ac->Qy α} (h:(zU B E G n fh all o f k).tg P G T):∃a,qt E G n fh all o f=some a/\(k a).tg P G T:=by
 unfold zU at h
 split at h
 ·unfold qt
  split at h
  ·exact h.elim
  rename_i b hw;rw[hw];dsimp only
  cases b with
  | false=>exact⟨_,rfl,h⟩
  | true=>
   rw[if_pos rfl];dsimp only at h
   split at h
   ·rename_i hal;rw[if_pos hal]
    split at h
    ·rename_i x hx;rw[hx];exact⟨_,rfl,h⟩
    exact h.elim
   rename_i hal;rw[if_neg (by simp[hal])]
   split at h
   ·exact h.elim
   rename_i hc;rw[hc];dsimp only
   split at h
   ·rename_i hq;rw[if_pos hq];obtain⟨out,ho,h⟩:=h;rw[ho];dsimp only at h ⊢
    split at h
    ·exact⟨_,rfl,h⟩
    exact h.elim
   exact h.elim
 split at h
 ·rename_i a ha;exact⟨a,ha,h⟩
 exact h.elim
theorem KH {fh:Bool} {tk:List Nat} {all:List Oper} {o:Oper} {f:ab} {k:ab->Qy α} (h:(Pb A B E G H n fh tk all o f k).tg P G T):KV (ay P G) E G H fh tk all o (vg P G n T k) (f.al n):=by
 unfold Pb at h;unfold KV;rw[lx]
 cases hw:gW n all f o.guard with
 | none=>rw[hw] at h;exact h.elim
 | some b=>
  rw[hw] at h
  cases b with
  | false=>
   dsimp only at h ⊢;rw[if_neg (by simp)];exact⟨_,by rw[eT],h⟩
  | true=>
   dsimp only at h ⊢;rw[if_pos rfl]
   cases hc:dv o.op with
   | none=>
    rw[hc] at h;dsimp only at h ⊢
    cases ht:fk o.op with
    | none=>
     rw[ht] at h;dsimp only at h ⊢
     cases hst:iI o.op with
     | false=>
      rw[hst] at h;dsimp only at h ⊢;rw[wh];obtain⟨a,h1,h2⟩:=CD h;rw[h1];dsimp only;rw[←eT];exact km h2
     | true=>
      rw[hst] at h;dsimp only at h ⊢;obtain⟨s',h1,h2⟩:=zT h;rw[h1];exact h2
    | some t=>
     rw[ht] at h;dsimp only at h ⊢;rw[C4]
     cases hs:mf n fh all (gk all t (wg n tk t f)) f with
     | none=>rw[hs] at h;exact h.elim
     | some f1=>
      rw[hs] at h;rw[oL n fh all _ _ _ hs];dsimp only at h ⊢;obtain⟨s',h1,h2⟩:=zT h;rw[h1];exact h2
   | some c=>
    rw[hc] at h;dsimp only at h ⊢;rw[xz]
    cases hcal:ny E G H n c f with
    | none=>rw[hcal] at h;exact h.elim
    | some x=>
     obtain⟨g,args,f2⟩:=x;rw[hcal] at h;dsimp only[Option.map_some] at h ⊢
     cases hpu:hO H o with
     | true=>
      rw[hpu] at h;dsimp only at h ⊢;refine ay.mono h ?_;intro v hh m hq b1 b2;have hq:=hq b1 b2;dsimp only at hq
      cases hh with
      | nil=>
       dsimp only at hq
       have:=km hq
       rw[lB] at this;exact⟨rfl,this⟩
      | cons _ _=>exact hq.elim
     | false=>
      rw[hpu] at h;dsimp only at h ⊢;refine ay.mono h ?_;intro v hh m hq b1 b2;have hq:=hq b1 b2
      cases hrd:mK H o with
      | true=>
       rw[hrd] at hq;dsimp only at hq;obtain⟨q1,q2⟩:=hq
       have:=km q2
       rw[lB] at this;exact⟨fun _=>q1,this⟩
      | false=>
       rw[hrd] at hq;dsimp only at hq
       have:=km hq
       rw[lB] at this;exact⟨fun hx=>by simp at hx,this⟩
theorem Mx {tk:List Nat} {fh:Bool} {fq:Nat->Bool} {all:List Oper} {i:Nat} {lone:Bool} {rest:List (Nat×Bool)} {f:ab} {k:ab->Qy α}:My A B E G H n tk fh fq all ((i,lone)::rest) f k=(match all[i]? with
  | none=>.fail
  | some o=>match lone with
   | true=>Pb A B E G H n fh tk all o f (fun f'=>My A B E G H n tk fh fq all rest f' k)
   | false=>zU B E G n (fh||fq i) all o f (fun a=>vG A n o.dst (iW f o.dst a) (fun f'=>My A B E G H n tk fh fq all rest f' k))):=rfl
theorem yl {tk:List Nat} {fh:Bool} {fq:Nat->Bool} {all:List Oper} {k:ab->Qy α} {K:aa->Prop} (hK:∀s,vg P G n T k s->K s):∀{l:List (Nat×Bool)} {f:ab},(My A B E G H n tk fh fq all l f k).tg P G T->mu (ay P G) E G H tk fh fq all K l (f.al n)
 | [],f,h=>hK _ ⟨f,rfl,h⟩
 |(i,lone)::rest,f,h=>by
  rw[Mx] at h;simp only[mu,iT]
  cases hi:all[i]? with
  | none=>rw[hi] at h;exact h.elim
  | some o=>
   rw[hi] at h
   cases lone
   ·dsimp only at h ⊢;rw[if_neg (by simp),wh];obtain⟨a,h1,h2⟩:=CD h;rw[h1];dsimp only;rw[←eT];obtain⟨f',e,h'⟩:=km h2;rw[e];exact yl hK h'
   dsimp only at h ⊢;rw[if_pos rfl];refine qc ?_ (KH h);rintro s ⟨f',rfl,h'⟩;exact yl hK h'
theorem zV {F:Nat->Qy α}:∀{l:List Nat} {i:Nat},(KK F i l).tg P G T->∀j∈i::l,(F j).tg P G T
 | [],i,h,j,hj=>by simp at hj;subst hj;exact h
 | x::l,i,h,j,hj=>by
  obtain⟨h1,h2⟩:=h
  rcases List.mem_cons.1 hj with rfl|hj
  ·exact h1
  exact zV h2 j hj
theorem F3 {all:List Oper} {k:ab->Qy α}:∀(m:Nat) (listed:Array Bool) (f:ab),(F4 A B E G H n all m listed f k).tg P G T->pB (ay P G) E G H all (vg P G n T k) m listed (f.al n)
 | 0,listed,f,h=>by
  simp only[F4] at h
  split at h
  ·rename_i he;exact⟨he,f,rfl,h⟩
  exact h.elim
 | m+1,listed,f,h=>by
  simp only[F4] at h;simp only[pB]
  split at h
  ·rename_i he;exact .inl ⟨he,f,rfl,h⟩
  rename_i i l he;refine .inr ⟨by rw[he];simp,?_⟩;rw[he];intro j hj;have h1:=zV h j hj
  split at h1
  ·rename_i o ho;refine⟨o,ho,wH ?_ (KI h1)⟩;rintro s ⟨f',rfl,h'⟩;exact F3 m _ f' h'
  exact h1.elim
theorem Bx {all:List Oper} {Q Q':aa->Prop} (hq:∀s,Q s->Q' s):∀(m:Nat) (listed:Array Bool) (s:aa),pB (ay P G) E G H all Q m listed s->pB (ay P G) E G H all Q' m listed s
 | 0,listed,s,h=>⟨h.1,hq _ h.2⟩
 | m+1,listed,s,h=>by
  simp only[pB] at h ⊢
  rcases h with h|h
  ·exact .inl ⟨h.1,hq _ h.2⟩
  refine .inr ⟨h.1,fun i hi=>?_⟩;obtain⟨o,ho,hh⟩:=h.2 i hi;exact⟨o,ho,wH (fun s hs=>Bx hq m _ s hs) hh⟩
theorem F0 {h:aw} {all:List Oper} {p:Array Bool} {k:ab->Qy α} {K:aa->Prop} (hK:∀s,vg P G n T k s->K s):∀(m:Nat) (listed:Array Bool) (f:ab),(F1 A B E G H n h all p m listed f k).tg P G T->wI (ay P G) E G H h all p K m listed (f.al n)
 | 0,listed,f,hh=>by
  simp only[F1] at hh
  split at hh
  ·rename_i he;exact⟨Array.ext' (kS.1 he),hK _ ⟨f,rfl,hh⟩⟩
  exact hh.elim
 | m+1,listed,f,hh=>by
  simp only[F1] at hh
  split at hh
  ·exact hh.elim
  rename_i hne
  split at hh
  ·exact hh.elim
  rename_i i l he;refine⟨fun e=>?_,by rw[he];simp,fun j hj=>?_⟩
  ·rw[e,kS.2 rfl] at hne;simp at hne
  rw[he] at hj;have h1:=zV hh j hj
  split at h1
  ·rename_i hc;refine⟨by simpa using hc,?_⟩
   split at h1
   ·rename_i o ho;refine⟨o,ho,qc ?_ (KH h1)⟩;rintro s ⟨f',rfl,h'⟩;exact F0 hK m _ f' h'
   exact h1.elim
  exact h1.elim
theorem Pg {all:List Oper} {h:aw} {f:ab} {k:ab->Qy α} (hh:(Ph A B E G H n all h f k).tg P G T):Bz (ay P G) E G H all h (vg P G n T k) (f.al n):=by
 unfold Ph at hh;unfold Bz
 cases hx:gz h with
 | true=>
  rw[hx] at hh;dsimp only at hh;rw[if_pos rfl];refine Bx ?_ _ _ _ (F3 _ _ _ hh);intro s hs;exact⟨s,hs,fun w R N tmps bsT bsL bsH bsF hr=>⟨N,bsT,bsL,bsH,hr,fun _ _ _ h=>h⟩⟩
 | false=>
  rw[hx] at hh;dsimp only at hh;rw[if_neg (by simp)]
  cases hlm:gP h with
  | true=>
   rw[hlm] at hh;dsimp only at hh;rw[if_pos rfl];unfold By;refine yl ?_ hh;rintro s ⟨f1,rfl,h1⟩;refine F0 ?_ _ _ _ h1;rintro s ⟨f0,rfl,h0⟩;dsimp only at h0
   split at h0
   ·rename_i f2 hf2;rw[kz E n all _ f0 f2 hf2];exact ym h0
   exact h0.elim
  | false=>
   rw[hlm] at hh;dsimp only at hh;rw[if_neg (by simp)];refine yl ?_ hh;rintro s ⟨f1,rfl,h1⟩;dsimp only at h1
   split at h1
   ·rename_i f2 hf2;rw[kz E n all _ f1 f2 hf2];exact ym h1
   exact h1.elim
theorem me (f:ab) (m:Nat):gF G (f.al n) ((iL f (fun l=>eE l m)).al n):=by
 intro w R N tmps bsT bsL bsH bsF hr;obtain⟨bsT',hr'⟩:=hr.prune m;exact⟨R,N,bsT',bsL,bsH,hr',aZ _,fun _ _ h=>h⟩
theorem CP {w:World} {R:Own} {M:Name->Option Nat} (l:List Name):∀{os:Heap} {bs:List Nat},aj w R M os bs->∃bs',aj w R M (Gg l os) bs'/\bs'.Sublist bs
 | [],bs,h=>⟨bs,h,.refl _⟩
 |(m,o)::os,_,⟨b,b1,b2,e,hn,ho,hr⟩=>by
  subst e;obtain⟨bs',k1,k2⟩:=CP l hr;simp only[Gg]
  split
  ·exact⟨b::(b1++bs'),⟨b,b1,bs',rfl,hn,ho,k1⟩,(List.Sublist.append (.refl _) k2).cons_cons _⟩
  exact⟨bs',k1,k2.trans ((List.sublist_append_right b1 b2).cons _)⟩
theorem MW (caps:FuncId->Bool) (f:ab):gF G (f.al n) ((JM caps f).al n):=by
 unfold JM
 split
 ·obtain⟨sl,locs,heap,next⟩:=f
  cases locs with
  | nil=>exact gF.refl _ _
  | cons p locs=>
   intro w R N tmps bsT bsL bsH bsF hr;obtain⟨bs',k1,k2⟩:=CP (Bf (p::locs) (p::locs).length (tb (vx sl) [])) hr.locs;refine⟨R,N,bsT,bs',bsH,⟨aJ _,hr.tmps,k1,hr.heap,?_,hr.next,hr.glob,hr.frame⟩,aZ _,fun _ _ h=>h⟩;refine List.Nodup.sublist ?_ hr.nodup;exact List.Sublist.append (.refl _) (List.Sublist.append (.refl _) (List.Sublist.append k2 (.refl _)))
 exact gF.refl _ _
theorem iU {c:Code} {s:aa} {Q Q':Exit->aa->Prop} (h:cL P G c Q s) (hg:∀e s1,Q e s1->∃s2,gF G s1 s2/\Q' e s2):cL P G c Q' s:=by
 intro w R N act bsT bsL bsH bsF hr D hd;refine wp_mono (h w R N act bsT bsL bsH bsF hr hd) ?_;rintro e a w' ⟨s',R',N',bsT',bsL',bsH',hq,hr',hd',hk,hN⟩;obtain⟨s2,hg,hq2⟩:=hg e s' hq;obtain⟨R2,N2,t2,l2,h2,hr2,hk2,hN2⟩:=hg _ _ _ _ _ _ _ _ hr';exact⟨s2,R2,N2,t2,l2,h2,hq2,hr2,hd',hk.trans hk2,fun o b ho=>hN2 o b (hN o b ho)⟩
theorem IC (hE:E.Ok P) {live:Nat->Nat} {id:Nat} {ops:Array Oper} {draw:Bool} {f:ab} {k:ab->Qy α} (hc:dh H (.region id ops draw)=true) (h:(yk A B E G H n live id ops draw f k).tg P G T) :
  cL P G (.region id ops draw) (fun e s=>e=.normal/\vg P G n T k s) (f.al n):=by
 have key:∀s1,vg P G n T (fun f'=>match lA n (live id) (iL f' (fun l=>eE l (live id))) with|some f2=>k (JM H.caps f2)|none=>.fail) s1->∃s2,gF G s1 s2/\vg P G n T k s2:=by
  rintro s1 ⟨f1,rfl,h1⟩;dsimp only at h1
  split at h1
  ·rename_i f2 hf2;exact⟨_,((me f1 (live id)).trans (oO G hf2)).trans (MW H.caps f2),_,rfl,h1⟩
  exact h1.elim
 unfold yk at h
 cases draw
 ·dsimp only at h;refine iU (uY (H:=H.at id) (Q:=fun e s=>e=.normal/\vg P G n T (fun f'=>match lA n (live id) (iL f' (fun l=>eE l (live id))) with|some f2=>k (JM H.caps f2)|none=>.fail) s) hE ?_) ?_
  ·have:=ym h
   simpa using this
  rintro e s1 ⟨rfl,h1⟩;obtain⟨s2,g,h2⟩:=key s1 h1;exact⟨s2,g,rfl,h2⟩
 dsimp only at h;refine iU (BB (H:=H) (Q:=fun e s=>e=.normal/\vg P G n T (fun f'=>match lA n (live id) (iL f' (fun l=>eE l (live id))) with|some f2=>k (JM H.caps f2)|none=>.fail) s) hE hE.mixed (by simpa [dh] using hc) ?_) ?_
 ·have:=Pg h
  simpa using this
 rintro e s1 ⟨rfl,h1⟩;obtain⟨s2,g,h2⟩:=key s1 h1;exact⟨s2,g,rfl,h2⟩
def aea (P:Program) (G:bA) (n:Nat) (T:α->Prop) (k:Exit×ab->Qy α) (e:Exit) (s:aa):Prop:=∃f',s=f'.al n/\(k (e,f')).tg P G T
theorem D0 {live:Nat->Nat} {id:Nat} {ops:Array Oper} {draw:Bool} {f:ab} {k:Exit×ab->Qy α}:tL A B E G H n live (.region id ops draw) f k=yk A B E G H n live id ops draw f (fun f=>k (.normal,f)):=rfl
theorem iE (hE:E.Ok P) (live:Nat->Nat):∀(c:Code) (f:ab) (k:Exit×ab->Qy α),dh H c=true->(tL A B E G H n live c f k).tg P G T->cL P G c (aea P G n T k) (f.al n)
 | .skip,f,k,_,h=>gD wp_skip ⟨f,rfl,h⟩
 | .region id ops draw,f,k,hc,h=>by
  rw[D0] at h;refine (IC hE hc h).mono ?_;rintro e s ⟨rfl,f',rfl,h'⟩;exact⟨f',rfl,h'⟩
 | .seq x y,f,k,hc,h=>by
  simp only[dh,Bool.and_eq_true] at hc;refine wK ?_;refine (iE hE live x f (fun r=>match r with|(.normal,f')=>tL A B E G H n live y f' k|r=>k r) hc.1 h).mono ?_;rintro e s ⟨f',rfl,h'⟩
  cases e with
  | normal=>exact iE hE live y f' k hc.2 h'
  | _=>exact⟨f',rfl,h'⟩
 | .cond c x y,f,k,hc,h=>by
  simp only[dh,Bool.and_eq_true] at hc;intro w R N act bsT bsL bsH bsF hr D hd;have h:(match py G n f c with
   | .dat (.flat (.bool b))=>(match b with|true=>tL A B E G H n live x f k|false=>tL A B E G H n live y f k)
   | _=>.fail).tg P G T:=h
  split at h
  ·rename_i b hb;obtain⟨bs,he⟩:=qw hr.tmps hr.glob c;rw[nv,hb] at he;obtain⟨_,he,_⟩:=aC he;refine wp_cond he ?_
   cases b
   ·exact iE hE live y f k hc.2 h w R N act bsT bsL bsH bsF hr hd
   exact iE hE live x f k hc.1 h w R N act bsT bsL bsH bsF hr hd
  exact h.elim
 | .block id c,f,k,hc,h=>by
  simp only[dh] at hc;intro w R N act bsT bsL bsH bsF hr D hd
  apply wp_block
  refine wp_mono (iE hE live c f (fun r=>match r with
   |(.exit i,f')=>(match Nat.beq i id with|true=>k (.normal,f')|false=>k (.exit i,f'))
   | r=>k r) hc h w R N act bsT bsL bsH bsF hr hd) ?_
  rintro e2 a w' ⟨s2,R',N',bsT',bsL',bsH',⟨f',rfl,h'⟩,rest⟩
  cases e2 with
  | exit i=>
   simp only[Exit.inBlock];dsimp only at h'
   by_cases hi:i=id
   ·have hb:Nat.beq i id=true:=by rw[Nat.beq_eq];exact hi
    rw[if_pos hi];rw[hb] at h';exact⟨_,R',N',bsT',bsL',bsH',⟨f',rfl,h'⟩,rest⟩
   have hb:Nat.beq i id=false:=by rw[Bool.eq_false_iff];intro hc;rw[Nat.beq_eq] at hc;exact hi hc
   rw[if_neg hi];rw[hb] at h';exact⟨_,R',N',bsT',bsL',bsH',⟨f',rfl,h'⟩,rest⟩
  | _=>exact⟨_,R',N',bsT',bsL',bsH',⟨f',rfl,h'⟩,rest⟩
 | .exit id,f,k,_,h=>gD wp_exit ⟨f,rfl,h⟩
 | .ret,f,k,_,h=>gD wp_ret ⟨f,rfl,h⟩
 | .loop c,f,k,_,h=>h
 | .rangeFunc _ _ _ _,_,_,_,h=>h.elim
 | .scope c,f,k,hc,h=>by
  simp only[dh] at hc;intro w R N act bsT bsL bsH bsF hr D hd
  apply wp_scope_straight
  refine wp_mono (iE hE live c f (fun r=>match r with
   |(.goto _,_)=>.fail
   | r=>k r) hc h w R N act bsT bsL bsH bsF hr hd) ?_
  rintro e2 a w' ⟨s2,R',N',bsT',bsL',bsH',⟨f',rfl,h'⟩,rest⟩
  cases e2 with
  | goto l=>exact h'.elim
  | _=>exact⟨_,R',N',bsT',bsL',bsH',⟨f',rfl,h'⟩,rest⟩
 | .label _,f,k,_,h=>gD wp_label ⟨f,rfl,h⟩
 | .goto _,_,_,_,h=>h.elim
 | .refuse _,_,_,_,h=>h.elim
end
structure Qy.Ok {α:Type} (P:Program) (G:bA) (T:α->Prop) (q:Qy α):Prop where
 ok:q.tg P G T
end Go.Tp
namespace Go.Tp
mutual
def fx (ρ:Nat->Nat):ac->ac
 | .ptr (.out o) off=>.ptr (.out (ρ o)) off
 | .map (.out o)=>.map (.out (ρ o))
 | .win (.out o) s off len=>.win (.out (ρ o)) s off len
 | .fn f a b=>.fn f (il ρ a) (il ρ b)
 | .agg cs=>.agg (il ρ cs)
 | .tup cs=>.tup (il ρ cs)
 | a=>a
def il (ρ:Nat->Nat):List ac->List ac
 | []=>[]
 | a::r=>fx ρ a::il ρ r
end
def pW (ρ:Nat->Nat):aL->aL
 | .cells cs=>.cells (il ρ cs)
 | .map es=>.map es
def wX (ρ:Nat->Nat):Name->Name
 | .out o=>.out (ρ o)
 | m=>m
def jJ (ρ:Nat->Nat):Heap->Heap
 | []=>[]
 |(m,o)::r=>(wX ρ m,pW ρ o)::jJ ρ r
section
variable {w:World} {R:Own} {M M2:Name->Option Nat} {ρ:Nat->Nat}
mutual
theorem ai.rn (hL:∀i,M (.loc i)=none) (hM:∀o b,M (.out o)=some b->M2 (.out (ρ o))=some b):∀{a:ac} {v:Value} {bs:List Nat},ai w R M a v bs->ai w R M2 (fx ρ a) v bs
 | .dat _,_,_,h=>by simp only[fx,ai] at h ⊢;exact h
 | .own _,_,_,h=>by simp only[fx,ai] at h ⊢;exact h
 | .ref _,_,_,h=>by simp only[fx,ai] at h ⊢;exact h
 | .undef,_,_,h=>by simp only[fx,ai] at h ⊢;exact h
 | .ptr (.loc i) _,_,_,h=>by simp only[ai] at h;obtain⟨_,b,h2,_⟩:=h;rw[hL] at h2;simp at h2
 | .map (.loc i),_,_,h=>by simp only[ai] at h;obtain⟨_,b,h2,_⟩:=h;rw[hL] at h2;simp at h2
 | .win (.loc i) _ _ _,_,_,h=>by simp only[ai] at h;obtain⟨_,b,cap,h2,_⟩:=h;rw[hL] at h2;simp at h2
 | .ptr (.out o) off,_,_,h=>by
  simp only[fx,ai] at h ⊢;obtain⟨h1,b,h2,h3⟩:=h;exact⟨h1,b,hM o b h2,h3⟩
 | .map (.out o),_,_,h=>by
  simp only[fx,ai] at h ⊢;obtain⟨h1,b,h2,h3⟩:=h;exact⟨h1,b,hM o b h2,h3⟩
 | .win (.out o) s off len,_,_,h=>by
  simp only[fx,ai] at h ⊢;obtain⟨h1,b,cap,h2,h3⟩:=h;exact⟨h1,b,cap,hM o b h2,h3⟩
 | .fn f a b,_,_,h=>by
  simp only[fx,ai] at h ⊢;obtain⟨h1,vs,us,e,h2,h3⟩:=h;exact⟨h1,vs,us,e,ah.rn hL hM h2,ah.rn hL hM h3⟩
 | .agg cs,_,_,h=>by
  simp only[fx,ai] at h ⊢;obtain⟨vs,e,h⟩:=h;exact⟨vs,e,ah.rn hL hM h⟩
 | .tup cs,_,_,h=>by
  simp only[fx,ai] at h ⊢;obtain⟨vs,e,h⟩:=h;exact⟨vs,e,ah.rn hL hM h⟩
theorem ah.rn (hL:∀i,M (.loc i)=none) (hM:∀o b,M (.out o)=some b->M2 (.out (ρ o))=some b):∀{as:List ac} {vs:List Value} {bs:List Nat},ah w R M as vs bs->ah w R M2 (il ρ as) vs bs
 | [],_,_,h=>by simp only[il,ah] at h ⊢;exact h
 | a::r,_,_,h=>by
  simp only[il,ah] at h ⊢;obtain⟨v,vs',b1,b2,e1,e2,h1,h2⟩:=h;exact⟨v,vs',b1,b2,e1,e2,ai.rn hL hM h1,ah.rn hL hM h2⟩
end
mutual
theorem ai.iC {k:Nat} (hM:∀o b,o < k->M2 (.out (ρ o))=some b->M (.out o)=some b):∀{a:ac} {v:Value} {bs:List Nat},iq k a=false->ai w R M2 (fx ρ a) v bs->ai w R M a v bs
 | .dat _,_,_,_,h=>by simp only[fx,ai] at h ⊢;exact h
 | .own _,_,_,_,h=>by simp only[fx,ai] at h ⊢;exact h
 | .ref _,_,_,_,h=>by simp only[fx,ai] at h ⊢;exact h
 | .undef,_,_,_,h=>by simp only[fx,ai] at h ⊢;exact h
 | .ptr (.loc _) _,_,_,hn,_=>by simp[iq] at hn
 | .map (.loc _),_,_,hn,_=>by simp[iq] at hn
 | .win (.loc _) _ _ _,_,_,hn,_=>by simp[iq] at hn
 | .ptr (.out o) off,_,_,hn,h=>by
  simp only[iq] at hn;have ho:o < k:=by
   cases Nat.lt_or_ge o k with
   | inl h=>exact h
   | inr h=>rw[gC h] at hn;simp at hn
  simp only[fx,ai] at h ⊢;obtain⟨h1,b,h2,h3⟩:=h;exact⟨h1,b,hM o b ho h2,h3⟩
 | .map (.out o),_,_,hn,h=>by
  simp only[iq] at hn;have ho:o < k:=by
   cases Nat.lt_or_ge o k with
   | inl h=>exact h
   | inr h=>rw[gC h] at hn;simp at hn
  simp only[fx,ai] at h ⊢;obtain⟨h1,b,h2,h3⟩:=h;exact⟨h1,b,hM o b ho h2,h3⟩
 | .win (.out o) s off len,_,_,hn,h=>by
  simp only[iq] at hn;have ho:o < k:=by
   cases Nat.lt_or_ge o k with
   | inl h=>exact h
   | inr h=>rw[gC h] at hn;simp at hn
  simp only[fx,ai] at h ⊢;obtain⟨h1,b,cap,h2,h3⟩:=h;exact⟨h1,b,cap,hM o b ho h2,h3⟩
 | .fn f a b,_,_,hn,h=>by
  simp only[iq,Bool.or_eq_false_iff] at hn;simp only[fx,ai] at h ⊢;obtain⟨h1,vs,us,e,h2,h3⟩:=h;exact⟨h1,vs,us,e,ah.iC hM hn.1 h2,ah.iC hM hn.2 h3⟩
 | .agg cs,_,_,hn,h=>by
  simp only[iq] at hn;simp only[fx,ai] at h ⊢;obtain⟨vs,e,h⟩:=h;exact⟨vs,e,ah.iC hM hn h⟩
 | .tup cs,_,_,hn,h=>by
  simp only[iq] at hn;simp only[fx,ai] at h ⊢;obtain⟨vs,e,h⟩:=h;exact⟨vs,e,ah.iC hM hn h⟩
theorem ah.iC {k:Nat} (hM:∀o b,o < k->M2 (.out (ρ o))=some b->M (.out o)=some b):∀{as:List ac} {vs:List Value} {bs:List Nat},gZ k as=false->ah w R M2 (il ρ as) vs bs->ah w R M as vs bs
 | [],_,_,_,h=>by simp only[il,ah] at h ⊢;exact h
 | a::r,_,_,hn,h=>by
  simp only[gZ,Bool.or_eq_false_iff] at hn;simp only[il,ah] at h ⊢;obtain⟨v,vs',b1,b2,e1,e2,h1,h2⟩:=h;exact⟨v,vs',b1,b2,e1,e2,ai.iC hM hn.1 h1,ah.iC hM hn.2 h2⟩
end
theorem Jv (a:ac):yw (fx ρ a)=yw a:=by
 cases a with
 | ptr n off=>cases n <;> rfl
 | map n=>cases n <;> rfl
 | win n s off len=>cases n <;> rfl
 | _=>rfl
theorem R4 (a b c:ac) (r:List ac):cd (a::b::c::r)=false:=by
 unfold cd
 split <;> rename_i h <;> first|rfl|simp at h
theorem qE:∀(cs:List ac),cd (il ρ cs)=cd cs
 | []=>rfl
 | [a]=>by
  simp only[il];unfold cd
  split <;> rename_i h <;> simp at h
  rfl
 | [a,b]=>by
  simp only[il]
  cases b with
  | ptr n off=>cases n <;> rfl
  | map n=>cases n <;> rfl
  | win n s off len=>cases n <;> rfl
  | own es=>simp only[fx,cd,Jv]
  | dat d=>
   simp only[fx]
   cases d with
   | slice es=>simp only[cd,Jv]
   | agg es=>rfl
   | flat v=>
    have h:=Jv (ρ:=ρ) a
    cases v with
    | slice p len cap=>
     cases p with
     | some _=>rfl
     | none=>
      cases len with
      | succ _=>rfl
      | zero=>
       cases cap with
       | succ _=>rfl
       | zero=>exact h
    | _=>rfl
  | _=>rfl
 | a::b::c::r=>by
  simp only[il,R4]
theorem lf (l m:List ac):il ρ (l++m)=il ρ l++il ρ m:=by
 induction l with
 | nil=>rfl
 | cons a l ih=>simp[il,ih]
theorem kO:∀k:Nat,il ρ (List.replicate k .undef)=List.replicate k .undef
 | 0=>rfl
 | k+1=>by simp[List.replicate_succ,il,fx,kO k]
theorem Au (k:Nat):∀j:Nat,gZ k (List.replicate j .undef)=false
 | 0=>rfl
 | j+1=>by simp[List.replicate_succ,gZ,iq,Au k j]
theorem aI.rn (hL:∀i,M (.loc i)=none) (hM:∀o b,M (.out o)=some b->M2 (.out (ρ o))=some b) {o:aL} {b:Nat} {bs:List Nat} (h:aI w R M o b bs):aI w R M2 (pW ρ o) b bs:=by
 cases o with
 | map es=>simp only[pW,aI] at h ⊢;exact h
 | cells cs=>
  simp only[pW,aI] at h ⊢;obtain⟨vs,elem,sp,h1,h2,h3,h4⟩:=h;refine⟨vs,elem,sp,h1,?_,h3,by rw[qE];exact h4⟩
  have:=ah.rn (ρ:=ρ) hL hM (as:=cs++List.replicate sp .undef) h2
  rwa [lf,kO] at this
theorem aI.iC {k:Nat} (hM:∀o b,o < k->M2 (.out (ρ o))=some b->M (.out o)=some b) {o:aL} {b:Nat} {bs:List Nat} (hn:BS k o=false) (h:aI w R M2 (pW ρ o) b bs):aI w R M o b bs:=by
 cases o with
 | map es=>simp only[pW,aI] at h ⊢;exact h
 | cells cs=>
  simp only[BS] at hn;simp only[pW,aI] at h ⊢;obtain⟨vs,elem,sp,h1,h2,h3,h4⟩:=h;refine⟨vs,elem,sp,h1,?_,h3,by rw[qE] at h4;exact h4⟩;refine ah.iC (ρ:=ρ) hM (as:=cs++List.replicate sp .undef) (by rw[qh,hn,Au];rfl) ?_;rw[lf,kO];exact h2
def tZ (k:Nat):Heap->Bool
 | []=>true
 |(m,_)::r=>mb k m&&tZ k r
theorem Gh {k:Nat} {m:Name} (h:mb k m=true):∃o,m=.out o/\o < k:=by
 cases m with
 | loc i=>simp[mb] at h
 | out o=>exact⟨o,rfl,oY h⟩
theorem aj.rn (hL:∀i,M (.loc i)=none) (hM:∀o b,M (.out o)=some b->M2 (.out (ρ o))=some b):∀{os:Heap} {bs:List Nat},aj w R M os bs->aj w R M2 (jJ ρ os) bs
 | [],_,h=>h
 |(.loc i,o)::r,_,⟨b,b1,b2,e,h1,h2,h3⟩=>by rw[hL] at h1;simp at h1
 |(.out m,o)::r,_,⟨b,b1,b2,e,h1,h2,h3⟩=>⟨b,b1,b2,e,hM m b h1,h2.rn hL hM,aj.rn hL hM h3⟩
theorem aj.iC {k:Nat} (hM:∀o b,o < k->M2 (.out (ρ o))=some b->M (.out o)=some b):∀{os:Heap} {bs:List Nat},tZ k os=true->gH k os=false->aj w R M2 (jJ ρ os) bs->aj w R M os bs
 | [],_,_,_,h=>h
 |(m,o)::r,_,hl,hn,⟨b,b1,b2,e,h1,h2,h3⟩=>by
  simp only[tZ,Bool.and_eq_true] at hl;simp only[gH,Bool.or_eq_false_iff] at hn;obtain⟨i,rfl,hi⟩:=Gh hl.1;exact⟨b,b1,b2,e,hM i b hi h1,h2.iC hM hn.1,aj.iC hM hl.2 hn.2 h3⟩
theorem aj.append:∀{os os2:Heap} {bs:List Nat},aj w R M (os++os2) bs->∃b1 b2,bs=b1++b2/\aj w R M os b1/\aj w R M os2 b2
 | [],os2,bs,h=>⟨[],bs,rfl,rfl,h⟩
 |(m,o)::r,os2,bs,⟨b,b1,b2,e,h1,h2,h3⟩=>by
  obtain⟨c1,c2,e2,k1,k2⟩:=aj.append h3;subst e;subst e2;exact⟨b::(b1++c1),c2,by simp,⟨b,b1,c1,rfl,h1,h2,k1⟩,k2⟩
theorem aj.join:∀{os os2:Heap} {b1 b2:List Nat},aj w R M os b1->aj w R M os2 b2->aj w R M (os++os2) (b1++b2)
 | [],os2,b1,b2,h,k=>by
  have h:b1=[]:=h;subst h;exact k
 |(m,o)::r,os2,_,b2,⟨b,c1,c2,e,h1,h2,h3⟩,k=>by
  subst e;exact⟨b,c1,c2++b2,by simp,h1,h2,h3.join k⟩
theorem aj.perm {os os2:Heap} (hp:os.Perm os2):∀{bs:List Nat},aj w R M os bs->∃bs',aj w R M os2 bs'/\bs.Perm bs':=by
 induction hp with
 | nil=>intro bs h;exact⟨bs,h,.refl _⟩
 | cons x _ ih=>
  intro bs h;obtain⟨b,b1,b2,e,h1,h2,h3⟩:=h;obtain⟨bs',k1,k2⟩:=ih h3;subst e;exact⟨b::(b1++bs'),⟨b,b1,bs',rfl,h1,h2,k1⟩,(k2.append_left b1).cons b⟩
 | swap x y l=>
  intro bs h;obtain⟨b,b1,_,e,h1,h2,c,c1,c2,e2,k1,k2,k3⟩:=h;subst e2;subst e;refine⟨c::(c1++(b::(b1++c2))),⟨c,c1,_,rfl,k1,k2,b,b1,c2,rfl,h1,h2,k3⟩,?_⟩;rw[←List.cons_append,←List.cons_append,←List.append_assoc,←List.cons_append,←List.cons_append,←List.append_assoc];exact List.Perm.append_right _ List.perm_append_comm
 | trans _ _ ih1 ih2=>
  intro bs h;obtain⟨b1,k1,k2⟩:=ih1 h;obtain⟨b2,k3,k4⟩:=ih2 k1;exact⟨b2,k3,k2.trans k4⟩
def hasName (o:Nat):Heap->Bool
 | []=>false
 |(.out m,_)::r=>Nat.beq m o||hasName o r
 |(.loc _,_)::r=>hasName o r
def lD (h:Heap):Nat->Bool
 | 0=>true
 | k+1=>hasName k h&&lD h k
theorem aj.named {o:Nat}:∀{os:Heap} {bs:List Nat},hasName o os=true->aj w R M (jJ ρ os) bs->∃b,M (.out (ρ o))=some b
 | [],_,h,_=>by simp[hasName] at h
 |(.out m,x)::r,_,h,⟨b,b1,b2,e,h1,h2,h3⟩=>by
  simp only[hasName,Bool.or_eq_true] at h
  rcases h with h|h
  ·have:=Nat.eq_of_beq_eq_true h
   subst this;exact⟨b,h1⟩
  exact aj.named h h3
 |(.loc m,x)::r,_,h,⟨b,b1,b2,e,h1,h2,h3⟩=>aj.named (os:=r) (by simpa [hasName] using h) h3
theorem qI {h:Heap}:∀{k:Nat},lD h k=true->∀o,o < k->hasName o h=true
 | 0,_,_,ho=>by omega
 | k+1,hh,o,ho=>by
  simp only[lD,Bool.and_eq_true] at hh
  rcases Nat.lt_or_ge o k with h1|h1
  ·exact qI hh.2 o h1
  have:o=k:=by omega
  subst this;exact hh.1
end
def ig (ρ:Nat->Nat) (n0 d o:Nat):Nat:=match Nat.blt o n0 with|true=>ρ o|false=>d+(o - n0)
variable {P:Program} {G:bA}
theorem ay.frame {g:FuncId} {args0:List ac} {h0:Heap} {n0:Nat} {Q:ac->Heap->Nat->Prop} (hc:ay P G g args0 h0 n0 Q) (ρ:Nat->Nat) {heap rest:Heap} {next:Nat}
  (hp:heap.Perm (jJ ρ h0++rest)) (hlow:tZ n0 h0=true) (hnew:gH n0 h0=false) (hall:lD h0 n0=true) (ha:gZ n0 args0=false) :
  ay P G g (il ρ args0) heap next (fun v h m=>∃v0 h1 n1,Q v0 h1 n1/\v=fx (ig ρ n0 next) v0/\h=jJ (ig ρ n0 next) h1++rest/\m=next+(n1 - n0)):=by
 intro w R N cargs bsA bsH bsF hargs hheap hnd hnx hglob hF;obtain⟨bsP,hP,pP⟩:=hheap.perm hp;obtain⟨b1,b2,e,h1,h2⟩:=aj.append hP;subst e
 let N0:Name->Option Nat:=fun m=>match m with|.loc _=>none|.out o=>if o < n0 then N (.out (ρ o)) else none
 have hback:∀o b,o < n0->outs N (.out (ρ o))=some b->outs N0 (.out o)=some b:=by
  intro o b ho hb;simp only[outs] at hb ⊢;simp only[N0];rw[if_pos ho];exact hb
 have hnd1:(bsA++(b1++(b2++bsF))).Nodup:=by
  refine (List.Perm.nodup_iff ?_).1 hnd;rw[←List.append_assoc b1];exact List.Perm.append_left _ (List.Perm.append_right _ pP)
 have h3:=hc w R N0 cargs bsA b1 (b2++bsF) (hargs.iC hback ha) (h1.iC hback hlow hnew) hnd1 (by
  intro o b ho;simp only[N0] at ho
  split at ho
  ·assumption
  ·simp at ho) hglob (by
  intro b hb
  rcases List.mem_append.1 hb with hb|hb
  ·exact h2.lt b hb
  exact hF b hb)
 refine h3.mono ?_;rintro e w' ⟨v0,cv,h1',n1,R',N1,bsV,bsH',rfl,hq,hv,hh,hnd',hnx',hk,hN⟩
 let N2:Name->Option Nat:=fun m=>match m with|.loc i=>N (.loc i)|.out x=>if x < next then N (.out x) else N1 (.out (x - next+n0))
 have hfwd:∀o b,outs N1 (.out o)=some b->outs N2 (.out (ig ρ n0 next o))=some b:=by
  intro o b hb;simp only[outs] at hb ⊢;unfold ig
  cases hlt:Nat.blt o n0 with
  | true=>
   have ho:=oY hlt;dsimp only;obtain⟨b',hb'⟩:=aj.named (M:=outs N) (ρ:=ρ) (qI hall o ho) h1;simp only[outs] at hb';have h4:N0 (.out o)=some b':=by simp only[N0];rw[if_pos ho];exact hb'
   have h5:=hN o b' h4;rw[hb] at h5;simp only[N2];rw[if_pos (hnx _ _ hb'),hb',h5]
  | false=>
   dsimp only;have ho:¬o < n0:=fun h=>by rw[←Nat.blt_eq,hlt] at h;simp at h
   simp only[N2];rw[if_neg (by omega),show next+(o - n0) - next+n0=o by omega];exact hb
 have hloc:∀i,outs N1 (.loc i)=none:=fun i=>rfl
 refine⟨_,cv,_,_,R',N2,bsV,bsH'++b2,rfl,⟨v0,h1',n1,hq,rfl,rfl,rfl⟩,hv.rn hloc hfwd,(hh.rn hloc hfwd).join ?_,by simpa using hnd',?_,hk.sub (by intro b hb;simp[hb]),?_⟩
 ·have h5:=h2.keep (hk.sub (by intro b hb;simp[hb]));refine h5.ext ?_;intro m b hm
  cases m with
  | loc i=>simp[outs] at hm
  | out x=>
   simp only[outs] at hm ⊢;simp only[N2];rw[if_pos (hnx x b hm)];exact hm
 ·intro x b hx;simp only[N2] at hx
  split at hx
  ·omega
  have:=hnx' _ _ hx
  omega
 intro x b hx;simp only[N2];rw[if_pos (hnx x b hx)];exact hx
def DW:List Nat->Nat->Nat
 | [],o=>o
 | p::_,0=>p
 | _::ps,o+1=>DW ps o
end Go.Tp
namespace Go.Tp
section
variable {P:Program} {E:bz} {G:bA}
theorem ay.gcQ {f:FuncId} {args:List ac} {heap:Heap} {next:Nat} {Q:ac->Heap->Nat->Prop} (h:ay P G f args heap next Q):ay P G f args heap next (fun v h m=>∃r:eX,Q r.val r.heap r.next/\(⟨v,h,m⟩:eX)=M0 next r):=by
 intro w R N cargs bsA bsH bsF ha hh hnd hnx hg hF;refine (h w R N cargs bsA bsH bsF ha hh hnd hnx hg hF).mono ?_;rintro e w' ⟨val,cv,heap',next',R',N',bsV,bsH',rfl,hq,hv',hh',hnd',hnx',hk,hN⟩;have key:∀r:eX,r=M0 next ⟨val,heap',next'⟩->∃R2 N2 bsV2 bsH2,ai w' R2 (outs N2) r.val cv bsV2/\aj w' R2 (outs N2) r.heap bsH2/\(bsV2++(bsH2++bsF)).Nodup/\(∀o b,N2 (.out o)=some b->o < r.next)/\bp w R w' R2 bsF/\(∀o b,N (.out o)=some b->N2 (.out o)=some b):=by
  intro r hr;unfold M0 at hr;dsimp only at hr
  split at hr
  ·rename_i hnew;subst hr;simp only[Bool.or_eq_false_iff] at hnew;obtain⟨bs',k1,k2⟩:=qd next hh'
   let N2:Name->Option Nat:=fun m=>match m with|.loc i=>N' (.loc i)|.out o=>if o < next then N' (.out o) else none
   have hM:∀o b,o < next->outs N' (.out o)=some b->outs N2 (.out o)=some b:=by
    intro o b ho hb;simp only[outs] at hb ⊢;simp only[N2];rw[if_pos ho];exact hb
   refine⟨R',N2,bsV,bs',hv'.low hM hnew.1,k1.low hM (ma next heap') hnew.2,?_,?_,hk,?_⟩
   ·exact List.Nodup.sublist (List.Sublist.append (.refl _) (List.Sublist.append k2 (.refl _))) hnd'
   ·intro o b hb;simp only[N2] at hb
    split at hb
    ·assumption
    simp at hb
   intro o b hb;simp only[N2];rw[if_pos (hnx o b hb)];exact hN o b hb
  subst hr;obtain⟨bs',k1,k2⟩:=ky next (EM next heap' 3 (KM val)) hh';exact⟨R',N',bsV,bs',hv',k1,List.Nodup.sublist (List.Sublist.append (.refl _) (List.Sublist.append k2 (.refl _))) hnd',hnx',hk,hN⟩
 obtain⟨R2,N2,bsV2,bsH2,k⟩:=key _ rfl;exact⟨_,cv,_,_,R2,N2,bsV2,bsH2,rfl,⟨⟨val,heap',next'⟩,hq,rfl⟩,k⟩
theorem Dr {rs:List ResultVar} {Q Q':ac->List (Name×aL)->Nat->Prop} {s:aa} (hq:∀v h n,Q v h n->Q' v h n) (h:ye E rs Q s):ye E rs Q' s:=by
 unfold ye at h ⊢;generalize gU E s rs=rv at h ⊢
 cases rv with
 | none=>exact h
 | some vs=>
  dsimp only at h ⊢
  by_cases hn:aW (jF vs)=true
  ·rw[if_pos hn] at h ⊢;exact hq _ _ _ h
  rw[if_neg hn] at h ⊢;generalize hY (repeatL s.locs.length (nq s.locs)) s (jF vs)=x at h ⊢;obtain⟨s',vs'⟩:=x;dsimp only at h ⊢
  by_cases hn2:aW vs'=true
  ·rw[if_pos hn2] at h ⊢;exact hq _ _ _ h
  rw[if_neg hn2] at h ⊢;exact h
theorem KJ {A B:Nat->Bool} {moves caps:FuncId->Bool} {F:FuncId->Option qS} (hE:E.Ok P) (hF:Z9 P moves caps F) {g:FuncId} {x:qS} (hx:F g=some x) {args:List ac} {heap:Heap} {next:Nat} {T:eX->Prop}
  (h:rN args->yc heap->(Pf A B E G moves caps x g args heap next).Ok P G T):ay P G g args heap next (fun v h m=>T ⟨v,h,m⟩):=by
 obtain⟨fn,h1,h2,h3,h4,h5⟩:=hF g x hx;have h6:ay P G g args heap next (fun v h m=>T (M0 next ⟨v,h,m⟩)):=by
  refine gX hE h1 h2 ?_;intro b1 b2;have h:=(h b1 b2).ok;rw[h3,h4];unfold Pf at h
  split at h
  ·exact h.elim
  rename_i hlen;have hlen:=fD hlen;have hent:(⟨rG 0 args,[],heap,next⟩:ab).al x.ntmps=enter x.ntmps args heap next:=by
   simp only[ab.al,enter];congr 1
   apply List.ext_getElem?
   intro i;rw[kq,Nat.zero_add,pS,if_pos (Nat.zero_le _),Nat.sub_zero,List.getElem?_append]
   split
   ·split
    ·rename_i hi;unfold bq;rw[List.getElem?_eq_getElem hi]
    rename_i hi1 hi;rw[List.getElem?_replicate,if_pos (by omega)];unfold bq;rw[List.getElem?_eq_none (by omega)]
   rename_i hi;rw[if_neg (by omega),List.getElem?_replicate,if_neg (by omega)]
  rw[←hent];refine (iE (H:=⟨moves,x.ord,caps,rowsOf caps g⟩) hE x.live x.code _ _ (by rw[eM];exact h5) h).mono ?_;rintro e s ⟨f',rfl,h'⟩;have key:(match sU E x.ntmps x.results f' with|some r=>(Qy.fin (M0 next r):Qy eX)|none=>.fail).tg P G T->ye E x.results (fun v h m=>T (M0 next ⟨v,h,m⟩)) (f'.al x.ntmps):=by
   intro hh
   split at hh
   ·rename_i r hr
    have:=nL (E:=E) (rs:=x.results) (s:=f'.al x.ntmps) (r:=r) (by rw[yz];exact hr)
    exact Dr (by rintro v h m ⟨rfl,rfl,rfl⟩;exact hh) this
   exact hh.elim
  cases e with
  | ret=>exact key h'
  | normal=>exact key h'
  | _=>exact h'.elim
 refine h6.gcQ.mono ?_;rintro v h m ⟨r,hr,e⟩;rw[e];exact hr
theorem CS {c:Code} {T:Exit->aa->Prop} (I:Nat->aa->Prop)
  (step:∀m s,I m s->cL P G c (xU (fun s'=>∃m',m' < m/\I m' s') T) s) {m:Nat} {s:aa} (h:I m s):cL P G (.loop c) T s:=by
 intro w R N act bsT bsL bsH bsF hr D hd;refine wp_loop_ghost (I:=fun k a w'=>∃s1 R' N' bsT' bsL' bsH',I k s1/\dw G w' R' N' a.tmps.toList s1 undef .undef [] bsT' bsL' bsH' bsF/\a.defers=D/\bp w R w' R' bsF/\(∀o b,N (.out o)=some b->N' (.out o)=some b)) (n0:=m) ?_ ?_
 ·exact⟨s,R,N,bsT,bsL,bsH,h,hr,hd,aZ _,fun _ _ h=>h⟩
 rintro k a w' ⟨s1,R',N',bsT',bsL',bsH',hI,hr',hd',hk,hN⟩;refine wp_mono (step k s1 hI w' R' N' a bsT' bsL' bsH' bsF hr' hd') ?_;rintro e a2 w2 ⟨s2,R2,N2,bsT2,bsL2,bsH2,hq,hr2,hd2,hk2,hN2⟩
 cases e with
 | normal=>
  obtain⟨m',hlt,hI'⟩:=hq;exact⟨m',hlt,s2,R2,N2,bsT2,bsL2,bsH2,hI',hr2,hd2,hk.trans hk2,fun o b h=>hN2 o b (hN o b h)⟩
 | _=>exact⟨s2,R2,N2,bsT2,bsL2,bsH2,hq,hr2,hd2,hk.trans hk2,fun o b h=>hN2 o b (hN o b h)⟩
theorem Mz {A B:Nat->Bool} {H:Hints} {n:Nat} (hE:E.Ok P) (live:Nat->Nat) {c:Code} (hc:dh H c=true) {f:ab} {T:Exit->aa->Prop}
  (h:(tL A B E G H n live c f (fun r=>.fin r)).Ok P G (fun r=>T r.1 (r.2.al n))):cL P G c T (f.al n):=by
 refine (iE hE live c f (fun r=>.fin r) hc h.ok).mono ?_;rintro e s ⟨f',rfl,h'⟩;exact h'
end
section
variable {P:Program} {G:bA} {α:Type} {T:α->Prop}
def Qy.JL:Qy α->Option α
 | .fin a=>some a
 | _=>none
def Qy.Bo:Qy α->Option Bool
 | .bool _ b _=>some b
 | _=>none
def Qy.Z4:Qy α->Bool->Qy α
 | .bool _ _ k,b=>k b
 | _,_=>.fail
def Qy.Tu:Qy α->Option (Option Out)
 | .out _ o _=>some o
 | _=>none
def Qy.ofO:Qy α->Out->Qy α
 | .out _ _ k,x=>k x
 | _,_=>.fail
def Qy.Rf:Qy α->Option FuncId
 | .res g _ _ _ _=>some g
 | _=>none
def Qy.xJ:Qy α->List ac
 | .res _ args _ _ _=>args
 | _=>[]
def Qy.xm:Qy α->Nat
 | .res _ _ _ next _=>next
 | _=>0
def Qy.xo:Qy α->Heap
 | .res _ _ h _ _=>h
 | _=>[]
def Qy.ofR:Qy α->eX->Qy α
 | .res _ _ _ _ k,r=>k r
 | _,_=>.fail
def Qy.CT:Qy α->Option (Nat×Code)
 | .loop n c _ _=>some (n,c)
 | _=>none
def Qy.Gw:Qy α->ab
 | .loop _ _ f _=>f
 | _=>⟨[],[],[],0⟩
def Qy.ofL:Qy α->Exit×ab->Qy α
 | .loop _ _ _ k,r=>k r
 | _,_=>.fail
def Qy.left:Qy α->Option (Qy α)
 | .both a _=>some a
 | _=>none
def Qy.ofX:Qy α->Qy α
 | .both a _=>a
 | _=>.fail
def Qy.ofY:Qy α->Qy α
 | .both _ b=>b
 | _=>.fail
def Qy.QT:Qy α->Bool
 | .both _ _=>true
 | _=>false
theorem fX {q:Qy α} {a:α} (e:q.JL=some a) (h:T a):q.Ok P G T:=by
 cases q with
 | fin x=>simp only[Qy.JL,Option.some.injEq] at e;subst e;exact⟨h⟩
 | _=>simp[Qy.JL] at e
theorem bn {q:Qy α} {c b:Bool} (hc:c=b) (e:q.Bo=some c) (h:(q.Z4 b).Ok P G T):q.Ok P G T:=by
 cases q with
 | bool _ x k=>simp only[Qy.Bo,Option.some.injEq] at e;subst e;subst hc;exact⟨h.ok⟩
 | _=>simp[Qy.Bo] at e
theorem Gi {q:Qy α} {c:Bool} (e:q.Bo=some c) (ht:c=true->(q.Z4 true).Ok P G T) (hf:c=false->(q.Z4 false).Ok P G T):q.Ok P G T:=by
 cases c
 ·exact bn rfl e (hf rfl)
 exact bn rfl e (ht rfl)
theorem XB {q:Qy α} {o:Option Out} {x:Out} (ho:o=some x) (e:q.Tu=some o) (h:(q.ofO x).Ok P G T):q.Ok P G T:=by
 cases q with
 | out _ y k=>simp only[Qy.Tu,Option.some.injEq] at e;subst e;exact⟨⟨x,ho,h.ok⟩⟩
 | _=>simp[Qy.Tu] at e
theorem iF {q:Qy α} {n:Nat} {c:Code} {f:ab} {L:Exit->aa->Prop} (e:q.CT=some (n,c)) (hs:q.Gw.al n=f.al n) (hl:cL P G (.loop c) L (f.al n))
  (h:∀ex s,L ex s->∃f',s=f'.al n/\(q.ofL (ex,f')).Ok P G T):q.Ok P G T:=by
 cases q with
 | loop n' c' f' k=>
  simp only[Qy.CT,Option.some.injEq,Prod.mk.injEq] at e;obtain⟨rfl,rfl⟩:=e;simp only[Qy.Gw] at hs;refine⟨?_⟩;show cL P G (.loop c') _ (f'.al n');rw[hs];exact hl.mono (fun e s hL=>by obtain⟨f2,h1,h2⟩:=h e s hL;exact⟨f2,h1,h2.ok⟩)
 | _=>simp[Qy.CT] at e
theorem bL {q:Qy α} (e:q.QT=true) (h1:q.ofX.Ok P G T) (h2:q.ofY.Ok P G T):q.Ok P G T:=by
 cases q with
 | both a b=>exact⟨⟨h1.ok,h2.ok⟩⟩
 | _=>simp[Qy.QT] at e
end
end Go.Tp
namespace Go.Tp
mutual
def Nz (p:Nat->Bool):ac->Bool
 | .ptr (.out o) _=>p o
 | .map (.out o)=>p o
 | .win (.out o) _ _ _=>p o
 | .fn _ a b=>mE p a&&mE p b
 | .agg cs=>mE p cs
 | .tup cs=>mE p cs
 | _=>true
def mE (p:Nat->Bool):List ac->Bool
 | []=>true
 | a::r=>Nz p a&&mE p r
end
def VN (p:Nat->Bool):aL->Bool
 | .cells cs=>mE p cs
 | .map _=>true
def Sr (p:Nat->Bool):Heap->Bool
 | []=>true
 |(.out m,o)::r=>p m&&VN p o&&Sr p r
 |(.loc _,o)::r=>VN p o&&Sr p r
section
variable {w:World} {R:Own} {M M2:Name->Option Nat} {ρ:Nat->Nat} {p:Nat->Bool}
mutual
theorem ai.HM (hL:∀i b,M (.loc i)=some b->M2 (.loc i)=some b) (hM:∀o b,p o=true->M (.out o)=some b->M2 (.out (ρ o))=some b):∀{a:ac} {v:Value} {bs:List Nat},Nz p a=true->ai w R M a v bs->ai w R M2 (fx ρ a) v bs
 | .dat _,_,_,_,h=>by simp only[fx,ai] at h ⊢;exact h
 | .own _,_,_,_,h=>by simp only[fx,ai] at h ⊢;exact h
 | .ref _,_,_,_,h=>by simp only[fx,ai] at h ⊢;exact h
 | .undef,_,_,_,h=>by simp only[fx,ai] at h ⊢;exact h
 | .ptr (.loc i) _,_,_,_,h=>by simp only[fx,ai] at h ⊢;obtain⟨h1,b,h2,h3⟩:=h;exact⟨h1,b,hL _ _ h2,h3⟩
 | .map (.loc i),_,_,_,h=>by simp only[fx,ai] at h ⊢;obtain⟨h1,b,h2,h3⟩:=h;exact⟨h1,b,hL _ _ h2,h3⟩
 | .win (.loc i) _ _ _,_,_,_,h=>by simp only[fx,ai] at h ⊢;obtain⟨h1,b,cap,h2,h3⟩:=h;exact⟨h1,b,cap,hL _ _ h2,h3⟩
 | .ptr (.out o) off,_,_,hp,h=>by
  simp only[fx,ai] at h ⊢;obtain⟨h1,b,h2,h3⟩:=h;exact⟨h1,b,hM o b hp h2,h3⟩
 | .map (.out o),_,_,hp,h=>by
  simp only[fx,ai] at h ⊢;obtain⟨h1,b,h2,h3⟩:=h;exact⟨h1,b,hM o b hp h2,h3⟩
 | .win (.out o) s off len,_,_,hp,h=>by
  simp only[fx,ai] at h ⊢;obtain⟨h1,b,cap,h2,h3⟩:=h;exact⟨h1,b,cap,hM o b hp h2,h3⟩
 | .fn f a b,_,_,hp,h=>by
  simp only[Nz,Bool.and_eq_true] at hp;simp only[fx,ai] at h ⊢;obtain⟨h1,vs,us,e,h2,h3⟩:=h;exact⟨h1,vs,us,e,ah.HM hL hM hp.1 h2,ah.HM hL hM hp.2 h3⟩
 | .agg cs,_,_,hp,h=>by
  simp only[fx,ai] at h ⊢;obtain⟨vs,e,h⟩:=h;exact⟨vs,e,ah.HM hL hM (by simpa only[Nz] using hp) h⟩
 | .tup cs,_,_,hp,h=>by
  simp only[fx,ai] at h ⊢;obtain⟨vs,e,h⟩:=h;exact⟨vs,e,ah.HM hL hM (by simpa only[Nz] using hp) h⟩
theorem ah.HM (hL:∀i b,M (.loc i)=some b->M2 (.loc i)=some b) (hM:∀o b,p o=true->M (.out o)=some b->M2 (.out (ρ o))=some b):∀{as:List ac} {vs:List Value} {bs:List Nat},mE p as=true->ah w R M as vs bs->ah w R M2 (il ρ as) vs bs
 | [],_,_,_,h=>by simp only[il,ah] at h ⊢;exact h
 | a::r,_,_,hp,h=>by
  simp only[mE,Bool.and_eq_true] at hp;simp only[il,ah] at h ⊢;obtain⟨v,vs',b1,b2,e1,e2,h1,h2⟩:=h;exact⟨v,vs',b1,b2,e1,e2,ai.HM hL hM hp.1 h1,ah.HM hL hM hp.2 h2⟩
end
theorem Gj (l m:List ac):mE p (l++m)=(mE p l&&mE p m):=by
 induction l with
 | nil=>simp[mE]
 | cons a l ih=>simp[mE,ih,Bool.and_assoc]
theorem Ak:∀j:Nat,mE p (List.replicate j .undef)=true
 | 0=>rfl
 | j+1=>by simp[List.replicate_succ,mE,Nz,Ak j]
theorem aI.HM (hL:∀i b,M (.loc i)=some b->M2 (.loc i)=some b) (hM:∀o b,p o=true->M (.out o)=some b->M2 (.out (ρ o))=some b) {o:aL} {b:Nat} {bs:List Nat} (hp:VN p o=true) (h:aI w R M o b bs):aI w R M2 (pW ρ o) b bs:=by
 cases o with
 | map es=>simp only[pW,aI] at h ⊢;exact h
 | cells cs=>
  simp only[VN] at hp;simp only[pW,aI] at h ⊢;obtain⟨vs,elem,sp,h1,h2,h3,h4⟩:=h;refine⟨vs,elem,sp,h1,?_,h3,by rw[qE];exact h4⟩
  have:=ah.HM (ρ:=ρ) hL hM (as:=cs++List.replicate sp .undef) (by rw[Gj,hp,Ak];rfl) h2
  rwa [lf,kO] at this
theorem aj.HM (hL:∀i b,M (.loc i)=some b->M2 (.loc i)=some b) (hM:∀o b,p o=true->M (.out o)=some b->M2 (.out (ρ o))=some b):∀{os:Heap} {bs:List Nat},Sr p os=true->aj w R M os bs->aj w R M2 (jJ ρ os) bs
 | [],_,_,h=>h
 |(.loc i,o)::r,_,hp,⟨b,b1,b2,e,h1,h2,h3⟩=>by
  simp only[Sr,Bool.and_eq_true] at hp;exact⟨b,b1,b2,e,hL i b h1,h2.HM hL hM hp.1,aj.HM hL hM hp.2 h3⟩
 |(.out m,o)::r,_,hp,⟨b,b1,b2,e,h1,h2,h3⟩=>by
  simp only[Sr,Bool.and_eq_true] at hp;exact⟨b,b1,b2,e,hM m b hp.1.1 h1,h2.HM hL hM hp.1.2,aj.HM hL hM hp.2 h3⟩
end
section
variable {P:Program} {G:bA}
end
def AI (o:Nat):List Nat->Nat->Nat
 | [],_=>o
 | q::r,k=>match Nat.beq q o with|true=>k|false=>AI o r (k+1)
def dN (q:Nat->Bool):Heap->Heap
 | []=>[]
 |(.out m,o)::r=>(match q m with|true=>(.out m,o)::dN q r|false=>dN q r)
 |(.loc m,o)::r=>(.loc m,o)::dN q r
theorem mD {w:World} {R:Own} {M:Name->Option Nat} (q:Nat->Bool):∀{os:Heap} {bs:List Nat},aj w R M os bs->∃bs',aj w R M (dN q os) bs'/\bs'.Sublist bs
 | [],bs,h=>⟨bs,h,.refl _⟩
 |(.out m,o)::os,_,⟨b,b1,b2,e,hn,ho,hr⟩=>by
  subst e;obtain⟨bs',k1,k2⟩:=mD q hr;simp only[dN]
  split
  ·exact⟨b::(b1++bs'),⟨b,b1,bs',rfl,hn,ho,k1⟩,(List.Sublist.append (.refl _) k2).cons_cons _⟩
  exact⟨bs',k1,k2.trans ((List.sublist_append_right b1 b2).cons _)⟩
 |(.loc m,o)::os,_,⟨b,b1,b2,e,hn,ho,hr⟩=>by
  subst e;obtain⟨bs',k1,k2⟩:=mD q hr;exact⟨b::(b1++bs'),⟨b,b1,bs',rfl,hn,ho,k1⟩,(List.Sublist.append (.refl _) k2).cons_cons _⟩
theorem LG {o:Nat}:∀{ps:List Nat} {k:Nat},ot o ps=true->k<=AI o ps k/\AI o ps k < k+ps.length/\ps[AI o ps k - k]?=some o
 | [],k,h=>by simp[ot] at h
 | q::r,k,h=>by
  simp only[AI]
  cases hq:Nat.beq q o with
  | true=>
   have:=Nat.eq_of_beq_eq_true hq
   subst this;dsimp only;refine⟨Nat.le_refl _,by simp,by simp⟩
  | false=>
   dsimp only;have h2:ot o r=true:=by
    simp only[ot,hq] at h;exact h
   obtain⟨h3,h4,h5⟩:=LG (ps:=r) (k:=k+1) h2;refine⟨by omega,by simp;omega,?_⟩;rw[show AI o r (k+1) - k=(AI o r (k+1) - (k+1))+1 by omega];simpa using h5
end Go.Tp
namespace Go.Tp
open Go.Deep
section
variable {X:lH} {E:bz} {G:bA} {H:Hints} {n:Nat} {live:Nat->Nat} {fuel:Nat}
end
def xl:Own:=fun _ _=>False
theorem jm {P:Program} {W:World} {name:String} {g:Nat} {t e:TypeId} {l:List (List UInt8)} (hg:P.globalNamed name=some g) (hty:(P.globals[g]?).map (·.type)=some t) (ht:P.underlying t=some (.slice e)) (he:P.underlying e=some .string) (hc:P.cellsOf e=1)
  (hlen:l.length<=lim) (h:∃g t cs fuel p,P.globalNamed name=some g/\(P.globals[g]?).map (·.type)=some t/\W.var? P name=some cs/\DataW.trod (fun _=>()) P W 0 (fun _=>true) false fuel t cs.toList=some (.slice (l.map fun b=>.lit (.string b)) [],p)) :
  eN W xl g 0 [.slice (l.map fun b=>.flat (.string ⟨⟨b⟩⟩))]:=by
 obtain⟨g',t',cs,fuel,p,hg',ht',hvar,hd⟩:=h;obtain rfl:=Option.some.inj (hg.symm.trans hg');obtain rfl:=Option.some.inj (hty.symm.trans ht');have hcell:=World.var?_cell hg hvar 0;refine⟨?_,trivial⟩
 rcases open_slice1 ht hc hd with⟨_,h0⟩|⟨a,len,cap,m,k,V,D,Pl,hcs,_,hl,hm,hmm,hx,hi⟩
 ·simp at h0
 have h0:cs[0]?=some (.slice (some a) len cap):=by
  have:cs.toList[0]?=some (.slice (some a) len cap):=by rw[hcs];rfl
  simpa using this
 refine⟨_,hcell.trans h0,fun h=>h,?_⟩;simp only[Prod.mk.injEq,DataW.slice.injEq] at hx;obtain⟨⟨hx1,_⟩,_⟩:=hx;have hll:l.length=len:=by have:=congrArg List.length hx1;simpa using this
 have hlm:len<=m:=by rw[hmm];split <;> omega
 have hel:∀(i:Nat) b,l[i]?=some b->V i=.string ⟨⟨b⟩⟩/\b.length<=maxLen:=by
  intro i b hb;have hil:i < len:=by rw[←hll];exact (List.getElem?_eq_some_iff.1 hb).1
  obtain⟨_,h2⟩:=hi i (by omega);obtain⟨s,e1,e2,e3⟩:=DataW.trod_string he h2;have h3:((List.range len).map D)[i]?=(l.map fun b=>(DataW.lit (.string b):DataW Unit))[i]?:=by rw[hx1]
  rw[List.getElem?_map,List.getElem?_map,hb,List.getElem?_range hil] at h3;simp only[Option.map_some,Option.some.injEq] at h3;simp only[List.cons.injEq,and_true] at e1;simp only[Prod.mk.injEq] at e2;rw[h3] at e2;simp at e2;obtain⟨⟨sl⟩⟩:=s;simp at e2;rw[e1,e2.1];exact⟨rfl,e3⟩
 cases hz:len with
 | zero=>
  have:l=[]:=List.length_eq_zero_iff.1 (by omega)
  subst this;exact .nil _ _
 | succ k0=>
  have hsp:a.spot=none:=by
   have:=(hi 0 (by omega)).1
   have:=World.cell?_spot this
   simpa [Addr.add] using this
  obtain⟨b,off,spot⟩:=a;simp only at hsp;subst hsp;have e:k0+1=(l.map fun b=>(ak.flat (.string ⟨⟨b⟩⟩):ak)).length:=by simp;omega
  rw[e];refine .slice b off cap 1 _ (fun i _=>V i) (by omega) ?_ (by simp;omega) (by simpa using hlen) ?_ ?_
  ·intro d hd;obtain⟨x,_,rfl⟩:=List.mem_map.1 hd;rfl
  ·intro i j hil hj;obtain rfl:j=0:=by omega
   simp at hil;refine⟨?_,fun h=>h⟩
   have:=(hi i (by omega)).1
   simp only[Addr.add] at this;simp only[Nat.mul_one,Nat.add_zero]
   split at this
   ·rename_i h0;subst h0;exact this
   exact this
  intro i j d c hd hc;rw[List.getElem?_map] at hd
  cases hb:l[i]? with
  | none=>rw[hb] at hd;simp at hd
  | some x=>
   rw[hb] at hd;simp at hd;subst hd;obtain⟨e1,e2⟩:=hel i x hb
   have:c=.flat (.string ⟨⟨x⟩⟩):=by
    cases j with
    | zero=>simp[ak.cells] at hc;exact hc.symm
    | succ j=>simp[ak.cells] at hc
   subst this;rw[e1];refine .flat ?_;simp only[bJ,decide_eq_true_eq]
   have:(ByteArray.mk ⟨x⟩).size=x.length:=rfl
   rw[this];unfold maxLen at e2;omega
theorem xY {W W':World} {R':Own} (h:Step W xl W' R'):W.keptBut W' (fun _=>False):=by
 refine⟨h.os,h.output,fun i hi=>?_⟩;rw[(h.block i hi (fun _ h=>h)).1]
 split
 ·rename_i e1 e2;rw[e1] at e2;simp at e2;obtain⟨rfl,rfl,rfl⟩:=e2;exact⟨rfl,rfl,rfl,fun _ _=>rfl⟩
 ·rename_i e1 e2;rw[e1] at e2;simp at e2;obtain⟨rfl,rfl⟩:=e2;exact .inr ⟨rfl,rfl⟩
 rfl
end Go.Tp
namespace Go.Tp
section
variable {X:lH} {E:bz} {G:bA} {H:Hints} {n:Nat}
theorem uA {t:TypeId} {ti:TI} {m:Name} {s off len k:Nat} (he:elemOf E t=some ti) (hs:s=ti.size) (hk:k < len) :
  ap E t [.win m s off len,.dat (.flat (.int .i64 (ofNat k)))]=some ⟨.ptr m (off+k*s),.keep⟩:=by
 have h1:Nat.blt k len=true:=by rw[Nat.blt_eq];exact hk
 have h2:Nat.beq s ti.size=true:=by rw[Nat.beq_eq];exact hs
 simp only[ap,he,h1,h2];simp
theorem vS {t:TypeId} {i:TI} {m:Name} {off:Nat} {cs:List ac} {v:Value} {take:Bool} (ht:E.ty t=some i) (ha:i.isAgg=false) (h:cs[off]?=some (.dat (.flat v))) :
  eB E take t [.ptr m off] (some (.cells cs))=some ⟨.dat (.flat v),.keep⟩:=by
 cases take <;> simp[eB,ht,loadCells,ha,h,xj]
theorem yW {t:TypeId} {i:TI} {m:Name} {off:Nat} {cs:List ac} {v:Value} (ht:E.ty t=some i) (hs:i.size=1) (h:off < cs.length) (hb:cd (bI off [.dat (.flat v)] cs)=false) :
  cG E t [.ptr m off,.dat (.flat v)] (some (.cells cs))=some ⟨.undef,.set (.cells (bI off [.dat (.flat v)] cs))⟩:=by
 simp only[cG,ht];rw[if_pos]
 ·rfl
 refine⟨by rw[hs];rfl,by rw[hs];exact h,rfl,by rw[hs];decide,?_⟩;show (!cd (bI off [.dat (.flat v)] cs)||cd cs)=true;rw[hb];rfl
theorem Rj {es:List ak} {i:Nat} {d:ak} (h:es[i]?=some d):bW.nA.elt es (ofNat i)=some d:=by
 show Ex es i=some d;rw[uC];exact h
end
end Go.Tp
namespace Go.Tp
variable {E:bz}
theorem uX {t:TypeId} {i:TI} {es ds:List ak} {ob:Option aL} {take:Bool} {k:Nat} (he:elemOf E t=some i) (hp:E.pr=bW.nA) (hs:i.size=k+1) (hd:sizedB (k+1) ds=true) (hes:sizedB (k+1) es=true)
  (hb:Nat.blt 0 i.bytes=true) (hl:(es.length+ds.length)*i.bytes<=140737488355328) (hl2:es.length+ds.length<=lim) (hby:jr E t (es++ds)=true) (htake:(take&&es.isEmpty&&AH (.dat (.slice ds)))=false) :
  bB E take t [.own es,.dat (.slice ds)] ob=some ⟨.own (es++ds),.keep⟩:=by
 simp only[bB,he];rw[if_neg (by rw[htake];simp)];simp only[gS,hp,hs,bW.nA,hd,hes,hb,gC hl,gC hl2];rw[if_pos hby]
theorem pd {t:TypeId} {ti:TI} {es:List ak} {i:Nat} {d:ak} (he:elemOf E t=some ti) (hp:E.pr=bW.nA) (h:es[i]?=some d) (hs:d.cells.length=ti.size) (h0:0 < ti.size) :
  ap E t [.dat (.slice es),.dat (.flat (.int .i64 (ofNat i)))]=some ⟨.ref d.cells,.keep⟩:=by
 have hel:E.pr.elt es (ofNat i)=some d:=by rw[hp];exact Rj h
 simp only[ap,he,hel];rw[if_pos ⟨hs,h0⟩]
theorem Ur {α:Type} {l:List α} {i:Nat} {a:α} (h:l[i]?=some a):Ex l i=some a:=by rw[uC];exact h
theorem kM {k:Nat} {l:List ak} (h:∀d∈l,d.cells.length=k):sizedB k l=true:=gm.2 h
theorem gv {i L:Nat}:aF (ofNat i) (ofNat L)=decide (i < L):=by rw[dA];simp
theorem br {i L:Nat} (h:i < L):aF (ofNat i) (ofNat L)=true:=by rw[gv,decide_eq_true h]
theorem cj {i L:Nat} (h:¬i < L):aF (ofNat i) (ofNat L)=false:=by rw[gv,decide_eq_false h]
theorem bb {i:Nat} (h:i < 9223372036854775807):an .i64 (ofNat i+1)=ofNat (i+1):=by
 rw[cQ];exact wrap_i64 (by simp;omega) (by simp;omega)
theorem A0 {i L:Nat}:aB (ofNat i) (ofNat L)=decide (i=L):=by
 rw[cN]
 by_cases h:i=L
 ·subst h;simp
 rw[decide_eq_false h];simp only[beq_eq_false_iff_ne];exact fun e=>h (Int.ofNat.inj e)
end Go.Tp
namespace Go.Tp
noncomputable def TG (c:Code):List Code:=
 Code.rec (motive:=fun _=>List Code)
  (skip:=[]) (region:=fun _ _ _=>[]) (seq:=fun _ _ ix iy=>ix++iy) (cond:=fun _ _ _ ix iy=>ix++iy) (block:=fun _ _ ic=>ic) (loop:=fun c ic=>c::ic)
  (rangeFunc:=fun _ _ _ _ _ _=>[]) (exit:=fun _=>[]) (scope:=fun _ ic=>ic) (label:=fun _=>[]) (goto:=fun _=>[]) (ret:=[]) (refuse:=fun _=>[]) c
noncomputable def roundOf (fn:Func) (k:Nat):Code:=match (TG (match fn.body with|some c=>c|none=>.skip))[k]? with|some c=>c|none=>.skip
def Sv (l:List Nat) (t:Nat):Bool:=ot t l
mutual
def NA:ac->ac
 | .ptr _ _=>.undef
 | .map _=>.undef
 | .win _ _ _ _=>.undef
 | .fn f a b=>.fn f (MI a) (MI b)
 | .agg cs=>.agg (MI cs)
 | .tup cs=>.tup (MI cs)
 | a=>a
def MI:List ac->List ac
 | []=>[]
 | a::r=>NA a::MI r
end
section
variable {w:World} {R:Own} {M M2:Name->Option Nat}
mutual
theorem ai.np:∀{a:ac} {v:Value} {bs:List Nat},ai w R M a v bs->ai w R M2 (NA a) v bs
 | .dat _,_,_,h=>by simp only[NA,ai] at h ⊢;exact h
 | .own _,_,_,h=>by simp only[NA,ai] at h ⊢;exact h
 | .ref _,_,_,h=>by simp only[NA,ai] at h ⊢;exact h
 | .undef,_,_,h=>by simp only[NA,ai] at h ⊢;exact h
 | .ptr _ _,_,_,h=>by simp only[NA,ai] at h ⊢;exact h.1
 | .map _,_,_,h=>by simp only[NA,ai] at h ⊢;exact h.1
 | .win _ _ _ _,_,_,h=>by simp only[NA,ai] at h ⊢;exact h.1
 | .fn f a b,_,_,h=>by
  simp only[NA,ai] at h ⊢;obtain⟨h1,vs,us,e,h2,h3⟩:=h;exact⟨h1,vs,us,e,ah.np h2,ah.np h3⟩
 | .agg cs,_,_,h=>by
  simp only[NA,ai] at h ⊢;obtain⟨vs,e,h⟩:=h;exact⟨vs,e,ah.np h⟩
 | .tup cs,_,_,h=>by
  simp only[NA,ai] at h ⊢;obtain⟨vs,e,h⟩:=h;exact⟨vs,e,ah.np h⟩
theorem ah.np:∀{as:List ac} {vs:List Value} {bs:List Nat},ah w R M as vs bs->ah w R M2 (MI as) vs bs
 | [],_,_,h=>by simp only[MI,ah] at h ⊢;exact h
 | a::r,_,_,h=>by
  simp only[MI,ah] at h ⊢;obtain⟨v,vs',b1,b2,e1,e2,h1,h2⟩:=h;exact⟨v,vs',b1,b2,e1,e2,ai.np h1,ah.np h2⟩
end
end
section
variable {P:Program} {G:bA} {α:Type} {T:α->Prop}
theorem Gl {g:FuncId} {args:List ac} {Q:ac->Prop} (hQ:∀v,Q v->NB v=true) (h:ay P G g (MI args) [] 0 (fun v h m=>Q v/\h=[]/\m=0)) (heap:Heap) (next:Nat):ay P G g args heap next (fun v h m=>Q v/\h=heap/\m=next):=by
 intro w R N cargs bsA bsH bsF hargs hheap hnd hnx hglob hF;have h2:=h w R (fun _=>none) cargs bsA [] (bsH++bsF) hargs.np (by simp[aj]) (by simpa using hnd) (by intro o b ho;simp at ho) hglob (by
  intro b hb
  rcases List.mem_append.1 hb with hb|hb
  ·exact hheap.lt b hb
  exact hF b hb)
 refine h2.mono ?_;rintro e w' ⟨v,cv,heap',next',R',N',bsV,bsH',rfl,⟨hq,rfl,rfl⟩,hv,hh,hnd',_,hk,_⟩;have hH':bsH'=[]:=by simpa [aj] using hh
 subst hH';exact⟨_,cv,heap,next,R',N,bsV,bsH,rfl,⟨hq,rfl,rfl⟩,hv.nm (hQ _ hq),hheap.keep (hk.sub (by intro b hb;simp[hb])),by simpa using hnd',hnx,hk.sub (by intro b hb;simp[hb]),fun _ _ h=>h⟩
theorem abS {q:Qy α} {g:FuncId} {args0:List ac} {v:ac} (hc:ay P G g args0 [] 0 (XQ ⟨v,[],0⟩)) (e:q.Rf=some g) (ha:MI q.xJ=args0) (hm:NB v=true)
  (h:nH v->(q.ofR ⟨v,q.xo,q.xm⟩).Ok P G T):q.Ok P G T:=by
 cases q with
 | res g' args' heap next' k=>
  simp only[Qy.Rf,Option.some.injEq] at e;subst e;simp only[Qy.xo,Qy.xJ,Qy.xm] at ha h;refine⟨?_⟩;show ay P G g' _ heap next' _;subst ha;have h1:ay P G g' (MI args') [] 0 (fun u h m=>u=v/\h=[]/\m=0):=hc.mono (by rintro u h m ⟨rfl,rfl,rfl⟩;exact⟨rfl,rfl,rfl⟩);refine (Gl (Q:=fun u=>u=v) (by rintro u rfl;exact hm) h1 heap next').mono ?_;rintro v' h' m ⟨rfl,rfl,rfl⟩ b1 b2;exact (h b1).ok
 | _=>simp[Qy.Rf] at e
theorem Ja {q:Qy α} {g:FuncId} {args0:List ac} {Q:ac->Prop} (hc:ay P G g args0 [] 0 (fun v h m=>Q v/\h=[]/\m=0)) (e:q.Rf=some g) (ha:MI q.xJ=args0) (hQ:∀v,Q v->NB v=true)
  (h:∀v,Q v->nH v->(q.ofR ⟨v,q.xo,q.xm⟩).Ok P G T):q.Ok P G T:=by
 cases q with
 | res g' args' heap next' k=>
  simp only[Qy.Rf,Option.some.injEq] at e;subst e;simp only[Qy.xo,Qy.xJ,Qy.xm] at ha h;refine⟨?_⟩;show ay P G g' _ heap next' _;subst ha;refine (Gl hQ hc heap next').mono ?_;rintro v' h' m ⟨hq,rfl,rfl⟩ b1 b2;exact (h v' hq b1).ok
 | _=>simp[Qy.Rf] at e
theorem TB {q:Qy α} {g:FuncId} {args:List ac} {heap:Heap} {next:Nat} {r:eX} (hc:ay P G g args heap next (XQ r)) (e:q.Rf=some g) (ha:q.xJ=args) (hh:q.xo=heap) (hn:q.xm=next)
  (h:(q.ofR r).Ok P G T):q.Ok P G T:=by
 cases q with
 | res g' args' heap' next' k=>
  simp only[Qy.Rf,Option.some.injEq] at e;simp only[Qy.xo,Qy.xJ,Qy.xm] at ha hh hn;subst e;subst ha;subst hh;subst hn;refine⟨?_⟩;show ay P G g' _ heap' next' _;refine hc.mono ?_;rintro v h' m ⟨rfl,rfl,rfl⟩ b1 b2;exact h.ok
 | _=>simp[Qy.Rf] at e
theorem Du {g:FuncId} {args:List ac} {heap:Heap} {next:Nat} {r:eX} (h:ay P G g args heap next (fun v h m=>(⟨v,h,m⟩:eX)=r)):ay P G g args heap next (XQ r):=by
 refine h.mono ?_;rintro v h m e;subst e;exact⟨rfl,rfl,rfl⟩
theorem RL {E:bz} {H:Hints} {n:Nat} {X:lH} (hE:E.Ok P) (hX:Kg P G X) {live:Nat->Nat} (fuel:Nat) {c:Code} (hc:dh H c=true) {f f':ab} {e:Exit} (h:iO X E G H n live fuel c f=some (e,f')) :
  cL P G c (fun e2 s=>e2=e/\s=f'.al n) (f.al n):=fj X E G H n hE hX live fuel c f f' e hc h _ ⟨rfl,rfl⟩
def Qy.UI:Qy (Exit×ab)->Option Exit
 | .fin r=>some r.1
 | _=>none
def Qy.Zv:Qy (Exit×ab)->ab
 | .fin r=>r.2
 | _=>⟨[],[],[],0⟩
theorem bS {q:Qy (Exit×ab)} {T:Exit->aa->Prop} {n:Nat} {ex:Exit} (f:ab) (e:q.UI=some ex) (hs:q.Zv.al n=f.al n) (h:T ex (f.al n)):q.Ok P G (fun r=>T r.1 (r.2.al n)):=by
 cases q with
 | fin r=>
  simp only[Qy.UI,Option.some.injEq] at e;simp only[Qy.Zv] at hs;refine⟨?_⟩;show T r.1 (r.2.al n);rw[e,hs];exact h
 | _=>simp[Qy.UI] at e
theorem bm {c:Code} {T:Exit->aa->Prop} (St:Nat->aa) (L:Nat) (round:∀i,i < L->cL P G c (xU (fun s=>s=St (i+1)) T) (St i))
  (last:cL P G c (xU (fun _=>False) T) (St L)) {i:Nat} (hi:i<=L):cL P G (.loop c) T (St i):=by
 refine CS (I:=fun m s=>∃j,j<=L/\m=L - j/\s=St j) ?_ (m:=L - i) ⟨i,hi,rfl,rfl⟩;rintro m s ⟨j,hj,rfl,rfl⟩
 by_cases h:j < L
 ·refine (round j h).mono ?_;intro e s hs
  cases e with
  | normal=>
   have hs:s=St (j+1):=hs;exact⟨L - (j+1),by omega,j+1,by omega,rfl,hs⟩
  | _=>exact hs
 have:j=L:=by omega
 subst this;refine last.mono ?_;intro e s hs
 cases e with
 | normal=>exact hs.elim
 | _=>exact hs
theorem cV {c:Code} {T:Exit->aa->Prop} (St:Nat->aa) (Inv:Nat->Prop) (L:Nat) (round:∀i,i < L->Inv i->cL P G c (xU (fun s=>s=St (i+1)/\Inv (i+1)) T) (St i))
  (last:Inv L->cL P G c (xU (fun _=>False) T) (St L)) {i:Nat} (hi:i<=L) (h0:Inv i):cL P G (.loop c) T (St i):=by
 refine CS (I:=fun m s=>∃j,j<=L/\m=L - j/\s=St j/\Inv j) ?_ (m:=L - i) ⟨i,hi,rfl,rfl,h0⟩;rintro m s ⟨j,hj,rfl,rfl,hI⟩
 by_cases h:j < L
 ·refine (round j h hI).mono ?_;intro e s hs
  cases e with
  | normal=>
   have hs:s=St (j+1)/\Inv (j+1):=hs;exact⟨L - (j+1),by omega,j+1,by omega,rfl,hs⟩
  | _=>exact hs
 have:j=L:=by omega
 subst this;refine (last hI).mono ?_;intro e s hs
 cases e with
 | normal=>exact hs.elim
 | _=>exact hs
end
end Go.Tp
namespace Go.Tp
section
variable {P:Program} {G:bA} {α:Type} {T:α->Prop}
theorem oh {q:Qy α} {g:FuncId} {args:List ac} {heap:Heap} {next:Nat} {r:eX} (hc:ay P G g args heap next (XQ r)) (h:(q.ofR r).Ok P G T) (e:q.Rf=some g:=by kernel_rfl) (ha:q.xJ=args:=by kernel_rfl) (hh:q.xo=heap:=by kernel_rfl) (hn:q.xm=next:=by kernel_rfl):q.Ok P G T:=
 TB hc e ha hh hn h
theorem on {q:Qy α} {g:FuncId} {args0:List ac} {v:ac} (hc:ay P G g args0 [] 0 (XQ ⟨v,[],0⟩)) (h:(q.ofR ⟨v,q.xo,q.xm⟩).Ok P G T) (e:q.Rf=some g:=by kernel_rfl) (ha:MI q.xJ=args0:=by kernel_rfl) (hm:NB v=true:=by exact rfl):q.Ok P G T:=
 abS hc e ha hm (fun _=>h)
theorem ob {q:Qy α} {c b:Bool} (hc:c=b) (h:(q.Z4 b).Ok P G T) (e:q.Bo=some c:=by kernel_rfl):q.Ok P G T:=bn hc e h
theorem ox {q:Qy α} {c b:Bool} (hc:c=b) (h:(q.Z4 (!b)).Ok P G T) (e:q.Bo=some (!c):=by kernel_rfl):q.Ok P G T:=bn (by rw[hc]) e h
theorem oo {q:Qy α} {o:Option Out} {x:Out} (ho:o=some x) (h:(q.ofO x).Ok P G T) (e:q.Tu=some o:=by kernel_rfl):q.Ok P G T:=XB ho e h
theorem fi {q:Qy α} {a:α} (e:q.JL=some a:=by kernel_rfl):q.Ok P G (fun y=>y=a):=fX e rfl
theorem oe {q:Qy (Exit×ab)} {T:Exit->aa->Prop} {n:Nat} {ex:Exit} {f:ab} (h:T ex (f.al n)) (e:q.UI=some ex:=by kernel_rfl) (hs:q.Zv.al n=f.al n:=by kernel_rfl):q.Ok P G (fun r=>T r.1 (r.2.al n)):=bS f e hs h
theorem lo {q:Qy α} {n:Nat} {c:Code} {f:ab} {L:Exit->aa->Prop} (hl:cL P G (.loop c) L (f.al n)) (h:∀e s,L e s->∃f',s=f'.al n/\(q.ofL (e,f')).Ok P G T) (e:q.CT=some (n,c):=by kernel_rfl) (hs:q.Gw.al n=f.al n:=by kernel_rfl):q.Ok P G T:=iF e hs hl h
end
end Go.Tp
namespace Go.Tp
noncomputable def Pe (A B:Nat->Bool) (E:bz) (G:bA) (moves caps:FuncId->Bool) (x:qS) (g:FuncId) (args:List ac) (heap:Heap) (next:Nat):Qy eX:=
 match Nat.ble args.length x.ntmps with
 | false=>.fail
 | true=>tL A B E G ⟨moves,x.ord,caps,rowsOf caps g⟩ x.ntmps x.live x.code ⟨rG 0 args,[],heap,next⟩ (fun r=>match r with
  |(.ret,f)=>(match sU E x.ntmps x.results f with|some r=>.fin r|none=>.fail)
  |(.normal,f)=>(match sU E x.ntmps x.results f with|some r=>.fin r|none=>.fail)
  | _=>.fail)
section
variable {P:Program} {E:bz} {G:bA}
theorem Pd {A B:Nat->Bool} {moves caps:FuncId->Bool} {F:FuncId->Option qS} (hE:E.Ok P) (hF:Z9 P moves caps F) {g:FuncId} {x:qS} (hx:F g=some x) {args:List ac} {heap:Heap} {next:Nat} {T:eX->Prop}
  (h:rN args->yc heap->(Pe A B E G moves caps x g args heap next).Ok P G T):ay P G g args heap next (fun v h m=>T ⟨v,h,m⟩):=by
 obtain⟨fn,h1,h2,h3,h4,h5⟩:=hF g x hx;refine gX hE h1 h2 ?_;intro b1 b2;have h:=(h b1 b2).ok;rw[h3,h4];unfold Pe at h
 split at h
 ·exact h.elim
 rename_i hlen;have hlen:=fD hlen;have hent:(⟨rG 0 args,[],heap,next⟩:ab).al x.ntmps=enter x.ntmps args heap next:=by
  simp only[ab.al,enter];congr 1
  apply List.ext_getElem?
  intro i;rw[kq,Nat.zero_add,pS,if_pos (Nat.zero_le _),Nat.sub_zero,List.getElem?_append]
  split
  ·split
   ·rename_i hi;unfold bq;rw[List.getElem?_eq_getElem hi]
   rename_i hi1 hi;rw[List.getElem?_replicate,if_pos (by omega)];unfold bq;rw[List.getElem?_eq_none (by omega)]
  rename_i hi;rw[if_neg (by omega),List.getElem?_replicate,if_neg (by omega)]
 rw[←hent];refine (iE (H:=⟨moves,x.ord,caps,rowsOf caps g⟩) hE x.live x.code _ _ (by rw[eM];exact h5) h).mono ?_;rintro e s ⟨f',rfl,h'⟩;have key:(match sU E x.ntmps x.results f' with|some r=>(Qy.fin r:Qy eX)|none=>.fail).tg P G T->ye E x.results (fun v h m=>T ⟨v,h,m⟩) (f'.al x.ntmps):=by
  intro hh
  split at hh
  ·rename_i r hr
   have:=nL (E:=E) (rs:=x.results) (s:=f'.al x.ntmps) (r:=r) (by rw[yz];exact hr)
   exact Dr (by rintro v h m ⟨rfl,rfl,rfl⟩;exact hh) this
  exact hh.elim
 cases e with
 | ret=>exact key h'
 | normal=>exact key h'
 | _=>exact h'.elim
def BP (k0:Nat) (ps:List Nat) (o:Nat):Nat:=match ot o ps with|true=>AI o ps k0|false=>o
def lr (k0:Nat) (ps:List Nat) (o:Nat):Bool:=Nat.blt o k0||ot o ps
theorem ay.rn {g:FuncId} {args:List ac} {heap:Heap} {next:Nat} {Q Q':ac->Heap->Nat->Prop} (h:ay P G g args heap next Q)
  (hq:∀v hp m,Q v hp m->∃ps,Nz (lr next ps) v=true/\Sr (lr next ps) (dN (lr next ps) hp)=true/\Q' (fx (BP next ps) v) (jJ (BP next ps) (dN (lr next ps) hp)) (next+ps.length)):ay P G g args heap next Q':=by
 intro w R N cargs bsA bsH bsF ha hh hnd hnx hg hF;refine (h w R N cargs bsA bsH bsF ha hh hnd hnx hg hF).mono ?_;rintro e w' ⟨v,cv,hp,m,R',N',bsV,bsH',rfl,hq1,hv,hh',hnd',hnx',hk,hN⟩;obtain⟨ps,p1,p2,p3⟩:=hq _ _ _ hq1
 let N2:Name->Option Nat:=fun m=>match m with|.loc i=>N' (.loc i)|.out x=>if x < next then N' (.out x) else (match ps[x - next]? with|some o=>N' (.out o)|none=>none)
 have hM:∀o b,lr next ps o=true->outs N' (.out o)=some b->outs N2 (.out (BP next ps o))=some b:=by
  intro o b ho hb;simp only[outs] at hb ⊢;unfold BP
  cases hm:ot o ps with
  | true=>
   obtain⟨q1,q2,q3⟩:=LG (k:=next) hm;dsimp only[N2];rw[if_neg (by omega),q3];exact hb
  | false=>
   unfold lr at ho;rw[hm,Bool.or_false] at ho;dsimp only[N2];rw[if_pos (oY ho)];exact hb
 have hL:∀i b,outs N' (.loc i)=some b->outs N2 (.loc i)=some b:=fun i b h=>h
 obtain⟨bs',k1,k2⟩:=mD (lr next ps) hh';refine⟨_,cv,_,_,R',N2,bsV,bs',rfl,p3,hv.HM hL hM p1,k1.HM hL hM p2,?_,?_,hk,?_⟩
 ·exact List.Nodup.sublist (List.Sublist.append (.refl _) (List.Sublist.append k2 (.refl _))) hnd'
 ·intro x b hx;dsimp only[N2] at hx
  split at hx
  ·omega
  split at hx
  ·rename_i o ho
   have:=(List.getElem?_eq_some_iff.1 ho).1
   omega
  simp at hx
 intro o b hb;dsimp only[N2];rw[if_pos (hnx o b hb)];exact hN o b hb
end
end Go.Tp
namespace Go.Tp
mutual
def Sw (k:Nat):ac->Bool
 | .ptr (.out o) _=>Nat.ble k o
 | .map (.out o)=>Nat.ble k o
 | .win (.out o) _ _ _=>Nat.ble k o
 | .fn _ a b=>BI k a||BI k b
 | .agg cs=>BI k cs
 | .tup cs=>BI k cs
 | _=>false
def BI (k:Nat):List ac->Bool
 | []=>false
 | a::r=>Sw k a||BI k r
end
def Z5 (k:Nat):aL->Bool
 | .cells cs=>BI k cs
 | .map _=>false
def GM (k:Nat):Heap->Bool
 | []=>false
 |(.out o,x)::r=>Nat.ble k o||(Z5 k x||GM k r)
 |(.loc _,x)::r=>Z5 k x||GM k r
theorem AJ (k:Nat):∀(l m:List ac),BI k (l++m)=(BI k l||BI k m)
 | [],m=>by simp[BI]
 | a::l,m=>by simp[BI,AJ k l m,Bool.or_assoc]
theorem CZ (k:Nat):∀j:Nat,BI k (List.replicate j .undef)=false
 | 0=>rfl
 | j+1=>by simp[List.replicate_succ,BI,Sw,CZ k j]
theorem K0 {k o:Nat} (h:Nat.ble k o=false):o < k:=by
 cases Nat.lt_or_ge o k with
 | inl h=>exact h
 | inr h2=>rw[gC h2] at h;simp at h
section
variable {w:World} {R:Own} {M M2:Name->Option Nat} {ρ:Nat->Nat}
mutual
theorem ai.It (hM:∀m b,M m=some b->M2 (wX ρ m)=some b):∀{a:ac} {v:Value} {bs:List Nat},ai w R M a v bs->ai w R M2 (fx ρ a) v bs
 | .dat _,_,_,h=>by simp only[fx,ai] at h ⊢;exact h
 | .own _,_,_,h=>by simp only[fx,ai] at h ⊢;exact h
 | .ref _,_,_,h=>by simp only[fx,ai] at h ⊢;exact h
 | .undef,_,_,h=>by simp only[fx,ai] at h ⊢;exact h
 | .ptr (.loc i) _,_,_,h=>by
  simp only[fx,ai] at h ⊢;obtain⟨h1,b,h2,h3⟩:=h;exact⟨h1,b,hM _ b h2,h3⟩
 | .map (.loc i),_,_,h=>by
  simp only[fx,ai] at h ⊢;obtain⟨h1,b,h2,h3⟩:=h;exact⟨h1,b,hM _ b h2,h3⟩
 | .win (.loc i) _ _ _,_,_,h=>by
  simp only[fx,ai] at h ⊢;obtain⟨h1,b,cap,h2,h3⟩:=h;exact⟨h1,b,cap,hM _ b h2,h3⟩
 | .ptr (.out o) off,_,_,h=>by
  simp only[fx,ai] at h ⊢;obtain⟨h1,b,h2,h3⟩:=h;exact⟨h1,b,hM _ b h2,h3⟩
 | .map (.out o),_,_,h=>by
  simp only[fx,ai] at h ⊢;obtain⟨h1,b,h2,h3⟩:=h;exact⟨h1,b,hM _ b h2,h3⟩
 | .win (.out o) s off len,_,_,h=>by
  simp only[fx,ai] at h ⊢;obtain⟨h1,b,cap,h2,h3⟩:=h;exact⟨h1,b,cap,hM _ b h2,h3⟩
 | .fn f a b,_,_,h=>by
  simp only[fx,ai] at h ⊢;obtain⟨h1,vs,us,e,h2,h3⟩:=h;exact⟨h1,vs,us,e,ah.It hM h2,ah.It hM h3⟩
 | .agg cs,_,_,h=>by
  simp only[fx,ai] at h ⊢;obtain⟨vs,e,h⟩:=h;exact⟨vs,e,ah.It hM h⟩
 | .tup cs,_,_,h=>by
  simp only[fx,ai] at h ⊢;obtain⟨vs,e,h⟩:=h;exact⟨vs,e,ah.It hM h⟩
theorem ah.It (hM:∀m b,M m=some b->M2 (wX ρ m)=some b):∀{as:List ac} {vs:List Value} {bs:List Nat},ah w R M as vs bs->ah w R M2 (il ρ as) vs bs
 | [],_,_,h=>by simp only[il,ah] at h ⊢;exact h
 | a::r,_,_,h=>by
  simp only[il,ah] at h ⊢;obtain⟨v,vs',b1,b2,e1,e2,h1,h2⟩:=h;exact⟨v,vs',b1,b2,e1,e2,ai.It hM h1,ah.It hM h2⟩
end
mutual
theorem ai.FM {k:Nat} (hl:∀i b,M2 (.loc i)=some b->M (.loc i)=some b) (hM:∀o b,o < k->M2 (.out (ρ o))=some b->M (.out o)=some b):∀{a:ac} {v:Value} {bs:List Nat},Sw k a=false->ai w R M2 (fx ρ a) v bs->ai w R M a v bs
 | .dat _,_,_,_,h=>by simp only[fx,ai] at h ⊢;exact h
 | .own _,_,_,_,h=>by simp only[fx,ai] at h ⊢;exact h
 | .ref _,_,_,_,h=>by simp only[fx,ai] at h ⊢;exact h
 | .undef,_,_,_,h=>by simp only[fx,ai] at h ⊢;exact h
 | .ptr (.loc i) _,_,_,_,h=>by
  simp only[fx,ai] at h ⊢;obtain⟨h1,b,h2,h3⟩:=h;exact⟨h1,b,hl i b h2,h3⟩
 | .map (.loc i),_,_,_,h=>by
  simp only[fx,ai] at h ⊢;obtain⟨h1,b,h2,h3⟩:=h;exact⟨h1,b,hl i b h2,h3⟩
 | .win (.loc i) _ _ _,_,_,_,h=>by
  simp only[fx,ai] at h ⊢;obtain⟨h1,b,cap,h2,h3⟩:=h;exact⟨h1,b,cap,hl i b h2,h3⟩
 | .ptr (.out o) off,_,_,hn,h=>by
  simp only[Sw] at hn;simp only[fx,ai] at h ⊢;obtain⟨h1,b,h2,h3⟩:=h;exact⟨h1,b,hM o b (K0 hn) h2,h3⟩
 | .map (.out o),_,_,hn,h=>by
  simp only[Sw] at hn;simp only[fx,ai] at h ⊢;obtain⟨h1,b,h2,h3⟩:=h;exact⟨h1,b,hM o b (K0 hn) h2,h3⟩
 | .win (.out o) s off len,_,_,hn,h=>by
  simp only[Sw] at hn;simp only[fx,ai] at h ⊢;obtain⟨h1,b,cap,h2,h3⟩:=h;exact⟨h1,b,cap,hM o b (K0 hn) h2,h3⟩
 | .fn f a b,_,_,hn,h=>by
  simp only[Sw,Bool.or_eq_false_iff] at hn;simp only[fx,ai] at h ⊢;obtain⟨h1,vs,us,e,h2,h3⟩:=h;exact⟨h1,vs,us,e,ah.FM hl hM hn.1 h2,ah.FM hl hM hn.2 h3⟩
 | .agg cs,_,_,hn,h=>by
  simp only[Sw] at hn;simp only[fx,ai] at h ⊢;obtain⟨vs,e,h⟩:=h;exact⟨vs,e,ah.FM hl hM hn h⟩
 | .tup cs,_,_,hn,h=>by
  simp only[Sw] at hn;simp only[fx,ai] at h ⊢;obtain⟨vs,e,h⟩:=h;exact⟨vs,e,ah.FM hl hM hn h⟩
theorem ah.FM {k:Nat} (hl:∀i b,M2 (.loc i)=some b->M (.loc i)=some b) (hM:∀o b,o < k->M2 (.out (ρ o))=some b->M (.out o)=some b):∀{as:List ac} {vs:List Value} {bs:List Nat},BI k as=false->ah w R M2 (il ρ as) vs bs->ah w R M as vs bs
 | [],_,_,_,h=>by simp only[il,ah] at h ⊢;exact h
 | a::r,_,_,hn,h=>by
  simp only[BI,Bool.or_eq_false_iff] at hn;simp only[il,ah] at h ⊢;obtain⟨v,vs',b1,b2,e1,e2,h1,h2⟩:=h;exact⟨v,vs',b1,b2,e1,e2,ai.FM hl hM hn.1 h1,ah.FM hl hM hn.2 h2⟩
end
theorem aI.It (hM:∀m b,M m=some b->M2 (wX ρ m)=some b) {o:aL} {b:Nat} {bs:List Nat} (h:aI w R M o b bs):aI w R M2 (pW ρ o) b bs:=by
 cases o with
 | map es=>simp only[pW,aI] at h ⊢;exact h
 | cells cs=>
  simp only[pW,aI] at h ⊢;obtain⟨vs,elem,sp,h1,h2,h3,h4⟩:=h;refine⟨vs,elem,sp,h1,?_,h3,by rw[qE];exact h4⟩
  have:=ah.It (ρ:=ρ) hM (as:=cs++List.replicate sp .undef) h2
  rwa [lf,kO] at this
theorem aI.FM {k:Nat} (hl:∀i b,M2 (.loc i)=some b->M (.loc i)=some b) (hM:∀o b,o < k->M2 (.out (ρ o))=some b->M (.out o)=some b) {o:aL} {b:Nat} {bs:List Nat} (hn:Z5 k o=false) (h:aI w R M2 (pW ρ o) b bs):aI w R M o b bs:=by
 cases o with
 | map es=>simp only[pW,aI] at h ⊢;exact h
 | cells cs=>
  simp only[Z5] at hn;simp only[pW,aI] at h ⊢;obtain⟨vs,elem,sp,h1,h2,h3,h4⟩:=h;refine⟨vs,elem,sp,h1,?_,h3,by rw[qE] at h4;exact h4⟩;refine ah.FM (ρ:=ρ) hl hM (as:=cs++List.replicate sp .undef) (by rw[AJ,hn,CZ];rfl) ?_;rw[lf,kO];exact h2
theorem aj.It (hM:∀m b,M m=some b->M2 (wX ρ m)=some b):∀{os:Heap} {bs:List Nat},aj w R M os bs->aj w R M2 (jJ ρ os) bs
 | [],_,h=>h
 |(m,o)::r,_,⟨b,b1,b2,e,h1,h2,h3⟩=>⟨b,b1,b2,e,hM m b h1,h2.It hM,aj.It hM h3⟩
theorem aj.FM {k:Nat} (hl:∀i b,M2 (.loc i)=some b->M (.loc i)=some b) (hM:∀o b,o < k->M2 (.out (ρ o))=some b->M (.out o)=some b):∀{os:Heap} {bs:List Nat},GM k os=false->aj w R M2 (jJ ρ os) bs->aj w R M os bs
 | [],_,_,h=>h
 |(.loc i,o)::r,_,hn,⟨b,b1,b2,e,h1,h2,h3⟩=>by
  simp only[GM,Bool.or_eq_false_iff] at hn;exact⟨b,b1,b2,e,hl i b h1,h2.FM hl hM hn.1,aj.FM hl hM hn.2 h3⟩
 |(.out m,o)::r,_,hn,⟨b,b1,b2,e,h1,h2,h3⟩=>by
  simp only[GM,Bool.or_eq_false_iff] at hn;exact⟨b,b1,b2,e,hM m b (K0 hn.1) h1,h2.FM hl hM hn.2.1,aj.FM hl hM hn.2.2 h3⟩
end
def Sq (ρ:Nat->Nat) (next:Nat) (s:aa):aa:=⟨il ρ s.tmps,jJ ρ s.locs,jJ ρ s.heap,next⟩
def UH (s:aa):Bool:=!BI s.next s.tmps&&(!GM s.next s.locs&&(!GM s.next s.heap&&lD s.heap s.next))
variable {P:Program} {G:bA}
theorem aj.Jg {w:World} {R:Own} {M:Name->Option Nat} {ρ:Nat->Nat} {o:Nat}:∀{os:Heap} {bs:List Nat},hasName o os=true->aj w R M (jJ ρ os) bs->∃b,M (.out (ρ o))=some b
 | [],_,h,_=>by simp[hasName] at h
 |(.out m,x)::r,_,h,⟨b,b1,b2,e,h1,h2,h3⟩=>by
  simp only[hasName,Bool.or_eq_true] at h
  rcases h with h|h
  ·rw[Nat.beq_eq] at h;subst h;exact⟨b,h1⟩
  exact aj.Jg h h3
 |(.loc i,x)::r,_,h,⟨b,b1,b2,e,h1,h2,h3⟩=>by
  simp only[hasName] at h;exact aj.Jg h h3
theorem cL.rn {c:Code} {Q:Exit->aa->Prop} {s0:aa} (hc:cL P G c Q s0) (ρ:Nat->Nat) (next:Nat) (hf:UH s0=true) :
  cL P G c (fun e s=>∃s1,Q e s1/\s=Sq (ig ρ s0.next next) (next+(s1.next - s0.next)) s1) (Sq ρ next s0):=by
 intro w R N act bsT bsL bsH bsF hr D hd;unfold UH at hf;simp only[Bool.and_eq_true,Bool.not_eq_true'] at hf;obtain⟨f1,f2,f3,f4⟩:=hf;generalize hn0:s0.next=n0 at *
 let N0:Name->Option Nat:=fun m=>match m with|.loc i=>N (.loc i)|.out o=>if o < n0 then N (.out (ρ o)) else none
 have hl0:∀i b,N (.loc i)=some b->N0 (.loc i)=some b:=fun i b h=>h
 have hback:∀o b,o < n0->N (.out (ρ o))=some b->N0 (.out o)=some b:=by
  intro o b ho hb;simp only[N0];rw[if_pos ho];exact hb
 have hback2:∀o b,o < n0->outs N (.out (ρ o))=some b->outs N0 (.out o)=some b:=fun o b ho hb=>hback o b ho hb
 have hr0:dw G w R N0 act.tmps.toList s0 undef .undef [] bsT bsL bsH bsF:=by
  refine⟨aJ _,hr.tmps.FM hl0 hback f1,hr.locs.FM hl0 hback f2,hr.heap.FM (by intro i b h;simp[outs] at h) hback2 f3,hr.nodup,?_,hr.glob,hr.frame⟩;intro o b ho;simp only[N0] at ho;rw[hn0]
  split at ho
  ·assumption
  simp at ho
 refine wp_mono (hc w R N0 act bsT bsL bsH bsF hr0 hd) ?_;rintro e a w' ⟨s1,R',N1,bsT',bsL',bsH',hq,hr1,hd',hk,hN⟩
 let N2:Name->Option Nat:=fun m=>match m with|.loc i=>N1 (.loc i)|.out x=>if x < next then N (.out x) else N1 (.out (x - next+n0))
 have hnx:∀o b,N (.out o)=some b->o < next:=fun o b h=>hr.next o b h
 have hfwd:∀o b,N1 (.out o)=some b->N2 (.out (ig ρ n0 next o))=some b:=by
  intro o b hb;unfold ig
  cases hlt:Nat.blt o n0 with
  | true=>
   have ho:=oY hlt;dsimp only;obtain⟨b',hb'⟩:=aj.Jg (M:=outs N) (ρ:=ρ) (qI f4 o ho) hr.heap;simp only[outs] at hb';have h5:=hN o b' (hback o b' ho hb');rw[hb] at h5;simp only[N2];rw[if_pos (hnx _ _ hb'),hb',h5]
  | false=>
   dsimp only;have ho:¬o < n0:=fun h=>by rw[←Nat.blt_eq,hlt] at h;simp at h
   simp only[N2];rw[if_neg (by omega),show next+(o - n0) - next+n0=o by omega];exact hb
 have hfX:∀m b,N1 m=some b->N2 (wX (ig ρ n0 next) m)=some b:=by
  intro m b h
  cases m with
  | loc i=>exact h
  | out o=>exact hfwd o b h
 have hfY:∀m b,outs N1 m=some b->outs N2 (wX (ig ρ n0 next) m)=some b:=by
  intro m b h
  cases m with
  | loc i=>simp[outs] at h
  | out o=>exact hfwd o b h
 refine⟨_,R',N2,bsT',bsL',bsH',⟨s1,hq,rfl⟩,⟨aJ _,hr1.tmps.It hfX,hr1.locs.It hfX,hr1.heap.It hfY,hr1.nodup,?_,hr1.glob,hr1.frame⟩,hd',hk,?_⟩
 ·intro x b hx;simp only[N2] at hx;show x < next+(s1.next - n0)
  split at hx
  ·omega
  have:=hr1.next _ _ hx
  omega
 intro x b hx;simp only[N2];rw[if_pos (hnx x b hx)];exact hx
theorem dw.less {w:World} {R:Own} {N:Name->Option Nat} {tmps:List Value} {s:aa} {bsT bsL bsH bsF:List Nat} {h2 rest:Heap} (hr:dw G w R N tmps s undef .undef [] bsT bsL bsH bsF) (hp:s.heap.Perm (h2++rest)) :
  ∃bsH',dw G w R N tmps ⟨s.tmps,s.locs,h2,s.next⟩ undef .undef [] bsT bsL bsH' bsF:=by
 obtain⟨bsP,k1,k2⟩:=hr.heap.perm hp;obtain⟨b1,b2,e,h1,_⟩:=aj.append k1;subst e;refine⟨b1,aJ _,hr.tmps,hr.locs,h1,?_,hr.next,hr.glob,hr.frame⟩;have hnd:=hr.nodup;simp only[List.nil_append] at hnd ⊢;have h3:(bsT++(bsL++((b1++b2)++bsF))).Nodup:=(List.Perm.append_left _ (List.Perm.append_left _ (List.Perm.append_right _ k2))).nodup_iff.1 hnd;refine List.Nodup.sublist ?_ h3;exact List.Sublist.append (.refl _) (List.Sublist.append (.refl _) (List.Sublist.append (List.sublist_append_left _ _) (.refl _)))
theorem cL.ab4 {c:Code} {Q Q':Exit->aa->Prop} {s:aa} (hc:cL P G c Q s) (hq:∀e s1,Q e s1->∃h2 rest,s1.heap.Perm (h2++rest)/\Q' e ⟨s1.tmps,s1.locs,h2,s1.next⟩):cL P G c Q' s:=by
 intro w R N act bsT bsL bsH bsF hr D hd;refine wp_mono (hc w R N act bsT bsL bsH bsF hr hd) ?_;rintro e a w' ⟨s1,R',N',bsT',bsL',bsH',hQ,hr1,hd',hk,hN⟩;obtain⟨h2,rest,hp,hq2⟩:=hq e s1 hQ;obtain⟨bsH2,hr2⟩:=hr1.less hp;exact⟨_,R',N',bsT',bsL',bsH2,hq2,hr2,hd',hk,hN⟩
end Go.Tp
namespace Go.Tp
structure Gr where
 n:Nat
 succ:Nat->List Nat
 call:Nat->Bool
 lt:∀i,i < n->∀j∈succ i,j < n
variable {G:Gr}
def Gr.yN (G:Gr):Prop:=∃C:Nat->Prop,(∃i,C i)/\∀c,C c->c < G.n/\G.call c=false/\∃j∈G.succ c,C j
inductive Gr.Fin (G:Gr):List Nat->Prop
 |nil:Gr.Fin G []
 |cons {o:List Nat} {i:Nat}:Gr.Fin G o->(G.call i=true∨∀j∈G.succ i,j∈o)->Gr.Fin G (i::o)
def Gr.cover (G:Gr):Prop:=∃o,G.Fin o/\∀i,i < G.n->i∈o
def gg (st:List Nat) (i:Nat):Nat:=st.getD i 0
theorem ee {st:List Nat} {i j v:Nat} (h:i < st.length):gg (st.set i v) j=if j=i then v else gg st j:=by
 unfold gg;rw[List.getD_eq_getElem?_getD,List.getD_eq_getElem?_getD,List.getElem?_set]
 by_cases hji:j=i
 ·subst hji;simp[h]
 rw[if_neg (fun e=>hji e.symm),if_neg hji]
def Gr.Below (G:Gr) (st:List Nat):Nat->List (Nat×Nat)->Prop
 | _,[]=>True
 | a,(p,e)::r=>p < G.n/\0 < e/\gg st p=1/\G.call p=false/\(G.succ p)[e - 1]?=some a/\(∀k j,k < e - 1->(G.succ p)[k]?=some j->gg st j=2)/\G.Below st p r
def Gr.Top (G:Gr) (st:List Nat):List (Nat×Nat)->Prop
 | []=>True
 |(i,e)::r=>i < G.n/\e<=(G.succ i).length/\(0 < e->gg st i=1/\G.call i=false)/\(e=0->gg st i≠1)/\(∀k j,k < e->(G.succ i)[k]?=some j->gg st j=2)/\G.Below st i r
structure Gr.Inv (G:Gr) (st:List Nat) (stk:List (Nat×Nat)):Prop where
 len:st.length=G.n
 val:∀i,gg st i<=2
 fin:∃o,G.Fin o/\(∀i,i∈o↔i < G.n/\gg st i=2)
 act:∀i,gg st i=1->i∈stk.map Prod.fst
 nodup:(stk.map Prod.fst).Nodup
 top:G.Top st stk
theorem Gr.Below.done {st:List Nat} {i:Nat} (hi:i < st.length):∀{r:List (Nat×Nat)} {a:Nat},i∉r.map Prod.fst->G.Below st a r->G.Below (st.set i 2) a r
 | [],_,_,_=>trivial
 |(p,e)::r,a,hn,h=>by
  obtain⟨h1,h2,h3,h4,h5,h6,h7⟩:=h;simp only[List.map_cons,List.mem_cons,not_or] at hn;refine⟨h1,h2,?_,h4,h5,?_,Gr.Below.done hi hn.2 h7⟩
  ·rw[ee hi,if_neg (fun e=>hn.1 e.symm)];exact h3
  intro k j hk hj;rw[ee hi]
  by_cases hji:j=i
  ·rw[if_pos hji]
  rw[if_neg hji];exact h6 k j hk hj
theorem Gr.Below.act {st:List Nat} {i:Nat} (hi:i < st.length) (h2:gg st i≠2):∀{r:List (Nat×Nat)} {a:Nat},G.Below st a r->G.Below (st.set i 1) a r
 | [],_,_=>trivial
 |(p,e)::r,a,h=>by
  obtain⟨g1,g2,g3,g4,g5,g6,g7⟩:=h;refine⟨g1,g2,?_,g4,g5,?_,Gr.Below.act hi h2 g7⟩
  ·rw[ee hi]
   by_cases hp:p=i
   ·rw[if_pos hp]
   rw[if_neg hp];exact g3
  intro k j hk hj;rw[ee hi]
  by_cases hji:j=i
  ·subst hji;exact absurd (g6 k _ hk hj) h2
  rw[if_neg hji];exact g6 k j hk hj
theorem Gr.Inv.pop {st:List Nat} {i e:Nat} {r:List (Nat×Nat)} (h:G.Inv st ((i,e)::r)) (hd:gg st i=2∨G.call i=true∨e=(G.succ i).length):G.Inv (st.set i 2) r:=by
 obtain⟨hl,hv,⟨o,ho,hoi⟩,ha,hn,ht⟩:=h;obtain⟨t1,t2,t3,t4,t5,t6⟩:=ht;have hi:i < st.length:=by rw[hl];exact t1
 simp only[List.map_cons,List.nodup_cons] at hn;refine⟨by rw[List.length_set];exact hl,?_,?_,?_,hn.2,?_⟩
 ·intro j;rw[ee hi]
  by_cases hj:j=i
  ·rw[if_pos hj];exact Nat.le_refl 2
  rw[if_neg hj];exact hv j
 ·by_cases h2:gg st i=2
  ·refine⟨o,ho,?_⟩;intro j;rw[ee hi,hoi]
   by_cases hj:j=i
   ·subst hj;simp[h2]
   rw[if_neg hj]
  refine⟨i::o,.cons ho ?_,?_⟩
  ·rcases hd with hd|hd|hd
   ·exact absurd hd h2
   ·exact .inl hd
   refine .inr ?_;intro j hj;obtain⟨k,hk,he⟩:=List.mem_iff_getElem.1 hj;rw[hoi];refine⟨G.lt i t1 j hj,t5 k j (by omega) ?_⟩;rw[List.getElem?_eq_getElem hk,he]
  intro j;rw[List.mem_cons,ee hi,hoi]
  by_cases hj:j=i
  ·subst hj;simp[t1]
  rw[if_neg hj];simp[hj]
 ·intro j hj;rw[ee hi] at hj
  by_cases hji:j=i
  ·rw[if_pos hji] at hj;omega
  rw[if_neg hji] at hj
  have:=ha j hj
  simp only[List.map_cons,List.mem_cons] at this;exact this.resolve_left hji
 cases r with
 | nil=>trivial
 | cons q r=>
  obtain⟨p,ep⟩:=q;obtain⟨g1,g2,g3,g4,g5,g6,g7⟩:=t6;have hpi:p≠i:=by
   rintro rfl;exact hn.1 (by simp)
  have hle:ep<=(G.succ p).length:=by
   have:=(List.getElem?_eq_some_iff.1 g5).1
   omega
  refine⟨g1,hle,?_,by omega,?_,Gr.Below.done hi (fun hm=>hn.1 (by simp only[List.map_cons,List.mem_cons];exact .inr hm)) g7⟩
  ·intro _;refine⟨?_,g4⟩;rw[ee hi,if_neg hpi];exact g3
  intro k j hk hj;rw[ee hi]
  by_cases hji:j=i
  ·rw[if_pos hji]
  rw[if_neg hji]
  by_cases hke:k < ep - 1
  ·exact g6 k j hke hj
  have:k=ep - 1:=by omega
  subst this;rw[g5] at hj;exact absurd (Option.some.inj hj).symm hji
theorem Gr.Inv.mark {st:List Nat} {i e:Nat} {r:List (Nat×Nat)} (h:G.Inv st ((i,e)::r)) (h2:e=0->gg st i≠2):(∀j,gg (st.set i 1) j=if j=i then 1 else gg st j)/\(st.set i 1).length=G.n/\(∃o,G.Fin o/\(∀j,j∈o↔j < G.n/\gg (st.set i 1) j=2))/\(∀j,gg (st.set i 1) j=1->j∈((i,e)::r).map Prod.fst)/\G.Below (st.set i 1) i r/\(∀k j,k < e->(G.succ i)[k]?=some j->gg (st.set i 1) j=2):=by
 obtain⟨hl,hv,⟨o,ho,hoi⟩,ha,hn,ht⟩:=h;obtain⟨t1,t2,t3,t4,t5,t6⟩:=ht;have hi:i < st.length:=by rw[hl];exact t1
 have hne:gg st i≠2:=by
  by_cases he:e=0
  ·exact h2 he
  rw[(t3 (by omega)).1];omega
 refine⟨fun j=>ee hi,by rw[List.length_set];exact hl,⟨o,ho,?_⟩,?_,Gr.Below.act hi hne t6,?_⟩
 ·intro j;rw[ee hi,hoi]
  by_cases hj:j=i
  ·subst hj;simp[hne]
  rw[if_neg hj]
 ·intro j hj;rw[ee hi] at hj
  by_cases hji:j=i
  ·simp[hji]
  rw[if_neg hji] at hj;exact ha j hj
 intro k j hk hj;have h5:=t5 k j hk hj;rw[ee hi]
 by_cases hji:j=i
 ·subst hji;exact absurd h5 hne
 rw[if_neg hji];exact h5
theorem Gr.Inv.skip {st:List Nat} {i e j:Nat} {r:List (Nat×Nat)} (h:G.Inv st ((i,e)::r)) (h2:e=0->gg st i≠2) (hc:e=0->G.call i=false) (hj:(G.succ i)[e]?=some j) (hd:gg (st.set i 1) j=2):G.Inv (st.set i 1) ((i,e+1)::r):=by
 obtain⟨m1,m2,m3,m4,m5,m6⟩:=h.mark h2;obtain⟨t1,t2,t3,t4,t5,t6⟩:=h.top;have hcall:G.call i=false:=by
  by_cases he:e=0
  ·exact hc he
  exact (t3 (by omega)).2
 refine⟨m2,?_,m3,?_,h.nodup,⟨t1,?_,?_,by omega,?_,m5⟩⟩
 ·intro k;rw[m1]
  by_cases hk:k=i
  ·rw[if_pos hk];omega
  rw[if_neg hk];exact h.val k
 ·intro k hk;simpa using m4 k hk
 ·have:=(List.getElem?_eq_some_iff.1 hj).1;omega
 ·intro _;refine⟨?_,hcall⟩;rw[m1,if_pos rfl]
 intro k q hk hq
 by_cases hke:k < e
 ·exact m6 k q hke hq
 have:k=e:=by omega
 subst this;rw[hj] at hq;rw[←Option.some.inj hq];exact hd
theorem Gr.Inv.push {st:List Nat} {i e j:Nat} {r:List (Nat×Nat)} (h:G.Inv st ((i,e)::r)) (h2:e=0->gg st i≠2) (hc:e=0->G.call i=false) (hj:(G.succ i)[e]?=some j) (hd1:gg (st.set i 1) j≠1) (hd2:gg (st.set i 1) j≠2):G.Inv (st.set i 1) ((j,0)::(i,e+1)::r):=by
 obtain⟨m1,m2,m3,m4,m5,m6⟩:=h.mark h2;obtain⟨t1,t2,t3,t4,t5,t6⟩:=h.top;have hcall:G.call i=false:=by
  by_cases he:e=0
  ·exact hc he
  exact (t3 (by omega)).2
 have hjn:j < G.n:=G.lt i t1 j (List.mem_of_getElem? hj);have hall:∀q,G.Below (st.set i 1) q r->∀p∈r.map Prod.fst,gg (st.set i 1) p=1:=by
  intro q hb p hp;clear hj hd1 hd2 m3 m4 m6 hcall;revert q;have key:∀(r:List (Nat×Nat)) (q:Nat),G.Below (st.set i 1) q r->∀p∈r.map Prod.fst,gg (st.set i 1) p=1:=by
   intro r
   induction r with
   | nil=>intro q _ p hp;simp at hp
   | cons x r ih=>
    intro q hb p hp;obtain⟨x1,x2⟩:=x;obtain⟨_,_,g3,_,_,_,g7⟩:=hb;simp only[List.map_cons,List.mem_cons] at hp
    rcases hp with rfl|hp
    ·exact g3
    exact ih x1 g7 p hp
  intro q hb;exact key r q hb p hp
 refine⟨m2,?_,m3,?_,?_,⟨hjn,Nat.zero_le _,by omega,fun _=>hd1,fun k q hk=>by omega,?_⟩⟩
 ·intro k;rw[m1]
  by_cases hk:k=i
  ·rw[if_pos hk];omega
  rw[if_neg hk];exact h.val k
 ·intro k hk
  have:=m4 k hk
  simp only[List.map_cons,List.mem_cons] at this ⊢;exact .inr this
 ·simp only[List.map_cons,List.nodup_cons];have hn:=h.nodup;simp only[List.map_cons,List.nodup_cons] at hn;refine⟨?_,hn⟩;intro hm
  rcases List.mem_cons.1 hm with rfl|hm
  ·exact hd1 (by rw[m1,if_pos rfl])
  exact hd1 (hall i m5 j hm)
 refine⟨t1,by omega,by rw[m1,if_pos rfl],hcall,hj,?_,m5⟩;intro k q hk hq;exact m6 k q (by omega) hq
theorem Gr.Inv.yN {st:List Nat} {i e j:Nat} {r:List (Nat×Nat)} (h:G.Inv st ((i,e)::r)) (h2:e=0->gg st i≠2) (hc:e=0->G.call i=false) (hj:(G.succ i)[e]?=some j) (hd:gg (st.set i 1) j=1):G.yN:=by
 obtain⟨m1,m2,m3,m4,m5,m6⟩:=h.mark h2;obtain⟨t1,t2,t3,t4,t5,t6⟩:=h.top;have hcall:G.call i=false:=by
  by_cases he:e=0
  ·exact hc he
  exact (t3 (by omega)).2
 refine⟨fun c=>c∈((i,e)::r).map Prod.fst,⟨i,by simp⟩,?_⟩;have key:∀(r:List (Nat×Nat)) (q:Nat),G.Below st q r->∀c∈r.map Prod.fst,c < G.n/\G.call c=false/\∃j∈G.succ c,j=q∨j∈r.map Prod.fst:=by
  intro r
  induction r with
  | nil=>intro q _ c hc;simp at hc
  | cons x r ih=>
   intro q hb c hc;obtain⟨x1,x2⟩:=x;obtain⟨g1,_,g3,g4,g5,_,g7⟩:=hb;simp only[List.map_cons,List.mem_cons] at hc
   rcases hc with rfl|hc
   ·exact⟨g1,g4,q,List.mem_of_getElem? g5,.inl rfl⟩
   obtain⟨k1,k2,k,k3,k4⟩:=ih x1 g7 c hc;refine⟨k1,k2,k,k3,.inr ?_⟩;simp only[List.map_cons,List.mem_cons];exact k4
 intro c hc';simp only[List.map_cons,List.mem_cons] at hc'
 rcases hc' with rfl|hc'
 ·exact⟨t1,hcall,j,List.mem_of_getElem? hj,m4 j hd⟩
 obtain⟨k1,k2,k,k3,k4⟩:=key r i t6 c hc';refine⟨k1,k2,k,k3,?_⟩;simp only[List.map_cons,List.mem_cons];exact k4
theorem Gr.Inv.start {st:List Nat} {i:Nat} (h:G.Inv st []) (hi:i < G.n):G.Inv st [(i,0)]:=by
 have h1:∀j,gg st j≠1:=fun j hj=>by have:=h.act j hj;simp at this
 refine⟨h.len,h.val,h.fin,fun j hj=>absurd hj (h1 j),by simp,⟨hi,Nat.zero_le _,by omega,fun _=>h1 i,fun k j hk=>by omega,trivial⟩⟩
theorem Gr.Inv.init:G.Inv (List.replicate G.n 0) []:=by
 have h0:∀i,gg (List.replicate G.n 0) i=0:=by
  intro i;unfold gg;rw[List.getD_eq_getElem?_getD,List.getElem?_replicate]
  split <;> rfl
 refine⟨by simp,fun i=>by rw[h0];omega,⟨[],.nil,fun i=>by rw[h0];simp⟩,fun i hi=>by rw[h0] at hi;omega,by simp,trivial⟩
theorem Gr.Inv.cover {st:List Nat} (h:G.Inv st []) (hd:∀i,i < G.n->gg st i=2):G.cover:=by
 obtain⟨o,ho,hoi⟩:=h.fin;exact⟨o,ho,fun i hi=>(hoi i).2 ⟨hi,hd i hi⟩⟩
def LZ (e d:Nat):Nat:=if e=0 then 1 else 2*(d - e)+1
def fresh (G:Gr) (st:List Nat):Nat->Nat
 | 0=>0
 | k+1=>fresh G st k+(if gg st k=0 then 2*(G.succ k).length+4 else 0)
def rI (G:Gr) (st:List Nat) (stk:List (Nat×Nat)):Nat:=fresh G st G.n+(stk.map (fun x=>LZ x.2 (G.succ x.1).length)).sum
theorem uG {st:List Nat} {i v:Nat} (hi:i < st.length) (hv:v≠0):∀k,fresh G (st.set i v) k<=fresh G st k
 | 0=>Nat.le_refl _
 | k+1=>by
  have ih:=uG hi hv k;simp only[fresh];rw[ee hi]
  by_cases hk:k=i
  ·rw[if_pos hk,if_neg hv];omega
  rw[if_neg hk];omega
theorem GX {st:List Nat} {i v:Nat} (hi:i < st.length) (hv:v≠0) (h0:gg st i=0):∀k,i < k->fresh G (st.set i v) k+(2*(G.succ i).length+4)<=fresh G st k
 | 0,h=>by omega
 | k+1,h=>by
  simp only[fresh];rw[ee hi]
  by_cases hk:k=i
  ·subst hk;rw[if_pos rfl,if_neg hv,if_pos h0]
   have:=uG (G:=G) hi hv k
   omega
  rw[if_neg hk]
  have:=GX hi hv h0 k (by omega)
  omega
theorem Gq {st:List Nat} {i e v:Nat} {r:List (Nat×Nat)} (hi:i < st.length) (hv:v≠0):rI G (st.set i v) r < rI G st ((i,e)::r):=by
 have h1:=uG (G:=G) hi hv G.n;have h2:1<=LZ e (G.succ i).length:=by unfold LZ;split <;> omega
 simp only[rI,List.map_cons,List.sum_cons];omega
theorem CR {st:List Nat} {i e:Nat} {r s:List (Nat×Nat)} (h:G.Inv st ((i,e)::r)) (h2:e=0->gg st i≠2) (he:e < (G.succ i).length) (hs:s=[]∨∃j,s=[(j,0)]) :
  rI G (st.set i 1) (s++(i,e+1)::r) < rI G st ((i,e)::r):=by
 obtain⟨t1,t2,t3,t4,t5,t6⟩:=h.top;have hi:i < st.length:=by rw[h.len];exact t1
 have hs1:(s.map (fun x=>LZ x.2 (G.succ x.1).length)).sum<=1:=by
  rcases hs with rfl|⟨j,rfl⟩
  ·simp
  simp[LZ]
 have h1:=uG (G:=G) hi (v:=1) (by omega) G.n;have hw:LZ (e+1) (G.succ i).length=2*((G.succ i).length - (e+1))+1:=by unfold LZ;rw[if_neg (by omega)]
 simp only[rI,List.map_append,List.sum_append,List.map_cons,List.sum_cons];rw[hw]
 by_cases h0:e=0
 ·have hv:=h.val i;have hz:gg st i=0:=by have:=h2 h0;have:=t4 h0;omega
  have h3:=GX (G:=G) hi (v:=1) (by omega) hz G.n t1;omega
 have hw2:LZ e (G.succ i).length=2*((G.succ i).length - e)+1:=by unfold LZ;rw[if_neg h0]
 rw[hw2];omega
def Gr.Sound (G:Gr) (f:List Bool):Prop:=∀C:Nat->Prop,(∀c,C c->c < G.n/\G.call c=false/\∃j∈G.succ c,C j)->∀c,C c->f.getD c false=false
def Gr.fp (G:Gr) (f:List Bool):Prop:=∀i,i < G.n->(G.call i=true∨∀j∈G.succ i,f.getD j false=true)->f.getD i false=true
theorem Gr.Sound.set {f:List Bool} {i:Nat} (h:G.Sound f) (hi:i < f.length) (hd:G.call i=true∨∀j∈G.succ i,f.getD j false=true):G.Sound (f.set i true):=by
 intro C hC c hc;have h1:=h C hC c hc;rw[List.getD_eq_getElem?_getD,List.getElem?_set]
 by_cases hci:i=c
 ·subst hci
  exfalso
  obtain⟨_,h2,j,h3,h4⟩:=hC _ hc
  rcases hd with hd|hd
  ·rw[h2] at hd;simp at hd
  have h5:=hd j h3;rw[h C hC j h4] at h5;simp at h5
 rw[if_neg hci,←List.getD_eq_getElem?_getD];exact h1
theorem Gr.Sound.init {n:Nat}:G.Sound (List.replicate n false):=by
 intro C _ c _;rw[List.getD_eq_getElem?_getD,List.getElem?_replicate]
 split <;> rfl
theorem Gr.NQ {f:List Bool} (hl:f.length=G.n) (h:G.Sound f) (ht:G.yN):f.any (fun b=>!b)=true:=by
 obtain⟨C,⟨i,hi⟩,hC⟩:=ht;have h1:=h C hC i hi;have hlt:=(hC i hi).1;rw[List.any_eq_true];refine⟨f[i]'(by omega),List.getElem_mem _,?_⟩;rw[List.getD_eq_getElem?_getD,List.getElem?_eq_getElem (by omega)] at h1;simpa using h1
theorem Gr.Fin.free {o:List Nat} (h:G.Fin o) {C:Nat->Prop} (hC:∀c,C c->c < G.n/\G.call c=false/\∃j∈G.succ c,C j):∀c,C c->c∉o:=by
 induction h with
 | nil=>intro c _ hm;simp at hm
 | @cons o i _ hk ih=>
  intro c hc hm
  rcases List.mem_cons.1 hm with rfl|hm
  ·obtain⟨_,h2,j,h3,h4⟩:=hC _ hc
   rcases hk with hk|hk
   ·rw[h2] at hk;simp at hk
   exact ih j h4 (hk j h3)
  exact ih c hc hm
theorem Gr.JW (h:G.cover):¬G.yN:=by
 obtain⟨o,ho,hall⟩:=h;rintro⟨C,⟨i,hi⟩,hC⟩;exact ho.free hC i hi (hall i (hC i hi).1)
theorem Gr.Sh {f:List Bool} (hl:f.length=G.n) (h:G.fp f) (ha:f.any (fun b=>!b)=true):G.yN:=by
 refine⟨fun i=>i < G.n/\f.getD i false=false,?_,?_⟩
 ·rw[List.any_eq_true] at ha;obtain⟨b,hb,hnb⟩:=ha;obtain⟨i,hi,he⟩:=List.mem_iff_getElem.1 hb;refine⟨i,by omega,?_⟩;rw[List.getD_eq_getElem?_getD,List.getElem?_eq_getElem hi,he];simpa using hnb
 rintro c ⟨h1,h2⟩;have h3:=h c h1;rw[h2] at h3;have h4:¬(G.call c=true∨∀j∈G.succ c,f.getD j false=true):=fun hd=>by have:=h3 hd;simp at this
 refine⟨h1,?_,?_⟩
 ·cases hc:G.call c with
  | false=>rfl
  | true=>exact absurd (.inl hc) h4
 have h5:¬ ∀j∈G.succ c,f.getD j false=true:=fun hd=>h4 (.inr hd)
 simp only[Classical.not_forall] at h5;obtain⟨j,hj,h6⟩:=h5;exact⟨j,hj,G.lt c h1 j hj,by simpa using h6⟩
end Go.Tp
namespace Go.Tp
def WS:Code->Code
 | .seq a _=>a
 | c=>c
def WR:Code->Code
 | .seq _ b=>b
 | _=>.skip
def VQ:Code->Bool
 | .seq _ _=>true
 | _=>false
def V3:Nat->Code->Code
 | 0,c=>c
 | k+1,c=>WR (V3 k c)
def ZW (fn:Func):Code:=match fn.body with|some c=>c|none=>.skip
def kc (fn:Func) (k:Nat):Code:=V3 k (ZW fn)
def du (fn:Func) (k:Nat):Code:=WS (kc fn k)
section
variable {P:Program} {E:bz} {G:bA}
theorem di {fn:Func} {k:Nat} {Q:Exit->aa->Prop} {s s1:aa} (hs:VQ (kc fn k)=true) (h:cL P G (du fn k) (fun e q=>e=.normal/\q=s1) s) (h2:cL P G (kc fn (k+1)) Q s1):cL P G (kc fn k) Q s:=by
 have e:kc fn k=.seq (du fn k) (kc fn (k+1)):=by
  unfold du;show kc fn k=.seq (WS (kc fn k)) (WR (kc fn k));generalize kc fn k=c at hs
  cases c <;> simp_all [VQ,WS,WR]
 rw[e];refine wK (h.mono ?_);rintro e q ⟨rfl,rfl⟩;exact h2
theorem Nr (hE:E.Ok P) {moves caps:FuncId->Bool} {F:FuncId->Option qS} (hF:Z9 P moves caps F) {g:FuncId} {x:qS} (hx:F g=some x) {fn0:Func} (hb:x.code=kc fn0 0) {args:List ac} {heap:Heap} {next:Nat} {r:eX} (hl:Nat.ble args.length x.ntmps=true)
  (h:cL P G (kc fn0 0) (fun e s=>e=.ret/\∃f:ab,s=f.al x.ntmps/\sU E x.ntmps x.results f=some r) ((⟨rG 0 args,[],heap,next⟩:ab).al x.ntmps)):ay P G g args heap next (XQ r):=by
 obtain⟨fn,h1,h2,h3,h4,h5⟩:=hF g x hx;refine gX hE h1 h2 (fun _ _=>?_);rw[h3,h4];have hlen:=fD hl;have hent:(⟨rG 0 args,[],heap,next⟩:ab).al x.ntmps=enter x.ntmps args heap next:=by
  simp only[ab.al,enter];congr 1
  apply List.ext_getElem?
  intro i;rw[kq,Nat.zero_add,pS,if_pos (Nat.zero_le _),Nat.sub_zero,List.getElem?_append]
  split
  ·split
   ·rename_i hi;unfold bq;rw[List.getElem?_eq_getElem hi]
   rename_i hi1 hi;rw[List.getElem?_replicate,if_pos (by omega)];unfold bq;rw[List.getElem?_eq_none (by omega)]
  rename_i hi;rw[if_neg (by omega),List.getElem?_replicate,if_neg (by omega)]
 rw[←hent,hb];refine h.mono ?_;rintro e s ⟨rfl,f',rfl,hr⟩;exact nL (by rw[yz];exact hr)
end
end Go.Tp
namespace Go.Tp
theorem SC {w:World} {R:Own} {N:Name->Option Nat} {k sz len:Nat} {v:Value} {bs0:List Nat} {heap:Heap} {cs:List ac} {es:List ak} {bsH:List Nat} (hv:ai w R (outs N) (.win (.out k) sz 0 len) v bs0) (hh:aj w R (outs N) heap bsH) (ho:eA (.out k) heap=some (.cells cs))
  (hnd:bsH.Nodup) (hes:es.length=len) (hle:len<=lim)
  (hcell:∀i d,es[i]?=some d->d.cells.length=sz/\∀j c,d.cells[j]?=some c->∃a,cs[i*sz+j]?=some a/\dK a=some c) :
  ∃(b:Nat) (R2:Own) (bsH2:List Nat),b∈bsH/\b∉bsH2/\bs0=[]/\ai w R2 (outs N) (.dat (.slice es)) v []/\aj w R2 (outs N) (iY (.out k) heap) bsH2/\bsH2.Sublist bsH/\(∀bs,b∉bs->bp w R w R2 bs):=by
 simp only[ai] at hv;obtain⟨rfl,b,cap,hb,rfl,hcap,⟨hsz,_⟩,hblt,hrow⟩:=hv;obtain⟨pre,b',b1,post,e1,hb',hobj,_,bs',hdel,hsub⟩:=aj.kK hh ho
 have:b'=b:=by rw[hb] at hb';simpa using hb'.symm
 subst this;obtain⟨vs,elem,sp,hblk,hrv,hRv,_⟩:=hobj;obtain⟨R',hR'⟩:∃R':Own,R'=fun c off=>c≠b'/\R c off:=⟨_,rfl⟩
 have hstep:Step w R w R':=⟨rfl,rfl,rfl,Nat.le_refl _,fun c _ hno=>⟨rfl,fun off h=>by subst hR';exact hno off h.2⟩,fun c off _ hno=>⟨fun h=>by subst hR';exact hno h.2,rfl⟩,fun _ _=>rfl⟩;have hk:∀bs,b'∉bs->bp w R w R' bs:=fun bs hbs=>⟨hstep,fun c hc _=>⟨rfl,fun off h=>by subst hR';exact⟨fun e=>hbs (e ▸ hc),h⟩⟩⟩
 subst e1;have hp:((pre++(b'::b1))++post).Perm (b'::(b1++(pre++post))):=by
  rw[List.perm_iff_count];intro q;simp only[List.count_append,List.count_cons];omega
 have hnd2:=List.nodup_cons.1 (hp.nodup_iff.1 hnd);have hno:=hnd2.1;simp only[List.mem_append,not_or] at hno;have n5:b'∉bs':=fun hm=>by
  rcases List.mem_append.1 (hsub.subset hm) with h|h
  ·exact hno.2.1 h
  exact hno.2.2 h
 have hrep:eU w R' (.slice (some ⟨b',0,none⟩) len cap) (.slice es):=by
  subst hes;have hc:∀i j e c,es[i]?=some e->e.cells[j]?=some c->∃a x bx,cs[i*sz+j]?=some a/\dK a=some c/\vs[i*sz+j]?=some x/\ai w R (outs N) a x bx:=by
   intro i j e c he hc;obtain⟨a,ha,hd⟩:=(hcell i e he).2 j c hc;obtain⟨x,bx,q1,q2,_⟩:=dY hrv (rj ha);exact⟨a,x,bx,ha,hd,by rw[←Array.getElem?_toList];exact q1,q2⟩
  refine .slice b' 0 cap sz _ (fun i j=>vs[i*sz+j]?.getD default) hsz ?_ hcap hle ?_ ?_
  ·intro e he;obtain⟨i,hi,rfl⟩:=List.getElem_of_mem he;exact (hcell i _ (List.getElem?_eq_getElem hi)).1
  ·intro i j hi hj;have hei:es[i]?=some es[i]:=List.getElem?_eq_getElem hi;have hl:=(hcell i _ hei).1;have hcj:es[i].cells[j]?=some (es[i].cells[j]'(by omega)):=List.getElem?_eq_getElem (by omega);obtain⟨a,x,bx,_,hd,hvx,hx⟩:=hc i j _ _ hei hcj;refine⟨?_,fun h=>by subst hR';exact h.1 rfl⟩;rw[cell_of_row w b' _ vs elem (0,0) hblk];rw[Nat.zero_add,hvx];rfl
  intro i j e c he hcc;obtain⟨a,x,bx,_,hd,hvx,hx⟩:=hc i j e c he hcc;obtain⟨k1,k2⟩:=mn hd hx;have hx2:vs[i*sz+j]?.getD default=x:=by rw[hvx];rfl
  show eU w R' (vs[i*sz+j]?.getD default) c;rw[hx2];exact k1.step hstep
 refine⟨b',R',bs',by simp,n5,rfl,bQ (d:=.slice es) hrep,hdel.keep (hk bs' n5),?_,hk⟩;refine hsub.trans ?_;exact List.Sublist.append (List.sublist_append_left pre (b'::b1)) (List.Sublist.refl post)
section
variable {P:Program} {G:bA}
end
end Go.Tp
namespace Go.Tp
section
variable {w:World} {R:Own} {M:Name->Option Nat}
end
section
variable {P:Program} {G:bA}
end
end Go.Tp
namespace Go.Tp
section
variable {P:Program} {G:bA}
theorem ay.ae1 {g:FuncId} {args:List ac} {H0:Heap} {n0 o sz len m:Nat} {as1 as2:List ac} {hp:Heap} {cs:List ac} {es:List ak}
  (hc:ay P G g args H0 n0 (XQ ⟨.agg (as1++.win (.out o) sz 0 len::as2),hp,m⟩)) (ho:eA (.out o) hp=some (.cells cs)) (hes:es.length=len) (hle:len<=lim)
  (hcell:∀i d,es[i]?=some d->d.cells.length=sz/\∀j c,d.cells[j]?=some c->∃a,cs[i*sz+j]?=some a/\dK a=some c) :
  ay P G g args H0 n0 (XQ ⟨.agg (as1++.dat (.slice es)::as2),iY (.out o) hp,m⟩):=by
 intro w R N cargs bsA bsH bsF ha hh hnd hnx hg hF;refine (hc w R N cargs bsA bsH bsF ha hh hnd hnx hg hF).mono ?_;rintro e w' ⟨v',cv,h1,next',R',N',bsV,bsH',rfl,⟨rfl,rfl,rfl⟩,hv1,hh',hnd',hnx',hk,hN⟩;simp only[ai] at hv1;obtain⟨vs,rfl,hvs⟩:=hv1;obtain⟨us1,us2,b1,b2,rfl,rfl,hs1,hs2⟩:=eL hvs;obtain⟨vw,us3,b3,b4,rfl,rfl,hw,hs3⟩:=au hs2;have hnd2:=List.nodup_append.1 hnd';have hnd3:bsH'.Nodup:=(List.nodup_append.1 hnd2.2.1).1;obtain⟨b,R2,bsH2,m1,m2,m3,m4,m5,m6,m7⟩:=SC hw hh' ho hnd3 hes hle hcell;subst m3;have hbF:b∉bsF:=fun hb=>(List.nodup_append.1 hnd2.2.1).2.2 b m1 b hb rfl
 have hb1:b∉b1:=fun hb=>hnd2.2.2 b (by simp[hb]) b (by simp[m1]) rfl
 have hb4:b∉b4:=fun hb=>hnd2.2.2 b (by simp[hb]) b (by simp[m1]) rfl
 refine⟨_,_,_,_,R2,N',b1++([]++b4),bsH2,rfl,⟨rfl,rfl,rfl⟩,?_,m5,?_,hnx',hk.trans (m7 bsF hbF),hN⟩
 ·simp only[ai];exact⟨_,rfl,ct (hs1.keep (m7 b1 hb1)) (aD m4 (hs3.keep (m7 b4 hb4)))⟩
 exact List.Nodup.sublist (List.Sublist.append (List.Sublist.refl _) (List.Sublist.append m6 (List.Sublist.refl _))) hnd'
theorem zF {w:World} {R:Own} {N:Name->Option Nat}:∀{cs:List ac} {ds:List ak} {vs:List Value} {bs:List Nat},cs.map dK=ds.map some->ah w R N cs vs bs->dz w R vs ds
 | [],[],vs,bs,_,hr=>by
  obtain⟨rfl,_⟩:=aM hr;trivial
 | [],d::ds,_,_,h,_=>by simp at h
 | c::cs,[],_,_,h,_=>by simp at h
 | c::cs,d::ds,vs,bs,h,hr=>by
  simp only[List.map_cons,List.cons.injEq] at h;obtain⟨v,us,b1,b2,rfl,rfl,h1,h2⟩:=au hr;exact⟨(mn h.1 h1).1,zF h.2 h2⟩
theorem ay.afm {g:FuncId} {args:List ac} {H0:Heap} {n0 m:Nat} {cs:List ac} {ds:List ak} {hp:Heap} (hc:ay P G g args H0 n0 (XQ ⟨.agg cs,hp,m⟩)) (hd:cs.map dK=ds.map some) :
  ay P G g args H0 n0 (XQ ⟨.dat (.agg ds),hp,m⟩):=by
 intro w R N cargs bsA bsH bsF ha hh hnd hnx hg hF;refine (hc w R N cargs bsA bsH bsF ha hh hnd hnx hg hF).mono ?_;rintro e w' ⟨v',cv,h1,next',R',N',bsV,bsH',rfl,⟨rfl,rfl,rfl⟩,hv1,hh',hnd',hnx',hk,hN⟩;simp only[ai] at hv1;obtain⟨vs,rfl,hvs⟩:=hv1;exact⟨_,_,_,_,R',N',[],bsH',rfl,⟨rfl,rfl,rfl⟩,bQ ⟨vs,rfl,zF hd hvs⟩,hh',(List.nodup_append.1 hnd').2.1,hnx',hk,hN⟩
end
end Go.Tp
namespace Go.Tp
open Go.ChangeShapes Go.WideShapes
def intD (x:Int):ak:=.flat (.int .i64 x)
theorem X2 {x:Int} (h:(Lit.int .i64 x).wf=true):-9223372036854775808<=x/\x < 9223372036854775808:=by
 have h1:decide (-9223372036854775808<=x)=true/\decide (x<=9223372036854775807)=true:=(Bool.and_eq_true _ _).mp h;have h2:=of_decide_eq_true h1.1;have h3:=of_decide_eq_true h1.2;omega
theorem Dq {H:Type} {enc:TypeId×Value->H} {P:Program} {W:World} {base:Nat} {sp:Nat->Bool} {held:Bool} {t e:TypeId} {v:Value} {d:DataW H} {ps:List MemPlace} (N:Name->Option Nat)
  (ht:P.underlying t=some (.slice e)) (he:P.underlying e=some (.int .i64)) (hc:P.cellsOf e=1) (hv:v.cells=#[v]) (h:DataW.Trod enc P W base sp held t v d ps) :
  ∃l:List Int,((d=.nil/\l=[])∨(∃els rest,d=.slice els rest/\els.length=l.length))/\(∀x∈l,-9223372036854775808<=x/\x < 9223372036854775808)/\(l.length<=lim->ai W xl N (.dat (.slice (l.map intD))) v []):=by
 obtain⟨fuel,hf⟩:=h
 rcases open_ints ht he hc hf with⟨hcs,hx⟩|⟨a,len,cap,zs,hcs,_,hl,hm,hz,hx,hi,hw⟩
 ·rw[hv] at hcs;simp only[List.cons.injEq,and_true] at hcs;have hvn:v=.slice none 0 0:=by simpa using hcs
  subst hvn;refine⟨[],.inl ⟨?_,rfl⟩,by simp,fun _=>bQ (d:=.slice []) (.nil none 0)⟩;simp only[Prod.mk.injEq] at hx;exact hx.1
 rw[hv] at hcs;have hvn:v=.slice (some a) len cap:=by simpa using hcs
 subst hvn;simp only[Prod.mk.injEq] at hx;have hlz:len<=zs.length:=by rw[hz];split <;> omega
 refine⟨zs.take len,.inr ⟨_,_,hx.1,by simp[lits]⟩,fun x hx=>X2 (hw x (List.mem_of_mem_take hx)),fun hb=>?_⟩;have htl:(zs.take len).length=len:=by rw[List.length_take];omega
 rw[htl] at hb;refine bQ (d:=.slice _) ?_
 cases hk:len with
 | zero=>
  rw[hk] at hl;simp only[List.take_zero,List.map_nil];exact .nil (some a) cap
 | succ k0=>
  have hspot:a.spot=none:=by
   have:=hi 0 (by omega)
   have:=World.cell?_spot this
   simpa [Addr.add] using this
  obtain⟨b,off,spot⟩:=a;simp only at hspot;subst hspot;rw[←hk];have el:((zs.take len).map intD).length=len:=by rw[List.length_map,htl]
  have hgoal:eU W xl (.slice (some ⟨b,off,none⟩) ((zs.take len).map intD).length cap) (.slice ((zs.take len).map intD)):=by
   refine .slice b off cap 1 _ (fun i _=>.int .i64 (zs.getD i 0)) (by omega) ?_ (by omega) (by omega) ?_ ?_
   ·intro d hd;obtain⟨x,_,rfl⟩:=List.mem_map.1 hd;rfl
   ·intro i j hil hj;obtain rfl:j=0:=by omega
    rw[el] at hil;refine⟨?_,fun h=>h⟩
    have:=hi i (by omega)
    simp only[Addr.add] at this;simp only[Nat.mul_one,Nat.add_zero]
    split at this
    ·rename_i h0;subst h0;exact this
    exact this
   intro i j d c hd hcc;rw[List.getElem?_map] at hd
   cases hb2:(zs.take len)[i]? with
   | none=>rw[hb2] at hd;simp at hd
   | some x=>
    rw[hb2] at hd;simp at hd;subst hd
    have:c=.flat (.int .i64 x):=by
     cases j with
     | zero=>simp[intD,ak.cells] at hcc;exact hcc.symm
     | succ j=>simp[intD,ak.cells] at hcc
    subst this;have hx2:zs[i]?=some x:=by
     rw[List.getElem?_take] at hb2
     split at hb2
     ·exact hb2
     simp at hb2
    have:zs.getD i 0=x:=by simp[List.getD,hx2]
    rw[this];exact .flat (hw x (List.mem_of_getElem? hx2))
  rw[el] at hgoal;exact hgoal
theorem wz {P:Program} {G:bA} {f:FuncId} {as:List ac} {args:List Value} {b:Bool} {r:eX} (W:World) (ha:ah W xl (outs fun _=>none) as args []) (h:ay P G f as [] 0 (XQ r)) (hr:r.val=bv b) (hG:∀g cs,G g=some cs->eN W xl g 0 cs) :
  Calls P f args.toArray W fun e W'=>e=.returned (.bool b)/\W.keptBut W' (fun _=>False)/\∀i,i < W.heap.size->W'.heap[i]?=W.heap[i]?:=by
 refine (h W xl (fun _=>none) args [] [] [] ha rfl (by simp) (by intro o b h;simp at h) hG (by simp)).mono ?_;rintro e W' ⟨v,cv,heap',next',R',N',bsV,bsH',rfl,⟨rfl,_,_⟩,hv,_,_,_,hk,_⟩;rw[hr] at hv;obtain⟨_,rfl,_⟩:=aC hv;exact⟨rfl,xY hk.step,fun i hi=>(hk.step.block i hi (fun _ h=>h)).1⟩
theorem yL {H:Type} {enc:TypeId×Value->H} {P:Program} {W W':World} {base:Nat} {sp:Nat->Bool} {hd:Bool} (hB:∀i,i < W.heap.size->W'.heap[i]?=W.heap[i]?):∀{ts:List TypeId} {vs:List Value} {ds:List (DataW H)} {ps:List MemPlace},
  DataW.TrodAll enc P W base sp hd ts vs ds ps->DataW.TrodAll enc P W' base sp hd ts vs ds ps
 | [],_,_,_,h=>by
  obtain⟨rfl,rfl,rfl⟩:=trodAll_nil h;exact trodAll_mk0
 | _::_,_,_,_,h=>by
  obtain⟨v,vs1,d,ds1,a,b,rfl,rfl,rfl,⟨n,hn⟩,h2⟩:=trodAll_cons h;refine⟨a,b,⟨n,DataW.trod_carry n _ _ _ hn (fun p hp=>?_)⟩,yL hB h2,rfl⟩;have hl:=DataW.trod_lt n _ _ _ hn p hp
  cases p with
  | cell b o=>exact World.cell?_of_block (w:=W) (hB b hl)
  | map b=>exact hB b hl
end Go.Tp
