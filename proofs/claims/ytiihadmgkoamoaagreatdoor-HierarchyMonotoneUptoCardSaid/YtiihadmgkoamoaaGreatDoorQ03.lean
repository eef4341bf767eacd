/- HierarchyMonotone returns true and changes nothing, for arguments of bulk at most 1048576 (the card of the second form; conditions: those of the given row). Names are shortened by a program, for the claim's bound. Part 3. -/
import Derived.Scope
import Derived.Deep.Slices
import Derived.ChangeSame
import Derived.LaidLaws
import Derived.RowKit
import Derived.KernelRfl
import Derived.ChangeSlices
import Derived.ReadAgain
import Derived.ChangeMaps5
import Derived.Test.YtiihadmgkoamoaaGreatDoorQ02
set_option linter.unusedVariables false
set_option linter.unusedSimpArgs false
set_option maxRecDepth 100000
set_option maxHeartbeats 4000000
namespace Go.Tp
noncomputable def eM (l:Sl):Nat->Sl:=
 @List.rec (Nat×ac) (fun _=>Nat->Sl) (fun _=>[]) (fun p _ ih m=>@Bool.rec (fun _=>Sl) (p::ih (Nat.xor m (Nat.pow 2 p.1))) (ih m) (Nat.beq (Nat.land 1 (Nat.shiftRight m p.1)) 0)) l
theorem agu (m d:Nat):Nat.beq (Nat.land 1 (Nat.shiftRight m d)) 0=!(m.testBit d):=by
 have e:m.testBit d=(Nat.land 1 (Nat.shiftRight m d) != 0):=rfl;rw[e];generalize Nat.land 1 (Nat.shiftRight m d)=x
 by_cases h:x=0
 ·subst h;rfl
 have h1:Nat.beq x 0=false:=by rw[Bool.eq_false_iff];intro hc;rw[Nat.beq_eq] at hc;exact h hc
 have h2:(x != 0)=true:=by simpa using h
 rw[h1,h2];rfl
theorem wF (d:Nat) (v:ac) (r:Sl) (m:Nat):eM ((d,v)::r) m=if m.testBit d=true then (d,v)::eM r (m ^^^ 2 ^ d) else eM r m:=by
 have e:eM ((d,v)::r) m=@Bool.rec (fun _=>Sl) ((d,v)::eM r (m ^^^ 2 ^ d)) (eM r m) (Nat.beq (Nat.land 1 (Nat.shiftRight m d)) 0):=rfl;rw[e,agu]
 cases m.testBit d <;> simp
theorem rM:∀(l:Sl) (m t:Nat),m.testBit t=false->qI (eM l m) t=.undef
 | [],_,_,_=>rfl
 |(d,v)::r,m,t,h=>by
  rw[wF]
  split
  ·rename_i hd;have hne:d≠t:=fun e=>by rw[e,h] at hd;simp at hd
   rw[ik,if_neg hne]
   apply rM
   rw[Nat.testBit_xor,h,Nat.testBit_two_pow_of_ne hne];rfl
  exact rM r m t h
theorem rN:∀(l:Sl) (m t:Nat),qI (eM l m) t=qI l t∨qI (eM l m) t=.undef
 | [],_,_=>.inl rfl
 |(d,v)::r,m,t=>by
  rw[wF,ik]
  split
  ·rw[ik]
   split
   ·exact .inl rfl
   exact rN r _ t
  rename_i hd
  split
  ·rename_i he;subst he;exact .inr (rM r m d (by simpa using hd))
  exact rN r m t
theorem GL {w:World} {R:Own} {N:Name->Option Nat}:∀{as as':List ac} {vs:List Value} {bs:List Nat},as'.length=as.length->(∀i:Nat,as'[i]?=as[i]?∨as'[i]?=some .undef)->ak w R N as vs bs->∃bs',ak w R N as' vs bs'/\bs'.Sublist bs
 | [],[],_,bs,_,_,h=>⟨bs,h,.refl _⟩
 | [],_::_,_,_,hl,_,_=>by simp at hl
 | _::_,[],_,_,hl,_,_=>by simp at hl
 | a::as,a'::as',vs,bs,hl,hi,h=>by
  obtain⟨v,vs',b1,b2,rfl,rfl,h1,h2⟩:=az h;obtain⟨bs',k1,k2⟩:=GL (as:=as) (as':=as') (by simpa using hl) (fun i=>by simpa using hi (i+1)) h2
  rcases hi 0 with h0|h0
  ·simp at h0;subst h0;exact⟨b1++bs',aG h1 k1,List.Sublist.append (.refl _) k2⟩
  simp at h0;subst h0;exact⟨[]++bs',aG (aW _) k1,List.Sublist.append (List.nil_sublist _) k2⟩
def kX (f:ab) (m:Sl->Sl):ab:=match f with|⟨sl,locs,heap,next⟩=>⟨m sl,locs,heap,next⟩
theorem df.prune {G:bL} {w:World} {R:Own} {N:Name->Option Nat} {tmps:List Value} {n:Nat} {f:ab} {bsT bsL bsH bsF:List Nat} (h:df G w R N tmps (f.aw n) undef .undef [] bsT bsL bsH bsF) (m:Nat) :
  ∃bsT',df G w R N tmps ((kX f (fun l=>eM l m)).aw n) undef .undef [] bsT' bsL bsH bsF:=by
 obtain⟨sl,locs,heap,next⟩:=f;obtain⟨bsT',k1,k2⟩:=GL (as':=GH n 0 (eM sl m)) (by simp[ab.aw,nt]) (fun i=>by
  simp only[ab.aw,lG]
  split
  ·rcases rN sl m (0+i) with h|h
   ·exact .inl (by rw[h])
   exact .inr (by rw[h])
  exact .inl rfl) h.tmps
 exact⟨bsT',aW _,k1,h.locs,h.heap,List.Nodup.sublist (List.Sublist.append (.refl _) (List.Sublist.append k2 (.refl _))) h.nodup,h.next,h.glob,h.frame⟩
mutual
def dB (k:Nat):ac->Bool
 | .ptr (.out o) _=>Nat.ble k o
 | .ptr (.loc _) _=>true
 | .map (.out o)=>Nat.ble k o
 | .map (.loc _)=>true
 | .win (.out o) _ _ _=>Nat.ble k o
 | .win (.loc _) _ _ _=>true
 | .fn _ a b=>dM k a||dM k b
 | .agg cs=>dM k cs
 | .tup cs=>dM k cs
 | _=>false
def dM (k:Nat):List ac->Bool
 | []=>false
 | a::r=>dB k a||dM k r
end
def kl (k:Nat):Name->Bool
 | .out o=>Nat.blt o k
 | .loc _=>false
def eF (k:Nat):Heap->Heap
 | []=>[]
 |(m,o)::r=>match kl k m with|true=>(m,o)::eF k r|false=>eF k r
def lY (k:Nat):aR->Bool
 | .cells cs=>dM k cs
 | .map _=>false
def cG (k:Nat):Heap->Bool
 | []=>false
 |(_,o)::r=>lY k o||cG k r
mutual
def Lj:ac->List Nat
 | .ptr (.out o) _=>[o]
 | .map (.out o)=>[o]
 | .win (.out o) _ _ _=>[o]
 | .fn _ a b=>Cy a++Cy b
 | .agg cs=>Cy cs
 | .tup cs=>Cy cs
 | _=>[]
def Cy:List ac->List Nat
 | []=>[]
 | a::r=>Lj a++Cy r
end
def gG (o:Nat):List Nat->Bool
 | []=>false
 | x::r=>match Nat.beq x o with|true=>true|false=>gG o r
def addN:List Nat->List Nat->List Nat
 | [],l=>l
 | n::ns,l=>match gG n l with|true=>addN ns l|false=>addN ns (n::l)
def qk (k:Nat) (l:List Nat):Heap->List Nat
 | []=>l
 |(.out o,.cells cs)::r=>(match Nat.blt o k||gG o l with|true=>qk k (addN (Cy cs) l) r|false=>qk k l r)
 | _::r=>qk k l r
def EW (k:Nat) (h:Heap):Nat->List Nat->List Nat
 | 0,l=>l
 | n+1,l=>EW k h n (qk k l h)
def mJ (k:Nat) (l:List Nat):Heap->Heap
 | []=>[]
 |(.out o,x)::r=>(match Nat.blt o k||gG o l with|true=>(.out o,x)::mJ k l r|false=>mJ k l r)
 | _::r=>mJ k l r
def qJ (k:Nat) (r:ey):ey:=
 match r with
 | ⟨val,heap,next⟩=>match dB k val||cG k (eF k heap) with
  | false=>⟨val,eF k heap,k⟩
  | true=>⟨val,mJ k (EW k heap 3 (Lj val)) heap,next⟩
section
variable {w:World} {R:Own} {M M2:Name->Option Nat}
theorem oX (k:Nat):∀{os:Heap} {bs:List Nat},an w R M os bs->∃bs',an w R M (eF k os) bs'/\bs'.Sublist bs
 | [],bs,h=>⟨bs,h,.refl _⟩
 |(m,o)::os,_,⟨b,b1,b2,e,hn,ho,hr⟩=>by
  subst e;obtain⟨bs',k1,k2⟩:=oX k hr;simp only[eF]
  split
  ·exact⟨b::(b1++bs'),⟨b,b1,bs',rfl,hn,ho,k1⟩,(List.Sublist.append (.refl _) k2).cons_cons _⟩
  exact⟨bs',k1,k2.trans ((List.sublist_append_right b1 b2).cons _)⟩
theorem kp (k:Nat) (l:List Nat):∀{os:Heap} {bs:List Nat},an w R M os bs->∃bs',an w R M (mJ k l os) bs'/\bs'.Sublist bs
 | [],bs,h=>⟨bs,h,.refl _⟩
 |(.out m,o)::os,_,⟨b,b1,b2,e,hn,ho,hr⟩=>by
  subst e;obtain⟨bs',k1,k2⟩:=kp k l hr;simp only[mJ]
  split
  ·exact⟨b::(b1++bs'),⟨b,b1,bs',rfl,hn,ho,k1⟩,(List.Sublist.append (.refl _) k2).cons_cons _⟩
  exact⟨bs',k1,k2.trans ((List.sublist_append_right b1 b2).cons _)⟩
 |(.loc m,o)::os,_,⟨b,b1,b2,e,hn,ho,hr⟩=>by
  subst e;obtain⟨bs',k1,k2⟩:=kp k l hr;exact⟨bs',k1,k2.trans ((List.sublist_append_right b1 b2).cons _)⟩
variable (hM:∀m b,(∃o,m=.out o)->M m=some b->M2 m=some b)
mutual
theorem al.low {k:Nat} (hM:∀o b,o < k->M (.out o)=some b->M2 (.out o)=some b):∀{a:ac} {v:Value} {bs:List Nat},dB k a=false->al w R M a v bs->al w R M2 a v bs
 | .dat _,_,_,_,h=>by simp only[al] at h ⊢;exact h
 | .own _,_,_,_,h=>by simp only[al] at h ⊢;exact h
 | .ref _,_,_,_,h=>by simp only[al] at h ⊢;exact h
 | .ptr (.loc _) _,_,_,hn,_=>by simp[dB] at hn
 | .ptr (.out o) _,_,_,hn,h=>by
  simp only[dB] at hn;simp only[al] at h ⊢;obtain⟨h1,b,hb,e⟩:=h;exact⟨h1,b,hM o b (by rcases Nat.lt_or_ge o k with h|h;exact h;rw[fS h] at hn;simp at hn) hb,e⟩
 | .map (.loc _),_,_,hn,_=>by simp[dB] at hn
 | .win (.loc _) _ _ _,_,_,hn,_=>by simp[dB] at hn
 | .win (.out o) _ _ _,_,_,hn,h=>by
  simp only[dB] at hn;simp only[al] at h ⊢;obtain⟨h1,b,cap,hb,e⟩:=h;exact⟨h1,b,cap,hM o b (by rcases Nat.lt_or_ge o k with h|h;exact h;rw[fS h] at hn;simp at hn) hb,e⟩
 | .map (.out o),_,_,hn,h=>by
  simp only[dB] at hn;simp only[al] at h ⊢;obtain⟨h1,b,hb,e⟩:=h;exact⟨h1,b,hM o b (by rcases Nat.lt_or_ge o k with h|h;exact h;rw[fS h] at hn;simp at hn) hb,e⟩
 | .fn _ first captured,_,_,hn,h=>by
  simp only[dB,Bool.or_eq_false_iff] at hn;simp only[al] at h ⊢;obtain⟨h1,vs',us',e,h2,h3⟩:=h;exact⟨h1,vs',us',e,ak.low hM (as:=first) hn.1 h2,ak.low hM (as:=captured) hn.2 h3⟩
 | .agg cs,_,_,hn,h=>by
  simp only[dB] at hn;simp only[al] at h ⊢;obtain⟨vs',e,h2⟩:=h;exact⟨vs',e,ak.low hM (as:=cs) hn h2⟩
 | .tup cs,_,_,hn,h=>by
  simp only[dB] at hn;simp only[al] at h ⊢;obtain⟨vs',e,h2⟩:=h;exact⟨vs',e,ak.low hM (as:=cs) hn h2⟩
 | .undef,_,_,_,h=>by simp only[al] at h ⊢;exact h
theorem ak.low {k:Nat} (hM:∀o b,o < k->M (.out o)=some b->M2 (.out o)=some b):∀{as:List ac} {vs:List Value} {bs:List Nat},dM k as=false->ak w R M as vs bs->ak w R M2 as vs bs
 | [],_,_,_,h=>by simp only[ak] at h ⊢;exact h
 | a::as,_,_,hn,h=>by
  simp only[dM,Bool.or_eq_false_iff] at hn;simp only[ak] at h ⊢;obtain⟨v',vs',b1',b2',e1,e2,h1,h2⟩:=h;exact⟨v',vs',b1',b2',e1,e2,al.low hM (a:=a) hn.1 h1,ak.low hM (as:=as) hn.2 h2⟩
end
theorem pa (k:Nat):∀(l m:List ac),dM k (l++m)=(dM k l||dM k m)
 | [],m=>by simp[dM]
 | a::l,m=>by simp[dM,pa k l m,Bool.or_assoc]
theorem Sf (k:Nat) (cs:List ac) (j:Nat):dM k (cs++List.replicate j .undef)=dM k cs:=by
 rw[pa]
 have:dM k (List.replicate j .undef)=false:=by
  induction j with
  | zero=>rfl
  | succ j ih=>simp[List.replicate_succ,dM,dB,ih]
 rw[this,Bool.or_false]
theorem an.low {k:Nat} (hM:∀o b,o < k->M (.out o)=some b->M2 (.out o)=some b):∀{os:Heap} {bs:List Nat},(∀p∈os,kl k p.1=true)->cG k os=false->an w R M os bs->an w R M2 os bs
 | [],_,_,_,h=>h
 |(m,o)::os,_,hs,hn,⟨b,b1,b2,e,hb,ho,hr⟩=>by
  simp only[cG,Bool.or_eq_false_iff] at hn;have hm:=hs (m,o) (by simp);refine⟨b,b1,b2,e,?_,?_,an.low hM (fun p hp=>hs p (by simp[hp])) hn.2 hr⟩
  ·cases m with
   | loc i=>simp[kl] at hm
   | out i=>exact hM i b (pL (by simpa [kl] using hm)) hb
  cases o with
  | cells cs=>
   obtain⟨vs,el,sp,hblk,hrr,hR⟩:=ho;exact⟨vs,el,sp,hblk,hrr.low hM (by rw[Sf];simpa [lY] using hn.1),hR⟩
  | map es=>exact ho
theorem lF (k:Nat):∀os:Heap,∀p∈eF k os,kl k p.1=true
 | [],p,h=>by simp[eF] at h
 |(m,o)::os,p,h=>by
  simp only[eF] at h
  split at h
  ·rename_i hm
   rcases List.mem_cons.1 h with rfl|h
   ·exact hm
   exact lF k os p h
  exact lF k os p h
end
theorem aB.gc {P:Program} {G:bL} {f:FuncId} {args:List ac} {heap:Heap} {next:Nat} {r:ey} (h:aB P G f args heap next (XQ r)):aB P G f args heap next (XQ (qJ next r)):=by
 intro w R N cargs bsA bsH bsF ha hh hnd hnx hg hF;refine (h w R N cargs bsA bsH bsF ha hh hnd hnx hg hF).mono ?_;rintro e w' ⟨v',cv,heap',next',R',N',bsV,bsH',rfl,⟨rfl,rfl,rfl⟩,hv',hh',hnd',hnx',hk,hN⟩;obtain⟨val,heap',next'⟩:=r;dsimp only at hv' hh' hnx' ⊢;unfold qJ;dsimp only
 split
 ·rename_i hnew;simp only[Bool.or_eq_false_iff] at hnew;obtain⟨bs',k1,k2⟩:=oX next hh'
  let N2:Name->Option Nat:=fun m=>match m with|.loc i=>N' (.loc i)|.out o=>if o < next then N' (.out o) else none
  have hM:∀o b,o < next->outs N' (.out o)=some b->outs N2 (.out o)=some b:=by
   intro o b ho hb;simp only[outs] at hb ⊢;simp only[N2];rw[if_pos ho];exact hb
  refine⟨val,cv,eF next heap',next,R',N2,bsV,bs',rfl,⟨rfl,rfl,rfl⟩,hv'.low hM hnew.1,k1.low hM (lF next heap') hnew.2,?_,?_,hk,?_⟩
  ·exact List.Nodup.sublist (List.Sublist.append (.refl _) (List.Sublist.append k2 (.refl _))) hnd'
  ·intro o b hb;simp only[N2] at hb
   split at hb
   ·assumption
   simp at hb
  intro o b hb;simp only[N2];rw[if_pos (hnx o b hb)];exact hN o b hb
 obtain⟨bs',k1,k2⟩:=kp next (EW next heap' 3 (Lj val)) hh';exact⟨val,cv,_,next',R',N',bsV,bs',rfl,⟨rfl,rfl,rfl⟩,hv',k1,List.Nodup.sublist (List.Sublist.append (.refl _) (List.Sublist.append k2 (.refl _))) hnd',hnx',hk,hN⟩
section
variable (X:jx) (E:bG) (G:bL) (H:Hints) (n:Nat)
def ud (f:ab) (r:ey) (dst:Option Tmp):ab:=
 match f,r with
 | ⟨sl,locs,_,_⟩,⟨v,heap,next⟩=>jS ⟨sl,locs,heap,next⟩ dst v
theorem lc (f:ab) (r:ey) (dst:Option Tmp):(ud f r dst).aw n=({f.aw n with heap:=r.heap,next:=r.next }:aa).put dst r.val:=by
 obtain⟨sl,locs,heap,next⟩:=f;obtain⟨v,h,k⟩:=r;simp only[ud,eH];rfl
noncomputable def J3 (all:List Oper) (o:Oper) (f:ab):Option ab:=
 match hJ n all f o.guard with
 | none=>none
 | some b=>match b with
  | true=>
   (match dm o.op with
    | some c=>(match qw E G H n c f with
     | some (g,args,f2)=>(match X g args f2.heap f2.next with
      | some r=>some (ud f2 r o.dst)
      | none=>none)
     | none=>none)
    | none=>wV E G n (readOnly H.moves all o) (lv H all o) o f)
  | false=>some (jS f o.dst (.tup []))
theorem vI {all:List Oper} {o:Oper} {f f':ab} (h:J3 X E G H n all o f=some f'):Im X E G H all o (f.aw n)=some (f'.aw n):=by
 unfold J3 at h;unfold Im;rw[kV]
 cases hw:hJ n all f o.guard with
 | none=>rw[hw] at h;simp at h
 | some b=>
  rw[hw] at h
  cases b with
  | false=>simp at h;subst h;simp[eH]
  | true=>
   dsimp only at h ⊢;rw[if_pos rfl]
   cases hc:dm o.op with
   | none=>
    rw[hc] at h;dsimp only at h ⊢;rw[tU,h];rfl
   | some c=>
    rw[hc] at h;dsimp only at h ⊢;rw[AU]
    cases hcal:qw E G H n c f with
    | none=>rw[hcal] at h;simp at h
    | some x=>
     obtain⟨g,args,f2⟩:=x;rw[hcal] at h;dsimp only[Option.map_some] at h ⊢;have e1:(f2.aw n).heap=f2.heap:=rfl;have e2:(f2.aw n).next=f2.next:=rfl;rw[e1,e2]
     cases hr:X g args f2.heap f2.next with
     | none=>rw[hr] at h;simp at h
     | some r=>
      rw[hr] at h;simp at h;subst h;simp[lc]
noncomputable def EF (all:List Oper) (ops:List Oper):ab->Option ab:=
 @List.rec Oper (fun _=>ab->Option ab) (fun f=>some f) (fun o _ ih f=>match J3 X E G H n all o f with|some f'=>ih f'|none=>none) ops
theorem qu {all:List Oper}:∀{ops:List Oper} {f f':ab},EF X E G H n all ops f=some f'->Fm X E G H all ops (f.aw n)=some (f'.aw n)
 | [],f,f',h=>by
  have e:EF X E G H n all [] f=some f:=rfl;rw[e] at h;simp at h;subst h;rfl
 | o::rest,f,f',h=>by
  have e:EF X E G H n all (o::rest) f=(match J3 X E G H n all o f with|some f'=>EF X E G H n all rest f'|none=>none):=rfl;rw[e] at h;simp only[Fm]
  cases ho:J3 X E G H n all o f with
  | none=>rw[ho] at h;simp at h
  | some f1=>
   rw[ho] at h;rw[vI X E G H n ho];exact qu h
noncomputable def vE (tk:List Nat) (t:Tmp) (f:ab):List Nat:=match JN (qK n f t) with|true=>[]|false=>tk
theorem CT (tk:List Nat) (t:Tmp) (f:ab):lu tk t (f.aw n)=vE n tk t f:=by
 unfold lu vE;rw[jC]
 cases JN (qK n f t) <;> rfl
noncomputable def J2 (fh:Bool) (tk:List Nat) (all:List Oper) (o:Oper) (f:ab):Option ab:=
 match hJ n all f o.guard with
 | none=>none
 | some b=>match b with
  | true=>
   (match dm o.op with
    | some c=>(match mP E G H n c f with
     | some (g,args,f2)=>(match hO H o with
      | true=>(match X g args [] f2.next with
       | some ⟨v,[],k⟩=>some (ud f2 ⟨v,f2.heap,k⟩ o.dst)
       | _=>none)
      | false=>(match X g args f2.heap f2.next with
       | some r=>(match !mc H o||uS f2.heap r.heap with
        | true=>some (ud f2 r o.dst)
        | false=>none)
       | none=>none))
     | none=>none)
    | none=>(match fJ o.op with
     | some t=>(match lJ n fh all (gf all t (vE n tk t f)) f with
      | some f1=>wV E G n false false o f1
      | none=>none)
     | none=>(match kq o.op with
      | true=>wV E G n (readOnly H.moves all o) (lv H all o) o f
      | false=>none)))
  | false=>some (jS f o.dst (.tup []))
theorem vH {fh:Bool} {tk:List Nat} {all:List Oper} {o:Oper} {f f':ab} (h:J2 X E G H n fh tk all o f=some f'):Il X E G H fh tk all o (f.aw n)=some (f'.aw n):=by
 unfold J2 at h;unfold Il;rw[kV]
 cases hw:hJ n all f o.guard with
 | none=>rw[hw] at h;simp at h
 | some b=>
  rw[hw] at h
  cases b with
  | false=>simp at h;subst h;simp[eH]
  | true=>
   dsimp only at h ⊢;rw[if_pos rfl]
   cases hc:dm o.op with
   | none=>
    rw[hc] at h;dsimp only at h ⊢
    cases ht:fJ o.op with
    | none=>
     rw[ht] at h;dsimp only at h ⊢
     cases hst:kq o.op with
     | false=>rw[hst] at h;simp at h
     | true=>
      rw[hst] at h;dsimp only at h ⊢;rw[tU,h];rfl
    | some t=>
     rw[ht] at h;dsimp only at h ⊢;rw[CT]
     cases hs:lJ n fh all (gf all t (vE n tk t f)) f with
     | none=>rw[hs] at h;simp at h
     | some f1=>
      rw[hs] at h;rw[nL n fh all _ _ _ hs];dsimp only at h ⊢;rw[tU,h];rfl
   | some c=>
    rw[hc] at h;dsimp only at h ⊢;rw[xe]
    cases hcal:mP E G H n c f with
    | none=>rw[hcal] at h;simp at h
    | some x=>
     obtain⟨g,args,f2⟩:=x;rw[hcal] at h;dsimp only[Option.map_some] at h ⊢;have e1:(f2.aw n).heap=f2.heap:=rfl;have e2:(f2.aw n).next=f2.next:=rfl;rw[e1,e2]
     cases hpu:hO H o with
     | true=>
      rw[hpu] at h;dsimp only at h ⊢
      split at h
      ·rename_i v k hr;simp at h;subst h;simp[lc,hr]
      simp at h
     | false=>
      rw[hpu] at h;dsimp only at h ⊢
      cases hr:X g args f2.heap f2.next with
      | none=>rw[hr] at h;simp at h
      | some r=>
       rw[hr] at h;dsimp only at h ⊢
       cases hst:(!mc H o||uS f2.heap r.heap) with
       | false=>rw[hst] at h;simp at h
       | true=>
        rw[hst] at h;simp at h;subst h;simp[lc]
noncomputable def Hd (tk:List Nat) (fh:Bool) (fq:Nat->Bool) (all:List Oper) (l:List (Nat×Bool)):ab->Option ab:=
 @List.rec (Nat×Bool) (fun _=>ab->Option ab) (fun f=>some f) (fun p _ ih f=>
  match all[p.1]? with
  | none=>none
  | some o=>match p.2 with
   | true=>(match J2 X E G H n fh tk all o f with|some f'=>ih f'|none=>none)
   | false=>(match pu E G n (fh||fq p.1) all o f with
    | some a=>ih (jS f o.dst a)
    | none=>none)) l
theorem NV {tk:List Nat} {fh:Bool} {fq:Nat->Bool} {all:List Oper} {i:Nat} {lone:Bool} {rest:List (Nat×Bool)} {f:ab}:Hd X E G H n tk fh fq all ((i,lone)::rest) f=(match all[i]? with
   | none=>none
   | some o=>match lone with
    | true=>(match J2 X E G H n fh tk all o f with|some f'=>Hd X E G H n tk fh fq all rest f'|none=>none)
    | false=>(match pu E G n (fh||fq i) all o f with
     | some a=>Hd X E G H n tk fh fq all rest (jS f o.dst a)
     | none=>none)):=rfl
theorem qt {tk:List Nat} {fh:Bool} {fq:Nat->Bool} {all:List Oper}:∀{l:List (Nat×Bool)} {f f':ab},Hd X E G H n tk fh fq all l f=some f'->Ds X E G H tk fh fq all l (f.aw n)=some (f'.aw n)
 | [],f,f',h=>by
  have e:Hd X E G H n tk fh fq all [] f=some f:=rfl;rw[e] at h;simp at h;subst h;rfl
 |(i,lone)::rest,f,f',h=>by
  rw[NV] at h;simp only[Ds]
  cases hi:all[i]? with
  | none=>rw[hi] at h;simp at h
  | some o=>
   rw[hi] at h
   cases lone
   ·dsimp only at h ⊢;rw[if_neg (by simp),CU]
    cases ho:pu E G n (fh||fq i) all o f with
    | none=>rw[ho] at h;simp at h
    | some a=>
     rw[ho] at h;dsimp only at h ⊢;rw[←eH];exact qt h
   dsimp only at h ⊢;rw[if_pos rfl]
   cases ho:J2 X E G H n fh tk all o f with
   | none=>rw[ho] at h;simp at h
   | some f1=>
    rw[ho] at h;rw[vH X E G H n ho];exact qt h
noncomputable def AS (all:List Oper):Nat->Array Bool->ab->Option ab
 | 0,_,f=>some f
 | m+1,listed,f=>match Region.ready .any all.toArray listed with
  | []=>some f
  | i::_=>(match all[i]? with
   | some o=>(match J3 X E G H n all o f with|some f1=>AS all m (bY listed i) f1|none=>none)
   | none=>none)
noncomputable def EN (all:List Oper) (k:Nat) (s0:aa):Nat->Array Bool->ab->Bool
 | 0,listed,f=>(Region.ready .any all.toArray listed).isEmpty&&Nf k s0 (f.aw n)
 | m+1,listed,f=>match Region.ready .any all.toArray listed with
  | []=>Nf k s0 (f.aw n)
  | i::l=>(i::l).all fun i=>match all[i]? with
   | some o=>(match J3 X E G H n all o f with|some f1=>EN all k s0 m (bY listed i) f1|none=>false)
   | none=>false
theorem xc {all:List Oper}:∀(m:Nat) (listed:Array Bool) (f f':ab),AS X E G H n all m listed f=some f'->Du X E G H all m listed (f.aw n)=some (f'.aw n)
 | 0,listed,f,f',h=>by simp only[AS,Option.some.injEq] at h;subst h;rfl
 | m+1,listed,f,f',h=>by
  simp only[AS] at h;simp only[Du]
  split at h
  ·rename_i he;rw[he];simp only[Option.some.injEq] at h;subst h;rfl
  rename_i i l he;rw[he];dsimp only
  split at h
  ·rename_i o ho;rw[ho];dsimp only
   split at h
   ·rename_i f1 hf1;rw[vI X E G H n hf1];exact xc m _ f1 f' h
   simp at h
  simp at h
theorem xd {all:List Oper} {k:Nat} {s0:aa}:∀(m:Nat) (listed:Array Bool) (f:ab),EN X E G H n all k s0 m listed f=true->ru X E G H all k s0 m listed (f.aw n)=true
 | 0,listed,f,h=>h
 | m+1,listed,f,h=>by
  simp only[EN] at h;simp only[ru]
  split at h
  ·rename_i he;rw[he];exact h
  rename_i i l he;rw[he];dsimp only;refine List.all_eq_true.2 fun j hj=>?_
  have h1:=List.all_eq_true.1 h j hj
  split at h1
  ·rename_i o ho;rw[ho];dsimp only
   split at h1
   ·rename_i f1 hf1;rw[vI X E G H n hf1];exact xd m _ f1 h1
   simp at h1
  simp at h1
noncomputable def AL (h:ax) (all:List Oper):Nat->Array Bool->ab->Option ab
 | 0,_,f=>some f
 | m+1,listed,f=>match Region.ready .any all.toArray listed with
  | []=>none
  | i::_=>(match all[i]? with
   | some o=>(match J2 X E G H n (aV H all h.pre) h.tk all o f with|some f1=>AL h all m (bY listed i) f1|none=>none)
   | none=>none)
noncomputable def EI (h:ax) (all:List Oper) (p:Array Bool) (s0:aa):Nat->Array Bool->ab->Bool
 | 0,listed,f=>qL listed.toList p.toList&&Cj s0 (f.aw n)
 | m+1,listed,f=>!qL listed.toList p.toList&&!(Region.ready .any all.toArray listed).isEmpty&&(Region.ready .any all.toArray listed).all fun i=>h.pre.contains (i,true)&&(match all[i]? with
   | some o=>(match J2 X E G H n (aV H all h.pre) h.tk all o f with|some f1=>EI h all p s0 m (bY listed i) f1|none=>false)
   | none=>false)
noncomputable def Kb (all:List Oper) (h:ax) (f:ab):Option ab:=
 match Hd X E G H n h.tk (aV H all h.pre) (quietAt H all h.pre) all (cd h.pre) f with
 | some f1=>(match AL X E G H n h all (h.pre.length - (cd h.pre).length) (eb (cd h.pre) (Array.replicate all.length false)) f1 with
  | some f0=>(match EI X E G H n h all (eb h.pre (Array.replicate all.length false)) (f0.aw n) (h.pre.length - (cd h.pre).length) (eb (cd h.pre) (Array.replicate all.length false)) f1 with
   | true=>(match nM E n all h.nw f0 with
    | some f2=>EF X E G H n all (dJ all h.tail) f2
    | none=>none)
   | false=>none)
  | none=>none)
 | none=>none
theorem wY {h:ax} {all:List Oper}:∀(m:Nat) (listed:Array Bool) (f f':ab),AL X E G H n h all m listed f=some f'->Dt X E G H h all m listed (f.aw n)=some (f'.aw n)
 | 0,listed,f,f',hh=>by simp only[AL,Option.some.injEq] at hh;subst hh;rfl
 | m+1,listed,f,f',hh=>by
  simp only[AL] at hh;simp only[Dt]
  split at hh
  ·simp at hh
  rename_i i l he;rw[he];dsimp only
  split at hh
  ·rename_i o ho;rw[ho];dsimp only
   split at hh
   ·rename_i f1 hf1;rw[vH X E G H n hf1];exact wY m _ f1 f' hh
   simp at hh
  simp at hh
theorem wZ {h:ax} {all:List Oper} {p:Array Bool} {s0:aa}:∀(m:Nat) (listed:Array Bool) (f:ab),EI X E G H n h all p s0 m listed f=true->rq X E G H h all p s0 m listed (f.aw n)=true
 | 0,listed,f,hh=>hh
 | m+1,listed,f,hh=>by
  simp only[EI,Bool.and_eq_true] at hh;simp only[rq,Bool.and_eq_true];refine⟨hh.1,List.all_eq_true.2 fun j hj=>?_⟩;have h1:=List.all_eq_true.1 hh.2 j hj;simp only[Bool.and_eq_true] at h1 ⊢;refine⟨h1.1,?_⟩;have h2:=h1.2
  split at h2
  ·rename_i o ho;rw[ho];dsimp only
   split at h2
   ·rename_i f1 hf1;rw[vH X E G H n hf1];exact wZ m _ f1 h2
   simp at h2
  simp at h2
theorem Hm {all:List Oper} {h:ax} {f f':ab} (hh:Kb X E G H n all h f=some f'):yD X E G H all h (f.aw n)=some (f'.aw n):=by
 unfold Kb at hh;unfold yD
 split at hh
 ·rename_i f1 h1;rw[qt X E G H n h1];dsimp only
  split at hh
  ·rename_i f0 h0;rw[wY X E G H n _ _ _ _ h0];dsimp only
   split at hh
   ·rename_i h2;rw[wZ X E G H n _ _ _ h2];dsimp only
    split at hh
    ·rename_i f2 h3;rw[ky E n all h.nw f0 f2 h3];exact qu X E G H n hh
    simp at hh
   simp at hh
  simp at hh
 simp at hh
noncomputable def Hn (all:List Oper) (h:ax) (f:ab):Option ab:=
 match gy h with
 | true=>(match AS X E G H n all all.length (Array.replicate all.length false) f with
  | some f0=>(match EN X E G H n all f.next (f0.aw n) all.length (Array.replicate all.length false) f with|true=>some f0|false=>none)
  | none=>none)
 | false=>
 match gV h with
 | true=>Kb X E G H n all (fY h) f
 | false=>
 match Hd X E G H n h.tk (aV H all h.pre) (quietAt H all h.pre) all h.pre f with
 | some f1=>(match nM E n all h.nw f1 with
  | some f2=>EF X E G H n all (dJ all h.tail) f2
  | none=>none)
 | none=>none
theorem Ka {all:List Oper} {h:ax} {f f':ab} (hh:Hn X E G H n all h f=some f'):KP X E G H all h (f.aw n)=some (f'.aw n):=by
 unfold Hn at hh;unfold KP
 cases hx:gy h with
 | true=>
  rw[hx] at hh;dsimp only at hh;rw[if_pos rfl]
  split at hh
  ·rename_i f0 h0;rw[xc X E G H n _ _ _ _ h0];dsimp only
   split at hh
   ·rename_i h2;simp only[Option.some.injEq] at hh;subst hh
    have:=xd X E G H n _ _ _ h2
    have e:(f.aw n).next=f.next:=rfl;rw[e,this]
   simp at hh
  simp at hh
 | false=>
 rw[hx] at hh;rw[if_neg (by simp)];dsimp only at hh
 cases hlm:gV h with
 | true=>
  rw[hlm] at hh;rw[if_pos rfl];exact Hm X E G H n hh
 | false=>
 rw[hlm] at hh;rw[if_neg (by simp)];dsimp only at hh
 cases h1:Hd X E G H n h.tk (aV H all h.pre) (quietAt H all h.pre) all h.pre f with
 | none=>rw[h1] at hh;simp at hh
 | some f1=>
  rw[h1] at hh;rw[qt X E G H n h1];dsimp only at hh ⊢
  cases h2:nM E n all h.nw f1 with
  | none=>rw[h2] at hh;simp at hh
  | some f2=>
   rw[h2] at hh;rw[ky E n all h.nw f1 f2 h2];exact qu X E G H n hh
noncomputable def CW (body:ab->Option (Exit×ab)) (fuel:Nat):ab->Option (Exit×ab):=
 @Nat.rec (fun _=>ab->Option (Exit×ab)) (fun _=>none) (fun _ ih f=>match body f with
  | some (.normal,f')=>ih f'
  | r=>r) fuel
def uy:Nat->Nat->Nat->List Nat
 | 0,_,_=>[]
 | m+1,k,g=>match Nat.beq g 0 with
  | true=>[]
  | false=>(match Nat.beq (Nat.land g 1) 1 with|true=>k::uy m (k+1) (Nat.shiftRight g 1)|false=>uy m (k+1) (Nat.shiftRight g 1))
def zn (a:ac) (heap:Heap):Option (Nat×List ap):=
 match rowOf a with
 | some x=>DF x.1 x.2 (pQ (.out x.1) heap)
 | none=>none
theorem FU (a:ac) (heap:Heap):zn a heap=xZ a heap:=by
 unfold zn xZ
 cases rowOf a with
 | none=>rfl
 | some x=>simp only[lf]
noncomputable def acr (n t:Nat) (f:ab):Option ab:=
 match zn (qK n f t) f.heap with
 | some (m,es)=>(match jS f (some t) (.dat (.slice es)) with
  | ⟨sl,locs,heap,next⟩=>some ⟨sl,locs,uF (.out m) heap,next⟩)
 | none=>none
noncomputable def Hk (n:Nat):List Nat->ab->Option ab
 | [],f=>some f
 | t::r,f=>(match acr n t f with|some f'=>Hk n r f'|none=>none)
noncomputable def EE (n:Nat):List Nat->ab->ab
 | [],f=>f
 | t::r,f=>EE n r (wX false (tZ f [qK n f t]) f []).1
noncomputable def kZ (n mask:Nat) (f:ab):Option ab:=
 match Nat.beq (Nat.shiftRight mask 4096) 0 with
 | true=>some f
 | false=>Hk n (uy 1000 0 (Nat.land (Nat.shiftRight mask 4096) (2 ^ 1024 - 1))) (EE n (uy 1000 0 (Nat.shiftRight mask 5120)) f)
theorem J9 {n t:Nat} {f f':ab} (h:acr n t f=some f'):iq G (f.aw n) (f'.aw n):=by
 unfold acr at h;rw[FU] at h
 split at h
 ·rename_i m es hv;have e:DG t (f.aw n)=some (f'.aw n):=by
   unfold DG;rw[jC];have e2:(f.aw n).heap=f.heap:=rfl;rw[e2,hv];have hp:=eH (n:=n) f (some t) (.dat (.slice es));generalize jS f (some t) (.dat (.slice es))=g at h hp;obtain⟨sl,locs,heap,next⟩:=g;simp only[Option.some.injEq] at h;subst h;simp only[ab.aw,aa.put,pS] at hp ⊢;have q1:=congrArg aa.tmps hp;have q2:=congrArg aa.locs hp;have q3:=congrArg aa.heap hp;have q4:=congrArg aa.next hp;simp only at q1 q2 q3 q4;rw[q1,q2,q3,q4]
  exact NS e
 simp at h
theorem xb {n:Nat}:∀(l:List Nat) {f f':ab},Hk n l f=some f'->iq G (f.aw n) (f'.aw n)
 | [],f,f',h=>by simp[Hk] at h;subst h;exact .refl _ _
 | t::r,f,f',h=>by
  simp only[Hk] at h
  split at h
  ·rename_i f1 h1;exact (J9 G h1).trans (xb r h)
  simp at h
theorem tX {n:Nat}:∀(l:List Nat) (f:ab),iq G (f.aw n) ((EE n l f).aw n)
 | [],f=>.refl _ _
 | t::r,f=>by
  simp only[EE];refine iq.trans ?_ (tX r _);have h:=JZ (G:=G) (tZ f [qK n f t]) (f.aw n);rw[tY] at h;exact h
theorem nO {n mask:Nat} {f f':ab} (h:kZ n mask f=some f'):iq G (f.aw n) (f'.aw n):=by
 unfold kZ at h
 split at h
 ·simp at h;subst h;exact .refl _ _
 exact (tX G _ _).trans (xb G _ h)
noncomputable def iJ (live:Nat->Nat) (fuel:Nat) (c:Code):ab->Option (Exit×ab):=
 Code.rec (motive:=fun _=>ab->Option (Exit×ab))
  (skip:=fun f=>some (.normal,f))
  (region:=fun id ops draw f=>
   (match (match draw with|true=>Hn X E G H n ops.toList (H.ord id) f|false=>EF X E G (H.at id) n ops.toList ops.toList f) with
    | some f'=>(match kZ n (live id) (kX f' (fun l=>eM l (live id))) with|some f2=>some (.normal,f2)|none=>none)
    | none=>none))
  (seq:=fun _ _ ix iy f=>(match ix f with
   | some (.normal,f')=>iy f'
   | r=>r))
  (cond:=fun c _ _ ix iy f=>(match oB G n f c with
   | .dat (.flat (.bool b))=>(match b with|true=>ix f|false=>iy f)
   | _=>none))
  (block:=fun id _ ic f=>(match ic f with
   | some (.exit i,f')=>(match Nat.beq i id with|true=>some (.normal,f')|false=>some (.exit i,f'))
   | r=>r))
  (loop:=fun _ ic f=>CW ic fuel f)
  (rangeFunc:=fun _ _ _ _ _ _ _=>none)
  (exit:=fun id f=>some (.exit id,f))
  (scope:=fun _ ic f=>(match ic f with
   | some (.goto _,_)=>none
   | r=>r))
  (label:=fun _ f=>some (.normal,f))
  (goto:=fun _ _=>none)
  (ret:=fun f=>some (.ret,f))
  (refuse:=fun _ _=>none) c
theorem Hp {live:Nat->Nat} {fuel:Nat} {c:Code} {f:ab}:iJ X E G H n live fuel (.scope c) f=(match iJ X E G H n live fuel c f with
   | some (.goto _,_)=>none
   | r=>r):=rfl
theorem N5 {live:Nat->Nat} {fuel:Nat} {x y:Code} {f:ab}:iJ X E G H n live fuel (.seq x y) f=(match iJ X E G H n live fuel x f with
   | some (.normal,f')=>iJ X E G H n live fuel y f'
   | r=>r):=rfl
theorem Hq {live:Nat->Nat} {fuel:Nat} {id:Nat} {c:Code} {f:ab}:iJ X E G H n live fuel (.block id c) f=(match iJ X E G H n live fuel c f with
   | some (.exit i,f')=>(match Nat.beq i id with|true=>some (.normal,f')|false=>some (.exit i,f'))
   | r=>r):=rfl
theorem Kc {live:Nat->Nat} {fuel:Nat} {c:Operand} {x y:Code} {f:ab}:iJ X E G H n live fuel (.cond c x y) f=(match oB G n f c with
   | .dat (.flat (.bool b))=>(match b with|true=>iJ X E G H n live fuel x f|false=>iJ X E G H n live fuel y f)
   | _=>none):=rfl
theorem EO {live:Nat->Nat} {fuel:Nat} {id:Nat} {ops:Array Oper} {draw:Bool} {f:ab}:iJ X E G H n live fuel (.region id ops draw) f =
   (match (match draw with|true=>Hn X E G H n ops.toList (H.ord id) f|false=>EF X E G (H.at id) n ops.toList ops.toList f) with
    | some f'=>(match kZ n (live id) (kX f' (fun l=>eM l (live id))) with|some f2=>some (.normal,f2)|none=>none)
    | none=>none):=rfl
theorem Hf {P:Program} {c:Code} {body:ab->Option (Exit×ab)} (hb:∀f e f',body f=some (e,f')->∀Q:Exit->aa->Prop,Q e (f'.aw n)->du P G c Q (f.aw n)) {k:Nat} {f f':ab} {e:Exit}
  (h:CW body k f=some (e,f')) {Q:Exit->aa->Prop} (hQ:Q e (f'.aw n)):du P G (.loop c) Q (f.aw n):=by
 intro w R N act bsT bsL bsH bsF hr D hd;refine wp_loop_ghost (I:=fun k a w'=>∃f1 R' N' bsT' bsL' bsH',CW body k f1=some (e,f')/\df G w' R' N' a.tmps.toList (f1.aw n) undef .undef [] bsT' bsL' bsH' bsF/\a.defers=D/\bz w R w' R' bsF/\(∀o b,N (.out o)=some b->N' (.out o)=some b)) (n0:=k) ?_ ?_
 ·exact⟨f,R,N,bsT,bsL,bsH,h,hr,hd,bi _,fun _ _ h=>h⟩
 rintro k a w' ⟨f1,R',N',bsT',bsL',bsH',hx,hr',hd',hk,hN⟩
 cases k with
 | zero=>exact absurd hx (by intro hx;cases hx)
 | succ k=>
  have hx:(match body f1 with
   | some (.normal,f')=>CW body k f'
   | r=>r)=some (e,f'):=hx
  have key:∀e1 f2,body f1=some (e1,f2)->(e1=.normal->CW body k f2=some (e,f'))->(e1≠.normal->e1=e/\f2=f')->c.wp P (Exit.then (fun a' w'=>∃n',n' < k+1/\∃f1 R' N' bsT' bsL' bsH',CW body n' f1=some (e,f')/\df G w' R' N' a'.tmps.toList (f1.aw n) undef .undef [] bsT' bsL' bsH' bsF/\a'.defers=D/\bz w R w' R' bsF/\(∀o b,N (.out o)=some b->N' (.out o)=some b)) (Dr G D Q w R N bsF)) a w':=by
   intro e1 f2 hbody h1 h2;refine wp_mono (hb f1 e1 f2 hbody (fun e' s''=>e'=e1/\s''=f2.aw n) ⟨rfl,rfl⟩ w' R' N' a bsT' bsL' bsH' bsF hr' hd') ?_;rintro e3 a3 w3 ⟨s3,R3,N3,bsT3,bsL3,bsH3,⟨rfl,rfl⟩,hr3,hd3,hk3,hN3⟩
   by_cases he:e3=.normal
   ·subst he;exact⟨k,Nat.lt_succ_self k,f2,R3,N3,bsT3,bsL3,bsH3,h1 rfl,hr3,hd3,hk.trans hk3,fun o b h=>hN3 o b (hN o b h)⟩
   obtain⟨rfl,rfl⟩:=h2 he
   have:Dr G D Q w R N bsF e3 a3 w3:=⟨_,R3,N3,bsT3,bsL3,bsH3,hQ,hr3,hd3,hk.trans hk3,fun o b h=>hN3 o b (hN o b h)⟩
   cases e3 with
   | normal=>exact (he rfl).elim
   | _=>exact this
  cases hbd:body f1 with
  | none=>rw[hbd] at hx;simp at hx
  | some r=>
   obtain⟨e1,f2⟩:=r;rw[hbd] at hx
   cases e1 with
   | normal=>exact key _ _ hbd (fun _=>hx) (fun h=>(h rfl).elim)
   | _=>simp at hx;exact key _ _ hbd (fun h=>by simp at h) (fun _=>hx)
theorem xA {P:Program} {c:Code} {s s2:aa} {Q:Exit->aa->Prop} (h:du P G c (fun e s'=>e=.normal/\s'=s2) s) {s3:aa} (hg:iq G s2 s3) (hQ:Q .normal s3):du P G c Q s:=by
 intro w R N act bsT bsL bsH bsF hr D hd;refine wp_mono (h w R N act bsT bsL bsH bsF hr hd) ?_;rintro e a w' ⟨s',R',N',bsT',bsL',bsH',⟨rfl,rfl⟩,hr',hd',hk,hN⟩;obtain⟨R2,N2,t2,l2,h2,hr2,hk2,hN2⟩:=hg _ _ _ _ _ _ _ _ hr';exact⟨s3,R2,N2,t2,l2,h2,hQ,hr2,hd',hk.trans hk2,fun o b ho=>hN2 o b (hN o b ho)⟩
theorem Bz {P:Program} {c:Code} {s s2:aa} {Q:Exit->aa->Prop} (h:du P G c (fun e s'=>e=.normal/\s'=s2) s) {s3:aa}
  (hw:∀(w:World) (R:Own) (N:Name->Option Nat) (tmps:List Value) (bsT bsL bsH bsF:List Nat),df G w R N tmps s2 undef .undef [] bsT bsL bsH bsF->∃bsT',df G w R N tmps s3 undef .undef [] bsT' bsL bsH bsF) (hQ:Q .normal s3):du P G c Q s:=by
 intro w R N act bsT bsL bsH bsF hr D hd;refine wp_mono (h w R N act bsT bsL bsH bsF hr hd) ?_;rintro e a w' ⟨s',R',N',bsT',bsL',bsH',⟨rfl,rfl⟩,hr',hd',hk,hN⟩;obtain⟨bsT2,hr2⟩:=hw _ _ _ _ _ _ _ _ hr';exact⟨s3,R',N',bsT2,bsL',bsH',hQ,hr2,hd',hk,hN⟩
theorem eI {P:Program} (hE:E.Ok P) (hX:Ig P G X) (live:Nat->Nat) (fuel:Nat):∀(c:Code) (f f':ab) (e:Exit),cQ H c=true->iJ X E G H n live fuel c f=some (e,f')->∀Q:Exit->aa->Prop,Q e (f'.aw n)->du P G c Q (f.aw n)
 | .skip,f,f',e,_,h,Q,hQ=>by
  have h:some (Exit.normal,f)=some (e,f'):=h;simp at h;obtain⟨rfl,rfl⟩:=h;exact gC wp_skip hQ
 | .region id ops draw,f,f',e,hc,h,Q,hQ=>by
  rw[EO] at h
  cases draw
  ·dsimp only at h
   cases h1:EF X E G (H.at id) n ops.toList ops.toList f with
   | none=>rw[h1] at h;simp at h
   | some f1=>
    rw[h1] at h;dsimp only at h
    cases h2:kZ n (live id) (kX f1 (fun l=>eM l (live id))) with
    | none=>rw[h2] at h;simp at h
    | some f2=>
    rw[h2] at h;simp at h;obtain⟨rfl,rfl⟩:=h;refine xA G (Bz G (uG hE (nb hX (qu X E G (H.at id) n h1) ⟨rfl,rfl⟩)) ?_ ⟨rfl,rfl⟩) (nO G h2) hQ;intro w R N tmps bsT bsL bsH bsF hr;exact hr.prune _
  dsimp only at h
  cases h1:Hn X E G H n ops.toList (H.ord id) f with
  | none=>rw[h1] at h;simp at h
  | some f1=>
   rw[h1] at h;dsimp only at h
   cases h2:kZ n (live id) (kX f1 (fun l=>eM l (live id))) with
   | none=>rw[h2] at h;simp at h
   | some f2=>
   rw[h2] at h;simp at h;obtain⟨rfl,rfl⟩:=h;refine xA G (Bz G (BA hE hE.mixed (by simpa [cQ] using hc) (Fo hX (Ka X E G H n h1) ⟨rfl,rfl⟩)) ?_ ⟨rfl,rfl⟩) (nO G h2) hQ;intro w R N tmps bsT bsL bsH bsF hr;exact hr.prune _
 | .seq x y,f,f',e,hc,h,Q,hQ=>by
  simp only[cQ,Bool.and_eq_true] at hc;rw[N5] at h;refine Dm ?_
  cases hx:iJ X E G H n live fuel x f with
  | none=>rw[hx] at h;simp at h
  | some r=>
   obtain⟨e1,f1⟩:=r;rw[hx] at h;refine eI hE hX live fuel x f f1 e1 hc.1 hx _ ?_
   cases e1 with
   | normal=>exact eI hE hX live fuel y f1 f' e hc.2 h Q hQ
   | _=>simp at h;obtain⟨rfl,rfl⟩:=h;exact hQ
 | .cond c x y,f,f',e,hc,h,Q,hQ=>by
  simp only[cQ,Bool.and_eq_true] at hc;intro w R N act bsT bsL bsH bsF hr D hd;rw[Kc] at h
  split at h
  ·rename_i b hb;obtain⟨bs,he⟩:=pC hr.tmps hr.glob c;rw[mO,hb] at he;obtain⟨_,he,_⟩:=aI he;refine wp_cond he ?_
   cases b
   ·exact eI hE hX live fuel y f f' e hc.2 h Q hQ w R N act bsT bsL bsH bsF hr hd
   exact eI hE hX live fuel x f f' e hc.1 h Q hQ w R N act bsT bsL bsH bsF hr hd
  simp at h
 | .block id c,f,f',e,hc,h,Q,hQ=>by
  simp only[cQ] at hc;rw[Hq] at h
  cases hx:iJ X E G H n live fuel c f with
  | none=>rw[hx] at h;simp at h
  | some r=>
   obtain⟨e1,f1⟩:=r;rw[hx] at h;intro w R N act bsT bsL bsH bsF hr D hd
   apply wp_block
   refine wp_mono (eI hE hX live fuel c f f1 e1 hc hx (fun e' s''=>e'=e1/\s''=f1.aw n) ⟨rfl,rfl⟩ w R N act bsT bsL bsH bsF hr hd) ?_;rintro e2 a w' ⟨s2,R',N',bsT',bsL',bsH',⟨rfl,rfl⟩,rest⟩
   cases e2 with
   | exit i=>
    simp only[Exit.inBlock];dsimp only at h
    by_cases hi:i=id
    ·have hb:Nat.beq i id=true:=by rw[Nat.beq_eq];exact hi
     rw[if_pos hi];rw[hb] at h;simp at h;obtain⟨rfl,rfl⟩:=h;exact⟨_,R',N',bsT',bsL',bsH',hQ,rest⟩
    have hb:Nat.beq i id=false:=by rw[Bool.eq_false_iff];intro hc;rw[Nat.beq_eq] at hc;exact hi hc
    rw[if_neg hi];rw[hb] at h;simp at h;obtain⟨rfl,rfl⟩:=h;exact⟨_,R',N',bsT',bsL',bsH',hQ,rest⟩
   | _=>simp at h;obtain⟨rfl,rfl⟩:=h;exact⟨_,R',N',bsT',bsL',bsH',hQ,rest⟩
 | .exit id,f,f',e,_,h,Q,hQ=>by
  have h:some (Exit.exit id,f)=some (e,f'):=h;simp at h;obtain⟨rfl,rfl⟩:=h;exact gC wp_exit hQ
 | .ret,f,f',e,_,h,Q,hQ=>by
  have h:some (Exit.ret,f)=some (e,f'):=h;simp at h;obtain⟨rfl,rfl⟩:=h;exact gC wp_ret hQ
 | .loop c,f,f',e,hc,h,Q,hQ=>by
  simp only[cQ] at hc;exact Hf G n (fun f e f' hb Q hQ=>eI hE hX live fuel c f f' e hc hb Q hQ) h hQ
 | .rangeFunc _ _ _ _,_,_,_,_,h,_,_=>by cases h
 | .scope c,f,f',e,hc,h,Q,hQ=>by
  simp only[cQ] at hc;rw[Hp] at h
  cases hx:iJ X E G H n live fuel c f with
  | none=>rw[hx] at h;simp at h
  | some r=>
   obtain⟨e1,f1⟩:=r;rw[hx] at h;intro w R N act bsT bsL bsH bsF hr D hd
   apply wp_scope_straight
   refine wp_mono (eI hE hX live fuel c f f1 e1 hc hx (fun e' s''=>e'=e1/\s''=f1.aw n) ⟨rfl,rfl⟩ w R N act bsT bsL bsH bsF hr hd) ?_;rintro e2 a w' ⟨s2,R',N',bsT',bsL',bsH',⟨rfl,rfl⟩,rest⟩
   cases e2 with
   | goto l=>simp at h
   | _=>simp at h;obtain⟨rfl,rfl⟩:=h;exact⟨_,R',N',bsT',bsL',bsH',hQ,rest⟩
 | .label _,f,f',e,_,h,Q,hQ=>by
  have h:some (Exit.normal,f)=some (e,f'):=h;simp at h;obtain⟨rfl,rfl⟩:=h;exact gC wp_label hQ
 | .goto _,_,_,_,_,h,_,_=>by cases h
 | .refuse _,_,_,_,_,h,_,_=>by cases h
noncomputable def uc (f:ab) (a:Tmp) (t:TypeId):Option ac:=
 match qK n f a with
 | .ptr k off=>(match Tm f k,E.ty t with
  | some (.cells cs),some i=>loadCells i off cs
  | _,_=>none)
 | _=>none
theorem Hr (f:ab) (a:Tmp) (t:TypeId):yz E (f.aw n) a t=uc E n f a t:=by
 unfold yz uc;rw[jC]
 cases qK n f a with
 | ptr k off=>dsimp only;rw[EG];rfl
 | _=>rfl
noncomputable def iH:ab->List ResultVar->Option (List ac)
 | _,[]=>some []
 | f,.tmp t::r=>(match iH (ub n f (some 0) [.tmp t]) r with|some vs=>some (qK n f t::vs)|none=>none)
 | f,.cell a t::r=>(match uc E n f a t,iH f r with|some v,some vs=>some (v::vs)|_,_=>none)
theorem pv:∀(rs:List ResultVar) (f:ab),hC E (f.aw n) rs=iH E n f rs
 | [],_=>rfl
 | .tmp t::r,f=>by
  simp only[hC,iH,←AT,pv r,jC]
  cases iH E n (ub n f (some 0) [.tmp t]) r <;> rfl
 | .cell a t::r,f=>by
  simp only[hC,iH,Hr,pv r]
  cases uc E n f a t <;> cases iH E n f r <;> rfl
noncomputable def Hl:List Name->ab->List ac->ab×List ac
 | [],f,args=>(f,args)
 | k::ks,f,args=>
  (match (ba k args||jN k f.locs) with
   | true=>(match vG true k f args with
   | some (f',args')=>Hl ks f' args'
   | none=>Hl ks f args)
   | false=>Hl ks f args)
theorem yx:∀(ks:List Name) (f:ab) (args:List ac),hY ks (f.aw n) args=((Hl ks f args).1.aw n,(Hl ks f args).2)
 | [],_,_=>rfl
 | k::ks,f,args=>by
  simp only[hY,Hl,CV];have e:(f.aw n).locs=f.locs:=rfl;rw[e]
  cases (ba k args||jN k f.locs) with
  | false=>rw[if_neg (by simp)];exact yx ks f args
  | true=>
   rw[if_pos rfl]
   cases vG true k f args with
   | none=>exact yx ks f args
   | some x=>exact yx ks x.1 x.2
noncomputable def xR (rs:List ResultVar) (f:ab):Option ey:=
 match iH E n f rs with
 | none=>none
 | some vs=>
  match bU (jF vs) with
  | true=>some ⟨pack (jF vs),f.heap,f.next⟩
  | false=>match Hl (repeatL f.locs.length (mH f.locs)) f (jF vs) with
   |(f',vs')=>if bU vs'=true then some ⟨pack vs',f'.heap,f'.next⟩ else none
theorem ED (rs:List ResultVar) (f:ab):UX E rs (f.aw n)=xR E n rs f:=by
 unfold UX xR;rw[pv]
 cases iH E n f rs with
 | none=>rfl
 | some vs=>
  dsimp only
  cases bU (jF vs) with
  | true=>rw[if_pos rfl];rfl
  | false=>
   rw[if_neg (by simp)];dsimp only;have e:(f.aw n).locs=f.locs:=rfl;rw[e,yx];generalize Hl (repeatL f.locs.length (mH f.locs)) f (jF vs)=pr;obtain⟨f',vs'⟩:=pr;rfl
def za:Nat->List ac->Sl
 | _,[]=>[]
 | k,a::r=>(k,a)::za (k+1) r
theorem sQ:∀(as:List ac) (k t:Nat),qI (za k as) t=if k<=t then bB as (t - k) else .undef
 | [],k,t=>by
  rw[za,AF]
  split <;> simp[bB]
 | a::r,k,t=>by
  rw[za,ik,sQ r (k+1) t]
  by_cases h:k=t
  ·subst h;simp[bB]
  rw[if_neg h]
  by_cases h2:k<=t
  ·rw[if_pos (by omega),if_pos h2];unfold bB;rw[show t - k=(t - (k+1))+1 by omega];simp
  rw[if_neg (by omega),if_neg h2]
end
section
variable (E:bG) (G:bL) (moves caps:FuncId->Bool) (F:FuncId->Option gU) (M:jx) (fuel:Nat)
noncomputable def AV:Nat->jx
 | 0=>fun _ _ _ _=>none
 | k+1=>fun g args heap next=>
  match F g with
  | none=>none
  | some x=>match Nat.ble args.length x.ntmps with
   | false=>none
   | true=>(match iJ (fun g args heap next=>match M g args heap next with|some r=>some r|none=>AV k g args heap next) E G ⟨moves,x.ord,caps,rowsOf caps g⟩ x.ntmps x.live fuel x.code ⟨za 0 args,[],heap,next⟩ with
    | some (.ret,f)=>(match xR E x.ntmps x.results f with|some r=>some (qJ next r)|none=>none)
    | some (.normal,f)=>(match xR E x.ntmps x.results f with|some r=>some (qJ next r)|none=>none)
    | _=>none)
variable {E G moves caps F M}
theorem pz {P:Program} (hE:E.Ok P) (hF:FOk P moves caps F) (hM:Ig P G M):∀k,Ig P G (AV E G moves caps F M fuel k)
 | 0=>by intro f args heap next r h;cases h
 | k+1=>by
  intro g args heap next r h;simp only[AV] at h
  split at h
  ·simp at h
  rename_i x hx;obtain⟨fn,h1,h2,h3,h4,h5⟩:=hF g x hx;have ih:=pz hE hF hM k;have hX:Ig P G (fun g args heap next=>match M g args heap next with|some r=>some r|none=>AV E G moves caps F M fuel k g args heap next):=by
   intro g args heap next r h;dsimp only at h
   split at h
   ·rename_i r' hr';simp at h;subst h;exact hM _ _ _ _ _ hr'
   exact ih _ _ _ _ _ h
  split at h
  ·simp at h
  rename_i hlen;have hlen:=fe hlen;have hent:(⟨za 0 args,[],heap,next⟩:ab).aw x.ntmps=enter x.ntmps args heap next:=by
   simp only[ab.aw,enter];congr 1
   apply List.ext_getElem?
   intro i;rw[lG,Nat.zero_add,sQ,if_pos (Nat.zero_le _),Nat.sub_zero,List.getElem?_append]
   split
   ·split
    ·rename_i hi;unfold bB;rw[List.getElem?_eq_getElem hi]
    rename_i hi1 hi;rw[List.getElem?_replicate,if_pos (by omega)];unfold bB;rw[List.getElem?_eq_none (by omega)]
   rename_i hi;rw[if_neg (by omega),List.getElem?_replicate,if_neg (by omega)]
  have key:∀e f,iJ (fun g args heap next=>match M g args heap next with|some r=>some r|none=>AV E G moves caps F M fuel k g args heap next) E G ⟨moves,x.ord,caps,rowsOf caps g⟩ x.ntmps x.live fuel x.code ⟨za 0 args,[],heap,next⟩=some (e,f)->e=.ret∨e=.normal->
    (match xR E x.ntmps x.results f with|some r=>some (qJ next r)|none=>none)=some r->aB P G g args heap next (XQ r):=by
   intro e f hx he hr
   cases hf:xR E x.ntmps x.results f with
   | none=>rw[hf] at hr;simp at hr
   | some r0=>
    rw[hf] at hr;simp at hr;subst hr
    apply aB.gc
    refine kb hE h1 h2 ?_;intro _ _;rw[h3,h4,←hent];refine eI _ E G ⟨moves,x.ord,caps,rowsOf caps g⟩ x.ntmps hE hX x.live fuel x.code _ _ _ (by rw[dX];exact h5) hx _ ?_
    have:=rp (E:=E) (rs:=x.results) (s:=f.aw x.ntmps) (r:=r0) (by rw[ED];exact hf)
    rcases he with rfl|rfl <;> exact this
  split at h
  ·rename_i f hf;exact key _ _ hf (.inl rfl) h
  ·rename_i f hf;exact key _ _ hf (.inr rfl) h
  simp at h
end
end Go.Tp
namespace Go.Tp
variable {P:Program} {G:bL}
end Go.Tp
namespace Go.Tp
mutual
def Nw:ac->Bool
 | .dat _=>true
 | .own _=>true
 | .ref _=>true
 | .undef=>true
 | .agg cs=>GF cs
 | .tup cs=>GF cs
 | .fn _ x y=>GF x&&GF y
 | .ptr _ _=>false
 | .map _=>false
 | .win _ _ _ _=>false
def GF:List ac->Bool
 | []=>true
 | a::r=>Nw a&&GF r
end
section
variable {w:World} {R:Own} {N N':Name->Option Nat}
mutual
theorem al.nm:∀{a:ac} {v:Value} {bs:List Nat},al w R N a v bs->Nw a=true->al w R N' a v bs
 | .dat _,_,_,h,_=>by simp only[al] at h ⊢;exact h
 | .own _,_,_,h,_=>by simp only[al] at h ⊢;exact h
 | .ref _,_,_,h,_=>by simp only[al] at h ⊢;exact h
 | .ptr _ _,_,_,_,hn=>by simp[Nw] at hn
 | .map _,_,_,_,hn=>by simp[Nw] at hn
 | .win _ _ _ _,_,_,_,hn=>by simp[Nw] at hn
 | .fn _ x y,_,_,h,hn=>by
  simp only[Nw,Bool.and_eq_true] at hn;simp only[al] at h ⊢;obtain⟨h1,vs,us,e,h2,h3⟩:=h;exact⟨h1,vs,us,e,ak.nm (l:=x) h2 hn.1,ak.nm (l:=y) h3 hn.2⟩
 | .agg cs,_,_,h,hn=>by
  simp only[Nw] at hn;simp only[al] at h ⊢;obtain⟨vs,e,h⟩:=h;exact⟨vs,e,ak.nm (l:=cs) h hn⟩
 | .tup cs,_,_,h,hn=>by
  simp only[Nw] at hn;simp only[al] at h ⊢;obtain⟨vs,e,h⟩:=h;exact⟨vs,e,ak.nm (l:=cs) h hn⟩
 | .undef,_,_,h,_=>by simp only[al] at h ⊢;exact h
theorem ak.nm:∀{l:List ac} {vs:List Value} {bs:List Nat},ak w R N l vs bs->GF l=true->ak w R N' l vs bs
 | [],_,_,h,_=>by simp only[ak] at h ⊢;exact h
 | a::l,_,_,h,hn=>by
  simp only[GF,Bool.and_eq_true] at hn;simp only[ak] at h ⊢;obtain⟨v,vs',b1,b2,e1,e2,h1,h2⟩:=h;exact⟨v,vs',b1,b2,e1,e2,al.nm (a:=a) h1 hn.1,ak.nm (l:=l) h2 hn.2⟩
end
end
structure BD where
 fn:FuncId
 args:List ac
 val:ac
def BD.ok (m:BD):Bool:=GF m.args&&Nw m.val
def rO:List BD->jx
 | []=>fun _ _ _ _=>none
 | m::l=>fun g args heap next=>
  match Nat.beq m.fn g with
  | false=>rO l g args heap next
  | true=>(match xS m.args args with
   | true=>some ⟨m.val,heap,next⟩
   | false=>rO l g args heap next)
variable {P:Program} {G:bL}
theorem IX {m:BD} (hm:m.ok=true) (h:aB P G m.fn m.args [] 0 (XQ ⟨m.val,[],0⟩)) (heap:Heap) (next:Nat):aB P G m.fn m.args heap next (XQ ⟨m.val,heap,next⟩):=by
 unfold BD.ok at hm;simp only[Bool.and_eq_true] at hm;intro w R N cargs bsA bsH bsF hargs hheap hnd hnx hglob hF;have h2:=h w R (fun _=>none) cargs bsA [] (bsH++bsF) (hargs.nm hm.1) (by simp[an]) (by simpa using hnd) (by intro o b ho;simp at ho) hglob (by
  intro b hb
  rcases List.mem_append.1 hb with hb|hb
  ·exact hheap.lt b hb
  exact hF b hb)
 refine h2.mono ?_;rintro e w' ⟨v,cv,heap',next',R',N',bsV,bsH',rfl,⟨rfl,rfl,rfl⟩,hv,hh,hnd',_,hk,_⟩;have hH':bsH'=[]:=by simpa [an] using hh
 subst hH';exact⟨_,cv,heap,next,R',N,bsV,bsH,rfl,⟨rfl,rfl,rfl⟩,hv.nm hm.2,hheap.keep (hk.sub (by intro b hb;simp[hb])),by simpa using hnd',hnx,hk.sub (by intro b hb;simp[hb]),fun _ _ h=>h⟩
theorem Cv:∀{l:List BD},(∀m∈l,m.ok=true/\aB P G m.fn m.args [] 0 (XQ ⟨m.val,[],0⟩))->Ig P G (rO l)
 | [],_=>by intro f args heap next r h;simp[rO] at h
 | m::l,hall=>by
  intro f args heap next r h;have ih:=Cv (l:=l) fun m hm=>hall m (by simp[hm])
  simp only[rO] at h
  split at h
  ·exact ih f args heap next r h
  rename_i hf;have hf:=Nat.eq_of_beq_eq_true hf
  split at h
  ·rename_i hc;have h2:=io hc;subst hf;subst h2;simp only[Option.some.injEq] at h;subst h;obtain⟨q1,q2⟩:=hall m (by simp);exact IX q1 q2 heap next
  exact ih f args heap next r h
end Go.Tp
namespace Go.Tp
inductive Qy (α:Type):Type where
 |fin (a:α)
 |fail
 |bool (t:Nat) (b:Bool) (k:Bool->Qy α)
 |out (t:Nat) (o:Option Out) (k:Out->Qy α)
 |res (g:FuncId) (args:List ac) (heap:Heap) (next:Nat) (k:ey->Qy α)
 |stay (h h':Heap) (k:Qy α)
 |loop (n:Nat) (c:Code) (f:ab) (k:Exit×ab->Qy α)
 |both (a b:Qy α)
section
variable (P:Program) (G:bL) {α:Type} (T:α->Prop)
def Qy.sG:Qy α->Prop
 | .fin a=>T a
 | .fail=>False
 | .bool _ b k=>(k b).sG
 | .out _ o k=>∃x,o=some x/\(k x).sG
 | .res g args heap next k=>aB P G g args heap next (fun v h m=>mV v->xT h->(k ⟨v,h,m⟩).sG)
 | .stay h h' k=>UK h h'/\k.sG
 | .loop n c f k=>du P G (.loop c) (fun e s=>∃f',s=f'.aw n/\(k (e,f')).sG) (f.aw n)
 | .both a b=>a.sG/\b.sG
end
def Gv (o:Oper):Nat:=
 match o.dst with
 | some t=>t
 | none=>(match o.op with
  | .store _ (.tmp u) _=>100000+u
  | .mapUpdate _ (.tmp u) _ _=>100000+u
  | .insert _ (.tmp u) _ _=>100000+u
  | .call c=>(match c.args.toList with|.tmp u::_=>100000+u|_=>0)
  | _=>0)
section
variable {α:Type} (A B:Nat->Bool) (E:bG) (G:bL) (H:Hints) (n:Nat)
noncomputable def xK (d:Option Tmp) (f:ab) (k:ab->Qy α):Qy α:=
 match d with
 | none=>k f
 | some t=>(match A t with
  | true=>(match qK n f t with
   | .dat (.flat (.bool b))=>.bool t b (fun b=>k (jS f (some t) (.dat (.flat (.bool b)))))
   | _=>k f)
  | false=>k f)
def yt (out:Out):Option aR:=
 match out with
 | ⟨_,eff⟩=>match eff with
  | .grow ob' _ _=>some ob'
  | _=>none
noncomputable def EM (o:Oper) (k:Option Name) (f:ab) (out:Out):Option ab:=
 match out with
 | ⟨_,eff⟩=>match eff with
  | .grow ob' sz len=>(match f with
   | ⟨sl,locs,heap,next⟩=>match k with
    | some (.loc j)=>some (jS ⟨sl,uF (.loc j) locs,(.out next,ob')::heap,next+1⟩ o.dst (.win (.out next) sz 0 len))
    | some (.out j)=>some (jS ⟨sl,locs,(.out next,ob')::uF (.out j) heap,next+1⟩ o.dst (.win (.out next) sz 0 len))
    | none=>some (jS ⟨sl,locs,(.out next,ob')::heap,next+1⟩ o.dst (.win (.out next) sz 0 len)))
  | _=>none
theorem N4 {o:Oper} {k:Option Name} {f f':ab} {out:Out} {ob:aR} (h1:yt out=some ob) (h2:di ob=true) (h3:EM o k f out=some f'):mK o k f out=some f':=by
 obtain⟨val,eff⟩:=out;obtain⟨sl,locs,heap,next⟩:=f
 cases eff with
 | grow ob' sz len=>
  simp only[yt,Option.some.injEq] at h1;subst h1
  rcases k with _|⟨_|_⟩ <;> simp only[EM] at h3 <;> simp only[mK,h2,if_true] <;> exact h3
 | _=>simp[yt] at h1
noncomputable def Ga (q take:Bool) (o:Oper) (f:ab) (k:ab->Qy α):Qy α:=
 match B (Gv o) with
 | true=>.out (Gv o) (jE E take o.op (gx G n f (kI q o.op) 0 (opsL o.op)) (qv f o.op (gx G n f (kI q o.op) 0 (opsL o.op))))
   (fun out=>match yt out with
    | some ob=>.bool (Gv o+500000) (di ob) (fun b=>match b with
     | true=>(match EM o (looks o.op (gx G n f (kI q o.op) 0 (opsL o.op))) (ub n f (kI q o.op) (opsL o.op)) out with
      | some f'=>xK A n o.dst f' k
      | none=>.fail)
     | false=>.fail)
    | none=>(match mK o (looks o.op (gx G n f (kI q o.op) 0 (opsL o.op))) (ub n f (kI q o.op) (opsL o.op)) out with
     | some f'=>xK A n o.dst f' k
     | none=>.fail))
 | false=>(match wV E G n q take o f with
  | some f'=>xK A n o.dst f' k
  | none=>.fail)
noncomputable def Qr (all:List Oper) (o:Oper) (f:ab) (k:ab->Qy α):Qy α:=
 match hJ n all f o.guard with
 | none=>.fail
 | some b=>match b with
  | true=>
   (match dm o.op with
    | some c=>(match qw E G H n c f with
     | some (g,args,f2)=>.res g args f2.heap f2.next (fun r=>xK A n o.dst (ud f2 r o.dst) k)
     | none=>.fail)
    | none=>Ga A B E G n (readOnly H.moves all o) (lv H all o) o f k)
  | false=>k (jS f o.dst (.tup []))
noncomputable def Qp (all:List Oper) (ops:List Oper):ab->(ab->Qy α)->Qy α:=
 @List.rec Oper (fun _=>ab->(ab->Qy α)->Qy α) (fun f k=>k f) (fun o _ ih f k=>Qr A B E G H n all o f (fun f'=>ih f' k)) ops
noncomputable def Qq (fh:Bool) (tk:List Nat) (all:List Oper) (o:Oper) (f:ab) (k:ab->Qy α):Qy α:=
 match hJ n all f o.guard with
 | none=>.fail
 | some b=>match b with
  | true=>
   (match dm o.op with
    | some c=>(match mP E G H n c f with
     | some (g,args,f2)=>(match hO H o with
      | true=>.res g args [] f2.next (fun r=>match r with
       | ⟨v,[],m⟩=>xK A n o.dst (ud f2 ⟨v,f2.heap,m⟩ o.dst) k
       | _=>.fail)
      | false=>.res g args f2.heap f2.next (fun r=>match mc H o with
       | true=>.stay f2.heap r.heap (xK A n o.dst (ud f2 r o.dst) k)
       | false=>xK A n o.dst (ud f2 r o.dst) k))
     | none=>.fail)
    | none=>(match fJ o.op with
     | some t=>(match lJ n fh all (gf all t (vE n tk t f)) f with
      | some f1=>Ga A B E G n false false o f1 k
      | none=>.fail)
     | none=>(match kq o.op with
      | true=>Ga A B E G n (readOnly H.moves all o) (lv H all o) o f k
      | false=>.fail)))
  | false=>k (jS f o.dst (.tup []))
noncomputable def DL (fh:Bool) (all:List Oper) (o:Oper) (f:ab) (k:ac->Qy α):Qy α:=
 match B (Gv o) with
 | true=>(match hJ n all f o.guard with
  | none=>.fail
  | some b=>match b with
   | true=>(match nG o.op with
    | true=>(match jE E false o.op [] none with|some _=>k .undef|none=>.fail)
    | false=>(match dm o.op with
     | some _=>.fail
     | none=>(match jg o.op&&pc fh (looks o.op (gx G n f none 0 (opsL o.op))) with
      | true=>.out (Gv o) (jE E false o.op (gx G n f none 0 (opsL o.op)) (qv f o.op (gx G n f none 0 (opsL o.op)))) (fun out=>match out with|⟨v,.keep⟩=>k v|_=>.fail)
      | false=>.fail)))
   | false=>k (.tup []))
 | false=>(match pu E G n fh all o f with
  | some a=>k a
  | none=>.fail)
noncomputable def Nl (tk:List Nat) (fh:Bool) (fq:Nat->Bool) (all:List Oper) (l:List (Nat×Bool)):ab->(ab->Qy α)->Qy α:=
 @List.rec (Nat×Bool) (fun _=>ab->(ab->Qy α)->Qy α) (fun f k=>k f) (fun p _ ih f k=>
  match all[p.1]? with
  | none=>.fail
  | some o=>match p.2 with
   | true=>Qq A B E G H n fh tk all o f (fun f'=>ih f' k)
   | false=>DL B E G n (fh||fq p.1) all o f (fun a=>xK A n o.dst (jS f o.dst a) (fun f'=>ih f' k))) l
def Lg (F:Nat->Qy α):Nat->List Nat->Qy α
 | i,[]=>F i
 | i,j::l=>.both (F i) (Lg F j l)
noncomputable def Gf (all:List Oper):Nat->Array Bool->ab->(ab->Qy α)->Qy α
 | 0,listed,f,k=>(match Region.ready .any all.toArray listed with
  | []=>k f
  | _=>.fail)
 | m+1,listed,f,k=>(match Region.ready .any all.toArray listed with
  | []=>k f
  | i::l=>Lg (fun i=>match all[i]? with
   | some o=>Qr A B E G H n all o f (fun f'=>Gf all m (bY listed i) f' k)
   | none=>.fail) i l)
noncomputable def Gc (h:ax) (all:List Oper) (p:Array Bool):Nat->Array Bool->ab->(ab->Qy α)->Qy α
 | 0,listed,f,k=>(match qL listed.toList p.toList with
  | true=>k f
  | false=>.fail)
 | m+1,listed,f,k=>(match qL listed.toList p.toList with
  | true=>.fail
  | false=>(match Region.ready .any all.toArray listed with
   | []=>.fail
   | i::l=>Lg (fun i=>match h.pre.contains (i,true) with
    | true=>(match all[i]? with
     | some o=>Qq A B E G H n (aV H all h.pre) h.tk all o f (fun f'=>Gc h all p m (bY listed i) f' k)
     | none=>.fail)
    | false=>.fail) i l))
noncomputable def Qw (all:List Oper) (h:ax) (f:ab) (k:ab->Qy α):Qy α:=
 match gy h with
 | true=>Gf A B E G H n all all.length (Array.replicate all.length false) f k
 | false=>(match gV h with
  | true=>Nl A B E G H n (fY h).tk (aV H all (fY h).pre) (quietAt H all (fY h).pre) all (cd (fY h).pre) f (fun f1=>
    Gc A B E G H n (fY h) all (eb (fY h).pre (Array.replicate all.length false)) ((fY h).pre.length - (cd (fY h).pre).length) (eb (cd (fY h).pre) (Array.replicate all.length false)) f1 (fun f0=>
     match nM E n all (fY h).nw f0 with
     | some f2=>Qp A B E G H n all (dJ all (fY h).tail) f2 k
     | none=>.fail))
  | false=>Nl A B E G H n h.tk (aV H all h.pre) (quietAt H all h.pre) all h.pre f (fun f1=>
    match nM E n all h.nw f1 with
    | some f2=>Qp A B E G H n all (dJ all h.tail) f2 k
    | none=>.fail))
def uW:Sl->List Name
 | []=>[]
 | p::r=>Sh p.2++uW r
def aej (m:Name):List Name->Bool
 | []=>false
 | x::r=>match tC x m with|true=>true|false=>aej m r
def Gw (l:List Name):Heap->Heap
 | []=>[]
 |(m,o)::r=>match aej m l with|true=>(m,o)::Gw l r|false=>Gw l r
def agn (f:ab):ab:=
 match f with
 | ⟨sl,[],heap,next⟩=>⟨sl,[],heap,next⟩
 | ⟨sl,p::locs,heap,next⟩=>⟨sl,Gw (Ba (p::locs) (p::locs).length (sA (uW sl) [])) (p::locs),heap,next⟩
def aaH:FuncId:=4000000
def J8 (caps:FuncId->Bool) (f:ab):ab:=match caps aaH with|true=>agn f|false=>f
noncomputable def yb (live:Nat->Nat) (id:Nat) (ops:Array Oper) (draw:Bool) (f:ab) (k:ab->Qy α):Qy α:=
 match draw with
 | true=>Qw A B E G H n ops.toList (H.ord id) f (fun f'=>match kZ n (live id) (kX f' (fun l=>eM l (live id))) with|some f2=>k (J8 H.caps f2)|none=>.fail)
 | false=>Qp A B E G (H.at id) n ops.toList ops.toList f (fun f'=>match kZ n (live id) (kX f' (fun l=>eM l (live id))) with|some f2=>k (J8 H.caps f2)|none=>.fail)
noncomputable def tq (live:Nat->Nat) (c:Code):ab->(Exit×ab->Qy α)->Qy α:=
 Code.rec (motive:=fun _=>ab->(Exit×ab->Qy α)->Qy α)
  (skip:=fun f k=>k (.normal,f))
  (region:=fun id ops draw f k=>yb A B E G H n live id ops draw f (fun f=>k (.normal,f)))
  (seq:=fun _ _ ix iy f k=>ix f (fun r=>match r with
   |(.normal,f')=>iy f' k
   | r=>k r))
  (cond:=fun c _ _ ix iy f k=>(match oB G n f c with
   | .dat (.flat (.bool b))=>(match b with|true=>ix f k|false=>iy f k)
   | _=>.fail))
  (block:=fun id _ ic f k=>ic f (fun r=>match r with
   |(.exit i,f')=>(match Nat.beq i id with|true=>k (.normal,f')|false=>k (.exit i,f'))
   | r=>k r))
  (loop:=fun c _ f k=>.loop n c f k)
  (rangeFunc:=fun _ _ _ _ _ _ _ _=>.fail)
  (exit:=fun id f k=>k (.exit id,f))
  (scope:=fun _ ic f k=>ic f (fun r=>match r with
   |(.goto _,_)=>.fail
   | r=>k r))
  (label:=fun _ f k=>k (.normal,f))
  (goto:=fun _ _ _=>.fail)
  (ret:=fun f k=>k (.ret,f))
  (refuse:=fun _ _ _=>.fail) c
end
noncomputable def Qu (A B:Nat->Bool) (E:bG) (G:bL) (moves caps:FuncId->Bool) (x:gU) (g:FuncId) (args:List ac) (heap:Heap) (next:Nat):Qy ey:=
 match Nat.ble args.length x.ntmps with
 | false=>.fail
 | true=>tq A B E G ⟨moves,x.ord,caps,rowsOf caps g⟩ x.ntmps x.live x.code ⟨za 0 args,[],heap,next⟩ (fun r=>match r with
  |(.ret,f)=>(match xR E x.ntmps x.results f with|some r=>.fin (qJ next r)|none=>.fail)
  |(.normal,f)=>(match xR E x.ntmps x.results f with|some r=>.fin (qJ next r)|none=>.fail)
  | _=>.fail)
section
variable {P:Program} {E:bG} {G:bL} {H:Hints} {n:Nat} {α:Type} {A B:Nat->Bool} {T:α->Prop}
theorem vY {all:List Oper} {o:Oper} {K K':aa->Prop} {s:aa} (hk:∀s,K s->K' s) (h:mn (aB P G) E G H all o K s):mn (aB P G) E G H all o K' s:=by
 unfold mn at h ⊢
 split
 ·rename_i hw;simp[hw] at h
 rename_i b hw;simp only[hw] at h
 split
 ·rename_i hb;simp only[hb,if_true] at h
  split
  ·rename_i c hc;simp only[hc] at h
   split
   ·rename_i f args s2 ha;simp only[ha] at h;exact h.mono fun v heap n hq h1 h2=>hk _ (hq h1 h2)
   rename_i ha;simp[ha] at h
  rename_i hc;simp only[hc] at h
  split
  ·rename_i s' hs';simp only[hs'] at h;exact hk _ h
  rename_i hs';simp[hs'] at h
 rename_i hb;simp only[hb] at h;exact hk _ h
def uJ (P:Program) (G:bL) (n:Nat) (T:α->Prop) (k:ab->Qy α) (s:aa):Prop:=∃f',s=f'.aw n/\(k f').sG P G T
theorem lC {d:Option Tmp} {f:ab} {k:ab->Qy α} (h:(xK A n d f k).sG P G T):uJ P G n T k (f.aw n):=by
 unfold xK at h
 cases d with
 | none=>exact⟨f,rfl,h⟩
 | some t=>
  dsimp only at h
  split at h
  ·split at h
   ·rename_i b hb;refine⟨jS f (some t) (.dat (.flat (.bool b))),?_,h⟩;rw[eH];rw[←jC] at hb;unfold aa.put;dsimp only;have hb2:(f.aw n).tmps[t]?=some (.dat (.flat (.bool b))):=by
     unfold bB at hb
     cases he:(f.aw n).tmps[t]? with
     | none=>rw[he] at hb;simp at hb
     | some v=>rw[he] at hb;simpa using hb
    rw[zi hb2]
   exact⟨f,rfl,h⟩
  exact⟨f,rfl,h⟩
theorem zL {q take:Bool} {o:Oper} {f:ab} {k:ab->Qy α} (h:(Ga A B E G n q take o f k).sG P G T):∃s',cX E G q take o (f.aw n)=some s'/\uJ P G n T k s':=by
 rw[tU];unfold Ga at h
 split at h
 ·obtain⟨out,ho,h⟩:=h;dsimp only at h
  split at h
  ·rename_i ob hob;have h:(match di ob with
     | true=>(match EM o (looks o.op (gx G n f (kI q o.op) 0 (opsL o.op))) (ub n f (kI q o.op) (opsL o.op)) out with
      | some f'=>xK A n o.dst f' k
      | none=>.fail)
     | false=>.fail:Qy α).sG P G T:=h
   cases hn:di ob with
   | false=>rw[hn] at h;exact h.elim
   | true=>
    rw[hn] at h;dsimp only at h
    split at h
    ·rename_i f' hf';refine⟨f'.aw n,?_,lC h⟩;unfold wV EC;rw[ho];dsimp only;rw[N4 hob hn hf'];rfl
    exact h.elim
  split at h
  ·rename_i f' hf';refine⟨f'.aw n,?_,lC h⟩;unfold wV EC;rw[ho];dsimp only;rw[hf'];rfl
  exact h.elim
 split at h
 ·rename_i f' hf';exact⟨f'.aw n,by rw[hf'];rfl,lC h⟩
 exact h.elim
theorem Le {all:List Oper} {o:Oper} {f:ab} {k:ab->Qy α} (h:(Qr A B E G H n all o f k).sG P G T):mn (aB P G) E G H all o (uJ P G n T k) (f.aw n):=by
 unfold Qr at h;unfold mn;rw[kV]
 cases hw:hJ n all f o.guard with
 | none=>rw[hw] at h;exact h.elim
 | some b=>
  rw[hw] at h
  cases b with
  | false=>
   dsimp only at h ⊢;rw[if_neg (by simp)];exact⟨_,by rw[eH],h⟩
  | true=>
   dsimp only at h ⊢;rw[if_pos rfl]
   cases hc:dm o.op with
   | none=>
    rw[hc] at h;dsimp only at h ⊢;obtain⟨s',h1,h2⟩:=zL h;rw[h1];exact h2
   | some c=>
    rw[hc] at h;dsimp only at h ⊢;rw[AU]
    cases hcal:qw E G H n c f with
    | none=>rw[hcal] at h;exact h.elim
    | some x=>
     obtain⟨g,args,f2⟩:=x;rw[hcal] at h;dsimp only[Option.map_some] at h ⊢;refine aB.mono h ?_;intro v hh m hq b1 b2
     have:=lC (hq b1 b2)
     rw[lc] at this;exact this
theorem yd {all:List Oper} {k:ab->Qy α}:∀{ops:List Oper} {f:ab},(Qp A B E G H n all ops f k).sG P G T->ml (aB P G) E G H all (uJ P G n T k) ops (f.aw n)
 | [],f,h=>⟨f,rfl,h⟩
 | o::rest,f,h=>by
  have h:(Qr A B E G H n all o f (fun f'=>Qp A B E G H n all rest f' k)).sG P G T:=h;simp only[ml,iQ];refine vY ?_ (Le h);rintro s ⟨f',rfl,h'⟩;exact yd h'
theorem Ld {fh:Bool} {tk:List Nat} {all:List Oper} {o:Oper} {f:ab} {k:ab->Qy α} (h:(Qq A B E G H n fh tk all o f k).sG P G T):Ns (aB P G) E G H fh tk all o (uJ P G n T k) (f.aw n):=by
 unfold Qq at h;unfold Ns;rw[kV]
 cases hw:hJ n all f o.guard with
 | none=>rw[hw] at h;exact h.elim
 | some b=>
  rw[hw] at h
  cases b with
  | false=>
   dsimp only at h ⊢;rw[if_neg (by simp)];exact⟨_,by rw[eH],h⟩
  | true=>
   dsimp only at h ⊢;rw[if_pos rfl]
   cases hc:dm o.op with
   | none=>
    rw[hc] at h;dsimp only at h ⊢
    cases ht:fJ o.op with
    | none=>
     rw[ht] at h;dsimp only at h ⊢
     cases hst:kq o.op with
     | false=>rw[hst] at h;exact h.elim
     | true=>
      rw[hst] at h;dsimp only at h ⊢;obtain⟨s',h1,h2⟩:=zL h;rw[h1];exact h2
    | some t=>
     rw[ht] at h;dsimp only at h ⊢;rw[CT]
     cases hs:lJ n fh all (gf all t (vE n tk t f)) f with
     | none=>rw[hs] at h;exact h.elim
     | some f1=>
      rw[hs] at h;rw[nL n fh all _ _ _ hs];dsimp only at h ⊢;obtain⟨s',h1,h2⟩:=zL h;rw[h1];exact h2
   | some c=>
    rw[hc] at h;dsimp only at h ⊢;rw[xe]
    cases hcal:mP E G H n c f with
    | none=>rw[hcal] at h;exact h.elim
    | some x=>
     obtain⟨g,args,f2⟩:=x;rw[hcal] at h;dsimp only[Option.map_some] at h ⊢
     cases hpu:hO H o with
     | true=>
      rw[hpu] at h;dsimp only at h ⊢;refine aB.mono h ?_;intro v hh m hq b1 b2;have hq:=hq b1 b2;dsimp only at hq
      cases hh with
      | nil=>
       dsimp only at hq
       have:=lC hq
       rw[lc] at this;exact⟨rfl,this⟩
      | cons _ _=>exact hq.elim
     | false=>
      rw[hpu] at h;dsimp only at h ⊢;refine aB.mono h ?_;intro v hh m hq b1 b2;have hq:=hq b1 b2
      cases hrd:mc H o with
      | true=>
       rw[hrd] at hq;dsimp only at hq;obtain⟨q1,q2⟩:=hq
       have:=lC q2
       rw[lc] at this;exact⟨fun _=>q1,this⟩
      | false=>
       rw[hrd] at hq;dsimp only at hq
       have:=lC hq
       rw[lc] at this;exact⟨fun hx=>by simp at hx,this⟩
theorem Nj {fh:Bool} {all:List Oper} {o:Oper} {f:ab} {k:ac->Qy α} (h:(DL B E G n fh all o f k).sG P G T):∃a,pu E G n fh all o f=some a/\(k a).sG P G T:=by
 unfold DL at h
 split at h
 ·unfold pu
  split at h
  ·exact h.elim
  rename_i b hw;rw[hw];dsimp only
  cases b with
  | false=>exact⟨_,rfl,h⟩
  | true=>
   rw[if_pos rfl];dsimp only at h
   split at h
   ·rename_i hal;rw[if_pos hal]
    split at h
    ·rename_i x hx;rw[hx];exact⟨_,rfl,h⟩
    exact h.elim
   rename_i hal;rw[if_neg (by simp[hal])]
   split at h
   ·exact h.elim
   rename_i hc;rw[hc];dsimp only
   split at h
   ·rename_i hq;rw[if_pos hq];obtain⟨out,ho,h⟩:=h;rw[ho];dsimp only at h ⊢
    split at h
    ·exact⟨_,rfl,h⟩
    exact h.elim
   exact h.elim
 split at h
 ·rename_i a ha;exact⟨a,ha,h⟩
 exact h.elim
theorem Nk {tk:List Nat} {fh:Bool} {fq:Nat->Bool} {all:List Oper} {i:Nat} {lone:Bool} {rest:List (Nat×Bool)} {f:ab} {k:ab->Qy α}:Nl A B E G H n tk fh fq all ((i,lone)::rest) f k=(match all[i]? with
  | none=>.fail
  | some o=>match lone with
   | true=>Qq A B E G H n fh tk all o f (fun f'=>Nl A B E G H n tk fh fq all rest f' k)
   | false=>DL B E G n (fh||fq i) all o f (fun a=>xK A n o.dst (jS f o.dst a) (fun f'=>Nl A B E G H n tk fh fq all rest f' k))):=rfl
theorem yc {tk:List Nat} {fh:Bool} {fq:Nat->Bool} {all:List Oper} {k:ab->Qy α} {K:aa->Prop} (hK:∀s,uJ P G n T k s->K s):∀{l:List (Nat×Bool)} {f:ab},(Nl A B E G H n tk fh fq all l f k).sG P G T->lQ (aB P G) E G H tk fh fq all K l (f.aw n)
 | [],f,h=>hK _ ⟨f,rfl,h⟩
 |(i,lone)::rest,f,h=>by
  rw[Nk] at h;simp only[lQ,iQ]
  cases hi:all[i]? with
  | none=>rw[hi] at h;exact h.elim
  | some o=>
   rw[hi] at h
   cases lone
   ·dsimp only at h ⊢;rw[if_neg (by simp),CU];obtain⟨a,h1,h2⟩:=Nj h;rw[h1];dsimp only;rw[←eH];obtain⟨f',e,h'⟩:=lC h2;rw[e];exact yc hK h'
   dsimp only at h ⊢;rw[if_pos rfl];refine oW ?_ (Ld h);rintro s ⟨f',rfl,h'⟩;exact yc hK h'
theorem zM {F:Nat->Qy α}:∀{l:List Nat} {i:Nat},(Lg F i l).sG P G T->∀j∈i::l,(F j).sG P G T
 | [],i,h,j,hj=>by simp at hj;subst hj;exact h
 | x::l,i,h,j,hj=>by
  obtain⟨h1,h2⟩:=h
  rcases List.mem_cons.1 hj with rfl|hj
  ·exact h1
  exact zM h2 j hj
theorem Ge {all:List Oper} {k:ab->Qy α}:∀(m:Nat) (listed:Array Bool) (f:ab),(Gf A B E G H n all m listed f k).sG P G T->oD (aB P G) E G H all (uJ P G n T k) m listed (f.aw n)
 | 0,listed,f,h=>by
  simp only[Gf] at h
  split at h
  ·rename_i he;exact⟨he,f,rfl,h⟩
  exact h.elim
 | m+1,listed,f,h=>by
  simp only[Gf] at h;simp only[oD]
  split at h
  ·rename_i he;exact .inl ⟨he,f,rfl,h⟩
  rename_i i l he;refine .inr ⟨by rw[he];simp,?_⟩;rw[he];intro j hj;have h1:=zM h j hj
  split at h1
  ·rename_i o ho;refine⟨o,ho,vY ?_ (Le h1)⟩;rintro s ⟨f',rfl,h'⟩;exact Ge m _ f' h'
  exact h1.elim
theorem Bw {all:List Oper} {Q Q':aa->Prop} (hq:∀s,Q s->Q' s):∀(m:Nat) (listed:Array Bool) (s:aa),oD (aB P G) E G H all Q m listed s->oD (aB P G) E G H all Q' m listed s
 | 0,listed,s,h=>⟨h.1,hq _ h.2⟩
 | m+1,listed,s,h=>by
  simp only[oD] at h ⊢
  rcases h with h|h
  ·exact .inl ⟨h.1,hq _ h.2⟩
  refine .inr ⟨h.1,fun i hi=>?_⟩;obtain⟨o,ho,hh⟩:=h.2 i hi;exact⟨o,ho,vY (fun s hs=>Bw hq m _ s hs) hh⟩
theorem Gb {h:ax} {all:List Oper} {p:Array Bool} {k:ab->Qy α} {K:aa->Prop} (hK:∀s,uJ P G n T k s->K s):∀(m:Nat) (listed:Array Bool) (f:ab),(Gc A B E G H n h all p m listed f k).sG P G T->vZ (aB P G) E G H h all p K m listed (f.aw n)
 | 0,listed,f,hh=>by
  simp only[Gc] at hh
  split at hh
  ·rename_i he;exact⟨Array.ext' (kM.1 he),hK _ ⟨f,rfl,hh⟩⟩
  exact hh.elim
 | m+1,listed,f,hh=>by
  simp only[Gc] at hh
  split at hh
  ·exact hh.elim
  rename_i hne
  split at hh
  ·exact hh.elim
  rename_i i l he;refine⟨fun e=>?_,by rw[he];simp,fun j hj=>?_⟩
  ·rw[e,kM.2 rfl] at hne;simp at hne
  rw[he] at hj;have h1:=zM hh j hj
  split at h1
  ·rename_i hc;refine⟨by simpa using hc,?_⟩
   split at h1
   ·rename_i o ho;refine⟨o,ho,oW ?_ (Ld h1)⟩;rintro s ⟨f',rfl,h'⟩;exact Gb hK m _ f' h'
   exact h1.elim
  exact h1.elim
theorem Qv {all:List Oper} {h:ax} {f:ab} {k:ab->Qy α} (hh:(Qw A B E G H n all h f k).sG P G T):By (aB P G) E G H all h (uJ P G n T k) (f.aw n):=by
 unfold Qw at hh;unfold By
 cases hx:gy h with
 | true=>
  rw[hx] at hh;dsimp only at hh;rw[if_pos rfl];refine Bw ?_ _ _ _ (Ge _ _ _ hh);intro s hs;exact⟨s,hs,fun w R N tmps bsT bsL bsH bsF hr=>⟨N,bsT,bsL,bsH,hr,fun _ _ _ h=>h⟩⟩
 | false=>
  rw[hx] at hh;dsimp only at hh;rw[if_neg (by simp)]
  cases hlm:gV h with
  | true=>
   rw[hlm] at hh;dsimp only at hh;rw[if_pos rfl];unfold Bx;refine yc ?_ hh;rintro s ⟨f1,rfl,h1⟩;refine Gb ?_ _ _ _ h1;rintro s ⟨f0,rfl,h0⟩;dsimp only at h0
   split at h0
   ·rename_i f2 hf2;rw[ky E n all _ f0 f2 hf2];exact yd h0
   exact h0.elim
  | false=>
   rw[hlm] at hh;dsimp only at hh;rw[if_neg (by simp)];refine yc ?_ hh;rintro s ⟨f1,rfl,h1⟩;dsimp only at h1
   split at h1
   ·rename_i f2 hf2;rw[ky E n all _ f1 f2 hf2];exact yd h1
   exact h1.elim
theorem G6 (f:ab) (m:Nat):iq G (f.aw n) ((kX f (fun l=>eM l m)).aw n):=by
 intro w R N tmps bsT bsL bsH bsF hr;obtain⟨bsT',hr'⟩:=hr.prune m;exact⟨R,N,bsT',bsL,bsH,hr',bi _,fun _ _ h=>h⟩
theorem CD {w:World} {R:Own} {M:Name->Option Nat} (l:List Name):∀{os:Heap} {bs:List Nat},an w R M os bs->∃bs',an w R M (Gw l os) bs'/\bs'.Sublist bs
 | [],bs,h=>⟨bs,h,.refl _⟩
 |(m,o)::os,_,⟨b,b1,b2,e,hn,ho,hr⟩=>by
  subst e;obtain⟨bs',k1,k2⟩:=CD l hr;simp only[Gw]
  split
  ·exact⟨b::(b1++bs'),⟨b,b1,bs',rfl,hn,ho,k1⟩,(List.Sublist.append (.refl _) k2).cons_cons _⟩
  exact⟨bs',k1,k2.trans ((List.sublist_append_right b1 b2).cons _)⟩
theorem NR (caps:FuncId->Bool) (f:ab):iq G (f.aw n) ((J8 caps f).aw n):=by
 unfold J8
 split
 ·obtain⟨sl,locs,heap,next⟩:=f
  cases locs with
  | nil=>exact iq.refl _ _
  | cons p locs=>
   intro w R N tmps bsT bsL bsH bsF hr;obtain⟨bs',k1,k2⟩:=CD (Ba (p::locs) (p::locs).length (sA (uW sl) [])) hr.locs;refine⟨R,N,bsT,bs',bsH,⟨aW _,hr.tmps,k1,hr.heap,?_,hr.next,hr.glob,hr.frame⟩,bi _,fun _ _ h=>h⟩;refine List.Nodup.sublist ?_ hr.nodup;exact List.Sublist.append (.refl _) (List.Sublist.append (.refl _) (List.Sublist.append k2 (.refl _)))
 exact iq.refl _ _
theorem uH {c:Code} {s:aa} {Q Q':Exit->aa->Prop} (h:du P G c Q s) (hg:∀e s1,Q e s1->∃s2,iq G s1 s2/\Q' e s2):du P G c Q' s:=by
 intro w R N act bsT bsL bsH bsF hr D hd;refine wp_mono (h w R N act bsT bsL bsH bsF hr hd) ?_;rintro e a w' ⟨s',R',N',bsT',bsL',bsH',hq,hr',hd',hk,hN⟩;obtain⟨s2,hg,hq2⟩:=hg e s' hq;obtain⟨R2,N2,t2,l2,h2,hr2,hk2,hN2⟩:=hg _ _ _ _ _ _ _ _ hr';exact⟨s2,R2,N2,t2,l2,h2,hq2,hr2,hd',hk.trans hk2,fun o b ho=>hN2 o b (hN o b ho)⟩
theorem IU (hE:E.Ok P) {live:Nat->Nat} {id:Nat} {ops:Array Oper} {draw:Bool} {f:ab} {k:ab->Qy α} (hc:cQ H (.region id ops draw)=true) (h:(yb A B E G H n live id ops draw f k).sG P G T) :
  du P G (.region id ops draw) (fun e s=>e=.normal/\uJ P G n T k s) (f.aw n):=by
 have key:∀s1,uJ P G n T (fun f'=>match kZ n (live id) (kX f' (fun l=>eM l (live id))) with|some f2=>k (J8 H.caps f2)|none=>.fail) s1->∃s2,iq G s1 s2/\uJ P G n T k s2:=by
  rintro s1 ⟨f1,rfl,h1⟩;dsimp only at h1
  split at h1
  ·rename_i f2 hf2;exact⟨_,((G6 f1 (live id)).trans (nO G hf2)).trans (NR H.caps f2),_,rfl,h1⟩
  exact h1.elim
 unfold yb at h
 cases draw
 ·dsimp only at h;refine uH (uG (H:=H.at id) (Q:=fun e s=>e=.normal/\uJ P G n T (fun f'=>match kZ n (live id) (kX f' (fun l=>eM l (live id))) with|some f2=>k (J8 H.caps f2)|none=>.fail) s) hE ?_) ?_
  ·have:=yd h
   simpa using this
  rintro e s1 ⟨rfl,h1⟩;obtain⟨s2,g,h2⟩:=key s1 h1;exact⟨s2,g,rfl,h2⟩
 dsimp only at h;refine uH (BA (H:=H) (Q:=fun e s=>e=.normal/\uJ P G n T (fun f'=>match kZ n (live id) (kX f' (fun l=>eM l (live id))) with|some f2=>k (J8 H.caps f2)|none=>.fail) s) hE hE.mixed (by simpa [cQ] using hc) ?_) ?_
 ·have:=Qv h
  simpa using this
 rintro e s1 ⟨rfl,h1⟩;obtain⟨s2,g,h2⟩:=key s1 h1;exact⟨s2,g,rfl,h2⟩
def afR (P:Program) (G:bL) (n:Nat) (T:α->Prop) (k:Exit×ab->Qy α) (e:Exit) (s:aa):Prop:=∃f',s=f'.aw n/\(k (e,f')).sG P G T
theorem DM {live:Nat->Nat} {id:Nat} {ops:Array Oper} {draw:Bool} {f:ab} {k:Exit×ab->Qy α}:tq A B E G H n live (.region id ops draw) f k=yb A B E G H n live id ops draw f (fun f=>k (.normal,f)):=rfl
theorem iC (hE:E.Ok P) (live:Nat->Nat):∀(c:Code) (f:ab) (k:Exit×ab->Qy α),cQ H c=true->(tq A B E G H n live c f k).sG P G T->du P G c (afR P G n T k) (f.aw n)
 | .skip,f,k,_,h=>gC wp_skip ⟨f,rfl,h⟩
 | .region id ops draw,f,k,hc,h=>by
  rw[DM] at h;refine (IU hE hc h).mono ?_;rintro e s ⟨rfl,f',rfl,h'⟩;exact⟨f',rfl,h'⟩
 | .seq x y,f,k,hc,h=>by
  simp only[cQ,Bool.and_eq_true] at hc;refine Dm ?_;refine (iC hE live x f (fun r=>match r with|(.normal,f')=>tq A B E G H n live y f' k|r=>k r) hc.1 h).mono ?_;rintro e s ⟨f',rfl,h'⟩
  cases e with
  | normal=>exact iC hE live y f' k hc.2 h'
  | _=>exact⟨f',rfl,h'⟩
 | .cond c x y,f,k,hc,h=>by
  simp only[cQ,Bool.and_eq_true] at hc;intro w R N act bsT bsL bsH bsF hr D hd;have h:(match oB G n f c with
   | .dat (.flat (.bool b))=>(match b with|true=>tq A B E G H n live x f k|false=>tq A B E G H n live y f k)
   | _=>.fail).sG P G T:=h
  split at h
  ·rename_i b hb;obtain⟨bs,he⟩:=pC hr.tmps hr.glob c;rw[mO,hb] at he;obtain⟨_,he,_⟩:=aI he;refine wp_cond he ?_
   cases b
   ·exact iC hE live y f k hc.2 h w R N act bsT bsL bsH bsF hr hd
   exact iC hE live x f k hc.1 h w R N act bsT bsL bsH bsF hr hd
  exact h.elim
 | .block id c,f,k,hc,h=>by
  simp only[cQ] at hc;intro w R N act bsT bsL bsH bsF hr D hd
  apply wp_block
  refine wp_mono (iC hE live c f (fun r=>match r with
   |(.exit i,f')=>(match Nat.beq i id with|true=>k (.normal,f')|false=>k (.exit i,f'))
   | r=>k r) hc h w R N act bsT bsL bsH bsF hr hd) ?_
  rintro e2 a w' ⟨s2,R',N',bsT',bsL',bsH',⟨f',rfl,h'⟩,rest⟩
  cases e2 with
  | exit i=>
   simp only[Exit.inBlock];dsimp only at h'
   by_cases hi:i=id
   ·have hb:Nat.beq i id=true:=by rw[Nat.beq_eq];exact hi
    rw[if_pos hi];rw[hb] at h';exact⟨_,R',N',bsT',bsL',bsH',⟨f',rfl,h'⟩,rest⟩
   have hb:Nat.beq i id=false:=by rw[Bool.eq_false_iff];intro hc;rw[Nat.beq_eq] at hc;exact hi hc
   rw[if_neg hi];rw[hb] at h';exact⟨_,R',N',bsT',bsL',bsH',⟨f',rfl,h'⟩,rest⟩
  | _=>exact⟨_,R',N',bsT',bsL',bsH',⟨f',rfl,h'⟩,rest⟩
 | .exit id,f,k,_,h=>gC wp_exit ⟨f,rfl,h⟩
 | .ret,f,k,_,h=>gC wp_ret ⟨f,rfl,h⟩
 | .loop c,f,k,_,h=>h
 | .rangeFunc _ _ _ _,_,_,_,h=>h.elim
 | .scope c,f,k,hc,h=>by
  simp only[cQ] at hc;intro w R N act bsT bsL bsH bsF hr D hd
  apply wp_scope_straight
  refine wp_mono (iC hE live c f (fun r=>match r with
   |(.goto _,_)=>.fail
   | r=>k r) hc h w R N act bsT bsL bsH bsF hr hd) ?_
  rintro e2 a w' ⟨s2,R',N',bsT',bsL',bsH',⟨f',rfl,h'⟩,rest⟩
  cases e2 with
  | goto l=>exact h'.elim
  | _=>exact⟨_,R',N',bsT',bsL',bsH',⟨f',rfl,h'⟩,rest⟩
 | .label _,f,k,_,h=>gC wp_label ⟨f,rfl,h⟩
 | .goto _,_,_,_,h=>h.elim
 | .refuse _,_,_,_,h=>h.elim
end
structure Qy.Ok {α:Type} (P:Program) (G:bL) (T:α->Prop) (q:Qy α):Prop where
 ok:q.sG P G T
end Go.Tp
namespace Go.Tp
mutual
def fg (ρ:Nat->Nat):ac->ac
 | .ptr (.out o) off=>.ptr (.out (ρ o)) off
 | .map (.out o)=>.map (.out (ρ o))
 | .win (.out o) s off len=>.win (.out (ρ o)) s off len
 | .fn f a b=>.fn f (gD ρ a) (gD ρ b)
 | .agg cs=>.agg (gD ρ cs)
 | .tup cs=>.tup (gD ρ cs)
 | a=>a
def gD (ρ:Nat->Nat):List ac->List ac
 | []=>[]
 | a::r=>fg ρ a::gD ρ r
end
def mC (ρ:Nat->Nat):aR->aR
 | .cells cs=>.cells (gD ρ cs)
 | .map es=>.map es
def qT (ρ:Nat->Nat):Name->Name
 | .out o=>.out (ρ o)
 | m=>m
def lk (ρ:Nat->Nat):Heap->Heap
 | []=>[]
 |(m,o)::r=>(qT ρ m,mC ρ o)::lk ρ r
section
variable {w:World} {R:Own} {M M2:Name->Option Nat} {ρ:Nat->Nat}
mutual
theorem al.rn (hL:∀i,M (.loc i)=none) (hM:∀o b,M (.out o)=some b->M2 (.out (ρ o))=some b):∀{a:ac} {v:Value} {bs:List Nat},al w R M a v bs->al w R M2 (fg ρ a) v bs
 | .dat _,_,_,h=>by simp only[fg,al] at h ⊢;exact h
 | .own _,_,_,h=>by simp only[fg,al] at h ⊢;exact h
 | .ref _,_,_,h=>by simp only[fg,al] at h ⊢;exact h
 | .undef,_,_,h=>by simp only[fg,al] at h ⊢;exact h
 | .ptr (.loc i) _,_,_,h=>by simp only[al] at h;obtain⟨_,b,h2,_⟩:=h;rw[hL] at h2;simp at h2
 | .map (.loc i),_,_,h=>by simp only[al] at h;obtain⟨_,b,h2,_⟩:=h;rw[hL] at h2;simp at h2
 | .win (.loc i) _ _ _,_,_,h=>by simp only[al] at h;obtain⟨_,b,cap,h2,_⟩:=h;rw[hL] at h2;simp at h2
 | .ptr (.out o) off,_,_,h=>by
  simp only[fg,al] at h ⊢;obtain⟨h1,b,h2,h3⟩:=h;exact⟨h1,b,hM o b h2,h3⟩
 | .map (.out o),_,_,h=>by
  simp only[fg,al] at h ⊢;obtain⟨h1,b,h2,h3⟩:=h;exact⟨h1,b,hM o b h2,h3⟩
 | .win (.out o) s off len,_,_,h=>by
  simp only[fg,al] at h ⊢;obtain⟨h1,b,cap,h2,h3⟩:=h;exact⟨h1,b,cap,hM o b h2,h3⟩
 | .fn f a b,_,_,h=>by
  simp only[fg,al] at h ⊢;obtain⟨h1,vs,us,e,h2,h3⟩:=h;exact⟨h1,vs,us,e,ak.rn hL hM h2,ak.rn hL hM h3⟩
 | .agg cs,_,_,h=>by
  simp only[fg,al] at h ⊢;obtain⟨vs,e,h⟩:=h;exact⟨vs,e,ak.rn hL hM h⟩
 | .tup cs,_,_,h=>by
  simp only[fg,al] at h ⊢;obtain⟨vs,e,h⟩:=h;exact⟨vs,e,ak.rn hL hM h⟩
theorem ak.rn (hL:∀i,M (.loc i)=none) (hM:∀o b,M (.out o)=some b->M2 (.out (ρ o))=some b):∀{as:List ac} {vs:List Value} {bs:List Nat},ak w R M as vs bs->ak w R M2 (gD ρ as) vs bs
 | [],_,_,h=>by simp only[gD,ak] at h ⊢;exact h
 | a::r,_,_,h=>by
  simp only[gD,ak] at h ⊢;obtain⟨v,vs',b1,b2,e1,e2,h1,h2⟩:=h;exact⟨v,vs',b1,b2,e1,e2,al.rn hL hM h1,ak.rn hL hM h2⟩
end
mutual
theorem al.iA {k:Nat} (hM:∀o b,o < k->M2 (.out (ρ o))=some b->M (.out o)=some b):∀{a:ac} {v:Value} {bs:List Nat},dB k a=false->al w R M2 (fg ρ a) v bs->al w R M a v bs
 | .dat _,_,_,_,h=>by simp only[fg,al] at h ⊢;exact h
 | .own _,_,_,_,h=>by simp only[fg,al] at h ⊢;exact h
 | .ref _,_,_,_,h=>by simp only[fg,al] at h ⊢;exact h
 | .undef,_,_,_,h=>by simp only[fg,al] at h ⊢;exact h
 | .ptr (.loc _) _,_,_,hn,_=>by simp[dB] at hn
 | .map (.loc _),_,_,hn,_=>by simp[dB] at hn
 | .win (.loc _) _ _ _,_,_,hn,_=>by simp[dB] at hn
 | .ptr (.out o) off,_,_,hn,h=>by
  simp only[dB] at hn;have ho:o < k:=by
   cases Nat.lt_or_ge o k with
   | inl h=>exact h
   | inr h=>rw[fS h] at hn;simp at hn
  simp only[fg,al] at h ⊢;obtain⟨h1,b,h2,h3⟩:=h;exact⟨h1,b,hM o b ho h2,h3⟩
 | .map (.out o),_,_,hn,h=>by
  simp only[dB] at hn;have ho:o < k:=by
   cases Nat.lt_or_ge o k with
   | inl h=>exact h
   | inr h=>rw[fS h] at hn;simp at hn
  simp only[fg,al] at h ⊢;obtain⟨h1,b,h2,h3⟩:=h;exact⟨h1,b,hM o b ho h2,h3⟩
 | .win (.out o) s off len,_,_,hn,h=>by
  simp only[dB] at hn;have ho:o < k:=by
   cases Nat.lt_or_ge o k with
   | inl h=>exact h
   | inr h=>rw[fS h] at hn;simp at hn
  simp only[fg,al] at h ⊢;obtain⟨h1,b,cap,h2,h3⟩:=h;exact⟨h1,b,cap,hM o b ho h2,h3⟩
 | .fn f a b,_,_,hn,h=>by
  simp only[dB,Bool.or_eq_false_iff] at hn;simp only[fg,al] at h ⊢;obtain⟨h1,vs,us,e,h2,h3⟩:=h;exact⟨h1,vs,us,e,ak.iA hM hn.1 h2,ak.iA hM hn.2 h3⟩
 | .agg cs,_,_,hn,h=>by
  simp only[dB] at hn;simp only[fg,al] at h ⊢;obtain⟨vs,e,h⟩:=h;exact⟨vs,e,ak.iA hM hn h⟩
 | .tup cs,_,_,hn,h=>by
  simp only[dB] at hn;simp only[fg,al] at h ⊢;obtain⟨vs,e,h⟩:=h;exact⟨vs,e,ak.iA hM hn h⟩
theorem ak.iA {k:Nat} (hM:∀o b,o < k->M2 (.out (ρ o))=some b->M (.out o)=some b):∀{as:List ac} {vs:List Value} {bs:List Nat},dM k as=false->ak w R M2 (gD ρ as) vs bs->ak w R M as vs bs
 | [],_,_,_,h=>by simp only[gD,ak] at h ⊢;exact h
 | a::r,_,_,hn,h=>by
  simp only[dM,Bool.or_eq_false_iff] at hn;simp only[gD,ak] at h ⊢;obtain⟨v,vs',b1,b2,e1,e2,h1,h2⟩:=h;exact⟨v,vs',b1,b2,e1,e2,al.iA hM hn.1 h1,ak.iA hM hn.2 h2⟩
end
theorem JM (a:ac):xN (fg ρ a)=xN a:=by
 cases a with
 | ptr n off=>cases n <;> rfl
 | map n=>cases n <;> rfl
 | win n s off len=>cases n <;> rfl
 | _=>rfl
theorem Ut (a b c:ac) (r:List ac):cM (a::b::c::r)=false:=by
 unfold cM
 split <;> rename_i h <;> first|rfl|simp at h
theorem Bn:∀(cs:List ac),cM (gD ρ cs)=cM cs
 | []=>rfl
 | [a]=>by
  simp only[gD];unfold cM
  split <;> rename_i h <;> simp at h
  rfl
 | [a,b]=>by
  simp only[gD]
  cases b with
  | ptr n off=>cases n <;> rfl
  | map n=>cases n <;> rfl
  | win n s off len=>cases n <;> rfl
  | own es=>simp only[fg,cM,JM]
  | dat d=>
   simp only[fg]
   cases d with
   | slice es=>simp only[cM,JM]
   | agg es=>rfl
   | flat v=>
    have h:=JM (ρ:=ρ) a
    cases v with
    | slice p len cap=>
     cases p with
     | some _=>rfl
     | none=>
      cases len with
      | succ _=>rfl
      | zero=>
       cases cap with
       | succ _=>rfl
       | zero=>exact h
    | _=>rfl
  | _=>rfl
 | a::b::c::r=>by
  simp only[gD,Ut]
theorem rE (l m:List ac):gD ρ (l++m)=gD ρ l++gD ρ m:=by
 induction l with
 | nil=>rfl
 | cons a l ih=>simp[gD,ih]
theorem qe:∀k:Nat,gD ρ (List.replicate k .undef)=List.replicate k .undef
 | 0=>rfl
 | k+1=>by simp[List.replicate_succ,gD,fg,qe k]
theorem Af (k:Nat):∀j:Nat,dM k (List.replicate j .undef)=false
 | 0=>rfl
 | j+1=>by simp[List.replicate_succ,dM,dB,Af k j]
theorem aT.rn (hL:∀i,M (.loc i)=none) (hM:∀o b,M (.out o)=some b->M2 (.out (ρ o))=some b) {o:aR} {b:Nat} {bs:List Nat} (h:aT w R M o b bs):aT w R M2 (mC ρ o) b bs:=by
 cases o with
 | map es=>simp only[mC,aT] at h ⊢;exact h
 | cells cs=>
  simp only[mC,aT] at h ⊢;obtain⟨vs,elem,sp,h1,h2,h3,h4⟩:=h;refine⟨vs,elem,sp,h1,?_,h3,by rw[Bn];exact h4⟩
  have:=ak.rn (ρ:=ρ) hL hM (as:=cs++List.replicate sp .undef) h2
  rwa [rE,qe] at this
theorem aT.iA {k:Nat} (hM:∀o b,o < k->M2 (.out (ρ o))=some b->M (.out o)=some b) {o:aR} {b:Nat} {bs:List Nat} (hn:lY k o=false) (h:aT w R M2 (mC ρ o) b bs):aT w R M o b bs:=by
 cases o with
 | map es=>simp only[mC,aT] at h ⊢;exact h
 | cells cs=>
  simp only[lY] at hn;simp only[mC,aT] at h ⊢;obtain⟨vs,elem,sp,h1,h2,h3,h4⟩:=h;refine⟨vs,elem,sp,h1,?_,h3,by rw[Bn] at h4;exact h4⟩;refine ak.iA (ρ:=ρ) hM (as:=cs++List.replicate sp .undef) (by rw[pa,hn,Af];rfl) ?_;rw[rE,qe];exact h2
def tE (k:Nat):Heap->Bool
 | []=>true
 |(m,_)::r=>kl k m&&tE k r
theorem Gx {k:Nat} {m:Name} (h:kl k m=true):∃o,m=.out o/\o < k:=by
 cases m with
 | loc i=>simp[kl] at h
 | out o=>exact⟨o,rfl,pL h⟩
theorem an.rn (hL:∀i,M (.loc i)=none) (hM:∀o b,M (.out o)=some b->M2 (.out (ρ o))=some b):∀{os:Heap} {bs:List Nat},an w R M os bs->an w R M2 (lk ρ os) bs
 | [],_,h=>h
 |(.loc i,o)::r,_,⟨b,b1,b2,e,h1,h2,h3⟩=>by rw[hL] at h1;simp at h1
 |(.out m,o)::r,_,⟨b,b1,b2,e,h1,h2,h3⟩=>⟨b,b1,b2,e,hM m b h1,h2.rn hL hM,an.rn hL hM h3⟩
theorem an.iA {k:Nat} (hM:∀o b,o < k->M2 (.out (ρ o))=some b->M (.out o)=some b):∀{os:Heap} {bs:List Nat},tE k os=true->cG k os=false->an w R M2 (lk ρ os) bs->an w R M os bs
 | [],_,_,_,h=>h
 |(m,o)::r,_,hl,hn,⟨b,b1,b2,e,h1,h2,h3⟩=>by
  simp only[tE,Bool.and_eq_true] at hl;simp only[cG,Bool.or_eq_false_iff] at hn;obtain⟨i,rfl,hi⟩:=Gx hl.1;exact⟨b,b1,b2,e,hM i b hi h1,h2.iA hM hn.1,an.iA hM hl.2 hn.2 h3⟩
theorem an.append:∀{os os2:Heap} {bs:List Nat},an w R M (os++os2) bs->∃b1 b2,bs=b1++b2/\an w R M os b1/\an w R M os2 b2
 | [],os2,bs,h=>⟨[],bs,rfl,rfl,h⟩
 |(m,o)::r,os2,bs,⟨b,b1,b2,e,h1,h2,h3⟩=>by
  obtain⟨c1,c2,e2,k1,k2⟩:=an.append h3;subst e;subst e2;exact⟨b::(b1++c1),c2,by simp,⟨b,b1,c1,rfl,h1,h2,k1⟩,k2⟩
theorem an.join:∀{os os2:Heap} {b1 b2:List Nat},an w R M os b1->an w R M os2 b2->an w R M (os++os2) (b1++b2)
 | [],os2,b1,b2,h,k=>by
  have h:b1=[]:=h;subst h;exact k
 |(m,o)::r,os2,_,b2,⟨b,c1,c2,e,h1,h2,h3⟩,k=>by
  subst e;exact⟨b,c1,c2++b2,by simp,h1,h2,h3.join k⟩
theorem an.perm {os os2:Heap} (hp:os.Perm os2):∀{bs:List Nat},an w R M os bs->∃bs',an w R M os2 bs'/\bs.Perm bs':=by
 induction hp with
 | nil=>intro bs h;exact⟨bs,h,.refl _⟩
 | cons x _ ih=>
  intro bs h;obtain⟨b,b1,b2,e,h1,h2,h3⟩:=h;obtain⟨bs',k1,k2⟩:=ih h3;subst e;exact⟨b::(b1++bs'),⟨b,b1,bs',rfl,h1,h2,k1⟩,(k2.append_left b1).cons b⟩
 | swap x y l=>
  intro bs h;obtain⟨b,b1,_,e,h1,h2,c,c1,c2,e2,k1,k2,k3⟩:=h;subst e2;subst e;refine⟨c::(c1++(b::(b1++c2))),⟨c,c1,_,rfl,k1,k2,b,b1,c2,rfl,h1,h2,k3⟩,?_⟩;rw[←List.cons_append,←List.cons_append,←List.append_assoc,←List.cons_append,←List.cons_append,←List.append_assoc];exact List.Perm.append_right _ List.perm_append_comm
 | trans _ _ ih1 ih2=>
  intro bs h;obtain⟨b1,k1,k2⟩:=ih1 h;obtain⟨b2,k3,k4⟩:=ih2 k1;exact⟨b2,k3,k2.trans k4⟩
def hasName (o:Nat):Heap->Bool
 | []=>false
 |(.out m,_)::r=>Nat.beq m o||hasName o r
 |(.loc _,_)::r=>hasName o r
def uD (h:Heap):Nat->Bool
 | 0=>true
 | k+1=>hasName k h&&uD h k
theorem an.named {o:Nat}:∀{os:Heap} {bs:List Nat},hasName o os=true->an w R M (lk ρ os) bs->∃b,M (.out (ρ o))=some b
 | [],_,h,_=>by simp[hasName] at h
 |(.out m,x)::r,_,h,⟨b,b1,b2,e,h1,h2,h3⟩=>by
  simp only[hasName,Bool.or_eq_true] at h
  rcases h with h|h
  ·have:=Nat.eq_of_beq_eq_true h
   subst this;exact⟨b,h1⟩
  exact an.named h h3
 |(.loc m,x)::r,_,h,⟨b,b1,b2,e,h1,h2,h3⟩=>an.named (os:=r) (by simpa [hasName] using h) h3
theorem xy {h:Heap}:∀{k:Nat},uD h k=true->∀o,o < k->hasName o h=true
 | 0,_,_,ho=>by omega
 | k+1,hh,o,ho=>by
  simp only[uD,Bool.and_eq_true] at hh
  rcases Nat.lt_or_ge o k with h1|h1
  ·exact xy hh.2 o h1
  have:o=k:=by omega
  subst this;exact hh.1
end
def iG (ρ:Nat->Nat) (n0 d o:Nat):Nat:=match Nat.blt o n0 with|true=>ρ o|false=>d+(o - n0)
variable {P:Program} {G:bL}
theorem aB.frame {g:FuncId} {args0:List ac} {h0:Heap} {n0:Nat} {Q:ac->Heap->Nat->Prop} (hc:aB P G g args0 h0 n0 Q) (ρ:Nat->Nat) {heap rest:Heap} {next:Nat}
  (hp:heap.Perm (lk ρ h0++rest)) (hlow:tE n0 h0=true) (hnew:cG n0 h0=false) (hall:uD h0 n0=true) (ha:dM n0 args0=false) :
  aB P G g (gD ρ args0) heap next (fun v h m=>∃v0 h1 n1,Q v0 h1 n1/\v=fg (iG ρ n0 next) v0/\h=lk (iG ρ n0 next) h1++rest/\m=next+(n1 - n0)):=by
 intro w R N cargs bsA bsH bsF hargs hheap hnd hnx hglob hF;obtain⟨bsP,hP,pP⟩:=hheap.perm hp;obtain⟨b1,b2,e,h1,h2⟩:=an.append hP;subst e
 let N0:Name->Option Nat:=fun m=>match m with|.loc _=>none|.out o=>if o < n0 then N (.out (ρ o)) else none
 have hback:∀o b,o < n0->outs N (.out (ρ o))=some b->outs N0 (.out o)=some b:=by
  intro o b ho hb;simp only[outs] at hb ⊢;simp only[N0];rw[if_pos ho];exact hb
 have hnd1:(bsA++(b1++(b2++bsF))).Nodup:=by
  refine (List.Perm.nodup_iff ?_).1 hnd;rw[←List.append_assoc b1];exact List.Perm.append_left _ (List.Perm.append_right _ pP)
 have h3:=hc w R N0 cargs bsA b1 (b2++bsF) (hargs.iA hback ha) (h1.iA hback hlow hnew) hnd1 (by
  intro o b ho;simp only[N0] at ho
  split at ho
  ·assumption
  ·simp at ho) hglob (by
  intro b hb
  rcases List.mem_append.1 hb with hb|hb
  ·exact h2.lt b hb
  exact hF b hb)
 refine h3.mono ?_;rintro e w' ⟨v0,cv,h1',n1,R',N1,bsV,bsH',rfl,hq,hv,hh,hnd',hnx',hk,hN⟩
 let N2:Name->Option Nat:=fun m=>match m with|.loc i=>N (.loc i)|.out x=>if x < next then N (.out x) else N1 (.out (x - next+n0))
 have hfwd:∀o b,outs N1 (.out o)=some b->outs N2 (.out (iG ρ n0 next o))=some b:=by
  intro o b hb;simp only[outs] at hb ⊢;unfold iG
  cases hlt:Nat.blt o n0 with
  | true=>
   have ho:=pL hlt;dsimp only;obtain⟨b',hb'⟩:=an.named (M:=outs N) (ρ:=ρ) (xy hall o ho) h1;simp only[outs] at hb';have h4:N0 (.out o)=some b':=by simp only[N0];rw[if_pos ho];exact hb'
   have h5:=hN o b' h4;rw[hb] at h5;simp only[N2];rw[if_pos (hnx _ _ hb'),hb',h5]
  | false=>
   dsimp only;have ho:¬o < n0:=fun h=>by rw[←Nat.blt_eq,hlt] at h;simp at h
   simp only[N2];rw[if_neg (by omega),show next+(o - n0) - next+n0=o by omega];exact hb
 have hloc:∀i,outs N1 (.loc i)=none:=fun i=>rfl
 refine⟨_,cv,_,_,R',N2,bsV,bsH'++b2,rfl,⟨v0,h1',n1,hq,rfl,rfl,rfl⟩,hv.rn hloc hfwd,(hh.rn hloc hfwd).join ?_,by simpa using hnd',?_,hk.sub (by intro b hb;simp[hb]),?_⟩
 ·have h5:=h2.keep (hk.sub (by intro b hb;simp[hb]));refine h5.ext ?_;intro m b hm
  cases m with
  | loc i=>simp[outs] at hm
  | out x=>
   simp only[outs] at hm ⊢;simp only[N2];rw[if_pos (hnx x b hm)];exact hm
 ·intro x b hx;simp only[N2] at hx
  split at hx
  ·omega
  have:=hnx' _ _ hx
  omega
 intro x b hx;simp only[N2];rw[if_pos (hnx x b hx)];exact hx
end Go.Tp
namespace Go.Tp
section
variable {P:Program} {E:bG} {G:bL}
theorem aB.gcQ {f:FuncId} {args:List ac} {heap:Heap} {next:Nat} {Q:ac->Heap->Nat->Prop} (h:aB P G f args heap next Q):aB P G f args heap next (fun v h m=>∃r:ey,Q r.val r.heap r.next/\(⟨v,h,m⟩:ey)=qJ next r):=by
 intro w R N cargs bsA bsH bsF ha hh hnd hnx hg hF;refine (h w R N cargs bsA bsH bsF ha hh hnd hnx hg hF).mono ?_;rintro e w' ⟨val,cv,heap',next',R',N',bsV,bsH',rfl,hq,hv',hh',hnd',hnx',hk,hN⟩;have key:∀r:ey,r=qJ next ⟨val,heap',next'⟩->∃R2 N2 bsV2 bsH2,al w' R2 (outs N2) r.val cv bsV2/\an w' R2 (outs N2) r.heap bsH2/\(bsV2++(bsH2++bsF)).Nodup/\(∀o b,N2 (.out o)=some b->o < r.next)/\bz w R w' R2 bsF/\(∀o b,N (.out o)=some b->N2 (.out o)=some b):=by
  intro r hr;unfold qJ at hr;dsimp only at hr
  split at hr
  ·rename_i hnew;subst hr;simp only[Bool.or_eq_false_iff] at hnew;obtain⟨bs',k1,k2⟩:=oX next hh'
   let N2:Name->Option Nat:=fun m=>match m with|.loc i=>N' (.loc i)|.out o=>if o < next then N' (.out o) else none
   have hM:∀o b,o < next->outs N' (.out o)=some b->outs N2 (.out o)=some b:=by
    intro o b ho hb;simp only[outs] at hb ⊢;simp only[N2];rw[if_pos ho];exact hb
   refine⟨R',N2,bsV,bs',hv'.low hM hnew.1,k1.low hM (lF next heap') hnew.2,?_,?_,hk,?_⟩
   ·exact List.Nodup.sublist (List.Sublist.append (.refl _) (List.Sublist.append k2 (.refl _))) hnd'
   ·intro o b hb;simp only[N2] at hb
    split at hb
    ·assumption
    simp at hb
   intro o b hb;simp only[N2];rw[if_pos (hnx o b hb)];exact hN o b hb
  subst hr;obtain⟨bs',k1,k2⟩:=kp next (EW next heap' 3 (Lj val)) hh';exact⟨R',N',bsV,bs',hv',k1,List.Nodup.sublist (List.Sublist.append (.refl _) (List.Sublist.append k2 (.refl _))) hnd',hnx',hk,hN⟩
 obtain⟨R2,N2,bsV2,bsH2,k⟩:=key _ rfl;exact⟨_,cv,_,_,R2,N2,bsV2,bsH2,rfl,⟨⟨val,heap',next'⟩,hq,rfl⟩,k⟩
theorem Dh {rs:List ResultVar} {Q Q':ac->List (Name×aR)->Nat->Prop} {s:aa} (hq:∀v h n,Q v h n->Q' v h n) (h:xV E rs Q s):xV E rs Q' s:=by
 unfold xV at h ⊢;generalize hC E s rs=rv at h ⊢
 cases rv with
 | none=>exact h
 | some vs=>
  dsimp only at h ⊢
  by_cases hn:bU (jF vs)=true
  ·rw[if_pos hn] at h ⊢;exact hq _ _ _ h
  rw[if_neg hn] at h ⊢;generalize hY (repeatL s.locs.length (mH s.locs)) s (jF vs)=x at h ⊢;obtain⟨s',vs'⟩:=x;dsimp only at h ⊢
  by_cases hn2:bU vs'=true
  ·rw[if_pos hn2] at h ⊢;exact hq _ _ _ h
  rw[if_neg hn2] at h ⊢;exact h
theorem Lf {A B:Nat->Bool} {moves caps:FuncId->Bool} {F:FuncId->Option gU} (hE:E.Ok P) (hF:FOk P moves caps F) {g:FuncId} {x:gU} (hx:F g=some x) {args:List ac} {heap:Heap} {next:Nat} {T:ey->Prop}
  (h:qO args->xT heap->(Qu A B E G moves caps x g args heap next).Ok P G T):aB P G g args heap next (fun v h m=>T ⟨v,h,m⟩):=by
 obtain⟨fn,h1,h2,h3,h4,h5⟩:=hF g x hx;have h6:aB P G g args heap next (fun v h m=>T (qJ next ⟨v,h,m⟩)):=by
  refine kb hE h1 h2 ?_;intro b1 b2;have h:=(h b1 b2).ok;rw[h3,h4];unfold Qu at h
  split at h
  ·exact h.elim
  rename_i hlen;have hlen:=fe hlen;have hent:(⟨za 0 args,[],heap,next⟩:ab).aw x.ntmps=enter x.ntmps args heap next:=by
   simp only[ab.aw,enter];congr 1
   apply List.ext_getElem?
   intro i;rw[lG,Nat.zero_add,sQ,if_pos (Nat.zero_le _),Nat.sub_zero,List.getElem?_append]
   split
   ·split
    ·rename_i hi;unfold bB;rw[List.getElem?_eq_getElem hi]
    rename_i hi1 hi;rw[List.getElem?_replicate,if_pos (by omega)];unfold bB;rw[List.getElem?_eq_none (by omega)]
   rename_i hi;rw[if_neg (by omega),List.getElem?_replicate,if_neg (by omega)]
  rw[←hent];refine (iC (H:=⟨moves,x.ord,caps,rowsOf caps g⟩) hE x.live x.code _ _ (by rw[dX];exact h5) h).mono ?_;rintro e s ⟨f',rfl,h'⟩;have key:(match xR E x.ntmps x.results f' with|some r=>(Qy.fin (qJ next r):Qy ey)|none=>.fail).sG P G T->xV E x.results (fun v h m=>T (qJ next ⟨v,h,m⟩)) (f'.aw x.ntmps):=by
   intro hh
   split at hh
   ·rename_i r hr
    have:=rp (E:=E) (rs:=x.results) (s:=f'.aw x.ntmps) (r:=r) (by rw[ED];exact hr)
    exact Dh (by rintro v h m ⟨rfl,rfl,rfl⟩;exact hh) this
   exact hh.elim
  cases e with
  | ret=>exact key h'
  | normal=>exact key h'
  | _=>exact h'.elim
 refine h6.gcQ.mono ?_;rintro v h m ⟨r,hr,e⟩;rw[e];exact hr
theorem YT {c:Code} {T:Exit->aa->Prop} (I:Nat->aa->Prop)
  (step:∀m s,I m s->du P G c (lm (fun s'=>∃m',m' < m/\I m' s') T) s) {m:Nat} {s:aa} (h:I m s):du P G (.loop c) T s:=by
 intro w R N act bsT bsL bsH bsF hr D hd;refine wp_loop_ghost (I:=fun k a w'=>∃s1 R' N' bsT' bsL' bsH',I k s1/\df G w' R' N' a.tmps.toList s1 undef .undef [] bsT' bsL' bsH' bsF/\a.defers=D/\bz w R w' R' bsF/\(∀o b,N (.out o)=some b->N' (.out o)=some b)) (n0:=m) ?_ ?_
 ·exact⟨s,R,N,bsT,bsL,bsH,h,hr,hd,bi _,fun _ _ h=>h⟩
 rintro k a w' ⟨s1,R',N',bsT',bsL',bsH',hI,hr',hd',hk,hN⟩;refine wp_mono (step k s1 hI w' R' N' a bsT' bsL' bsH' bsF hr' hd') ?_;rintro e a2 w2 ⟨s2,R2,N2,bsT2,bsL2,bsH2,hq,hr2,hd2,hk2,hN2⟩
 cases e with
 | normal=>
  obtain⟨m',hlt,hI'⟩:=hq;exact⟨m',hlt,s2,R2,N2,bsT2,bsL2,bsH2,hI',hr2,hd2,hk.trans hk2,fun o b h=>hN2 o b (hN o b h)⟩
 | _=>exact⟨s2,R2,N2,bsT2,bsL2,bsH2,hq,hr2,hd2,hk.trans hk2,fun o b h=>hN2 o b (hN o b h)⟩
theorem Nn {A B:Nat->Bool} {H:Hints} {n:Nat} (hE:E.Ok P) (live:Nat->Nat) {c:Code} (hc:cQ H c=true) {f:ab} {T:Exit->aa->Prop}
  (h:(tq A B E G H n live c f (fun r=>.fin r)).Ok P G (fun r=>T r.1 (r.2.aw n))):du P G c T (f.aw n):=by
 refine (iC hE live c f (fun r=>.fin r) hc h.ok).mono ?_;rintro e s ⟨f',rfl,h'⟩;exact h'
end
section
variable {P:Program} {G:bL} {α:Type} {T:α->Prop}
def Qy.J7:Qy α->Option α
 | .fin a=>some a
 | _=>none
def Qy.Bl:Qy α->Option Bool
 | .bool _ b _=>some b
 | _=>none
def Qy.ofB:Qy α->Bool->Qy α
 | .bool _ _ k,b=>k b
 | _,_=>.fail
def Qy.VJ:Qy α->Option (Option Out)
 | .out _ o _=>some o
 | _=>none
def Qy.ofO:Qy α->Out->Qy α
 | .out _ _ k,x=>k x
 | _,_=>.fail
def Qy.Tn:Qy α->Option FuncId
 | .res g _ _ _ _=>some g
 | _=>none
def Qy.xx:Qy α->List ac
 | .res _ args _ _ _=>args
 | _=>[]
def Qy.wP:Qy α->Nat
 | .res _ _ _ next _=>next
 | _=>0
def Qy.wT:Qy α->Heap
 | .res _ _ h _ _=>h
 | _=>[]
def Qy.ofR:Qy α->ey->Qy α
 | .res _ _ _ _ k,r=>k r
 | _,_=>.fail
def Qy.CH:Qy α->Option (Nat×Code)
 | .loop n c _ _=>some (n,c)
 | _=>none
def Qy.GP:Qy α->ab
 | .loop _ _ f _=>f
 | _=>⟨[],[],[],0⟩
def Qy.ofL:Qy α->Exit×ab->Qy α
 | .loop _ _ _ k,r=>k r
 | _,_=>.fail
def Qy.left:Qy α->Option (Qy α)
 | .both a _=>some a
 | _=>none
def Qy.ofX:Qy α->Qy α
 | .both a _=>a
 | _=>.fail
def Qy.ofY:Qy α->Qy α
 | .both _ b=>b
 | _=>.fail
def Qy.S0:Qy α->Bool
 | .both _ _=>true
 | _=>false
theorem bh {q:Qy α} {a:α} (e:q.J7=some a) (h:T a):q.Ok P G T:=by
 cases q with
 | fin x=>simp only[Qy.J7,Option.some.injEq] at e;subst e;exact⟨h⟩
 | _=>simp[Qy.J7] at e
theorem bp {q:Qy α} {c b:Bool} (hc:c=b) (e:q.Bl=some c) (h:(q.ofB b).Ok P G T):q.Ok P G T:=by
 cases q with
 | bool _ x k=>simp only[Qy.Bl,Option.some.injEq] at e;subst e;subst hc;exact⟨h.ok⟩
 | _=>simp[Qy.Bl] at e
theorem Gy {q:Qy α} {c:Bool} (e:q.Bl=some c) (ht:c=true->(q.ofB true).Ok P G T) (hf:c=false->(q.ofB false).Ok P G T):q.Ok P G T:=by
 cases c
 ·exact bp rfl e (hf rfl)
 exact bp rfl e (ht rfl)
theorem aaf {q:Qy α} {o:Option Out} {x:Out} (ho:o=some x) (e:q.VJ=some o) (h:(q.ofO x).Ok P G T):q.Ok P G T:=by
 cases q with
 | out _ y k=>simp only[Qy.VJ,Option.some.injEq] at e;subst e;exact⟨⟨x,ho,h.ok⟩⟩
 | _=>simp[Qy.VJ] at e
theorem iD {q:Qy α} {n:Nat} {c:Code} {f:ab} {L:Exit->aa->Prop} (e:q.CH=some (n,c)) (hs:q.GP.aw n=f.aw n) (hl:du P G (.loop c) L (f.aw n))
  (h:∀ex s,L ex s->∃f',s=f'.aw n/\(q.ofL (ex,f')).Ok P G T):q.Ok P G T:=by
 cases q with
 | loop n' c' f' k=>
  simp only[Qy.CH,Option.some.injEq,Prod.mk.injEq] at e;obtain⟨rfl,rfl⟩:=e;simp only[Qy.GP] at hs;refine⟨?_⟩;show du P G (.loop c') _ (f'.aw n');rw[hs];exact hl.mono (fun e s hL=>by obtain⟨f2,h1,h2⟩:=h e s hL;exact⟨f2,h1,h2.ok⟩)
 | _=>simp[Qy.CH] at e
theorem qg {q:Qy α} (e:q.S0=true) (h1:q.ofX.Ok P G T) (h2:q.ofY.Ok P G T):q.Ok P G T:=by
 cases q with
 | both a b=>exact⟨⟨h1.ok,h2.ok⟩⟩
 | _=>simp[Qy.S0] at e
end
end Go.Tp
namespace Go.Tp
mutual
def BG (p:Nat->Bool):ac->Bool
 | .ptr (.out o) _=>p o
 | .map (.out o)=>p o
 | .win (.out o) _ _ _=>p o
 | .fn _ a b=>gN p a&&gN p b
 | .agg cs=>gN p cs
 | .tup cs=>gN p cs
 | _=>true
def gN (p:Nat->Bool):List ac->Bool
 | []=>true
 | a::r=>BG p a&&gN p r
end
def Jl (p:Nat->Bool):aR->Bool
 | .cells cs=>gN p cs
 | .map _=>true
def GA (p:Nat->Bool):Heap->Bool
 | []=>true
 |(.out m,o)::r=>p m&&Jl p o&&GA p r
 |(.loc _,o)::r=>Jl p o&&GA p r
section
variable {w:World} {R:Own} {M M2:Name->Option Nat} {ρ:Nat->Nat} {p:Nat->Bool}
mutual
theorem al.Ii (hL:∀i b,M (.loc i)=some b->M2 (.loc i)=some b) (hM:∀o b,p o=true->M (.out o)=some b->M2 (.out (ρ o))=some b):∀{a:ac} {v:Value} {bs:List Nat},BG p a=true->al w R M a v bs->al w R M2 (fg ρ a) v bs
 | .dat _,_,_,_,h=>by simp only[fg,al] at h ⊢;exact h
 | .own _,_,_,_,h=>by simp only[fg,al] at h ⊢;exact h
 | .ref _,_,_,_,h=>by simp only[fg,al] at h ⊢;exact h
 | .undef,_,_,_,h=>by simp only[fg,al] at h ⊢;exact h
 | .ptr (.loc i) _,_,_,_,h=>by simp only[fg,al] at h ⊢;obtain⟨h1,b,h2,h3⟩:=h;exact⟨h1,b,hL _ _ h2,h3⟩
 | .map (.loc i),_,_,_,h=>by simp only[fg,al] at h ⊢;obtain⟨h1,b,h2,h3⟩:=h;exact⟨h1,b,hL _ _ h2,h3⟩
 | .win (.loc i) _ _ _,_,_,_,h=>by simp only[fg,al] at h ⊢;obtain⟨h1,b,cap,h2,h3⟩:=h;exact⟨h1,b,cap,hL _ _ h2,h3⟩
 | .ptr (.out o) off,_,_,hp,h=>by
  simp only[fg,al] at h ⊢;obtain⟨h1,b,h2,h3⟩:=h;exact⟨h1,b,hM o b hp h2,h3⟩
 | .map (.out o),_,_,hp,h=>by
  simp only[fg,al] at h ⊢;obtain⟨h1,b,h2,h3⟩:=h;exact⟨h1,b,hM o b hp h2,h3⟩
 | .win (.out o) s off len,_,_,hp,h=>by
  simp only[fg,al] at h ⊢;obtain⟨h1,b,cap,h2,h3⟩:=h;exact⟨h1,b,cap,hM o b hp h2,h3⟩
 | .fn f a b,_,_,hp,h=>by
  simp only[BG,Bool.and_eq_true] at hp;simp only[fg,al] at h ⊢;obtain⟨h1,vs,us,e,h2,h3⟩:=h;exact⟨h1,vs,us,e,ak.Ii hL hM hp.1 h2,ak.Ii hL hM hp.2 h3⟩
 | .agg cs,_,_,hp,h=>by
  simp only[fg,al] at h ⊢;obtain⟨vs,e,h⟩:=h;exact⟨vs,e,ak.Ii hL hM (by simpa only[BG] using hp) h⟩
 | .tup cs,_,_,hp,h=>by
  simp only[fg,al] at h ⊢;obtain⟨vs,e,h⟩:=h;exact⟨vs,e,ak.Ii hL hM (by simpa only[BG] using hp) h⟩
theorem ak.Ii (hL:∀i b,M (.loc i)=some b->M2 (.loc i)=some b) (hM:∀o b,p o=true->M (.out o)=some b->M2 (.out (ρ o))=some b):∀{as:List ac} {vs:List Value} {bs:List Nat},gN p as=true->ak w R M as vs bs->ak w R M2 (gD ρ as) vs bs
 | [],_,_,_,h=>by simp only[gD,ak] at h ⊢;exact h
 | a::r,_,_,hp,h=>by
  simp only[gN,Bool.and_eq_true] at hp;simp only[gD,ak] at h ⊢;obtain⟨v,vs',b1,b2,e1,e2,h1,h2⟩:=h;exact⟨v,vs',b1,b2,e1,e2,al.Ii hL hM hp.1 h1,ak.Ii hL hM hp.2 h2⟩
end
theorem Gz (l m:List ac):gN p (l++m)=(gN p l&&gN p m):=by
 induction l with
 | nil=>simp[gN]
 | cons a l ih=>simp[gN,ih,Bool.and_assoc]
theorem Ab:∀j:Nat,gN p (List.replicate j .undef)=true
 | 0=>rfl
 | j+1=>by simp[List.replicate_succ,gN,BG,Ab j]
theorem aT.Ii (hL:∀i b,M (.loc i)=some b->M2 (.loc i)=some b) (hM:∀o b,p o=true->M (.out o)=some b->M2 (.out (ρ o))=some b) {o:aR} {b:Nat} {bs:List Nat} (hp:Jl p o=true) (h:aT w R M o b bs):aT w R M2 (mC ρ o) b bs:=by
 cases o with
 | map es=>simp only[mC,aT] at h ⊢;exact h
 | cells cs=>
  simp only[Jl] at hp;simp only[mC,aT] at h ⊢;obtain⟨vs,elem,sp,h1,h2,h3,h4⟩:=h;refine⟨vs,elem,sp,h1,?_,h3,by rw[Bn];exact h4⟩
  have:=ak.Ii (ρ:=ρ) hL hM (as:=cs++List.replicate sp .undef) (by rw[Gz,hp,Ab];rfl) h2
  rwa [rE,qe] at this
theorem an.Ii (hL:∀i b,M (.loc i)=some b->M2 (.loc i)=some b) (hM:∀o b,p o=true->M (.out o)=some b->M2 (.out (ρ o))=some b):∀{os:Heap} {bs:List Nat},GA p os=true->an w R M os bs->an w R M2 (lk ρ os) bs
 | [],_,_,h=>h
 |(.loc i,o)::r,_,hp,⟨b,b1,b2,e,h1,h2,h3⟩=>by
  simp only[GA,Bool.and_eq_true] at hp;exact⟨b,b1,b2,e,hL i b h1,h2.Ii hL hM hp.1,an.Ii hL hM hp.2 h3⟩
 |(.out m,o)::r,_,hp,⟨b,b1,b2,e,h1,h2,h3⟩=>by
  simp only[GA,Bool.and_eq_true] at hp;exact⟨b,b1,b2,e,hM m b hp.1.1 h1,h2.Ii hL hM hp.1.2,an.Ii hL hM hp.2 h3⟩
end
section
variable {P:Program} {G:bL}
end
def oF (o:Nat):List Nat->Nat->Nat
 | [],_=>o
 | q::r,k=>match Nat.beq q o with|true=>k|false=>oF o r (k+1)
def bI (q:Nat->Bool):Heap->Heap
 | []=>[]
 |(.out m,o)::r=>(match q m with|true=>(.out m,o)::bI q r|false=>bI q r)
 |(.loc m,o)::r=>(.loc m,o)::bI q r
theorem lX {w:World} {R:Own} {M:Name->Option Nat} (q:Nat->Bool):∀{os:Heap} {bs:List Nat},an w R M os bs->∃bs',an w R M (bI q os) bs'/\bs'.Sublist bs
 | [],bs,h=>⟨bs,h,.refl _⟩
 |(.out m,o)::os,_,⟨b,b1,b2,e,hn,ho,hr⟩=>by
  subst e;obtain⟨bs',k1,k2⟩:=lX q hr;simp only[bI]
  split
  ·exact⟨b::(b1++bs'),⟨b,b1,bs',rfl,hn,ho,k1⟩,(List.Sublist.append (.refl _) k2).cons_cons _⟩
  exact⟨bs',k1,k2.trans ((List.sublist_append_right b1 b2).cons _)⟩
 |(.loc m,o)::os,_,⟨b,b1,b2,e,hn,ho,hr⟩=>by
  subst e;obtain⟨bs',k1,k2⟩:=lX q hr;exact⟨b::(b1++bs'),⟨b,b1,bs',rfl,hn,ho,k1⟩,(List.Sublist.append (.refl _) k2).cons_cons _⟩
theorem Me {o:Nat}:∀{ps:List Nat} {k:Nat},gG o ps=true->k<=oF o ps k/\oF o ps k < k+ps.length/\ps[oF o ps k - k]?=some o
 | [],k,h=>by simp[gG] at h
 | q::r,k,h=>by
  simp only[oF]
  cases hq:Nat.beq q o with
  | true=>
   have:=Nat.eq_of_beq_eq_true hq
   subst this;dsimp only;refine⟨Nat.le_refl _,by simp,by simp⟩
  | false=>
   dsimp only;have h2:gG o r=true:=by
    simp only[gG,hq] at h;exact h
   obtain⟨h3,h4,h5⟩:=Me (ps:=r) (k:=k+1) h2;refine⟨by omega,by simp;omega,?_⟩;rw[show oF o r (k+1) - k=(oF o r (k+1) - (k+1))+1 by omega];simpa using h5
end Go.Tp
namespace Go.Tp
open Go.Deep
section
variable {X:jx} {E:bG} {G:bL} {H:Hints} {n:Nat} {live:Nat->Nat} {fuel:Nat}
end
def wO:Own:=fun _ _=>False
theorem qs {P:Program} {W:World} {name:String} {g:Nat} {t e:TypeId} {l:List (List UInt8)} (hg:P.globalNamed name=some g) (hty:(P.globals[g]?).map (·.type)=some t) (ht:P.underlying t=some (.slice e)) (he:P.underlying e=some .string) (hc:P.cellsOf e=1)
  (hlen:l.length<=lim) (h:∃g t cs fuel p,P.globalNamed name=some g/\(P.globals[g]?).map (·.type)=some t/\W.var? P name=some cs/\DataW.trod (fun _=>()) P W 0 (fun _=>true) false fuel t cs.toList=some (.slice (l.map fun b=>.lit (.string b)) [],p)) :
  dY W wO g 0 [.slice (l.map fun b=>.flat (.string ⟨⟨b⟩⟩))]:=by
 obtain⟨g',t',cs,fuel,p,hg',ht',hvar,hd⟩:=h;obtain rfl:=Option.some.inj (hg.symm.trans hg');obtain rfl:=Option.some.inj (hty.symm.trans ht');have hcell:=World.var?_cell hg hvar 0;refine⟨?_,trivial⟩
 rcases open_slice1 ht hc hd with⟨_,h0⟩|⟨a,len,cap,m,k,V,D,Pl,hcs,_,hl,hm,hmm,hx,hi⟩
 ·simp at h0
 have h0:cs[0]?=some (.slice (some a) len cap):=by
  have:cs.toList[0]?=some (.slice (some a) len cap):=by rw[hcs];rfl
  simpa using this
 refine⟨_,hcell.trans h0,fun h=>h,?_⟩;simp only[Prod.mk.injEq,DataW.slice.injEq] at hx;obtain⟨⟨hx1,_⟩,_⟩:=hx;have hll:l.length=len:=by have:=congrArg List.length hx1;simpa using this
 have hlm:len<=m:=by rw[hmm];split <;> omega
 have hel:∀(i:Nat) b,l[i]?=some b->V i=.string ⟨⟨b⟩⟩/\b.length<=maxLen:=by
  intro i b hb;have hil:i < len:=by rw[←hll];exact (List.getElem?_eq_some_iff.1 hb).1
  obtain⟨_,h2⟩:=hi i (by omega);obtain⟨s,e1,e2,e3⟩:=DataW.trod_string he h2;have h3:((List.range len).map D)[i]?=(l.map fun b=>(DataW.lit (.string b):DataW Unit))[i]?:=by rw[hx1]
  rw[List.getElem?_map,List.getElem?_map,hb,List.getElem?_range hil] at h3;simp only[Option.map_some,Option.some.injEq] at h3;simp only[List.cons.injEq,and_true] at e1;simp only[Prod.mk.injEq] at e2;rw[h3] at e2;simp at e2;obtain⟨⟨sl⟩⟩:=s;simp at e2;rw[e1,e2.1];exact⟨rfl,e3⟩
 cases hz:len with
 | zero=>
  have:l=[]:=List.length_eq_zero_iff.1 (by omega)
  subst this;exact .nil _ _
 | succ k0=>
  have hsp:a.spot=none:=by
   have:=(hi 0 (by omega)).1
   have:=World.cell?_spot this
   simpa [Addr.add] using this
  obtain⟨b,off,spot⟩:=a;simp only at hsp;subst hsp;have e:k0+1=(l.map fun b=>(ap.flat (.string ⟨⟨b⟩⟩):ap)).length:=by simp;omega
  rw[e];refine .slice b off cap 1 _ (fun i _=>V i) (by omega) ?_ (by simp;omega) (by simpa using hlen) ?_ ?_
  ·intro d hd;obtain⟨x,_,rfl⟩:=List.mem_map.1 hd;rfl
  ·intro i j hil hj;obtain rfl:j=0:=by omega
   simp at hil;refine⟨?_,fun h=>h⟩
   have:=(hi i (by omega)).1
   simp only[Addr.add] at this;simp only[Nat.mul_one,Nat.add_zero]
   split at this
   ·rename_i h0;subst h0;exact this
   exact this
  intro i j d c hd hc;rw[List.getElem?_map] at hd
  cases hb:l[i]? with
  | none=>rw[hb] at hd;simp at hd
  | some x=>
   rw[hb] at hd;simp at hd;subst hd;obtain⟨e1,e2⟩:=hel i x hb
   have:c=.flat (.string ⟨⟨x⟩⟩):=by
    cases j with
    | zero=>simp[ap.cells] at hc;exact hc.symm
    | succ j=>simp[ap.cells] at hc
   subst this;rw[e1];refine .flat ?_;simp only[bH,decide_eq_true_eq]
   have:(ByteArray.mk ⟨x⟩).size=x.length:=rfl
   rw[this];unfold maxLen at e2;omega
theorem xM {W W':World} {R':Own} (h:Step W wO W' R'):W.keptBut W' (fun _=>False):=by
 refine⟨h.os,h.output,fun i hi=>?_⟩;rw[(h.block i hi (fun _ h=>h)).1]
 split
 ·rename_i e1 e2;rw[e1] at e2;simp at e2;obtain⟨rfl,rfl,rfl⟩:=e2;exact⟨rfl,rfl,rfl,fun _ _=>rfl⟩
 ·rename_i e1 e2;rw[e1] at e2;simp at e2;obtain⟨rfl,rfl⟩:=e2;exact .inr ⟨rfl,rfl⟩
 rfl
end Go.Tp
namespace Go.Tp
section
variable {X:jx} {E:bG} {G:bL} {H:Hints} {n:Nat}
theorem yq {t:TypeId} {ti:TI} {m:Name} {s off len k:Nat} (he:elemOf E t=some ti) (hs:s=ti.size) (hk:k < len) :
  aK E t [.win m s off len,.dat (.flat (.int .i64 (Int.ofNat k)))]=some ⟨.ptr m (off+k*s),.keep⟩:=by
 have h1:Nat.blt k len=true:=by rw[Nat.blt_eq];exact hk
 have h2:Nat.beq s ti.size=true:=by rw[Nat.beq_eq];exact hs
 simp only[aK,he,h1,h2];simp
theorem Tw {es:List ap} {i:Nat} {d:ap} (h:es[i]?=some d):ay.aN.elt es (Int.ofNat i)=some d:=by
 show Ey es i=some d;rw[tS];exact h
end
end Go.Tp
namespace Go.Tp
variable {E:bG}
theorem qF {t:TypeId} {i:TI} {es ds:List ap} {ob:Option aR} {take:Bool} {k:Nat} (he:elemOf E t=some i) (hp:E.pr=ay.aN) (hs:i.size=k+1) (hd:sizedB (k+1) ds=true) (hes:sizedB (k+1) es=true)
  (hb:Nat.blt 0 i.bytes=true) (hl:(es.length+ds.length)*i.bytes<=140737488355328) (hl2:es.length+ds.length<=lim) (hby:fQ E t (es++ds)=true) (htake:(take&&es.isEmpty&&Az (.dat (.slice ds)))=false) :
  cJ E take t [.own es,.dat (.slice ds)] ob=some ⟨.own (es++ds),.keep⟩:=by
 simp only[cJ,he];rw[if_neg (by rw[htake];simp)];simp only[eK,hp,hs,ay.aN,hd,hes,hb,fS hl,fS hl2];rw[if_pos hby]
theorem uB {t:TypeId} {ti:TI} {es:List ap} {i:Nat} {d:ap} (he:elemOf E t=some ti) (hp:E.pr=ay.aN) (h:es[i]?=some d) (hs:d.cells.length=ti.size) (h0:0 < ti.size) :
  aK E t [.dat (.slice es),.dat (.flat (.int .i64 (Int.ofNat i)))]=some ⟨.ref d.cells,.keep⟩:=by
 have hel:E.pr.elt es (Int.ofNat i)=some d:=by rw[hp];exact Tw h
 simp only[aK,he,hel];rw[if_pos ⟨hs,h0⟩]
theorem Xj {α:Type} {l:List α} {i:Nat} {a:α} (h:l[i]?=some a):Ey l i=some a:=by rw[tS];exact h
theorem ig {k:Nat} {l:List ap} (h:∀d∈l,d.cells.length=k):sizedB k l=true:=gk.2 h
theorem iE {i L:Nat}:bq (Int.ofNat i) (Int.ofNat L)=decide (i < L):=by rw[gr];simp
theorem bA {i L:Nat} (h:i < L):bq (Int.ofNat i) (Int.ofNat L)=true:=by rw[iE,decide_eq_true h]
theorem bC {i L:Nat} (h:¬i < L):bq (Int.ofNat i) (Int.ofNat L)=false:=by rw[iE,decide_eq_false h]
theorem bg {i:Nat} (h:i < 9223372036854775807):aH .i64 (Int.ofNat i+1)=Int.ofNat (i+1):=by
 rw[dP];exact wrap_i64 (by simp;omega) (by simp;omega)
theorem sf {i L:Nat}:aP (Int.ofNat i) (Int.ofNat L)=decide (i=L):=by
 rw[gQ]
 by_cases h:i=L
 ·subst h;simp
 rw[decide_eq_false h];simp only[beq_eq_false_iff_ne];exact fun e=>h (Int.ofNat.inj e)
end Go.Tp
namespace Go.Tp
noncomputable def VX (c:Code):List Code:=
 Code.rec (motive:=fun _=>List Code)
  (skip:=[]) (region:=fun _ _ _=>[]) (seq:=fun _ _ ix iy=>ix++iy) (cond:=fun _ _ _ ix iy=>ix++iy) (block:=fun _ _ ic=>ic) (loop:=fun c ic=>c::ic)
  (rangeFunc:=fun _ _ _ _ _ _=>[]) (exit:=fun _=>[]) (scope:=fun _ ic=>ic) (label:=fun _=>[]) (goto:=fun _=>[]) (ret:=[]) (refuse:=fun _=>[]) c
noncomputable def roundOf (fn:Func) (k:Nat):Code:=match (VX (match fn.body with|some c=>c|none=>.skip))[k]? with|some c=>c|none=>.skip
def UP (l:List Nat) (t:Nat):Bool:=gG t l
mutual
def OK:ac->ac
 | .ptr _ _=>.undef
 | .map _=>.undef
 | .win _ _ _ _=>.undef
 | .fn f a b=>.fn f (Nu a) (Nu b)
 | .agg cs=>.agg (Nu cs)
 | .tup cs=>.tup (Nu cs)
 | a=>a
def Nu:List ac->List ac
 | []=>[]
 | a::r=>OK a::Nu r
end
section
variable {w:World} {R:Own} {M M2:Name->Option Nat}
mutual
theorem al.np:∀{a:ac} {v:Value} {bs:List Nat},al w R M a v bs->al w R M2 (OK a) v bs
 | .dat _,_,_,h=>by simp only[OK,al] at h ⊢;exact h
 | .own _,_,_,h=>by simp only[OK,al] at h ⊢;exact h
 | .ref _,_,_,h=>by simp only[OK,al] at h ⊢;exact h
 | .undef,_,_,h=>by simp only[OK,al] at h ⊢;exact h
 | .ptr _ _,_,_,h=>by simp only[OK,al] at h ⊢;exact h.1
 | .map _,_,_,h=>by simp only[OK,al] at h ⊢;exact h.1
 | .win _ _ _ _,_,_,h=>by simp only[OK,al] at h ⊢;exact h.1
 | .fn f a b,_,_,h=>by
  simp only[OK,al] at h ⊢;obtain⟨h1,vs,us,e,h2,h3⟩:=h;exact⟨h1,vs,us,e,ak.np h2,ak.np h3⟩
 | .agg cs,_,_,h=>by
  simp only[OK,al] at h ⊢;obtain⟨vs,e,h⟩:=h;exact⟨vs,e,ak.np h⟩
 | .tup cs,_,_,h=>by
  simp only[OK,al] at h ⊢;obtain⟨vs,e,h⟩:=h;exact⟨vs,e,ak.np h⟩
theorem ak.np:∀{as:List ac} {vs:List Value} {bs:List Nat},ak w R M as vs bs->ak w R M2 (Nu as) vs bs
 | [],_,_,h=>by simp only[Nu,ak] at h ⊢;exact h
 | a::r,_,_,h=>by
  simp only[Nu,ak] at h ⊢;obtain⟨v,vs',b1,b2,e1,e2,h1,h2⟩:=h;exact⟨v,vs',b1,b2,e1,e2,al.np h1,ak.np h2⟩
end
end
section
variable {P:Program} {G:bL} {α:Type} {T:α->Prop}
theorem GB {g:FuncId} {args:List ac} {Q:ac->Prop} (hQ:∀v,Q v->Nw v=true) (h:aB P G g (Nu args) [] 0 (fun v h m=>Q v/\h=[]/\m=0)) (heap:Heap) (next:Nat):aB P G g args heap next (fun v h m=>Q v/\h=heap/\m=next):=by
 intro w R N cargs bsA bsH bsF hargs hheap hnd hnx hglob hF;have h2:=h w R (fun _=>none) cargs bsA [] (bsH++bsF) hargs.np (by simp[an]) (by simpa using hnd) (by intro o b ho;simp at ho) hglob (by
  intro b hb
  rcases List.mem_append.1 hb with hb|hb
  ·exact hheap.lt b hb
  exact hF b hb)
 refine h2.mono ?_;rintro e w' ⟨v,cv,heap',next',R',N',bsV,bsH',rfl,⟨hq,rfl,rfl⟩,hv,hh,hnd',_,hk,_⟩;have hH':bsH'=[]:=by simpa [an] using hh
 subst hH';exact⟨_,cv,heap,next,R',N,bsV,bsH,rfl,⟨hq,rfl,rfl⟩,hv.nm (hQ _ hq),hheap.keep (hk.sub (by intro b hb;simp[hb])),by simpa using hnd',hnx,hk.sub (by intro b hb;simp[hb]),fun _ _ h=>h⟩
theorem ad6 {q:Qy α} {g:FuncId} {args0:List ac} {v:ac} (hc:aB P G g args0 [] 0 (XQ ⟨v,[],0⟩)) (e:q.Tn=some g) (ha:Nu q.xx=args0) (hm:Nw v=true)
  (h:mV v->(q.ofR ⟨v,q.wT,q.wP⟩).Ok P G T):q.Ok P G T:=by
 cases q with
 | res g' args' heap next' k=>
  simp only[Qy.Tn,Option.some.injEq] at e;subst e;simp only[Qy.wT,Qy.xx,Qy.wP] at ha h;refine⟨?_⟩;show aB P G g' _ heap next' _;subst ha;have h1:aB P G g' (Nu args') [] 0 (fun u h m=>u=v/\h=[]/\m=0):=hc.mono (by rintro u h m ⟨rfl,rfl,rfl⟩;exact⟨rfl,rfl,rfl⟩);refine (GB (Q:=fun u=>u=v) (by rintro u rfl;exact hm) h1 heap next').mono ?_;rintro v' h' m ⟨rfl,rfl,rfl⟩ b1 b2;exact (h b1).ok
 | _=>simp[Qy.Tn] at e
theorem Jk {q:Qy α} {g:FuncId} {args0:List ac} {Q:ac->Prop} (hc:aB P G g args0 [] 0 (fun v h m=>Q v/\h=[]/\m=0)) (e:q.Tn=some g) (ha:Nu q.xx=args0) (hQ:∀v,Q v->Nw v=true)
  (h:∀v,Q v->mV v->(q.ofR ⟨v,q.wT,q.wP⟩).Ok P G T):q.Ok P G T:=by
 cases q with
 | res g' args' heap next' k=>
  simp only[Qy.Tn,Option.some.injEq] at e;subst e;simp only[Qy.wT,Qy.xx,Qy.wP] at ha h;refine⟨?_⟩;show aB P G g' _ heap next' _;subst ha;refine (GB hQ hc heap next').mono ?_;rintro v' h' m ⟨hq,rfl,rfl⟩ b1 b2;exact (h v' hq b1).ok
 | _=>simp[Qy.Tn] at e
theorem VN {q:Qy α} {g:FuncId} {args:List ac} {heap:Heap} {next:Nat} {r:ey} (hc:aB P G g args heap next (XQ r)) (e:q.Tn=some g) (ha:q.xx=args) (hh:q.wT=heap) (hn:q.wP=next)
  (h:(q.ofR r).Ok P G T):q.Ok P G T:=by
 cases q with
 | res g' args' heap' next' k=>
  simp only[Qy.Tn,Option.some.injEq] at e;simp only[Qy.wT,Qy.xx,Qy.wP] at ha hh hn;subst e;subst ha;subst hh;subst hn;refine⟨?_⟩;show aB P G g' _ heap' next' _;refine hc.mono ?_;rintro v h' m ⟨rfl,rfl,rfl⟩ b1 b2;exact h.ok
 | _=>simp[Qy.Tn] at e
theorem Dn {g:FuncId} {args:List ac} {heap:Heap} {next:Nat} {r:ey} (h:aB P G g args heap next (fun v h m=>(⟨v,h,m⟩:ey)=r)):aB P G g args heap next (XQ r):=by
 refine h.mono ?_;rintro v h m e;subst e;exact⟨rfl,rfl,rfl⟩
theorem T1 {E:bG} {H:Hints} {n:Nat} {X:jx} (hE:E.Ok P) (hX:Ig P G X) {live:Nat->Nat} (fuel:Nat) {c:Code} (hc:cQ H c=true) {f f':ab} {e:Exit} (h:iJ X E G H n live fuel c f=some (e,f')) :
  du P G c (fun e2 s=>e2=e/\s=f'.aw n) (f.aw n):=eI X E G H n hE hX live fuel c f f' e hc h _ ⟨rfl,rfl⟩
def Qy.Xz:Qy (Exit×ab)->Option Exit
 | .fin r=>some r.1
 | _=>none
def Qy.acq:Qy (Exit×ab)->ab
 | .fin r=>r.2
 | _=>⟨[],[],[],0⟩
theorem cj {q:Qy (Exit×ab)} {T:Exit->aa->Prop} {n:Nat} {ex:Exit} (f:ab) (e:q.Xz=some ex) (hs:q.acq.aw n=f.aw n) (h:T ex (f.aw n)):q.Ok P G (fun r=>T r.1 (r.2.aw n)):=by
 cases q with
 | fin r=>
  simp only[Qy.Xz,Option.some.injEq] at e;simp only[Qy.acq] at hs;refine⟨?_⟩;show T r.1 (r.2.aw n);rw[e,hs];exact h
 | _=>simp[Qy.Xz] at e
theorem bb {c:Code} {T:Exit->aa->Prop} (St:Nat->aa) (L:Nat) (round:∀i,i < L->du P G c (lm (fun s=>s=St (i+1)) T) (St i))
  (last:du P G c (lm (fun _=>False) T) (St L)) {i:Nat} (hi:i<=L):du P G (.loop c) T (St i):=by
 refine YT (I:=fun m s=>∃j,j<=L/\m=L - j/\s=St j) ?_ (m:=L - i) ⟨i,hi,rfl,rfl⟩;rintro m s ⟨j,hj,rfl,rfl⟩
 by_cases h:j < L
 ·refine (round j h).mono ?_;intro e s hs
  cases e with
  | normal=>
   have hs:s=St (j+1):=hs;exact⟨L - (j+1),by omega,j+1,by omega,rfl,hs⟩
  | _=>exact hs
 have:j=L:=by omega
 subst this;refine last.mono ?_;intro e s hs
 cases e with
 | normal=>exact hs.elim
 | _=>exact hs
theorem cI {c:Code} {T:Exit->aa->Prop} (St:Nat->aa) (Inv:Nat->Prop) (L:Nat) (round:∀i,i < L->Inv i->du P G c (lm (fun s=>s=St (i+1)/\Inv (i+1)) T) (St i))
  (last:Inv L->du P G c (lm (fun _=>False) T) (St L)) {i:Nat} (hi:i<=L) (h0:Inv i):du P G (.loop c) T (St i):=by
 refine YT (I:=fun m s=>∃j,j<=L/\m=L - j/\s=St j/\Inv j) ?_ (m:=L - i) ⟨i,hi,rfl,rfl,h0⟩;rintro m s ⟨j,hj,rfl,rfl,hI⟩
 by_cases h:j < L
 ·refine (round j h hI).mono ?_;intro e s hs
  cases e with
  | normal=>
   have hs:s=St (j+1)/\Inv (j+1):=hs;exact⟨L - (j+1),by omega,j+1,by omega,rfl,hs⟩
  | _=>exact hs
 have:j=L:=by omega
 subst this;refine (last hI).mono ?_;intro e s hs
 cases e with
 | normal=>exact hs.elim
 | _=>exact hs
end
end Go.Tp
namespace Go.Tp
section
variable {P:Program} {G:bL} {α:Type} {T:α->Prop}
theorem oh {q:Qy α} {g:FuncId} {args:List ac} {heap:Heap} {next:Nat} {r:ey} (hc:aB P G g args heap next (XQ r)) (h:(q.ofR r).Ok P G T) (e:q.Tn=some g:=by kernel_rfl) (ha:q.xx=args:=by kernel_rfl) (hh:q.wT=heap:=by kernel_rfl) (hn:q.wP=next:=by kernel_rfl):q.Ok P G T:=
 VN hc e ha hh hn h
theorem on {q:Qy α} {g:FuncId} {args0:List ac} {v:ac} (hc:aB P G g args0 [] 0 (XQ ⟨v,[],0⟩)) (h:(q.ofR ⟨v,q.wT,q.wP⟩).Ok P G T) (e:q.Tn=some g:=by kernel_rfl) (ha:Nu q.xx=args0:=by kernel_rfl) (hm:Nw v=true:=by exact rfl):q.Ok P G T:=
 ad6 hc e ha hm (fun _=>h)
theorem ob {q:Qy α} {c b:Bool} (hc:c=b) (h:(q.ofB b).Ok P G T) (e:q.Bl=some c:=by kernel_rfl):q.Ok P G T:=bp hc e h
theorem ox {q:Qy α} {c b:Bool} (hc:c=b) (h:(q.ofB (!b)).Ok P G T) (e:q.Bl=some (!c):=by kernel_rfl):q.Ok P G T:=bp (by rw[hc]) e h
theorem oo {q:Qy α} {o:Option Out} {x:Out} (ho:o=some x) (h:(q.ofO x).Ok P G T) (e:q.VJ=some o:=by kernel_rfl):q.Ok P G T:=aaf ho e h
theorem fi {q:Qy α} {a:α} (e:q.J7=some a:=by kernel_rfl):q.Ok P G (fun y=>y=a):=bh e rfl
theorem oe {q:Qy (Exit×ab)} {T:Exit->aa->Prop} {n:Nat} {ex:Exit} {f:ab} (h:T ex (f.aw n)) (e:q.Xz=some ex:=by kernel_rfl) (hs:q.acq.aw n=f.aw n:=by kernel_rfl):q.Ok P G (fun r=>T r.1 (r.2.aw n)):=cj f e hs h
theorem lo {q:Qy α} {n:Nat} {c:Code} {f:ab} {L:Exit->aa->Prop} (hl:du P G (.loop c) L (f.aw n)) (h:∀e s,L e s->∃f',s=f'.aw n/\(q.ofL (e,f')).Ok P G T) (e:q.CH=some (n,c):=by kernel_rfl) (hs:q.GP.aw n=f.aw n:=by kernel_rfl):q.Ok P G T:=iD e hs hl h
end
end Go.Tp
namespace Go.Tp
noncomputable def Qt (A B:Nat->Bool) (E:bG) (G:bL) (moves caps:FuncId->Bool) (x:gU) (g:FuncId) (args:List ac) (heap:Heap) (next:Nat):Qy ey:=
 match Nat.ble args.length x.ntmps with
 | false=>.fail
 | true=>tq A B E G ⟨moves,x.ord,caps,rowsOf caps g⟩ x.ntmps x.live x.code ⟨za 0 args,[],heap,next⟩ (fun r=>match r with
  |(.ret,f)=>(match xR E x.ntmps x.results f with|some r=>.fin r|none=>.fail)
  |(.normal,f)=>(match xR E x.ntmps x.results f with|some r=>.fin r|none=>.fail)
  | _=>.fail)
section
variable {P:Program} {E:bG} {G:bL}
theorem Qs {A B:Nat->Bool} {moves caps:FuncId->Bool} {F:FuncId->Option gU} (hE:E.Ok P) (hF:FOk P moves caps F) {g:FuncId} {x:gU} (hx:F g=some x) {args:List ac} {heap:Heap} {next:Nat} {T:ey->Prop}
  (h:qO args->xT heap->(Qt A B E G moves caps x g args heap next).Ok P G T):aB P G g args heap next (fun v h m=>T ⟨v,h,m⟩):=by
 obtain⟨fn,h1,h2,h3,h4,h5⟩:=hF g x hx;refine kb hE h1 h2 ?_;intro b1 b2;have h:=(h b1 b2).ok;rw[h3,h4];unfold Qt at h
 split at h
 ·exact h.elim
 rename_i hlen;have hlen:=fe hlen;have hent:(⟨za 0 args,[],heap,next⟩:ab).aw x.ntmps=enter x.ntmps args heap next:=by
  simp only[ab.aw,enter];congr 1
  apply List.ext_getElem?
  intro i;rw[lG,Nat.zero_add,sQ,if_pos (Nat.zero_le _),Nat.sub_zero,List.getElem?_append]
  split
  ·split
   ·rename_i hi;unfold bB;rw[List.getElem?_eq_getElem hi]
   rename_i hi1 hi;rw[List.getElem?_replicate,if_pos (by omega)];unfold bB;rw[List.getElem?_eq_none (by omega)]
  rename_i hi;rw[if_neg (by omega),List.getElem?_replicate,if_neg (by omega)]
 rw[←hent];refine (iC (H:=⟨moves,x.ord,caps,rowsOf caps g⟩) hE x.live x.code _ _ (by rw[dX];exact h5) h).mono ?_;rintro e s ⟨f',rfl,h'⟩;have key:(match xR E x.ntmps x.results f' with|some r=>(Qy.fin r:Qy ey)|none=>.fail).sG P G T->xV E x.results (fun v h m=>T ⟨v,h,m⟩) (f'.aw x.ntmps):=by
  intro hh
  split at hh
  ·rename_i r hr
   have:=rp (E:=E) (rs:=x.results) (s:=f'.aw x.ntmps) (r:=r) (by rw[ED];exact hr)
   exact Dh (by rintro v h m ⟨rfl,rfl,rfl⟩;exact hh) this
  exact hh.elim
 cases e with
 | ret=>exact key h'
 | normal=>exact key h'
 | _=>exact h'.elim
def kh (k0:Nat) (ps:List Nat) (o:Nat):Nat:=match gG o ps with|true=>oF o ps k0|false=>o
def dK (k0:Nat) (ps:List Nat) (o:Nat):Bool:=Nat.blt o k0||gG o ps
theorem aB.rn {g:FuncId} {args:List ac} {heap:Heap} {next:Nat} {Q Q':ac->Heap->Nat->Prop} (h:aB P G g args heap next Q)
  (hq:∀v hp m,Q v hp m->∃ps,BG (dK next ps) v=true/\GA (dK next ps) (bI (dK next ps) hp)=true/\Q' (fg (kh next ps) v) (lk (kh next ps) (bI (dK next ps) hp)) (next+ps.length)):aB P G g args heap next Q':=by
 intro w R N cargs bsA bsH bsF ha hh hnd hnx hg hF;refine (h w R N cargs bsA bsH bsF ha hh hnd hnx hg hF).mono ?_;rintro e w' ⟨v,cv,hp,m,R',N',bsV,bsH',rfl,hq1,hv,hh',hnd',hnx',hk,hN⟩;obtain⟨ps,p1,p2,p3⟩:=hq _ _ _ hq1
 let N2:Name->Option Nat:=fun m=>match m with|.loc i=>N' (.loc i)|.out x=>if x < next then N' (.out x) else (match ps[x - next]? with|some o=>N' (.out o)|none=>none)
 have hM:∀o b,dK next ps o=true->outs N' (.out o)=some b->outs N2 (.out (kh next ps o))=some b:=by
  intro o b ho hb;simp only[outs] at hb ⊢;unfold kh
  cases hm:gG o ps with
  | true=>
   obtain⟨q1,q2,q3⟩:=Me (k:=next) hm;dsimp only[N2];rw[if_neg (by omega),q3];exact hb
  | false=>
   unfold dK at ho;rw[hm,Bool.or_false] at ho;dsimp only[N2];rw[if_pos (pL ho)];exact hb
 have hL:∀i b,outs N' (.loc i)=some b->outs N2 (.loc i)=some b:=fun i b h=>h
 obtain⟨bs',k1,k2⟩:=lX (dK next ps) hh';refine⟨_,cv,_,_,R',N2,bsV,bs',rfl,p3,hv.Ii hL hM p1,k1.Ii hL hM p2,?_,?_,hk,?_⟩
 ·exact List.Nodup.sublist (List.Sublist.append (.refl _) (List.Sublist.append k2 (.refl _))) hnd'
 ·intro x b hx;dsimp only[N2] at hx
  split at hx
  ·omega
  split at hx
  ·rename_i o ho
   have:=(List.getElem?_eq_some_iff.1 ho).1
   omega
  simp at hx
 intro o b hb;dsimp only[N2];rw[if_pos (hnx o b hb)];exact hN o b hb
end
end Go.Tp
namespace Go.Tp
inductive WkV:ac->ac->Prop
 |refl (a:ac):WkV a a
 |own (es:List ap):WkV (.own es) (.dat (.slice es))
 |nil:WkV (.dat (.flat (.slice none 0 0))) (.dat (.slice []))
inductive OO:List ac->List ac->Prop
 |nil:OO [] []
 |cons {a b:ac} {as bs:List ac} (h:WkV a b) (t:OO as bs):OO (a::as) (b::bs)
theorem OO.refl:∀l:List ac,OO l l
 | []=>.nil
 | a::r=>.cons (.refl a) (OO.refl r)
inductive WkO:aR->aR->Prop
 |refl (o:aR):WkO o o
 |cells {as bs:List ac} (h:OO as bs) (hb:cM bs=false):WkO (.cells as) (.cells bs)
inductive WkH:Heap->Heap->Prop
 |nil:WkH [] []
 |cons {n:Name} {o p:aR} {h k:Heap} (ho:WkO o p) (t:WkH h k):WkH ((n,o)::h) ((n,p)::k)
section
variable {w:World} {R:Own} {M:Name->Option Nat}
theorem al.wk {a b:ac} (h:WkV a b) {v:Value} {bs:List Nat} (hr:al w R M a v bs):∃bs',al w R M b v bs'/\bs'.Sublist bs:=by
 cases h with
 | refl=>exact⟨bs,hr,List.Sublist.refl _⟩
 | own es=>exact⟨[],bZ (cA hr).rep,List.nil_sublist _⟩
 | nil=>
  simp only[al] at hr;obtain⟨rfl,hd⟩:=hr;refine⟨[],?_,List.Sublist.refl _⟩;refine bZ ?_
  cases hd with
  | flat h=>exact .nil none 0
theorem ak.wk {as cs:List ac} (h:OO as cs):∀{vs:List Value} {bs:List Nat},ak w R M as vs bs->∃bs',ak w R M cs vs bs'/\bs'.Sublist bs:=by
 induction h with
 | nil=>intro vs bs hr;exact⟨bs,hr,List.Sublist.refl _⟩
 | cons h _ ih=>
  intro vs bs hr;simp only[ak] at hr;obtain⟨v,vs',b1,b2,rfl,rfl,h1,h2⟩:=hr;obtain⟨c1,k1,s1⟩:=h1.wk h;obtain⟨c2,k2,s2⟩:=ih h2;refine⟨c1++c2,?_,s1.append s2⟩;simp only[ak];exact⟨v,vs',c1,c2,rfl,rfl,k1,k2⟩
theorem OO.append {as bs:List ac} (h:OO as bs) (c:List ac):OO (as++c) (bs++c):=by
 induction h with
 | nil=>exact OO.refl c
 | cons h _ ih=>exact .cons h ih
theorem aT.wk {o p:aR} (h:WkO o p) {b:Nat} {bs:List Nat} (hr:aT w R M o b bs):∃bs',aT w R M p b bs'/\bs'.Sublist bs:=by
 cases h with
 | refl=>exact⟨bs,hr,List.Sublist.refl _⟩
 | cells hl hb=>
  simp only[aT] at hr;obtain⟨vs,elem,sp,h1,h2,h3,h4⟩:=hr;obtain⟨bs',k,s⟩:=h2.wk (hl.append _);refine⟨bs',?_,s⟩;simp only[aT];exact⟨vs,elem,sp,h1,k,h3,fun h=>by rw[hb] at h;simp at h⟩
theorem an.wk {h k:Heap} (hw:WkH h k):∀{bs:List Nat},an w R M h bs->∃bs',an w R M k bs'/\bs'.Sublist bs:=by
 induction hw with
 | nil=>intro bs hr;exact⟨bs,hr,List.Sublist.refl _⟩
 | cons ho _ ih=>
  intro bs hr;simp only[an] at hr;obtain⟨b,b1,b2,rfl,hn,h1,h2⟩:=hr;obtain⟨c1,k1,s1⟩:=h1.wk ho;obtain⟨c2,k2,s2⟩:=ih h2;refine⟨b::(c1++c2),?_,(s1.append s2).cons_cons b⟩;simp only[an];exact⟨b,c1,c2,rfl,hn,k1,k2⟩
end
section
variable {P:Program} {G:bL}
theorem aB.ada {g:FuncId} {args:List ac} {heap:Heap} {next:Nat} {v v2:ac} {h h2:Heap} {m:Nat} (hc:aB P G g args heap next (XQ ⟨v,h,m⟩)) (hv:WkV v v2) (hh:WkH h h2):aB P G g args heap next (XQ ⟨v2,h2,m⟩):=by
 intro w R N cargs bsA bsH bsF ha hp hnd hnx hg hF;refine (hc w R N cargs bsA bsH bsF ha hp hnd hnx hg hF).mono ?_;rintro e w' ⟨v',cv,h1,next',R',N',bsV,bsH',rfl,⟨rfl,rfl,rfl⟩,hv1,hh',hnd',hnx',hk,hN⟩;obtain⟨b1,k1,s1⟩:=hv1.wk hv;obtain⟨b2,k2,s2⟩:=hh'.wk hh;exact⟨_,cv,_,_,R',N',b1,b2,rfl,⟨rfl,rfl,rfl⟩,k1,k2,(s1.append (s2.append_right _)).nodup hnd',hnx',hk,hN⟩
end
end Go.Tp
namespace Go.Tp
open Go.ChangeShapes Go.WideShapes
def intD (x:Int):ap:=.flat (.int .i64 x)
theorem Bs {H:Type} {enc:TypeId×Value->H} {P:Program} {W:World} {base:Nat} {sp:Nat->Bool} {held:Bool} {t e:TypeId} {v:Value} {d:DataW H} {ps:List MemPlace} (N:Name->Option Nat)
  (ht:P.underlying t=some (.slice e)) (he:P.underlying e=some (.int .i64)) (hc:P.cellsOf e=1) (hv:v.cells=#[v]) (h:DataW.Trod enc P W base sp held t v d ps) :
  ∃l:List Int,((d=.nil/\l=[])∨(∃els rest,d=.slice els rest/\els.length=l.length))/\(l.length<=lim->al W wO N (.dat (.slice (l.map intD))) v []):=by
 obtain⟨fuel,hf⟩:=h
 rcases open_ints ht he hc hf with⟨hcs,hx⟩|⟨a,len,cap,zs,hcs,_,hl,hm,hz,hx,hi,hw⟩
 ·rw[hv] at hcs;simp only[List.cons.injEq,and_true] at hcs;have hvn:v=.slice none 0 0:=by simpa using hcs
  subst hvn;refine⟨[],.inl ⟨?_,rfl⟩,fun _=>bZ (d:=.slice []) (.nil none 0)⟩;simp only[Prod.mk.injEq] at hx;exact hx.1
 rw[hv] at hcs;have hvn:v=.slice (some a) len cap:=by simpa using hcs
 subst hvn;simp only[Prod.mk.injEq] at hx;have hlz:len<=zs.length:=by rw[hz];split <;> omega
 refine⟨zs.take len,.inr ⟨_,_,hx.1,by simp[lits]⟩,fun hb=>?_⟩;have htl:(zs.take len).length=len:=by rw[List.length_take];omega
 rw[htl] at hb;refine bZ (d:=.slice _) ?_
 cases hk:len with
 | zero=>
  rw[hk] at hl;simp only[List.take_zero,List.map_nil];exact .nil (some a) cap
 | succ k0=>
  have hspot:a.spot=none:=by
   have:=hi 0 (by omega)
   have:=World.cell?_spot this
   simpa [Addr.add] using this
  obtain⟨b,off,spot⟩:=a;simp only at hspot;subst hspot;rw[←hk];have el:((zs.take len).map intD).length=len:=by rw[List.length_map,htl]
  have hgoal:dO W wO (.slice (some ⟨b,off,none⟩) ((zs.take len).map intD).length cap) (.slice ((zs.take len).map intD)):=by
   refine .slice b off cap 1 _ (fun i _=>.int .i64 (zs.getD i 0)) (by omega) ?_ (by omega) (by omega) ?_ ?_
   ·intro d hd;obtain⟨x,_,rfl⟩:=List.mem_map.1 hd;rfl
   ·intro i j hil hj;obtain rfl:j=0:=by omega
    rw[el] at hil;refine⟨?_,fun h=>h⟩
    have:=hi i (by omega)
    simp only[Addr.add] at this;simp only[Nat.mul_one,Nat.add_zero]
    split at this
    ·rename_i h0;subst h0;exact this
    exact this
   intro i j d c hd hcc;rw[List.getElem?_map] at hd
   cases hb2:(zs.take len)[i]? with
   | none=>rw[hb2] at hd;simp at hd
   | some x=>
    rw[hb2] at hd;simp at hd;subst hd
    have:c=.flat (.int .i64 x):=by
     cases j with
     | zero=>simp[intD,ap.cells] at hcc;exact hcc.symm
     | succ j=>simp[intD,ap.cells] at hcc
    subst this;have hx2:zs[i]?=some x:=by
     rw[List.getElem?_take] at hb2
     split at hb2
     ·exact hb2
     simp at hb2
    have:zs.getD i 0=x:=by simp[List.getD,hx2]
    rw[this];exact .flat (hw x (List.mem_of_getElem? hx2))
  rw[el] at hgoal;exact hgoal
theorem vQ {P:Program} {G:bL} {f:FuncId} {as:List ac} {args:List Value} {b:Bool} {r:ey} (W:World) (ha:ak W wO (outs fun _=>none) as args []) (h:aB P G f as [] 0 (XQ r)) (hr:r.val=bv b) (hG:∀g cs,G g=some cs->dY W wO g 0 cs) :
  Calls P f args.toArray W fun e W'=>e=.returned (.bool b)/\W.keptBut W' (fun _=>False)/\∀i,i < W.heap.size->W'.heap[i]?=W.heap[i]?:=by
 refine (h W wO (fun _=>none) args [] [] [] ha rfl (by simp) (by intro o b h;simp at h) hG (by simp)).mono ?_;rintro e W' ⟨v,cv,heap',next',R',N',bsV,bsH',rfl,⟨rfl,_,_⟩,hv,_,_,_,hk,_⟩;rw[hr] at hv;obtain⟨_,rfl,_⟩:=aI hv;exact⟨rfl,xM hk.step,fun i hi=>(hk.step.block i hi (fun _ h=>h)).1⟩
theorem yJ {H:Type} {enc:TypeId×Value->H} {P:Program} {W W':World} {base:Nat} {sp:Nat->Bool} {hd:Bool} (hB:∀i,i < W.heap.size->W'.heap[i]?=W.heap[i]?):∀{ts:List TypeId} {vs:List Value} {ds:List (DataW H)} {ps:List MemPlace},
  DataW.TrodAll enc P W base sp hd ts vs ds ps->DataW.TrodAll enc P W' base sp hd ts vs ds ps
 | [],_,_,_,h=>by
  obtain⟨rfl,rfl,rfl⟩:=trodAll_nil h;exact trodAll_mk0
 | _::_,_,_,_,h=>by
  obtain⟨v,vs1,d,ds1,a,b,rfl,rfl,rfl,⟨n,hn⟩,h2⟩:=trodAll_cons h;refine⟨a,b,⟨n,DataW.trod_carry n _ _ _ hn (fun p hp=>?_)⟩,yJ hB h2,rfl⟩;have hl:=DataW.trod_lt n _ _ _ hn p hp
  cases p with
  | cell b o=>exact World.cell?_of_block (w:=W) (hB b hl)
  | map b=>exact hB b hl
end Go.Tp
