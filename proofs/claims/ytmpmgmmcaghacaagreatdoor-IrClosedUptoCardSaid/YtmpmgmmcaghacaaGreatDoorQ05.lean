/- IrClosed returns true and changes nothing, for arguments of bulk at most 1048576 (the card of the second form; conditions: those of the given row). Names are shortened by a program, for the claim's bound. Part 5. -/
import Derived.Shelf.SlGeneric
import Derived.Ground.SlgnProg
import Derived.Ground.SlgmProg
import Derived.Shelf.SortM.Plain
import Derived.Shelf.SortM.SortNone
import Derived.Shelf.SlLaysE
import Derived.Shelf.SlLaysE0
import Derived.Shelf.SlicesE.Compact
import Derived.Test.YtmpmgmmcaghacaaGreatDoorProg
import Derived.Test.YtmpmgmmcaghacaaGreatDoorQ04
set_option linter.unusedVariables false
set_option linter.unusedSimpArgs false
set_option maxRecDepth 100000
set_option maxHeartbeats 4000000
namespace Go.Proofs.YtmpmgmmcaghacaaGreatDoor
open Go.Tp
theorem gB (ls bs:List Nat) {g:FuncId} {x:rP} (hx:L1.find g=some x) {args:List ac} {heap:Heap} {next:Nat} {r:eW} (h:(Og (Rv ls) (Rv bs) (env ak.aC) bZ bS bg x g args heap next).Ok Tryz.prog bZ (fun y=>y=r)) :
  KC g args heap next (XQ r):=Cq (Of Ma xx hx (fun _ _=>h))
theorem sL (k:Nat):∀l:List Int,iC k (bB l)=false
 | []=>rfl
 | d::r=>by show (iB k (iv d)||iC k (bB r))=false;rw[sL k r];rfl
theorem eL (ρ:Nat->Nat):∀l:List Int,gx ρ (bB l)=bB l
 | []=>rfl
 | d::r=>by show eS ρ (iv d)::gx ρ (bB r)=_;rw[eL ρ r];rfl
theorem sH (p:Nat->Bool):∀l:List Int,lX p (bB l)=true
 | []=>rfl
 | d::r=>by show (Mz p (iv d)&&lX p (bB r))=true;rw[sH p r];rfl
theorem Hn {g:FuncId} {args:List ac} {heap:Heap} {next:Nat} {Q Q':ac->Heap->Nat->Prop} (h:KC g args heap next Q) (hq:∀v h m,Q v h m->∃h2,h.Perm h2/\Q' v h2 m):KC g args heap next Q':=by
 intro w R N cargs bsA bsH bsF ha hh hnd hnx hg hF;refine (h w R N cargs bsA bsH bsF ha hh hnd hnx hg hF).mono ?_;rintro e w' ⟨v,cv,h1,next',R',N',bsV,bsH',rfl,hq1,hv,hh',hnd',hnx',hk,hN⟩;obtain⟨h2,hp,hq2⟩:=hq _ _ _ hq1;obtain⟨bs2,k1,k2⟩:=hh'.perm hp;refine⟨v,cv,h2,next',R',N',bsV,bs2,rfl,hq2,hv,k1,?_,hnx',hk,hN⟩;exact (List.Perm.nodup_iff (List.Perm.append_left _ (List.Perm.append_right _ k2))).1 hnd'
def sP:ac:=.ptr (.out 0) 0
def hS (r:Nat):List Int->Heap
 | []=>[(.out 0,.cells [.dat nl])]
 | x::l=>[(.out r,.cells (bB (x::l))),(.out 0,.cells [.win (.out r) 1 0 (x::l).length])]
def hR (r:Nat) (l:List Int) (n:Nat):Heap:=[(.out r,.cells (bB l)),(.out 0,.cells [.win (.out r) 1 0 n])]
theorem Kv {r:Nat} {l:List Int} (h:l≠[]):hS r l=hR r l l.length:=by cases l with|nil=>exact absurd rfl h|cons x l=>rfl
theorem Lg {l:List Int} {x:Int} {n:Nat} (hs:l.Pairwise (·<=·)) (hn:l.length < 1000000000) (hl:n=l.length) :
  KC 206 [.win (.out 1) 1 0 n,iv x] (hR 1 l n) 2 (XQ ⟨.tup [iv (Int.ofNat (l.countP (· < x))),bv (l.contains x)],hR 1 l n,2⟩):=by
 subst hl;have h:=aD.frame (QY (G:=bZ) Tryz.adh (x:=x) hs hn) (fun _=>1) (heap:=hR 1 l l.length) (rest:=[(.out 0,.cells [.win (.out 1) 1 0 l.length])]) (next:=2) (by simp[hR,gS,oE,tY,eL]) rfl (by simp[hZ,Ff,sL]) rfl rfl;refine Hn h ?_;rintro v h m ⟨v0,h1,n1,⟨rfl,rfl,rfl⟩,rfl,rfl,rfl⟩;refine⟨hR 1 l l.length,?_,rfl,rfl,rfl⟩;simp[hR,gS,oE,tY,eL,gd];exact List.Perm.refl _
theorem LN {l:List Int} {x:Int} {i n:Nat} (hi:i<=l.length) (hn:l.length < 1000000000) (hl:n=l.length) :
  KC 207 [.win (.out 1) 1 0 n,iv (Int.ofNat i),.win (.out 2) 1 0 1] ((.out 2,.cells [iv x])::hR 1 l n) 3
   (XQ ⟨.win (.out 3) 1 0 (eY l i x).length,[(.out 3,.cells (bB (eY l i x))),(.out 2,.cells [iv x]),(.out 0,.cells [.win (.out 1) 1 0 n])],4⟩):=by
 subst hl;have h:=aD.frame (Q1 (G:=bZ) Tryz.UN (x:=x) hi hn) (fun o=>o+1) (heap:=(.out 2,.cells [iv x])::hR 1 l l.length) (rest:=[(.out 0,.cells [.win (.out 1) 1 0 l.length])]) (next:=3) (by simp[hR,gS,oE,tY,eL,gx,eS];exact List.Perm.swap _ _ _) rfl (by simp[hZ,Ff,sL,iC,iB]) rfl rfl;refine Hn h ?_;rintro v h m ⟨v0,h1,n1,⟨rfl,rfl,rfl⟩,rfl,rfl,rfl⟩;refine⟨_,List.Perm.refl _,rfl,?_,rfl⟩;simp[gS,oE,tY,eL,gx,eS,gd];exact⟨rfl,rfl⟩
theorem insert_nil {x:Int} :
  KC 207 [.dat nl,iv (Int.ofNat 0),.win (.out 1) 1 0 1] [(.out 1,.cells [iv x]),(.out 0,.cells [.dat nl])] 2
   (XQ ⟨.win (.out 2) 1 0 1,[(.out 2,.cells [iv x]),(.out 1,.cells [iv x]),(.out 0,.cells [.dat nl])],3⟩):=by
 have h:=aD.frame (DP (G:=bZ) Tryz.UN (x:=x)) (fun o=>o+1) (heap:=[(.out 1,.cells [iv x]),(.out 0,.cells [.dat nl])]) (rest:=[(.out 0,.cells [.dat nl])]) (next:=2) (by rfl) rfl rfl rfl rfl;refine Hn h ?_;rintro v h m ⟨v0,h1,n1,⟨rfl,rfl,rfl⟩,rfl,rfl,rfl⟩;exact⟨_,List.Perm.refl _,rfl,rfl,rfl⟩
theorem Hi {x:Int}:ae 206 [.dat nl,iv x] (.tup [iv (Int.ofNat 0),bv false]):=dm _ _ _ _ _ (by kernel_rfl)
theorem T5 {x:Int}:KC 195 [sP,iv x] [(.out 0,.cells [.dat nl])] 1 (XQ ⟨.tup [],[(.out 2,.cells [iv x]),(.out 1,.cells [iv x]),(.out 0,.cells [.win (.out 2) 1 0 1])],3⟩):=by
 have h1:=Hi (x:=x);have h2:=insert_nil (x:=x);refine gB [] [] (x:=rP.of Tryz.f195 yW xm) (by kernel_rfl) ?_;refine on h1 ?_;refine oh h2 ?_;exact fi
theorem T6 {l l2:List Int} {x:Int} {i n n2:Nat} (h1:KC 206 [.win (.out 1) 1 0 n,iv x] (hR 1 l n) 2 (XQ ⟨.tup [iv (Int.ofNat i),bv false],hR 1 l n,2⟩))
  (h2:KC 207 [.win (.out 1) 1 0 n,iv (Int.ofNat i),.win (.out 2) 1 0 1] ((.out 2,.cells [iv x])::hR 1 l n) 3
   (XQ ⟨.win (.out 3) 1 0 n2,[(.out 3,.cells (bB l2)),(.out 2,.cells [iv x]),(.out 0,.cells [.win (.out 1) 1 0 n])],4⟩)) :
  KC 195 [sP,iv x] (hR 1 l n) 2 (XQ ⟨.tup [],[(.out 3,.cells (bB l2)),(.out 2,.cells [iv x]),(.out 0,.cells [.win (.out 3) 1 0 n2])],4⟩):=by
 refine gB [] [] (x:=rP.of Tryz.f195 yW xm) (by kernel_rfl) ?_;refine oh h1 ?_;refine oh h2 ?_;exact fi
theorem T4 {l:List Int} {x:Int} {i n:Nat} (h1:KC 206 [.win (.out 1) 1 0 n,iv x] (hR 1 l n) 2 (XQ ⟨.tup [iv (Int.ofNat i),bv true],hR 1 l n,2⟩)) :
  KC 195 [sP,iv x] (hR 1 l n) 2 (XQ ⟨.tup [],hR 1 l n,2⟩):=by
 refine gB [] [] (x:=rP.of Tryz.f195 yW xm) (by kernel_rfl) ?_;refine oh h1 ?_;exact fi
def iI (l:List Int) (x:Int):List Int:=match l.contains x with|true=>l|false=>eY l (l.countP (· < x)) x
theorem FD {l:List Int} {i:Nat} {x:Int}:eY l i x≠[]:=by simp[eY]
theorem T7 {l:List Int} {x:Int} (h0:l≠[]) (hs:l.Pairwise (·<=·)) (hn:l.length < 1000000000) :
  KC 195 [sP,iv x] (hR 1 l l.length) 2 (XQ ⟨.tup [],hR 2 (iI l x) (iI l x).length,3⟩):=by
 have h1:=Lg (x:=x) hs hn rfl;unfold iI;generalize hc:l.contains x=c at h1
 cases c
 ·have h2:=LN (x:=x) (i:=l.countP (· < x)) List.countP_le_length hn rfl;refine aD.rn (T6 h1 h2) ?_;rintro v hp m ⟨rfl,rfl,rfl⟩;refine⟨[3],rfl,?_,?_⟩
  ·simp[hR,dC,Rt,UK,lX,Mz,kN,nr,sH];rfl
  simp[hR,dC,gS,oE,tY,gx,eS,kN,nr,AS,zD,eL];exact⟨rfl,rfl,rfl⟩
 refine aD.rn (T4 h1) ?_;rintro v hp m ⟨rfl,rfl,rfl⟩;refine⟨[1],rfl,?_,?_⟩
 ·simp[hR,dC,Rt,UK,lX,Mz,kN,nr,sH];rfl
 simp[hR,dC,gS,oE,tY,gx,eS,kN,nr,AS,zD,eL];exact⟨rfl,rfl,rfl⟩
theorem GB {x:Int}:KC 195 [sP,iv x] [(.out 0,.cells [.dat nl])] 1 (XQ ⟨.tup [],hR 1 [x] 1,2⟩):=by
 refine aD.rn (T5 (x:=x)) ?_;rintro v hp m ⟨rfl,rfl,rfl⟩;exact⟨[2],rfl,rfl,rfl,rfl,rfl⟩
theorem acb {l:List Int} {x:Int} (hs:l.Pairwise (·<=·)) (hn:l.length < 1000000000) (r m:Nat) :
  KC 195 [sP,iv x] (hS r l) m (XQ ⟨.tup [],hS m (iI l x),m+1⟩):=by
 cases l with
 | nil=>
  have h:=aD.frame (GB (x:=x)) (fun o=>o) (heap:=hS r []) (rest:=[]) (next:=m) (by rfl) rfl rfl rfl rfl;refine h.mono ?_;rintro v h m' ⟨v0,h1,n1,⟨rfl,rfl,rfl⟩,rfl,rfl,rfl⟩;refine⟨rfl,?_,rfl⟩;show _=hS m [x];simp[hS,hR,gS,oE,tY,gx,eS,eL,gd];exact⟨rfl,rfl,rfl⟩
 | cons y l=>
  have h2:iI (y::l) x≠[]:=by
   unfold iI
   cases (y::l).contains x with
   | true=>simp
   | false=>exact FD
  rw[Kv (by simp:(y::l)≠[]),Kv h2];have h:=aD.frame (T7 (x:=x) (by simp:(y::l)≠[]) hs hn) (fun o=>match o with|0=>0|_=>r) (heap:=hR r (y::l) (y::l).length) (rest:=[]) (next:=m) (by simp[hR,gS,oE,tY,eL,gx,eS]) (by rfl) (by simp[hZ,hR,Ff,sL,iC,iB];rfl) (by rfl) rfl;refine h.mono ?_;rintro v h m' ⟨v0,h1,n1,⟨rfl,rfl,rfl⟩,rfl,rfl,rfl⟩;refine⟨rfl,?_,rfl⟩;simp[hR,gS,oE,tY,gx,eS,eL,gd];exact⟨rfl,rfl,rfl⟩
noncomputable def aaM:Hints:=⟨bS,uL,bg,rowsOf bg 178⟩
def Vy (k:Int) (nm:List UInt8) (ix:Int) (a:al) (n u:Nat) (H:Heap) (m:Nat) (i:Int):ab:=⟨[(26,iv i),(25,iv (Int.ofNat n)),(24,.dat a),(3,.ptr (.loc 3) 0),(1,iv (Int.ofNat u)),(2,sP)],[(.loc 3,.cells [iv k,.dat (sb nm),iv ix,.dat a])],H,m⟩
def RV (k:Int) (nm:List UInt8) (ix:Int) (a:al) (n u:Nat) (H:Heap) (m:Nat) (i:Int):ab:=⟨[(27,bv false),(26,iv i),(25,iv (Int.ofNat n)),(24,.dat a),(3,.ptr (.loc 3) 0),(1,iv (Int.ofNat u)),(2,sP)],[(.loc 3,.cells [iv k,.dat (sb nm),iv ix,.dat a])],H,m⟩
theorem Mi {k:Int} {nm:List UInt8} {ix:Int} {x:al} {es:List al} {l:List Ty} {t:Ty} {i u b m m2:Nat} {H H2:Heap} (hl:ax l=x::es) (hi:i < (ax l).length) (ht:l[i]?=some t)
  (hb:ae 196 [.dat (.agg [i64 k,sb nm,i64 ix,.slice (x::es)]),iv (Int.ofNat i)] (iv (Int.ofNat b)))
  (hc:KC 178 [.dat t.enc,iv (ap .i64 (Int.ofNat u+Int.ofNat b)),sP] H m (XQ ⟨.tup [],H2,m2⟩)) {T:Exit->aa->Prop}
  (e:T .normal ((Vy k nm ix (.slice (x::es)) (x::es).length u H2 m2 (ap .i64 (Int.ofNat i+1))).an Tryz.f178.ntmps)) :
  KD (roundOf Tryz.f178 0) T ((Vy k nm ix (.slice (x::es)) (x::es).length u H m (Int.ofNat i)).an Tryz.f178.ntmps):=by
 have h1:=bc hi;have h2:=oF ht;rw[hl] at h1 h2;clear ht hi hl;obtain⟨k2,nm2,ix2,a2⟩:=t
 rcases a2 with _|⟨b2,d2⟩ <;>
 ·refine ay [27] [29] (H:=aaM) (live:=qf) (by kernel_rfl) ?_;refine ob h1 ?_;refine oo h2 ?_;refine on hb ?_;refine oh hc ?_;exact oe e
theorem QS {k:Int} {nm:List UInt8} {ix:Int} {a:al} {n u m:Nat} {H:Heap} {T:Exit->aa->Prop} (e:T (.exit 0) ((RV k nm ix a n u H m (Int.ofNat n)).an Tryz.f178.ntmps)) :
  KD (roundOf Tryz.f178 0) T ((Vy k nm ix a n u H m (Int.ofNat n)).an Tryz.f178.ntmps):=by
 have h1:=bW (i:=n) (L:=n) (by omega);refine ay [27] [] (H:=aaM) (live:=qf) (by kernel_rfl) ?_;refine ob h1 ?_;exact oe e
def ew (k ix:Int) (u:Nat) (s:List Int):List Int:=match aB k 5 with|false=>s|true=>(match aH ix (Int.ofNat u) with|true=>s|false=>iI s (ix - Int.ofNat u))
mutual
def Ty.cf:Ty->Nat->List Int->List Int
 | .mk k _ ix args,u,s=>qV k args 0 u (ew k ix u s)
def qV (k:Int):List Ty->Nat->Nat->List Int->List Int
 | [],_,_,s=>s
 | t::r,j,u,s=>qV k r (j+1) u (t.cf (u+dU k j) s)
end
theorem KE {k:Int} {b:List Ty} {u:Nat}:∀{a:List Ty} {j:Nat} {s:List Int},qV k (a++b) j u s=qV k b (j+a.length) u (qV k a j u s)
 | [],j,s=>by simp[qV]
 | t::r,j,s=>by
  simp only[List.cons_append,qV,List.length_cons];rw[KE,show j+1+r.length=j+(r.length+1) by omega]
theorem Gj {k:Int} {l:List Ty} {i u:Nat} {t:Ty} {s:List Int} (h:l[i]?=some t):qV k (l.take (i+1)) 0 u s=t.cf (u+dU k i) (qV k (l.take i) 0 u s):=by
 have hi:=(List.getElem?_eq_some_iff.1 h).1;rw[List.take_add_one,h,Option.toList_some,KE,Nat.zero_add,List.length_take,Nat.min_eq_left (by omega),qV,qV]
theorem Mj {k:Int} {nm:List UInt8} {ix:Int} {l:List al} {u m m2 m3:Nat} {ck cg:Bool} {H H2 H3:Heap} (hk:aB k 5=ck) (hg:aH ix (Int.ofNat u)=cg)
  (ha:ck=true->cg=false->KC 195 [sP,iv (ap .i64 (ix - Int.ofNat u))] H m (XQ ⟨.tup [],H2,m2⟩)) (he:ck=false∨cg=true->H2=H/\m2=m)
  (hl:KD (.loop (roundOf Tryz.f178 0)) (fun e s=>e=.exit 0/\s=(RV k nm ix (sl l) l.length u H3 m3 (Int.ofNat l.length)).an Tryz.f178.ntmps) ((Vy k nm ix (sl l) l.length u H2 m2 (Int.ofNat 0)).an Tryz.f178.ntmps)) :
  KC 178 [.dat (.agg [i64 k,sb nm,i64 ix,sl l]),iv (Int.ofNat u),sP] H m (XQ ⟨.tup [],H3,m3⟩):=by
 cases ck
 ·obtain⟨rfl,rfl⟩:=he (.inl rfl);clear he ha
  rcases l with _|⟨x,l⟩ <;>
  ·refine gB [10] [] (x:=rP.of Tryz.f178 uL qf) (by kernel_rfl) ?_;refine ob hk ?_;refine lo hl ?_;rintro ex s ⟨rfl,rfl⟩;refine⟨_,rfl,?_⟩;exact fi
 cases cg
 ·have ha2:=ha rfl rfl;clear he ha
  rcases l with _|⟨x,l⟩ <;>
  ·refine gB [10,15] [] (x:=rP.of Tryz.f178 uL qf) (by kernel_rfl) ?_;refine ob hk ?_;refine ox hg ?_;refine oh ha2 ?_;refine lo hl ?_;rintro ex s ⟨rfl,rfl⟩;refine⟨_,rfl,?_⟩;exact fi
 obtain⟨rfl,rfl⟩:=he (.inr rfl);clear he ha
 rcases l with _|⟨x,l⟩ <;>
 ·refine gB [10,15] [] (x:=rP.of Tryz.f178 uL qf) (by kernel_rfl) ?_;refine ob hk ?_;refine ox hg ?_;refine lo hl ?_;rintro ex s ⟨rfl,rfl⟩;refine⟨_,rfl,?_⟩;exact fi
def fZ (b:Nat) (s:List Int):Prop:=s.Pairwise (·<=·)/\s.length<=b
theorem countP_split {l:List Int} {x:Int} (hs:l.Pairwise (·<=·)):(∀y∈l.take (l.countP (· < x)),y < x)/\(∀y∈l.drop (l.countP (· < x)),x<=y):=by
 induction l with
 | nil=>simp
 | cons a r ih=>
  obtain⟨h1,h2⟩:=ih (List.Pairwise.of_cons hs)
  by_cases ha:a < x
  ·rw[List.countP_cons_of_pos (by simpa using ha)];refine⟨?_,?_⟩
   ·intro y hy;simp only[List.take_succ_cons,List.mem_cons] at hy
    rcases hy with rfl|hy
    ·exact ha
    exact h1 y hy
   simpa only[List.drop_succ_cons] using h2
  have h0:(a::r).countP (· < x)=0:=by
   rw[List.countP_eq_zero];intro y hy;have hay:a<=y:=by
    rcases List.mem_cons.1 hy with rfl|hy
    ·exact Int.le_refl _
    exact List.rel_of_pairwise_cons hs hy
   simp only[decide_eq_true_eq];omega
  rw[h0];refine⟨by simp,?_⟩;intro y hy;simp only[List.drop_zero] at hy;have hay:a<=y:=by
   rcases List.mem_cons.1 hy with rfl|hy
   ·exact Int.le_refl _
   exact List.rel_of_pairwise_cons hs hy
  omega
theorem Lf {b:Nat} {s:List Int} {x:Int} (h:fZ b s):fZ (b+1) (iI s x):=by
 obtain⟨h1,h2⟩:=h;unfold iI
 cases s.contains x with
 | true=>exact⟨h1,Nat.le_succ_of_le h2⟩
 | false=>
  obtain⟨c1,c2⟩:=countP_split (x:=x) h1;refine⟨?_,?_⟩
  ·unfold eY;rw[List.pairwise_append];refine⟨h1.sublist (List.take_sublist _ _),?_,?_⟩
   ·rw[List.pairwise_cons];exact⟨c2,h1.sublist (List.drop_sublist _ _)⟩
   intro y hy z hz
   have:=c1 y hy
   rcases List.mem_cons.1 hz with rfl|hz
   ·omega
   have:=c2 z hz
   omega
  rw[th List.countP_le_length];omega
theorem yy {b:Nat} {k ix:Int} {u:Nat} {s:List Int} (h:fZ b s):fZ (b+1) (ew k ix u s):=by
 unfold ew
 cases aB k 5 with
 | false=>exact⟨h.1,Nat.le_succ_of_le h.2⟩
 | true=>
  cases aH ix (Int.ofNat u) with
  | true=>exact⟨h.1,Nat.le_succ_of_le h.2⟩
  | false=>exact Lf h
mutual
theorem U0:∀(t:Ty) (u:Nat) {b:Nat} {s:List Int},fZ b s->fZ (b+t.size) (t.cf u s)
 | .mk k nm ix l,u,b,s,h=>by
  rw[Ty.cf,Ty.size,show b+(aT l+1)=b+1+aT l by omega];exact DJ l u (yy h)
theorem DJ {k:Int}:∀(l:List Ty) {j:Nat} (u:Nat) {b:Nat} {s:List Int},fZ b s->fZ (b+aT l) (qV k l j u s)
 | [],j,u,b,s,h=>by simpa [qV,aT] using h
 | t::r,j,u,b,s,h=>by
  rw[qV,aT,←Nat.add_assoc];exact DJ r u (U0 t _ h)
end
def CF (t:Ty) (u:Nat) (s:List Int):Prop:=∀r m,0 < r->0 < m->KC 178 [.dat t.enc,iv (Int.ofNat u),sP] (hS r s) m (XQ ⟨.tup [],hS m (t.cf u s),m+1⟩)
def EG (r m:Nat):Nat->Nat
 | 0=>r
 | i+1=>m+i
theorem EF {r m i:Nat} (h1:0 < r) (h2:0 < m):0 < EG r m i:=by cases i with|zero=>exact h1|succ i=>simp only[EG];omega
theorem V4 {f:FuncId} {args:List ac} {h0:Heap} {m q mm:Nat} {s:List Int} (hm:0 < m) (hq:0 < q) (h:KC f args h0 m (XQ ⟨.tup [],hS q s,mm⟩)):KC f args h0 m (XQ ⟨.tup [],hS m s,m+1⟩):=by
 refine aD.rn h ?_;rintro v hp m' ⟨rfl,rfl,rfl⟩;refine⟨[q],rfl,?_,?_⟩
 all_goals
  have e1:nr 0 [q]=false:=by cases q with|zero=>omega|succ q=>rfl
  have e2:nr q [q]=true:=by simp[nr]
  have e3:kN m [q] 0=true:=by simp[kN,Nat.blt_eq,hm]
  have e4:kN m [q] q=true:=by simp[kN,e2]
  have e5:AS m [q] 0=0:=by simp[AS,e1]
  have e6:AS m [q] q=m:=by simp[AS,e2,zD]
 ·cases s with
  | nil=>simp[hS,dC,Rt,UK,lX,Mz,e3]
  | cons x l=>simp[hS,dC,Rt,UK,lX,Mz,e3,e4,sH]
 ·cases s with
  | nil=>simp[hS,dC,gS,oE,tY,gx,eS,e3,e5];exact⟨rfl,rfl,rfl⟩
  | cons x l=>simp[hS,dC,gS,oE,tY,gx,eS,e3,e4,e5,e6,eL];exact⟨rfl,rfl,rfl⟩
theorem TQ {k:Int} {nm:List UInt8} {ix:Int} {l:List Ty} {u b:Nat} {s:List Int} (hs:fZ b s) (hbd:b+1+aT l < 1000000000) (hu:u < 1000000000) (hix:aB k 5=true->aH ix 9223372036854775808=true)
  (ih:∀t∈l,∀v s2,v<=u+1->fZ (b+1+aT l) s2->(∃b2,fZ b2 s2/\b2+t.size<=b+1+aT l)->CF t v s2):CF (.mk k nm ix l) u s:=by
 intro r m hr hm;have hlen:=gf l;obtain⟨r2,m2,hr2,hm2,hH2⟩:∃r2 m2,0 < r2/\0 < m2/\((aB k 5=true->aH ix (Int.ofNat u)=false->KC 195 [sP,iv (ap .i64 (ix - Int.ofNat u))] (hS r s) m (XQ ⟨.tup [],hS r2 (ew k ix u s),m2⟩))/\(aB k 5=false∨aH ix (Int.ofNat u)=true->hS r2 (ew k ix u s)=hS r s/\m2=m)):=by
  unfold ew
  cases hk:aB k 5 with
  | false=>exact⟨r,m,hr,hm,by simp,fun _=>⟨rfl,rfl⟩⟩
  | true=>
   cases hg:aH ix (Int.ofNat u) with
   | true=>exact⟨r,m,hr,hm,by simp,fun _=>⟨rfl,rfl⟩⟩
   | false=>
    refine⟨m,m+1,hm,by omega,fun _ _=>?_,by simp⟩;have hix:=hix hk;rw[cW] at hg hix;simp only[decide_eq_false_iff_not,decide_eq_true_eq] at hg hix;have e:ap .i64 (ix - Int.ofNat u)=ix - Int.ofNat u:=by
     rw[cF];simp only[Int.ofNat_eq_natCast] at hg ⊢;exact wrap_i64 (by omega) (by omega)
    rw[e];exact acb hs.1 (by have:=hs.2;omega) r m
 have hs1:=@yy _ k ix u _ hs;refine V4 (q:=EG r2 m2 l.length) (mm:=m2+l.length) hm (EF hr2 hm2) ?_;have hl:KD (.loop (roundOf Tryz.f178 0)) (fun e s'=>e=.exit 0/\s'=(RV k nm ix (sl (ax l)) (ax l).length u (hS (EG r2 m2 l.length) (qV k l 0 u (ew k ix u s))) (m2+l.length) (Int.ofNat (ax l).length)).an Tryz.f178.ntmps)
   ((Vy k nm ix (sl (ax l)) (ax l).length u (hS r2 (ew k ix u s)) m2 (Int.ofNat 0)).an Tryz.f178.ntmps):=by
  refine aZ (St:=fun i=>(Vy k nm ix (sl (ax l)) (ax l).length u (hS (EG r2 m2 i) (qV k (l.take i) 0 u (ew k ix u s))) (m2+i) (Int.ofNat i)).an Tryz.f178.ntmps) (ax l).length ?_ ?_ (i:=0) (Nat.zero_le _)
  ·intro i hi;obtain⟨t,ht,hmem⟩:=get_mem hi;have hi2:=hi;rw[aJ] at hi2;have hbn:dU k i<=1:=by unfold dU;split <;> omega
   obtain⟨x,es,hx⟩:∃x es,ax l=x::es:=by
    cases hl:ax l with
    | nil=>rw[hl] at hi;simp at hi
    | cons x es=>exact⟨x,es,rfl⟩
   have hst:=kC ht;have hsl:=se (l:=l) (i+1);have hpre:fZ (b+1+aT (l.take i)) (qV k (l.take i) 0 u (ew k ix u s)):=DJ _ u hs1;have hcf:=ih t hmem (u+dU k i) (qV k (l.take i) 0 u (ew k ix u s)) (by omega) ⟨hpre.1,by have:=hpre.2;omega⟩ ⟨_,hpre,by omega⟩ (EG r2 m2 i) (m2+i) (EF hr2 hm2) (by omega);rw[←wrap_add (n:=u) (m:=dU k i) (by omega)] at hcf;have hbi:=Ci k nm ix (.slice (x::es)) (.inr ⟨_,rfl⟩) i;have e:=Mi (T:=sj (fun s'=>s'=(Vy k nm ix (sl (ax l)) (ax l).length u (hS (EG r2 m2 (i+1)) (qV k (l.take (i+1)) 0 u (ew k ix u s))) (m2+(i+1)) (Int.ofNat (i+1))).an Tryz.f178.ntmps)
    (fun e s'=>e=.exit 0/\s'=(RV k nm ix (sl (ax l)) (ax l).length u (hS (EG r2 m2 l.length) (qV k l 0 u (ew k ix u s))) (m2+l.length) (Int.ofNat (ax l).length)).an Tryz.f178.ntmps)) hx hi ht hbi hcf (by
     rw[hx,ba (by omega),Gj ht];rfl)
   rw[hx];rw[hx] at e;exact e
  refine QS ⟨rfl,?_⟩;rw[aJ,List.take_length]
 exact Mj rfl rfl hH2.1 hH2.2 hl
mutual
theorem Ch:∀(t:Ty) (u:Nat) {b:Nat} {s:List Int},fZ b s->b+t.size < 1000000000->u+t.depth < 1000000000->t.gJ->CF t u s
 | .mk k nm ix l,u,b,s,hs,hb,hu,hx=>by
  simp only[Ty.size] at hb;simp only[Ty.depth] at hu;simp only[Ty.gJ] at hx;exact TQ hs (by omega) (by omega) hx.1 (Ap l u (by omega) (by omega) hx.2)
theorem Ap:∀(l:List Ty) (u:Nat) {B:Nat},u+cK l+1 < 1000000000->B < 1000000000->eO l->∀t∈l,∀v s2,v<=u+1->fZ B s2->(∃b2,fZ b2 s2/\b2+t.size<=B)->CF t v s2
 | [],u,B,hu,_,hx,t,ht,_,_,_,_,_=>by simp at ht
 | y::r,u,B,hu,hB,hx,t,ht,v,s2,hv,h1,h2=>by
  simp only[cK] at hu;simp only[eO] at hx
  rcases List.mem_cons.1 ht with h3|ht
  ·obtain⟨b2,h4,h5⟩:=h2;rw[h3] at h5 ⊢;exact Ch y v h4 (by omega) (by omega) hx.1
  exact Ap r u (by omega) hB hx.2 t ht v s2 hv h1 h2
end
theorem Qg {k:Int} {nm:List UInt8} {ix:Int} {l:List al} {s:List Int} (h:KC 178 [.dat (.agg [i64 k,sb nm,i64 ix,sl l]),iv (Int.ofNat 0),sP] [(.out 0,.cells [.dat nl])] 1 (XQ ⟨.tup [],hS 1 s,2⟩)) :
  KC 147 [.dat (.agg [i64 k,sb nm,i64 ix,sl l])] [] 0 (XQ (match s with|[]=>⟨.dat nl,hS 1 [],2⟩|x::r=>⟨.win (.out 1) 1 0 (x::r).length,hS 1 (x::r),2⟩)):=by
 rcases l with _|⟨y,l⟩ <;>
 ·cases s with
  | nil=>
   refine gB [] [] (x:=rP.of Tryz.f147 C5 Dg) (by kernel_rfl) ?_;refine oh h ?_;exact fi
  | cons x r=>
   refine gB [] [] (x:=rP.of Tryz.f147 C5 Dg) (by kernel_rfl) ?_;refine oh h ?_;exact fi
def iN (x:Int):al:=.flat (.int .i64 x)
def Ty.fv (t:Ty):List Int:=t.cf 0 []
theorem WR {t:Ty}:fZ (0+t.size) t.fv:=U0 t 0 ⟨List.Pairwise.nil,Nat.le_refl _⟩
theorem I2 {t:Ty} (hs:t.size < 400000000) (hx:t.gJ):ae 147 [.dat t.enc] (.dat (sl (t.fv.map iN))):=by
 have h1:=Ch t 0 (s:=[]) ⟨List.Pairwise.nil,Nat.le_refl 0⟩ (by omega) (by have:=nS t;omega) hx 1 1 (by decide) (by decide);have h2:=WR (t:=t);unfold Ty.fv at h2 ⊢;generalize t.cf 0 []=s at h1 h2;obtain⟨k,nm,ix,l⟩:=t;have h3:=Qg h1
 cases s with
 | nil=>
  refine aD.rn h3 ?_;rintro v hp m ⟨rfl,rfl,rfl⟩;exact⟨[],rfl,rfl,rfl,rfl,rfl⟩
 | cons x r=>exact aD.TB h3 (by have:=h2.2;simp only[lim];omega)
def sx (z:Bool):List al->al
 | []=>(match z with|true=>.slice []|false=>nl)
 | d::r=>.slice (d::r)
structure Ins where
 op:Int
 dst:Int
 a:Int
 b:Int
 im:Int
 nm:List UInt8
 az:Bool
 ar:List Int
 ty:Ty
 ck:Int
 ci:Int
 cs:List UInt8
def Ins.cells (x:Ins):List al:=[i64 x.op,i64 x.dst,i64 x.a,i64 x.b,i64 x.im,sb x.nm,sx x.az (x.ar.map iN)]++(x.ty.cells++[i64 x.ck,i64 x.ci,sb x.cs,nl])
def Ins.enc (x:Ins):al:=.agg x.cells
def encI:List Ins->List al
 | []=>[]
 | x::r=>x.enc::encI r
theorem pE:∀l:List Ins,encI l=l.map Ins.enc
 | []=>rfl
 | x::r=>by simp[encI,pE r]
theorem bP (l:List Ins):(encI l).length=l.length:=by simp[pE]
theorem QA {l:List Ins} {i:Nat} {t:Ins} (h:l[i]?=some t):(encI l)[i]?=some t.enc:=by simp[pE,h]
theorem P4 (x:Ins):x.cells.length=15:=by
 obtain⟨op,dst,a,b,im,nm,az,ar,⟨k,tn,ix,la⟩,ck,ci,cs⟩:=x;rfl
mutual
inductive jC where
 |mk (pa sl:Int) (iz:Bool) (ins:List Ins) (ez:Bool) (cT:List (List fJ))
inductive fJ where
 |mk (kind:Int) (decl:tW) (func:List UInt8) (sig:Ty) (pa:Int) (code:jC) (pkg:List UInt8)
end
mutual
def jC.cells:jC->List al
 | .mk pa s iz ins ez cT=>[i64 pa,i64 s,sx iz (encI ins),sx ez (aO cT)]
def aO:List (List fJ)->List al
 | []=>[]
 | l::r=>.slice (jZ l)::aO r
def jZ:List fJ->List al
 | []=>[]
 | e::r=>.agg e.cells::jZ r
def fJ.cells:fJ->List al
 | .mk k d f sg pa c pk=>i64 k::(d.cells++(sb f::(sg.cells++(i64 pa::(c.cells++[sb pk])))))
end
def jC.enc (c:jC):al:=.agg c.cells
def fJ.enc (e:fJ):al:=.agg e.cells
def jC.pa:jC->Int|.mk pa _ _ _ _ _=>pa
def jC.sl:jC->Int|.mk _ s _ _ _ _=>s
def jC.iz:jC->Bool|.mk _ _ iz _ _ _=>iz
def jC.ins:jC->List Ins|.mk _ _ _ ins _ _=>ins
def jC.ez:jC->Bool|.mk _ _ _ _ ez _=>ez
def jC.cT:jC->List (List fJ)|.mk _ _ _ _ _ cT=>cT
theorem Aa:∀l:List fJ,jZ l=l.map fJ.enc
 | []=>by simp[jZ]
 | x::r=>by simp[jZ,Aa r,fJ.enc]
theorem mO:∀l:List (List fJ),aO l=l.map (fun x=>.slice (jZ x))
 | []=>by simp[aO]
 | x::r=>by simp[aO,mO r]
theorem wy (l:List fJ):(jZ l).length=l.length:=by simp[Aa]
theorem eg (l:List (List fJ)):(aO l).length=l.length:=by simp[mO]
theorem QB {l:List fJ} {i:Nat} {t:fJ} (h:l[i]?=some t):(jZ l)[i]?=some t.enc:=by simp[Aa,h]
theorem Mc {l:List (List fJ)} {i:Nat} {t:List fJ} (h:l[i]?=some t):(aO l)[i]?=some (.slice (jZ t)):=by simp[mO,h]
noncomputable def MU:TI:=match Go.Tp.elemOf (env ak.aC) 23 with|some t=>t|none=>default
theorem Ji:Go.Tp.elemOf (env ak.aC) 23=some MU:=by kernel_rfl
theorem ue:MU.size=15:=by kernel_rfl
theorem tm {l:List Ins} {i:Nat} {t:Ins} (h:l[i]?=some t):aq (env ak.aC) 23 [.dat (.slice (encI l)),.dat (.flat (.int .i64 (Int.ofNat i)))]=some ⟨.ref t.cells,.keep⟩:=
 lO Ji rfl (QA h) (by rw[ue];exact P4 t) (by rw[ue];decide)
theorem Yl (e:fJ):e.cells.length=20:=by
 obtain⟨k,⟨dn,ar,⟨sk,sn,six,sa⟩,con,fl⟩,f,⟨tk,tn,tix,ta⟩,pa,⟨cp,cs,iz,ins,ez,cT⟩,pk⟩:=e;rfl
noncomputable def Zt:TI:=match Go.Tp.elemOf (env ak.aC) 54 with|some t=>t|none=>default
theorem RM:Go.Tp.elemOf (env ak.aC) 54=some Zt:=by kernel_rfl
theorem Bc:Zt.size=20:=by kernel_rfl
theorem UO {l:List fJ} {i:Nat} {t:fJ} (h:l[i]?=some t):aq (env ak.aC) 54 [.dat (.slice (jZ l)),.dat (.flat (.int .i64 (Int.ofNat i)))]=some ⟨.ref t.cells,.keep⟩:=
 lO RM rfl (QB h) (by rw[Bc];exact Yl t) (by rw[Bc];decide)
noncomputable def MV:TI:=match Go.Tp.elemOf (env ak.aC) 24 with|some t=>t|none=>default
theorem Jj:Go.Tp.elemOf (env ak.aC) 24=some MV:=by kernel_rfl
theorem ug:MV.size=1:=by kernel_rfl
theorem UP {l:List (List fJ)} {i:Nat} {t:List fJ} (h:l[i]?=some t):aq (env ak.aC) 24 [.dat (.slice (aO l)),.dat (.flat (.int .i64 (Int.ofNat i)))]=some ⟨.ref [.slice (jZ t)],.keep⟩:=
 lO Jj rfl (Mc h) (by rw[ug];rfl) (by rw[ug];decide)
structure ke where
 w:List UInt8
 dst:Bool
 a:Bool
 b:Bool
 im:Bool
 nm:Bool
 ar:Bool
 ty:Bool
 con:Bool
 call:Bool
 cond:Bool
 fin:Bool
def ke.enc (s:ke):al:=.agg [sb s.w,bl s.dst,bl s.a,bl s.b,bl s.im,bl s.nm,bl s.ar,bl s.ty,bl s.con,bl s.call,bl s.cond,bl s.fin]
def ke.use (s:ke):al:=.agg [bl s.dst,bl s.a,bl s.b,bl s.im,bl s.nm,bl s.ar,bl s.ty,bl s.con]
def ke.zero:ke:=⟨[],false,false,false,false,false,false,false,false,false,false,false⟩
def jL:Nat->Option ke
 | 1=>some ⟨[99,111,110,115,116],true,false,false,false,false,false,false,true,false,false,false⟩
 | 2=>some ⟨[109,111,118,101],true,true,false,false,false,false,false,false,false,false,false⟩
 | 3=>some ⟨[112,114,105,109],true,true,true,true,false,false,false,false,false,false,false⟩
 | 4=>some ⟨[110,101,119],true,false,false,false,false,true,true,false,false,false,false⟩
 | 5=>some ⟨[103,101,116],true,true,false,false,true,false,false,false,false,false,false⟩
 | 6=>some ⟨[115,101,116],false,true,true,false,true,false,false,false,false,false,false⟩
 | 7=>some ⟨[116,117,112,108,101],true,false,false,false,false,true,false,false,false,false,false⟩
 | 8=>some ⟨[101,108,101,109,101,110,116],true,true,false,true,false,false,false,false,false,false,false⟩
 | 9=>some ⟨[105,115,105,110,115,116,97,110,99,101],true,true,false,false,false,false,true,false,false,false,false⟩
 | 10=>some ⟨[99,97,108,108],true,false,false,false,true,true,false,false,true,false,false⟩
 | 11=>some ⟨[108,97,116,101,115,116],true,false,false,false,true,true,false,false,true,false,false⟩
 | 12=>some ⟨[106,117,109,112],false,false,false,true,false,false,false,false,false,false,true⟩
 | 13=>some ⟨[98,114,97,110,99,104],false,true,false,true,false,false,false,false,false,true,false⟩
 | 14=>some ⟨[116,105,99,107],false,false,false,false,false,false,false,false,true,false,false⟩
 | 15=>some ⟨[111,117,116,112,117,116],false,true,false,false,false,false,false,false,false,false,false⟩
 | 16=>some ⟨[102,97,105,108],false,true,false,false,false,false,false,false,false,false,true⟩
 | 17=>some ⟨[101,100,105,116],false,false,false,true,false,false,false,false,false,false,false⟩
 | 18=>some ⟨[112,97,117,115,101],false,false,false,false,false,false,false,false,false,false,false⟩
 | 19=>some ⟨[114,101,116,117,114,110],false,true,false,false,false,false,false,false,false,false,true⟩
 | 20=>some ⟨[101,110,116,101,114],false,false,false,true,false,false,false,false,true,false,false⟩
 | 21=>some ⟨[108,101,97,118,101],false,false,false,false,false,false,false,false,false,false,false⟩
 | 22=>some ⟨[105,110,118,111,107,101],true,false,false,true,false,true,false,false,true,false,false⟩
 | _=>none
def dI (op:Int):Option ke:=match op with|.ofNat n=>jL n|_=>none
def jM (o:Option ke):ke:=match o with|some s=>s|none=>ke.zero
def shS (o:Option ke):Bool:=match o with|some _=>true|none=>false
theorem Vz:∀n:Nat,1<=n->n<=22->ae 58 [iv (Int.ofNat n)] (.tup [.dat (jM (jL n)).enc,bv (shS (jL n))])
 | 0,h,_=>absurd h (by omega)
 | 1,_,_=>dm _ _ _ _ _ (by kernel_rfl)
 | 2,_,_=>dm _ _ _ _ _ (by kernel_rfl)
 | 3,_,_=>dm _ _ _ _ _ (by kernel_rfl)
 | 4,_,_=>dm _ _ _ _ _ (by kernel_rfl)
 | 5,_,_=>dm _ _ _ _ _ (by kernel_rfl)
 | 6,_,_=>dm _ _ _ _ _ (by kernel_rfl)
 | 7,_,_=>dm _ _ _ _ _ (by kernel_rfl)
 | 8,_,_=>dm _ _ _ _ _ (by kernel_rfl)
 | 9,_,_=>dm _ _ _ _ _ (by kernel_rfl)
 | 10,_,_=>dm _ _ _ _ _ (by kernel_rfl)
 | 11,_,_=>dm _ _ _ _ _ (by kernel_rfl)
 | 12,_,_=>dm _ _ _ _ _ (by kernel_rfl)
 | 13,_,_=>dm _ _ _ _ _ (by kernel_rfl)
 | 14,_,_=>dm _ _ _ _ _ (by kernel_rfl)
 | 15,_,_=>dm _ _ _ _ _ (by kernel_rfl)
 | 16,_,_=>dm _ _ _ _ _ (by kernel_rfl)
 | 17,_,_=>dm _ _ _ _ _ (by kernel_rfl)
 | 18,_,_=>dm _ _ _ _ _ (by kernel_rfl)
 | 19,_,_=>dm _ _ _ _ _ (by kernel_rfl)
 | 20,_,_=>dm _ _ _ _ _ (by kernel_rfl)
 | 21,_,_=>dm _ _ _ _ _ (by kernel_rfl)
 | 22,_,_=>dm _ _ _ _ _ (by kernel_rfl)
 | n+23,_,h=>absurd h (by omega)
theorem Nt {op:Int} (h1:aH op 1=true):ae 58 [iv op] (.tup [.dat ke.zero.enc,bv false]):=by
 refine co [29] [] (x:=.of Tryz.f58 JQ Ii) ?_;refine ob h1 ?_;exact fi
theorem Nu {op:Int} (h1:aH op 1=false) (h2:aH op 23=false):ae 58 [iv op] (.tup [.dat ke.zero.enc,bv false]):=by
 refine co [29,32] [] (x:=.of Tryz.f58 JQ Ii) ?_;refine ob h1 ?_;refine ox h2 ?_;exact fi
theorem CI {op:Int} (h:aH op 1=true):dI op=none:=by
 rw[cW] at h;simp only[decide_eq_true_eq] at h;unfold dI
 split
 ·rename_i n
  have:n=0:=by simp only[Int.ofNat_eq_natCast] at h;omega
  subst this;rfl
 rfl
theorem RY:∀n:Nat,jL (n+23)=none:=fun n=>rfl
theorem CJ {op:Int} (h:aH op 23=false):dI op=none:=by
 rw[cW] at h;simp only[decide_eq_false_iff_not] at h;unfold dI
 split
 ·rename_i n;obtain⟨m,rfl⟩:∃m,n=m+23:=⟨n - 23,by simp only[Int.ofNat_eq_natCast] at h;omega⟩;exact RY m
 rfl
theorem yk {op:Int} (h1:aH op 1=false) (h2:aH op 23=true):∃n:Nat,op=Int.ofNat n/\1<=n/\n<=22:=by
 rw[cW] at h1 h2;simp only[decide_eq_false_iff_not,decide_eq_true_eq] at h1 h2;exact⟨op.toNat,by simp only[Int.ofNat_eq_natCast];omega,by omega,by omega⟩
theorem tL (op:Int):ae 58 [iv op] (.tup [.dat (jM (dI op)).enc,bv (shS (dI op))]):=by
 cases h1:aH op 1 with
 | true=>rw[CI h1];exact Nt h1
 | false=>
  cases h2:aH op 23 with
  | false=>rw[CJ h2];exact Nu h1 h2
  | true=>
   obtain⟨n,rfl,a,b⟩:=yk h1 h2;exact Vz n a b
theorem eJ:∀n:Nat,1<=n->n<=22->ae 62 [iv (Int.ofNat n)] (.dat (jM (jL n)).use)
 | 0,h,_=>absurd h (by omega)
 | 1,_,_=>dm _ _ _ _ _ (by kernel_rfl)
 | 2,_,_=>dm _ _ _ _ _ (by kernel_rfl)
 | 3,_,_=>dm _ _ _ _ _ (by kernel_rfl)
 | 4,_,_=>dm _ _ _ _ _ (by kernel_rfl)
 | 5,_,_=>dm _ _ _ _ _ (by kernel_rfl)
 | 6,_,_=>dm _ _ _ _ _ (by kernel_rfl)
 | 7,_,_=>dm _ _ _ _ _ (by kernel_rfl)
 | 8,_,_=>dm _ _ _ _ _ (by kernel_rfl)
 | 9,_,_=>dm _ _ _ _ _ (by kernel_rfl)
 | 10,_,_=>dm _ _ _ _ _ (by kernel_rfl)
 | 11,_,_=>dm _ _ _ _ _ (by kernel_rfl)
 | 12,_,_=>dm _ _ _ _ _ (by kernel_rfl)
 | 13,_,_=>dm _ _ _ _ _ (by kernel_rfl)
 | 14,_,_=>dm _ _ _ _ _ (by kernel_rfl)
 | 15,_,_=>dm _ _ _ _ _ (by kernel_rfl)
 | 16,_,_=>dm _ _ _ _ _ (by kernel_rfl)
 | 17,_,_=>dm _ _ _ _ _ (by kernel_rfl)
 | 18,_,_=>dm _ _ _ _ _ (by kernel_rfl)
 | 19,_,_=>dm _ _ _ _ _ (by kernel_rfl)
 | 20,_,_=>dm _ _ _ _ _ (by kernel_rfl)
 | 21,_,_=>dm _ _ _ _ _ (by kernel_rfl)
 | 22,_,_=>dm _ _ _ _ _ (by kernel_rfl)
 | n+23,_,h=>absurd h (by omega)
theorem eG {op:Int} {k:Nat} (h:aH op 1=true∨aH op 23=false) (h1:1<=k) (h2:k<=22):aB op (Int.ofNat k)=false:=by
 rw[ct];simp only[Int.ofNat_eq_natCast,beq_eq_false_iff_ne,ne_eq,decide_eq_false_iff_not];rintro rfl
 rcases h with h|h
 ·rw[cW] at h;simp only[decide_eq_true_eq] at h;omega
 rw[cW] at h;simp only[decide_eq_false_iff_not] at h;omega
theorem Jf {op:Int} (h:aH op 1=true∨aH op 23=false):ae 62 [iv op] (.dat ke.zero.use):=by
 have h1:aB op 1=false:=eG h (k:=1) (by omega) (by omega);have h2:aB op 2=false:=eG h (k:=2) (by omega) (by omega);have h3:aB op 3=false:=eG h (k:=3) (by omega) (by omega);have h4:aB op 4=false:=eG h (k:=4) (by omega) (by omega);have h5:aB op 5=false:=eG h (k:=5) (by omega) (by omega);have h6:aB op 6=false:=eG h (k:=6) (by omega) (by omega);have h7:aB op 7=false:=eG h (k:=7) (by omega) (by omega);have h8:aB op 8=false:=eG h (k:=8) (by omega) (by omega);have h9:aB op 9=false:=eG h (k:=9) (by omega) (by omega);have h10:aB op 10=false:=eG h (k:=10) (by omega) (by omega);have h11:aB op 11=false:=eG h (k:=11) (by omega) (by omega);have h12:aB op 12=false:=eG h (k:=12) (by omega) (by omega);have h13:aB op 13=false:=eG h (k:=13) (by omega) (by omega);have h14:aB op 14=false:=eG h (k:=14) (by omega) (by omega);have h15:aB op 15=false:=eG h (k:=15) (by omega) (by omega);have h16:aB op 16=false:=eG h (k:=16) (by omega) (by omega);have h17:aB op 17=false:=eG h (k:=17) (by omega) (by omega);have h18:aB op 18=false:=eG h (k:=18) (by omega) (by omega);have h19:aB op 19=false:=eG h (k:=19) (by omega) (by omega);have h20:aB op 20=false:=eG h (k:=20) (by omega) (by omega);have h21:aB op 21=false:=eG h (k:=21) (by omega) (by omega);have h22:aB op 22=false:=eG h (k:=22) (by omega) (by omega)
 refine co [5,8,11,14,17,20,23,26,29,32,33,36,37,38,41,44,45,46,49] [] (x:=.of Tryz.f62 OB PD) ?_;refine ob h1 ?_;refine ob h2 ?_;refine ob h3 ?_;refine ob h4 ?_;refine ob h5 ?_;refine ob h6 ?_;refine ob h7 ?_;refine ob h8 ?_;refine ob h9 ?_;refine ob h10 ?_;refine ob h11 ?_;refine ob h12 ?_;refine ob h17 ?_;refine ob h20 ?_;refine ob h13 ?_;refine ob h15 ?_;refine ob h16 ?_;refine ob h19 ?_;refine ob h22 ?_;exact fi
def gU:List Ty->Bool
 | t::_=>t.closed 0
 | []=>false
def uP (k:Int) (nm:List UInt8) (ix:Int) (l:List Ty):Bool:=
 if (!aB k 2&&!ju nm [])=true then false
 else if (!aB k 5&&!aB ix 0)=true then false
 else if (aB k 0||aB k 1)=true then aB (Int.ofNat (ax l).length) 0
 else if aB k 2=true then isIdent nm&&(!gK nm&&(!aH 6 (Int.ofNat (ax l).length)&&!gE l))
 else if aB k 3=true then !aH 6 (Int.ofNat (ax l).length)
 else if aB k 4=true then !aH (Int.ofNat (ax l).length) 2
 else if aB k 5=true then aB (Int.ofNat (ax l).length) 0&&(!aH ix 0&&!aH 200 ix)
 else if aB k 6=true then aB (Int.ofNat (ax l).length) 2&&gU l
 else false
theorem Gk {k:Int} {nm:List UInt8} {ix:Int} {l:List Ty} (hp:∀t∈l,ae 210 [.dat t.enc] (bv t.plain)) (hcl:∀t∈l,ae 204 [.dat t.enc,iv (Int.ofNat 0)] (bv (t.closed 0)))
  (hb:l.length < 1000000000):ae 192 [.dat (Ty.mk k nm ix l).enc] (bv (uP k nm ix l)):=by
 have hid:=Cg nm;have hrs:=Gq nm;have hpa:=@wB k nm ix _ hp hb;have hfc:∀t r,l=t::r->ae 204 [.dat t.enc,iv (Int.ofNat 0)] (bv (gU l)):=by
  rintro t r rfl;exact hcl t (by simp)
 unfold uP;generalize gU l=fc at hfc;generalize isIdent nm=ci at hid;generalize gK nm=cr at hrs;generalize gE l=cp at hpa;generalize h0:aB k 0=c0;generalize h1:aB k 1=c1;generalize h2:aB k 2=c2;generalize h3:aB k 3=c3;generalize h4:aB k 4=c4;generalize h5:aB k 5=c5;generalize h6:aB k 6=c6;generalize hn:ju nm []=cn;generalize hx:aB ix 0=cx;generalize hl6:aH 6 (Int.ofNat (ax l).length)=l6;generalize hl2:aH (Int.ofNat (ax l).length) 2=l2;generalize he0:aB (Int.ofNat (ax l).length) 0=e0;generalize he2:aB (Int.ofNat (ax l).length) 2=e2;generalize hx0:aH ix 0=x0;generalize hx2:aH 200 ix=x2;clear hp hcl hb
 rcases l with _|⟨t,r⟩ <;>
 ·refine co [5,9,14,18,24,25,31,53,59,65,81,29,46,57,63,69,73,78,85] [89] (x:=.of Tryz.f192 HI J7) ?_;refine bi (b:=!c2) (c:=!aB k 2) (by rw[h2]) (by kernel_rfl) ?_
  cases c2
  ·refine bi (b:=!cn) (c:=!ju nm []) (by rw[hn]) (by kernel_rfl) ?_
   cases cn with
   | false=>exact fi
   | true=>
    refine bi (b:=!c5) (c:=!aB k 5) (by rw[h5]) (by kernel_rfl) ?_
    cases c5
    ·refine bi (b:=!cx) (c:=!aB ix 0) (by rw[hx]) (by kernel_rfl) ?_
     cases cx with
     | false=>exact fi
     | true=>
      refine ob h0 ?_
      cases c0
      ·refine ob h1 ?_
       cases c1
       ·refine ob h2 ?_;refine ob h3 ?_
        cases c3
        ·refine ob h4 ?_
         cases c4
         ·refine ob h5 ?_;refine ob h6 ?_
          cases c6 with
          | false=>exact fi
          | true=>
           refine ob he2 ?_
           cases e2 with
           | false=>exact fi
           | true=>
            first
            |exact absurd he2 (by decide)
            |have hc:=hfc _ _ rfl
             have hidx:=@oF (t::r) 0 t rfl;obtain⟨k2,nm2,ix2,a2⟩:=t
             rcases a2 with _|⟨b,d⟩ <;>
             ·refine oo hidx ?_;refine on hc ?_
              cases fc <;> exact fi
         refine bi (b:=!l2) (c:=!aH _ 2) (by rw[hl2]) (by kernel_rfl) ?_
         cases l2 <;> exact fi
        refine bi (b:=!l6) (c:=!aH 6 _) (by rw[hl6]) (by kernel_rfl) ?_
        cases l6 <;> exact fi
       refine ob he0 ?_
       cases e0 <;> exact fi
      refine ob he0 ?_
      cases e0 <;> exact fi
    refine ob h0 ?_
    cases c0
    ·refine ob h1 ?_
     cases c1
     ·refine ob h2 ?_;refine ob h3 ?_
      cases c3
      ·refine ob h4 ?_
       cases c4
       ·refine ob h5 ?_;refine ob he0 ?_
        cases e0 with
        | false=>exact fi
        | true=>
         refine bi (b:=!x0) (c:=!aH ix 0) (by rw[hx0]) (by kernel_rfl) ?_
         cases x0
         ·refine bi (b:=!x2) (c:=!aH 200 ix) (by rw[hx2]) (by kernel_rfl) ?_
          cases x2 <;> exact fi
         exact fi
       exact absurd h4 (by rw[ct] at h5 ⊢;simp at h5 ⊢;omega)
      exact absurd h3 (by rw[ct] at h5 ⊢;simp at h5 ⊢;omega)
     exact absurd h1 (by rw[ct] at h5 ⊢;simp at h5 ⊢;omega)
    exact absurd h0 (by rw[ct] at h5 ⊢;simp at h5 ⊢;omega)
  refine bi (b:=!c5) (c:=!aB k 5) (by rw[h5]) (by kernel_rfl) ?_
  cases c5
  ·refine bi (b:=!cx) (c:=!aB ix 0) (by rw[hx]) (by kernel_rfl) ?_
   cases cx with
   | false=>exact fi
   | true=>
    refine ob h0 ?_
    cases c0
    ·refine ob h1 ?_
     cases c1
     ·refine ob h2 ?_;refine on hid ?_
      cases ci with
      | false=>exact fi
      | true=>
       refine on hrs ?_
       cases cr
       ·refine bi (b:=!l6) (c:=!aH 6 _) (by rw[hl6]) (by kernel_rfl) ?_
        cases l6
        ·refine on hpa ?_
         cases cp <;> exact fi
        exact fi
       exact fi
     exact absurd h1 (by rw[ct] at h2 ⊢;simp at h2 ⊢;omega)
    exact absurd h0 (by rw[ct] at h2 ⊢;simp at h2 ⊢;omega)
  exact absurd h5 (by rw[ct] at h2 ⊢;simp at h2 ⊢;omega)
mutual
def Ty.valid:Ty->Bool
 | .mk k nm ix l=>uP k nm ix l&&!oC l
def oC:List Ty->Bool
 | []=>false
 | t::r=>!t.valid||oC r
end
theorem Cn:∀l:List Ty,oC l=l.any (fun t=>!t.valid)
 | []=>by simp[oC]
 | t::r=>by simp[oC,Cn r]
theorem GL {k:Int} {nm:List UInt8} {ix:Int} {l:List Ty} (hv:∀t∈l,ae 177 [.dat t.enc] (bv t.valid)) (hs:(Ty.mk k nm ix l).size < 1000000000):ae 177 [.dat (Ty.mk k nm ix l).enc] (bv (Ty.mk k nm ix l).valid):=by
 have hsz:aT l < 1000000000:=by simp only[Ty.size] at hs;omega
 have hb:l.length < 1000000000:=by have:=gf l;omega
 have hdp:=jy l;have h1:=@Gk k nm ix _ (An l hsz) (vx l 0 hsz (by omega)) hb;have h2:∀t∈l,ae 194 [.dat t.enc] (bv (!t.valid)):=by
  intro t ht;have hc:=hv t ht;generalize t.valid=c at hc;obtain⟨k2,nm2,ix2,a2⟩:=t
  rcases a2 with _|⟨b,d⟩ <;> cases c <;>
  ·refine co [] [] (x:=.of Tryz.f194 HH J6) ?_;refine on hc ?_;exact fi
 have h3:=Az h2 hb;rw[Ty.valid,Cn];generalize l.any (fun t=>!t.valid)=ca at h3;generalize uP k nm ix l=cn at h1;clear hv hs hsz hb hdp h2
 rcases l with _|⟨b,d⟩ <;>
 ·refine co [] [] (x:=.of Tryz.f177 HL Ka) ?_;refine on h1 ?_
  cases cn with
  | false=>exact fi
  | true=>
   refine on h3 ?_
   cases ca <;> exact fi
mutual
theorem KF:∀t:Ty,t.size < 1000000000->ae 177 [.dat t.enc] (bv t.valid)
 | .mk k nm ix l,h=>GL (Gl l (by simp only[Ty.size] at h;omega)) h
theorem Gl:∀l:List Ty,aT l < 1000000000->∀t∈l,ae 177 [.dat t.enc] (bv t.valid)
 | [],_,t,ht=>by simp at ht
 | x::r,h,t,ht=>by
  simp only[aT] at h
  rcases List.mem_cons.1 ht with h1|ht
  ·rw[h1];exact KF x (by omega)
  exact Gl r (by omega) t ht
end
def Ty.validate (t:Ty):Int:=match aH 200 (Int.ofNat t.size)||aH 12 (Int.ofNat t.depth) with|true=>4|false=>(match t.valid with|true=>0|false=>2)
theorem IY (t:Ty) (h:t.size < 1000000000):ae 146 [.dat t.enc] (iv t.validate):=by
 have h1:=QX t h;have h2:=KI t h;have h3:=KF t h;unfold Ty.validate;generalize hs:t.size=n at h1 h;generalize t.depth=m at h2;generalize t.valid=c at h3;generalize hn:aH 200 (Int.ofNat n)=cn;generalize hm:aH 12 (Int.ofNat m)=cm;clear hs h;obtain⟨k2,nm2,ix2,a2⟩:=t
 rcases a2 with _|⟨b,d⟩ <;>
 ·refine co [6,10] [] (x:=.of Tryz.f146 HQ Kf) ?_;refine on h1 ?_;refine ob hn ?_
  cases cn
  ·refine on h2 ?_;refine ob hm ?_
   cases cm
   ·refine on h3 ?_
    cases c <;> exact fi
   exact fi
  exact fi
noncomputable def ri:TI:=match Go.Tp.elemOf (env ak.aC) 22 with|some t=>t|none=>default
theorem Cy:Go.Tp.elemOf (env ak.aC) 22=some ri:=by kernel_rfl
theorem fe:ri.size=1:=by kernel_rfl
theorem uY {l:List Int} {i:Nat} {t:Int} (h:l[i]?=some t):aq (env ak.aC) 22 [.dat (.slice (l.map iN)),.dat (.flat (.int .i64 (Int.ofNat i)))]=some ⟨.ref [iN t],.keep⟩:=
 lO (d:=iN t) Cy rfl (by rw[List.getElem?_map,h];rfl) (by rw[fe];rfl) (by rw[fe];decide)
noncomputable def tiD:TI:=match Go.Tp.elemOf (env ak.aC) 112 with|some t=>t|none=>default
def cellsD (nm:List UInt8) (ar k:Int) (tn:List UInt8) (ix:Int) (la:List al) (con:Bool) (lb:List al):List ac:=[.dat (sb nm),iv ar,iv k,.dat (sb tn),iv ix,.dat (sl la),.dat (bl con),.dat (sl lb)]
theorem RQ (l:Nat) (nm:List UInt8) (ar k:Int) (tn:List UInt8) (ix:Int) (la:List al) (con:Bool) (lb:List al) :
  dR (env ak.aC) 51 [.ptr (.loc l) 0,.dat (ac9 nm ar k tn ix la con lb)] (some (.cells (cellsD [] 0 0 [] 0 [] false [])))=some ⟨.undef,.set (.cells (cellsD nm ar k tn ix la con lb))⟩:=by
 rcases la with _|⟨x,la⟩ <;> rcases lb with _|⟨y,lb⟩ <;> kernel_rfl
def r3 (c:Int) (cs:List al) (es:List (Go.Value×al)) (n:Nat):eW:=⟨iv c,hG 2 (av cs) es n,3⟩
def lg:List tW->List al
 | []=>[]
 | d::r=>d.enc::lg r
theorem Ab:∀l:List tW,lg l=l.map tW.enc
 | []=>by simp[lg]
 | t::r=>by simp[lg,Ab r]
theorem F9 (l:List tW):(lg l).length=l.length:=by simp[Ab]
theorem QC {l:List tW} {i:Nat} {t:tW} (h:l[i]?=some t):(lg l)[i]?=some t.enc:=by simp[Ab,h]
theorem Ym (d:tW):d.enc.cells.length=8:=by obtain⟨a,b,⟨e,f,g,h⟩,i,j⟩:=d;rfl
theorem Vt:Go.Tp.elemOf (env ak.aC) 112=some tiD:=by kernel_rfl
theorem D8:tiD.size=8:=by kernel_rfl
def jT (j:Nat) (k:Int) (nm:List UInt8) (ix:Int) (a:al):Heap:=[(.loc j,.cells [iv k,.dat (sb nm),iv ix,.dat a])]
def wN (lo:Heap) (i n:Int):ab:=⟨[(4,iv i),(3,iv n),(1,.ptr (.loc 1) 0)],lo,[],0⟩
def Bq (lo:Heap) (i n:Int):ab:=⟨[(9,bv false),(4,iv i),(3,iv n),(1,.ptr (.loc 1) 0)],lo,[],0⟩
theorem nb {l:List Ty} {i:Nat} (h:i < (ax l).length):sl (ax l)=.slice (ax l):=by cases l with|nil=>simp[ax] at h|cons x r=>rfl
noncomputable def hRS:Hints:=⟨bS,C4,bg,rowsOf bg 151⟩
theorem NE {k:Int} {nm:List UInt8} {ix n m:Int} {l:List Ty} {t:Ty} {i:Nat} (hi:i < (ax l).length) (ht:l[i]?=some t) (hc:ae 151 [.dat t.enc] (iv m)) {T:Exit->aa->Prop}
  (e:T .normal ((wN (jT 1 k nm ix (.slice (ax l))) (ap .i64 (Int.ofNat i+1)) (ap .i64 (n+m))).an Tryz.f151.ntmps)) :
  KD (roundOf Tryz.f151 0) T ((wN (jT 1 k nm ix (.slice (ax l))) (Int.ofNat i) n).an Tryz.f151.ntmps):=by
 have h1:=bc hi;have h2:=oF ht;generalize ax l=es at *;clear ht hi;obtain⟨k2,nm2,ix2,a2⟩:=t
 rcases a2 with _|⟨b,d⟩ <;>
 ·refine ay [9] [16] (H:=hRS) (live:=sU) (by kernel_rfl) ?_;refine ob h1 ?_;refine oo h2 ?_;refine on hc ?_;exact oe e
theorem R0 {k:Int} {nm:List UInt8} {ix n:Int} {l:List al} {T:Exit->aa->Prop} (e:T (.exit 0) ((Bq (jT 1 k nm ix (sl l)) (Int.ofNat l.length) n).an Tryz.f151.ntmps)) :
  KD (roundOf Tryz.f151 0) T ((wN (jT 1 k nm ix (sl l)) (Int.ofNat l.length) n).an Tryz.f151.ntmps):=by
 have h1:=bW (i:=l.length) (L:=l.length) (by omega)
 rcases l with _|⟨x,l⟩
 ·refine ay [] [] (H:=hRS) (live:=sU) (by kernel_rfl) ?_;exact oe e
 refine ay [9] [] (H:=hRS) (live:=sU) (by kernel_rfl) ?_;refine ob h1 ?_;exact oe e
theorem V2 {k:Int} {nm:List UInt8} {ix n:Int} {l:List al} (hl:KD (.loop (roundOf Tryz.f151 0)) (fun e s=>e=.exit 0/\s=(Bq (jT 1 k nm ix (sl l)) (Int.ofNat l.length) n).an Tryz.f151.ntmps) ((wN (jT 1 k nm ix (sl l)) (Int.ofNat 0) 1).an Tryz.f151.ntmps)) :
  ae 151 [.dat (.agg [i64 k,sb nm,i64 ix,sl l])] (iv n):=by
 rcases l with _|⟨x,l⟩ <;>
 ·refine co [] [] (x:=.of Tryz.f151 C4 sU) ?_;refine lo hl ?_;rintro ex s ⟨rfl,rfl⟩;refine⟨_,rfl,?_⟩;exact fi
mutual
theorem N5:∀t:Ty,t.size < 1000000000->ae 151 [.dat t.enc] (iv (Int.ofNat t.size))
 | .mk k nm ix l,h=>by
  simp only[Ty.size] at h;have ih:=JB l (by omega);have hlen:=gf l;refine V2 ?_;rw[show Int.ofNat (Ty.mk k nm ix l).size=Int.ofNat (1+aT l) by simp only[Ty.size];rw[Nat.add_comm]];refine aZ (St:=fun i=>(wN (jT 1 k nm ix (sl (ax l))) (Int.ofNat i) (Int.ofNat (1+aT (l.take i)))).an Tryz.f151.ntmps) (ax l).length ?_ ?_ (i:=0) (Nat.zero_le _)
  ·intro i hi;obtain⟨t,ht,hm⟩:=get_mem hi;have hs:=kC ht;have hle:=se (l:=l) (i+1);have hsl:=nb hi;have e:=@NE k nm ix (Int.ofNat (1+aT (l.take i))) _ _ _ _ hi ht (ih t hm) (sj (fun s=>s=(wN (jT 1 k nm ix (sl (ax l))) (Int.ofNat (i+1)) (Int.ofNat (1+aT (l.take (i+1))))).an Tryz.f151.ntmps) (fun e s=>e=.exit 0/\s=(Bq (jT 1 k nm ix (sl (ax l))) (Int.ofNat (ax l).length) (Int.ofNat (1+aT l))).an Tryz.f151.ntmps)) (by
    rw[aJ] at hi;rw[ba (by omega),wrap_add (by omega),hs,hsl,Nat.add_assoc];rfl)
   rw[hsl] at e ⊢;exact e
  refine R0 ⟨rfl,?_⟩;rw[aJ,List.take_length]
theorem JB:∀l:List Ty,aT l < 1000000000->∀t∈l,ae 151 [.dat t.enc] (iv (Int.ofNat t.size))
 | [],_,t,ht=>by simp at ht
 | u::r,h,t,ht=>by
  simp only[aT] at h
  rcases List.mem_cons.1 ht with h1|ht
  ·rw[h1];exact N5 u (by omega)
  exact JB r (by omega) t ht
end
noncomputable def hRD:Hints:=⟨bS,C3,bg,rowsOf bg 152⟩
theorem NT {k:Int} {nm:List UInt8} {ix:Int} {n m:Nat} {l:List Ty} {t:Ty} {i:Nat} (hi:i < (ax l).length) (ht:l[i]?=some t) (hc:ae 152 [.dat t.enc] (iv (Int.ofNat m))) {T:Exit->aa->Prop}
  (e:T .normal ((wN (jT 1 k nm ix (.slice (ax l))) (ap .i64 (Int.ofNat i+1)) (match aH (Int.ofNat n) (Int.ofNat m) with|true=>Int.ofNat m|false=>Int.ofNat n)).an Tryz.f152.ntmps)) :
  KD (roundOf Tryz.f152 0) T ((wN (jT 1 k nm ix (.slice (ax l))) (Int.ofNat i) (Int.ofNat n)).an Tryz.f152.ntmps):=by
 have h1:=bc hi;have h2:=oF ht;generalize ax l=es at *;clear ht hi;obtain⟨k2,nm2,ix2,a2⟩:=t
 rcases a2 with _|⟨b,d⟩ <;>
 ·refine ay [9] [16] (H:=hRD) (live:=sT) (by kernel_rfl) ?_;refine ob h1 ?_;refine oo h2 ?_;refine on hc ?_;exact oe e
theorem Sf {k:Int} {nm:List UInt8} {ix n:Int} {l:List al} {T:Exit->aa->Prop} (e:T (.exit 0) ((Bq (jT 1 k nm ix (sl l)) (Int.ofNat l.length) n).an Tryz.f152.ntmps)) :
  KD (roundOf Tryz.f152 0) T ((wN (jT 1 k nm ix (sl l)) (Int.ofNat l.length) n).an Tryz.f152.ntmps):=by
 have h1:=bW (i:=l.length) (L:=l.length) (by omega)
 rcases l with _|⟨x,l⟩
 ·refine ay [] [] (H:=hRD) (live:=sT) (by kernel_rfl) ?_;exact oe e
 refine ay [9] [] (H:=hRD) (live:=sT) (by kernel_rfl) ?_;refine ob h1 ?_;exact oe e
theorem Wd {k:Int} {nm:List UInt8} {ix n:Int} {l:List al} (hl:KD (.loop (roundOf Tryz.f152 0)) (fun e s=>e=.exit 0/\s=(Bq (jT 1 k nm ix (sl l)) (Int.ofNat l.length) n).an Tryz.f152.ntmps) ((wN (jT 1 k nm ix (sl l)) (Int.ofNat 0) 0).an Tryz.f152.ntmps)) :
  ae 152 [.dat (.agg [i64 k,sb nm,i64 ix,sl l])] (iv (ap .i64 (n+1))):=by
 rcases l with _|⟨x,l⟩ <;>
 ·refine co [] [] (x:=.of Tryz.f152 C3 sT) ?_;refine lo hl ?_;rintro ex s ⟨rfl,rfl⟩;refine⟨_,rfl,?_⟩;exact fi
mutual
theorem JF:∀t:Ty,t.size < 1000000000->ae 152 [.dat t.enc] (iv (Int.ofNat t.depth))
 | .mk k nm ix l,h=>by
  simp only[Ty.size] at h;have ih:=ER l (by omega);have hlen:=gf l;have hdl:=jy l;rw[show Int.ofNat (Ty.mk k nm ix l).depth=ap .i64 (Int.ofNat (cK l)+1) by rw[ba (by omega)];rfl];refine Wd ?_;refine aZ (St:=fun i=>(wN (jT 1 k nm ix (sl (ax l))) (Int.ofNat i) (Int.ofNat (cK (l.take i)))).an Tryz.f152.ntmps) (ax l).length ?_ ?_ (i:=0) (Nat.zero_le _)
  ·intro i hi;obtain⟨t,ht,hm⟩:=get_mem hi;have hs:=wA ht;have hsl:=nb hi;have e:=@NT k nm ix (cK (l.take i)) _ _ _ _ hi ht (ih t hm) (sj (fun s=>s=(wN (jT 1 k nm ix (sl (ax l))) (Int.ofNat (i+1)) (Int.ofNat (cK (l.take (i+1))))).an Tryz.f152.ntmps) (fun e s=>e=.exit 0/\s=(Bq (jT 1 k nm ix (sl (ax l))) (Int.ofNat (ax l).length) (Int.ofNat (cK l))).an Tryz.f152.ntmps)) (by
    rw[aJ] at hi;rw[ba (by omega),hs,hsl];have e2:(match aH (Int.ofNat (cK (l.take i))) (Int.ofNat t.depth) with|true=>Int.ofNat t.depth|false=>Int.ofNat (cK (l.take i)))=Int.ofNat (max (cK (l.take i)) t.depth):=by
     rw[gI]
     by_cases hlt:cK (l.take i) < t.depth
     ·rw[decide_eq_true hlt,Nat.max_eq_right (by omega)]
     rw[decide_eq_false hlt,Nat.max_eq_left (by omega)]
    rw[e2];rfl)
   rw[hsl] at e ⊢;exact e
  refine Sf ⟨rfl,?_⟩;rw[aJ,List.take_length]
theorem ER:∀l:List Ty,aT l < 1000000000->∀t∈l,ae 152 [.dat t.enc] (iv (Int.ofNat t.depth))
 | [],_,t,ht=>by simp at ht
 | u::r,h,t,ht=>by
  simp only[aT] at h
  rcases List.mem_cons.1 ht with h1|ht
  ·rw[h1];exact JF u (by omega)
  exact ER r (by omega) t ht
end
def Lv (c:Bool):Int:=match c with|true=>-1|false=>1
theorem JC (c:Bool):ae 166 [bv c] (iv (Lv c)):=by
 cases c <;> exact dm _ _ _ _ _ (by kernel_rfl)
noncomputable def hRC:Hints:=⟨bS,oW,bg,rowsOf bg 123⟩
def SF (k:Int) (nm:List UInt8) (ix:Int) (a:al) (k2:Int) (nm2:List UInt8) (ix2:Int) (a2:al):Heap:=[(.loc 3,.cells [iv k2,.dat (sb nm2),iv ix2,.dat a2]),(.loc 2,.cells [iv k,.dat (sb nm),iv ix,.dat a])]
def YN (lo:Heap) (i:Int):ab:=⟨[(5,iv i),(3,.ptr (.loc 3) 0),(2,.ptr (.loc 2) 0)],lo,[],0⟩
def Vv (lo:Heap) (i:Int):ab:=⟨[(63,bv false),(5,iv i),(3,.ptr (.loc 3) 0),(2,.ptr (.loc 2) 0)],lo,[],0⟩
def Vw (c:Int):ab:=⟨[(4,iv c)],[],[],0⟩
theorem NV {k:Int} {nm:List UInt8} {ix:Int} {l:List Ty} {k2:Int} {nm2:List UInt8} {ix2:Int} {l2:List Ty} {t u:Ty} {i:Nat} {c:Int} {cz:Bool} (hi:i < (ax l).length) (ht:l[i]?=some t) (hu:l2[i]?=some u) (hc:ae 123 [.dat t.enc,.dat u.enc] (iv c)) (hz:aB c 0=cz) {T:Exit->aa->Prop}
  (e1:cz=true->T .normal ((YN (SF k nm ix (.slice (ax l)) k2 nm2 ix2 (.slice (ax l2))) (ap .i64 (Int.ofNat i+1))).an Tryz.f123.ntmps)) (e2:cz=false->T .ret ((Vw c).an Tryz.f123.ntmps)) :
  KD (roundOf Tryz.f123 0) T ((YN (SF k nm ix (.slice (ax l)) k2 nm2 ix2 (.slice (ax l2))) (Int.ofNat i)).an Tryz.f123.ntmps):=by
 have h1:=bc hi;have h2:=oF ht;have h3:=oF hu;generalize ax l=es at *;generalize ax l2=es2 at *;clear ht hi hu;obtain⟨tk,tn,tix,ta⟩:=t;obtain⟨uk,un,uix,ua⟩:=u
 rcases ta with _|⟨b,d⟩ <;>
 ·rcases ua with _|⟨b2,d2⟩ <;>
  ·refine ay [63,78] [69,74] (H:=hRC) (live:=jU) (by kernel_rfl) ?_;refine ob h1 ?_;refine oo h2 ?_;refine oo h3 ?_;refine on hc ?_;refine ox hz ?_
   cases cz
   ·exact oe (e2 rfl)
   exact oe (e1 rfl)
theorem Sh {k:Int} {nm:List UInt8} {ix:Int} {l:List al} {k2:Int} {nm2:List UInt8} {ix2:Int} {a:List al} {T:Exit->aa->Prop} (e:T (.exit 1) ((Vv (SF k nm ix (sl l) k2 nm2 ix2 (sl a)) (Int.ofNat l.length)).an Tryz.f123.ntmps)) :
  KD (roundOf Tryz.f123 0) T ((YN (SF k nm ix (sl l) k2 nm2 ix2 (sl a)) (Int.ofNat l.length)).an Tryz.f123.ntmps):=by
 have h1:=bW (i:=l.length) (L:=l.length) (by omega)
 rcases l with _|⟨x,l⟩
 ·refine ay [] [] (H:=hRC) (live:=jU) (by kernel_rfl) ?_;exact oe e
 refine ay [63] [] (H:=hRC) (live:=jU) (by kernel_rfl) ?_;refine ob h1 ?_;exact oe e
def Jy (c1 c2 c3 c4 c5 c6 c7 c8:Bool) (r:Int):Int:=match c1 with|false=>Lv c5|true=>match c2 with|false=>Lv c6|true=>match c3 with|false=>Lv c7|true=>match c4 with|false=>Lv c8|true=>r
theorem Wf {k:Int} {nm:List UInt8} {ix:Int} {l:List al} {k2:Int} {nm2:List UInt8} {ix2:Int} {l2:List al} {c1 c2 c3 c4 c5 c6 c7 c8:Bool} {r:Int} (h1:aB k k2=c1) (h2:ju nm nm2=c2) (h3:aB ix ix2=c3) (h4:aB (Int.ofNat l.length) (Int.ofNat l2.length)=c4) (h5:aH k k2=c5) (h6:LG nm nm2=c6) (h7:aH ix ix2=c7) (h8:aH (Int.ofNat l.length) (Int.ofNat l2.length)=c8)
 (hl:c4=true->KD (.loop (roundOf Tryz.f123 0)) (fun e s=>(e=.exit 1/\r=0/\s=(Vv (SF k nm ix (sl l) k2 nm2 ix2 (sl l2)) (Int.ofNat l.length)).an Tryz.f123.ntmps)∨(e=.ret/\s=(Vw r).an Tryz.f123.ntmps)) ((YN (SF k nm ix (sl l) k2 nm2 ix2 (sl l2)) (Int.ofNat 0)).an Tryz.f123.ntmps)) :
 ae 123 [.dat (.agg [i64 k,sb nm,i64 ix,sl l]),.dat (.agg [i64 k2,sb nm2,i64 ix2,sl l2])] (iv (Jy c1 c2 c3 c4 c5 c6 c7 c8 r)):=by
 have o1:=JC true;have o2:=JC false
 rcases l with _|⟨x,l⟩
 ·rcases l2 with _|⟨y,l2⟩
  ·have z:c4=true:=h4.symm;subst z;have hl2:=hl rfl;clear hl h4 h8;refine co [12,24,36,41,29,17] [] (x:=.of Tryz.f123 oW jU) ?_;refine ox h1 ?_
   cases c1
   ·refine ob h5 ?_
    cases c5
    ·refine on o2 ?_;exact fi
    refine on o1 ?_;exact fi
   refine ox h2 ?_
   cases c2
   ·refine ob h6 ?_
    cases c6
    ·refine on o2 ?_;exact fi
    refine on o1 ?_;exact fi
   refine ox h3 ?_
   cases c3
   ·refine ob h7 ?_
    cases c7
    ·refine on o2 ?_;exact fi
    refine on o1 ?_;exact fi
   refine lo hl2 ?_;rintro ex s (⟨rfl,rfl,rfl⟩|⟨rfl,rfl⟩) <;>
   ·refine⟨_,rfl,?_⟩;exact fi
  have z:c4=false:=h4.symm;have z8:c8=true:=h8.symm;subst z z8;clear hl h4 h8;refine co [12,24,36,41,29,17] [] (x:=.of Tryz.f123 oW jU) ?_;refine ox h1 ?_
  cases c1
  ·refine ob h5 ?_
   cases c5
   ·refine on o2 ?_;exact fi
   refine on o1 ?_;exact fi
  refine ox h2 ?_
  cases c2
  ·refine ob h6 ?_
   cases c6
   ·refine on o2 ?_;exact fi
   refine on o1 ?_;exact fi
  refine ox h3 ?_
  cases c3
  ·refine ob h7 ?_
   cases c7
   ·refine on o2 ?_;exact fi
   refine on o1 ?_;exact fi
  refine on o1 ?_;exact fi
 rcases l2 with _|⟨y,l2⟩
 ·have z:c4=false:=h4.symm;have z8:c8=false:=h8.symm;subst z z8;clear hl h4 h8;refine co [12,24,36,41,29,17] [] (x:=.of Tryz.f123 oW jU) ?_;refine ox h1 ?_
  cases c1
  ·refine ob h5 ?_
   cases c5
   ·refine on o2 ?_;exact fi
   refine on o1 ?_;exact fi
  refine ox h2 ?_
  cases c2
  ·refine ob h6 ?_
   cases c6
   ·refine on o2 ?_;exact fi
   refine on o1 ?_;exact fi
  refine ox h3 ?_
  cases c3
  ·refine ob h7 ?_
   cases c7
   ·refine on o2 ?_;exact fi
   refine on o1 ?_;exact fi
  refine on o2 ?_;exact fi
 cases c4
 ·clear hl;refine co [12,24,36,50,57,41,29,17] [] (x:=.of Tryz.f123 oW jU) ?_;refine ox h1 ?_
  cases c1
  ·refine ob h5 ?_
   cases c5
   ·refine on o2 ?_;exact fi
   refine on o1 ?_;exact fi
  refine ox h2 ?_
  cases c2
  ·refine ob h6 ?_
   cases c6
   ·refine on o2 ?_;exact fi
   refine on o1 ?_;exact fi
  refine ox h3 ?_
  cases c3
  ·refine ob h7 ?_
   cases c7
   ·refine on o2 ?_;exact fi
   refine on o1 ?_;exact fi
  refine ox h4 ?_;refine ob h8 ?_
  cases c8
  ·refine on o2 ?_;exact fi
  refine on o1 ?_;exact fi
 have hl2:=hl rfl;clear hl;refine co [12,24,36,50,41,29,17] [] (x:=.of Tryz.f123 oW jU) ?_;refine ox h1 ?_
 cases c1
 ·refine ob h5 ?_
  cases c5
  ·refine on o2 ?_;exact fi
  refine on o1 ?_;exact fi
 refine ox h2 ?_
 cases c2
 ·refine ob h6 ?_
  cases c6
  ·refine on o2 ?_;exact fi
  refine on o1 ?_;exact fi
 refine ox h3 ?_
 cases c3
 ·refine ob h7 ?_
  cases c7
  ·refine on o2 ?_;exact fi
  refine on o1 ?_;exact fi
 refine ox h4 ?_;refine lo hl2 ?_;rintro ex s (⟨rfl,rfl,rfl⟩|⟨rfl,rfl⟩) <;>
 ·refine⟨_,rfl,?_⟩;exact fi
mutual
def Hp:Ty->Ty->Int
 | .mk k nm ix l,.mk k2 nm2 ix2 l2=>Jy (aB k k2) (ju nm nm2) (aB ix ix2) (aB (Int.ofNat (ax l).length) (Int.ofNat (ax l2).length)) (aH k k2) (LG nm nm2) (aH ix ix2) (aH (Int.ofNat (ax l).length) (Int.ofNat (ax l2).length)) (Jz l l2)
def Jz:List Ty->List Ty->Int
 | t::r,u::v=>match aB (Hp t u) 0 with|true=>Jz r v|false=>Hp t u
 | _,_=>0
end
theorem NW {l l2:List Ty} {i:Nat} {t u:Ty} (ht:l[i]?=some t) (hu:l2[i]?=some u):Jz (l.drop i) (l2.drop i)=(match aB (Hp t u) 0 with|true=>Jz (l.drop (i+1)) (l2.drop (i+1))|false=>Hp t u):=by rw[ku ht,ku hu,Jz]
theorem Sg {k:Int} {nm:List UInt8} {ix:Int} {l:List Ty} {k2:Int} {nm2:List UInt8} {ix2:Int} {l2:List Ty} (hlen:l.length=l2.length) (hb:l.length < 1000000000) (ih:∀t∈l,∀u∈l2,ae 123 [.dat t.enc,.dat u.enc] (iv (Hp t u))) :
  KD (.loop (roundOf Tryz.f123 0)) (fun e s=>(e=.exit 1/\Jz l l2=0/\s=(Vv (SF k nm ix (sl (ax l)) k2 nm2 ix2 (sl (ax l2))) (Int.ofNat (ax l).length)).an Tryz.f123.ntmps)∨(e=.ret/\s=(Vw (Jz l l2)).an Tryz.f123.ntmps)) ((YN (SF k nm ix (sl (ax l)) k2 nm2 ix2 (sl (ax l2))) (Int.ofNat 0)).an Tryz.f123.ntmps):=by
 refine cH (St:=fun i=>(YN (SF k nm ix (sl (ax l)) k2 nm2 ix2 (sl (ax l2))) (Int.ofNat i)).an Tryz.f123.ntmps) (fun i=>Jz l l2=Jz (l.drop i) (l2.drop i)) (ax l).length ?_ ?_ (i:=0) (Nat.zero_le _) rfl
 ·intro i hi hI;obtain⟨t,ht,hm⟩:=get_mem hi;have hi2:=hi;rw[aJ] at hi2;have hu:l2[i]?=some l2[i]:=List.getElem?_eq_getElem (by omega);have hm2:l2[i]∈l2:=List.getElem_mem _;generalize l2[i]=u at hu hm2;have h:=ih t hm u hm2;have hd:=NW ht hu;rw[←hI] at hd;have hw:ap .i64 (Int.ofNat i+1)=Int.ofNat (i+1):=ba (by omega);have hs1:=nb hi;have hs2:sl (ax l2)=.slice (ax l2):=nb (i:=i) (by rw[aJ];omega);rw[hs1,hs2];generalize Hp t u=c at h hd;refine NV hi ht hu h rfl ?_ ?_
  ·intro hz;rw[hz] at hd;rw[hw];exact⟨rfl,hd⟩
  intro hz;rw[hz] at hd;dsimp only at hd;exact .inr ⟨rfl,by rw[hd]⟩
 intro hI;refine Sh (.inl ⟨rfl,?_,rfl⟩);rw[hI,aJ,List.drop_length]
 cases l2.drop l.length <;> rfl
mutual
theorem yK:∀(t u:Ty),t.thin->ae 123 [.dat t.enc,.dat u.enc] (iv (Hp t u))
 | .mk k nm ix l,.mk k2 nm2 ix2 l2,h=>by
  simp only[Ty.thin] at h;have ih:=vY l h.2;rw[Hp];refine Wf rfl rfl rfl rfl rfl rfl rfl rfl (fun he=>?_);rw[zT,aJ,aJ] at he;exact Sg (by simpa using he) h.1 (fun t ht u _=>ih t ht u)
theorem vY:∀l:List Ty,rW l->∀t∈l,∀u,ae 123 [.dat t.enc,.dat u.enc] (iv (Hp t u))
 | [],_,t,ht,_=>by simp at ht
 | x::r,h,t,ht,u=>by
  simp only[rW] at h
  rcases List.mem_cons.1 ht with h1|ht
  ·rw[h1];exact yK x u h.1
  exact vY r h.2 t ht u
end
theorem Z7 {k ix k2 ix2 r:Int} {nm nm2:List UInt8} {l l2:List al} {c:Bool} (h:ae 123 [.dat (.agg [i64 k,sb nm,i64 ix,sl l]),.dat (.agg [i64 k2,sb nm2,i64 ix2,sl l2])] (iv r)) (hc:aB r 0=c):ae 86 [.dat (.agg [i64 k,sb nm,i64 ix,sl l]),.dat (.agg [i64 k2,sb nm2,i64 ix2,sl l2])] (bv c):=by
 rcases l with _|⟨x,l⟩ <;>
 ·rcases l2 with _|⟨y,l2⟩ <;>
  ·refine co [8] [] (x:=.of Tryz.f86 Ow Py) ?_;refine on h ?_;refine ob hc ?_
   cases c <;>
   ·exact fi
def Z8 (t u:Ty):Bool:=aB (Hp t u) 0
theorem N8 (t u:Ty) (h:t.thin):ae 86 [.dat t.enc,.dat u.enc] (bv (Z8 t u)):=by
 have h1:=yK t u h;obtain⟨k,nm,ix,l⟩:=t;obtain⟨k2,nm2,ix2,l2⟩:=u;exact Z7 h1 rfl
theorem Sk (t u:Ty) (h:t.size < 1000000000):ae 86 [.dat t.enc,.dat u.enc] (bv (Z8 t u)):=N8 t u (Cz t h)
theorem Sr (c:Bool):Lv c≠0:=by cases c <;> decide
theorem Qt {a b:List UInt8} (h:ju a b=true):a=b:=by rw[vr] at h;simpa using h
theorem vq {a b:Int} (h:aB a b=true):a=b:=by rw[ct] at h;simpa using h
theorem Hq {c1 c2 c3 c4 c5 c6 c7 c8:Bool} {r:Int} (h:Jy c1 c2 c3 c4 c5 c6 c7 c8 r=0):c1=true/\c2=true/\c3=true/\c4=true/\r=0:=by
 cases c1 <;> cases c2 <;> cases c3 <;> cases c4 <;> simp[Jy,Sr] at h ⊢ <;> exact h
mutual
theorem EM:∀(t u:Ty),Hp t u=0->t=u
 | .mk k nm ix l,.mk k2 nm2 ix2 l2,h=>by
  rw[Hp] at h;obtain⟨h1,h2,h3,h4,h5⟩:=Hq h;rw[vq h1,Qt h2,vq h3];rw[zT,aJ,aJ] at h4;rw[EO l l2 (by simpa using h4) h5]
theorem EO:∀(l l2:List Ty),l.length=l2.length->Jz l l2=0->l=l2
 | [],[],_,_=>rfl
 | [],_::_,h,_=>by simp at h
 | _::_,[],h,_=>by simp at h
 | t::r,u::v,h,h2=>by
  rw[Jz] at h2
  cases hz:aB (Hp t u) 0 with
  | true=>
   rw[hz] at h2;rw[EM t u (vq hz),EO r v (by simpa using h) h2]
  | false=>
   rw[hz] at h2;dsimp only at h2;rw[h2,eB] at hz;simp at hz
end
mutual
theorem EN:∀t:Ty,Hp t t=0
 | .mk k nm ix l=>by rw[Hp,eB,zV,eB,eB,EP l];rfl
theorem EP:∀l:List Ty,Jz l l=0
 | []=>by simp[Jz]
 | t::r=>by rw[Jz,EN t,eB,EP r]
end
theorem Sd {t u:Ty}:Z8 t u=true↔t=u:=by
 unfold Z8
 constructor
 ·intro h;exact EM t u (vq h)
 rintro rfl;rw[EN,eB]
theorem vv (x:Int):fC x x=0:=by
 unfold fC;rw[show aH x x=false by rw[cW];simp]
theorem Fq:∀x:List UInt8,LG x x=false
 | []=>rfl
 | c::r=>by
  unfold LG;rw[show Nat.blt c.toNat c.toNat=false by simp[Nat.blt_eq,Bool.eq_false_iff],show Nat.beq c.toNat c.toNat=true by simp];exact Fq r
theorem Ml (x:List UInt8):pF x x=0:=by
 unfold pF;rw[Fq,zV];rfl
theorem Mk {x y:List UInt8} (h:pF x y=0):x=y:=by
 unfold pF at h
 cases h1:LG x y with
 | true=>rw[h1] at h;simp at h
 | false=>
  rw[h1] at h
  cases h2:ju x y with
  | true=>exact Qt h2
  | false=>rw[h2] at h;simp at h
mutual
theorem Ca:∀(t u:Ty),nT t u=0->t=u
 | .mk k nm ix l,.mk k2 nm2 ix2 l2,h=>by
  rw[nT] at h
  cases hz:aB (AL [fC k k2,pF nm nm2,fC ix ix2,fC (Int.ofNat (ax l).length) (Int.ofNat (ax l2).length)]) 0 with
  | true=>
   rw[hz] at h;have ho:=zb (pC hz);have h1:=vu (ho (fC k k2) (by simp));have h2:=Mk (ho (pF nm nm2) (by simp));have h3:=vu (ho (fC ix ix2) (by simp));have h4:=zF hz;rw[h1,h2,h3,Cc l l2 h4 h]
  | false=>
   rw[hz] at h;dsimp only at h;rw[h,eB] at hz;simp at hz
theorem Cc:∀(l l2:List Ty),l.length=l2.length->qD l l2=0->l=l2
 | [],[],_,_=>rfl
 | [],_::_,h,_=>by simp at h
 | _::_,[],h,_=>by simp at h
 | t::r,u::v,h,h2=>by
  rw[qD] at h2
  cases hz:aB (nT t u) 0 with
  | true=>
   rw[hz] at h2;rw[Ca t u (vq hz),Cc r v (by simpa using h) h2]
  | false=>
   rw[hz] at h2;dsimp only at h2;rw[h2,eB] at hz;simp at hz
end
mutual
theorem Cb:∀t:Ty,nT t t=0
 | .mk k nm ix l=>by
  rw[nT,vv,Ml,vv,vv,Cd l];rfl
theorem Cd:∀l:List Ty,qD l l=0
 | []=>by simp[qD]
 | t::r=>by rw[qD,Cb t,eB,Cd r]
end
theorem TL {t u:Ty}:MC t u=true↔t=u:=by
 unfold MC
 constructor
 ·intro h;exact Ca t u (vq h)
 rintro rfl;rw[Cb,eB]
theorem Se (t u:Ty):Z8 t u=MC t u:=by
 rw[Bool.eq_iff_iff,Sd,TL]
theorem N9 (t u:Ty) (h:t.size < 1000000000):ae 86 [.dat t.enc,.dat u.enc] (bv (MC t u)):=by
 rw[←Se];exact Sk t u h
noncomputable def aaJ:Hints:=⟨bS,yV,bg,rowsOf bg 197⟩
def Rs (es:List al) (x k:Int):ab:=⟨[(5,iv k),(0,.dat (.slice es)),(1,iv x)],[],[],0⟩
def KY (es:List al) (x k:Int):ab:=⟨[(17,bv false),(5,iv k),(0,.dat (.slice es)),(1,iv x)],[],[],0⟩
theorem uV {es:List al} {x y:Int} {i:Nat} {c1 c2:Bool} (h1:aH (Int.ofNat i) (Int.ofNat es.length)=c1) (h2:c1=true->aq (env ak.aC) 22 [.dat (.slice es),.dat (.flat (.int .i64 (Int.ofNat i)))]=some ⟨.ref [iN y],.keep⟩) (h3:aH y x=c2) {T:Exit->aa->Prop}
  (e1:(c1&&c2)=true->T .normal ((Rs es x (ap .i64 (Int.ofNat i+1))).an Tryz.f197.ntmps)) (e2:(c1&&c2)=false->T (.exit 0) ((KY es x (Int.ofNat i)).an Tryz.f197.ntmps)) :
  KD (roundOf Tryz.f197 0) T ((Rs es x (Int.ofNat i)).an Tryz.f197.ntmps):=by
 refine ay [9,16] [13] (H:=aaJ) (live:=sR) (by kernel_rfl) ?_;refine ob h1 ?_
 cases c1
 ·exact oe (e2 rfl)
 refine oo (h2 rfl) ?_;refine ob h3 ?_
 cases c2
 ·exact oe (e2 rfl)
 exact oe (e1 rfl)
theorem jR {g:FuncId} {args:List ac} {heap:Heap} {next:Nat} {es:List al} {h2:Heap} {m:Nat} (h:KC g args heap next (XQ ⟨.own es,h2,m⟩)):KC g args heap next (XQ ⟨.dat (.slice es),h2,m⟩):=by
 intro w R N cargs bsA bsH bsF ha hh hnd hnx hg hF;refine (h w R N cargs bsA bsH bsF ha hh hnd hnx hg hF).mono ?_;rintro e w' ⟨v,cv,h1,next',R',N',bsV,bsH',rfl,⟨rfl,rfl,rfl⟩,hv,hh',hnd',hnx',hk,hN⟩;refine⟨_,cv,_,_,R',N',[],bsH',rfl,⟨rfl,rfl,rfl⟩,bR (cd hv).rep,hh',?_,hnx',hk,hN⟩;exact (List.nodup_append.1 hnd').2.1
def KX (x k:Int):ab:=⟨[(5,iv k),(0,.dat nl),(1,iv x)],[],[],0⟩
def Jr (x k:Int):ab:=⟨[(17,bv false),(5,iv k),(0,.dat nl),(1,iv x)],[],[],0⟩
theorem Iv {x:Int} {T:Exit->aa->Prop} (e2:T (.exit 0) ((Jr x (Int.ofNat 0)).an Tryz.f197.ntmps)) :
  KD (roundOf Tryz.f197 0) T ((KX x (Int.ofNat 0)).an Tryz.f197.ntmps):=by
 refine ay [] [] (H:=aaJ) (live:=sR) (by kernel_rfl) ?_;exact oe e2
theorem Ti {x:Int} (a2:bU (env ak.aC) false 22 [.own [],.dat (.slice [iN x])] none=some ⟨.own [iN x],.keep⟩):ae 197 [.dat nl,iv x] (.own [iN x]):=by
 have hl:KD (.loop (roundOf Tryz.f197 0)) (fun e s=>e=.exit 0/\s=(Jr x (Int.ofNat 0)).an Tryz.f197.ntmps) ((KX x (Int.ofNat 0)).an Tryz.f197.ntmps):=
  aZ (St:=fun _=>(KX x (Int.ofNat 0)).an Tryz.f197.ntmps) 0 (fun i hi=>absurd hi (Nat.not_lt_zero i)) (Iv ⟨rfl,rfl⟩) (i:=0) (Nat.le_refl _)
 refine co [] [40,44] (x:=.of Tryz.f197 yV sR) ?_;refine lo hl ?_;rintro ex s ⟨rfl,rfl⟩;refine⟨_,rfl,?_⟩;refine oo a2 ?_;refine oo a2 ?_;exact fi
theorem Kt {e0:al} {es p q:List al} {x y:Int} {i:Nat} {c1 c2:Bool} (h1:aH (Int.ofNat i) (Int.ofNat (e0::es).length)=c1) (h2:c1=true->aq (env ak.aC) 22 [.dat (.slice (e0::es)),.dat (.flat (.int .i64 (Int.ofNat i)))]=some ⟨.ref [iN y],.keep⟩) (h3:aB y x=c2)
  (hl:KD (.loop (roundOf Tryz.f197 0)) (fun e s=>e=.exit 0/\s=(KY (e0::es) x (Int.ofNat i)).an Tryz.f197.ntmps) ((Rs (e0::es) x (Int.ofNat 0)).an Tryz.f197.ntmps))
  (s1:eU (env ak.aC) 22 none (some (.tmp 35)) none [.dat (.slice (e0::es)),iv (Int.ofNat i)]=some ⟨.dat (.slice p),.keep⟩)
  (s2:eU (env ak.aC) 22 (some (.tmp 42)) none none [.dat (.slice (e0::es)),iv (Int.ofNat i)]=some ⟨.dat (.slice q),.keep⟩)
  (a1:bU (env ak.aC) false 22 [.own [],.dat (.slice p)] none=some ⟨.own p,.keep⟩)
  (a2:bU (env ak.aC) false 22 [.own p,.dat (.slice [iN x])] none=some ⟨.own (p++[iN x]),.keep⟩)
  (a3:bU (env ak.aC) false 22 [.own (p++[iN x]),.dat (.slice q)] none=some ⟨.own (p++[iN x]++q),.keep⟩) :
  ae 197 [.dat (.slice (e0::es)),iv x] (match c1&&c2 with|true=>.dat (.slice (e0::es))|false=>.own (p++[iN x]++q)):=by
 refine co [23,30] [27,36,43,37,40,44] (x:=.of Tryz.f197 yV sR) ?_;refine lo hl ?_;rintro ex s ⟨rfl,rfl⟩;refine⟨_,rfl,?_⟩;refine ob h1 ?_
 cases c1
 ·refine oo s1 ?_;refine oo s2 ?_;refine oo a1 ?_;refine oo a2 ?_;refine oo a3 ?_;exact fi
 refine oo (h2 rfl) ?_;refine ob h3 ?_
 cases c2
 ·refine oo s1 ?_;refine oo s2 ?_;refine oo a1 ?_;refine oo a2 ?_;refine oo a3 ?_;exact fi
 exact fi
def kW:List Int->Int->Nat
 | [],_=>0
 | y::r,x=>match aH y x with|true=>kW r x+1|false=>0
theorem PV:∀{l:List Int} {x:Int},kW l x<=l.length
 | [],_=>Nat.le_refl _
 | y::r,x=>by
  unfold kW
  split
  ·simp only[List.length_cons];have:=PV (l:=r) (x:=x);omega
  omega
theorem PU:∀{l:List Int} {x:Int} {i:Nat} {y:Int},i < kW l x->l[i]?=some y->aH y x=true
 | [],x,i,y,h,h2=>by simp[kW] at h
 | z::r,x,i,y,h,h2=>by
  unfold kW at h
  cases hz:aH z x with
  | false=>rw[hz] at h;simp at h
  | true=>
   rw[hz] at h
   cases i with
   | zero=>simp at h2;subst h2;exact hz
   | succ i=>simp at h2;exact PU (by simp at h;omega) h2
theorem PW:∀{l:List Int} {x:Int} {y:Int},l[kW l x]?=some y->aH y x=false
 | [],x,y,h=>by simp at h
 | z::r,x,y,h=>by
  unfold kW at h
  cases hz:aH z x with
  | false=>rw[hz] at h;simp at h;subst h;exact hz
  | true=>rw[hz] at h;simp at h;exact PW h
theorem BX {l:List Int} {x:Int} (hs:l.Pairwise (·<=·)):kW l x=l.countP (· < x):=by
 induction l with
 | nil=>rfl
 | cons y r ih=>
  have ih:=ih (List.Pairwise.of_cons hs);unfold kW
  by_cases hy:y < x
  ·rw[cW,decide_eq_true hy,List.countP_cons_of_pos (by simpa using hy),ih]
  rw[cW,decide_eq_false hy];symm;dsimp only;rw[List.countP_eq_zero];intro z hz
  have:y<=z:=by
   rcases List.mem_cons.1 hz with rfl|hz
   ·exact Int.le_refl _
   exact List.rel_of_pairwise_cons hs hz
  simp only[decide_eq_true_eq];omega
def Dm (l:List Int) (x:Int):List Int:=match l[kW l x]? with|some y=>(match aB y x with|true=>l|false=>eY l (kW l x) x)|none=>eY l (kW l x) x
theorem FC {l:List Int} {x:Int} (hs:l.Pairwise (·<=·)):Dm l x=iI l x:=by
 obtain⟨c1,c2⟩:=countP_split (x:=x) hs;unfold Dm iI;rw[←BX hs];rw[←BX hs] at c1 c2
 cases hc:l.contains x with
 | true=>
  have hm:x∈l:=by simpa using hc
  have hd:x∈l.drop (kW l x):=by
   rcases List.mem_append.1 ((List.take_append_drop (kW l x) l).symm ▸ hm) with h|h
   ·exact absurd (c1 x h) (Int.lt_irrefl x)
   exact h
  have hlt:kW l x < l.length:=by
   rcases Nat.lt_or_ge (kW l x) l.length with h|h
   ·exact h
   rw[List.drop_eq_nil_of_le h] at hd;simp at hd
  have hg:l[kW l x]?=some l[kW l x]:=List.getElem?_eq_getElem hlt;have hge:x<=l[kW l x]:=c2 _ (by rw[List.drop_eq_getElem_cons hlt];exact List.mem_cons_self);have hle:l[kW l x]<=x:=by
   have hp:(l.drop (kW l x)).Pairwise (·<=·):=hs.sublist (List.drop_sublist _ _);rw[List.drop_eq_getElem_cons hlt] at hp hd
   rcases List.mem_cons.1 hd with h|h
   ·omega
   exact List.rel_of_pairwise_cons hp h
  rw[hg];dsimp only;rw[show l[kW l x]=x by omega,eB]
 | false=>
  have hm:x∉l:=by intro h;rw[List.contains_iff_mem.2 h] at hc;simp at hc
  cases hg:l[kW l x]? with
  | none=>rfl
  | some y=>
   dsimp only
   have:aB y x=false:=by
    rw[ct]
    have:y≠x:=by rintro rfl;exact hm (List.mem_of_getElem? hg)
    simpa using this
   rw[this]
theorem gD {a b:List Int} (h:a.length+b.length < 1000000000):bU (env ak.aC) false 22 [.own (a.map iN),.dat (.slice (b.map iN))] none=some ⟨.own (a.map iN++b.map iN),.keep⟩:=by
 refine xB (i:=ri) (ds:=b.map iN) (k:=0) Cy rfl fe ?_ ?_ (by kernel_rfl) ?_ ?_ ?_ (by simp)
 ·exact kj (fun d hd=>by obtain⟨x,_,rfl⟩:=List.mem_map.1 hd;rfl)
 ·exact kj (fun d hd=>by obtain⟨x,_,rfl⟩:=List.mem_map.1 hd;rfl)
 ·have h1:ri.bytes<=1000:=fM (by kernel_rfl);simp only[List.length_map]
  calc (a.length+b.length)*ri.bytes<=1000000000*1000:=Nat.mul_le_mul (by omega) h1
   _<=140737488355328:=by decide
 ·simp[lim];omega
 have hb:eZ (a.map iN++b.map iN)=false:=by
  rw[←List.map_append]
  cases a++b with
  | nil=>rfl
  | cons x r=>rfl
 unfold jI;rw[hb]
theorem rk (l:List Int):sizedB 1 (l.map iN)=true:=kj (fun d hd=>by obtain⟨x,_,rfl⟩:=List.mem_map.1 hd;rfl)
theorem Ew {l:List Int} {i:Nat} (h:i<=l.length) (x:Operand):eU (env ak.aC) 22 none (some x) none [.dat (.slice (l.map iN)),iv (Int.ofNat i)]=some ⟨.dat (.slice ((l.take i).map iN)),.keep⟩:=by
 have h1:ak.aC.sub ri.size (l.map iN) none (some (Int.ofNat i))=some ((l.take i).map iN):=by
  rw[fe];show (match sizedB 1 (l.map iN),Nat.blt 0 1 with
   | true,true=>(match eh (some (Int.ofNat i)) (l.map iN).length,eh none 0 with
    | some h,some lo=>(match Nat.ble lo h,Nat.ble h (l.map iN).length with|true,true=>some (((l.map iN).take h).drop lo)|_,_=>none)
    | _,_=>none)
   | _,_=>none)=_
  rw[rk];have e1:eh (some (Int.ofNat i)) (l.map iN).length=some i:=rfl;have e2:Nat.ble i (l.map iN).length=true:=by rw[Nat.ble_eq];simpa using h
  rw[e1];dsimp only[eh];rw[e2];simp[Nat.ble,List.map_take];rfl
 have h2:eU (env ak.aC) 22 none (some x) none [.dat (.slice (l.map iN)),iv (Int.ofNat i)]=wU (match ak.aC.sub ri.size (l.map iN) none (some (Int.ofNat i)) with|some r=>some (.dat (.slice r))|none=>none):=by kernel_rfl
 rw[h2,h1];rfl
theorem yg {l:List Int} {i:Nat} (h:i<=l.length) (x:Operand):eU (env ak.aC) 22 (some x) none none [.dat (.slice (l.map iN)),iv (Int.ofNat i)]=some ⟨.dat (.slice ((l.drop i).map iN)),.keep⟩:=by
 have h1:ak.aC.sub ri.size (l.map iN) (some (Int.ofNat i)) none=some ((l.drop i).map iN):=by
  rw[fe];show (match sizedB 1 (l.map iN),Nat.blt 0 1 with
   | true,true=>(match eh none (l.map iN).length,eh (some (Int.ofNat i)) 0 with
    | some h,some lo=>(match Nat.ble lo h,Nat.ble h (l.map iN).length with|true,true=>some (((l.map iN).take h).drop lo)|_,_=>none)
    | _,_=>none)
   | _,_=>none)=_
  rw[rk];have e1:eh (some (Int.ofNat i)) 0=some i:=rfl;have e2:Nat.ble i (l.map iN).length=true:=by rw[Nat.ble_eq];simpa using h
  have e3:Nat.ble (l.map iN).length (l.map iN).length=true:=by rw[Nat.ble_eq];exact Nat.le_refl _
  rw[e1];dsimp only[eh];rw[e2,e3,List.take_length];simp[List.map_drop];rfl
 have h2:eU (env ak.aC) 22 (some x) none none [.dat (.slice (l.map iN)),iv (Int.ofNat i)]=wU (match ak.aC.sub ri.size (l.map iN) (some (Int.ofNat i)) none with|some r=>some (.dat (.slice r))|none=>none):=by kernel_rfl
 rw[h2,h1];rfl
theorem aaj {l:List Int} {x:Int} (hn:l.length < 100000000):ae 197 [.dat (sl (l.map iN)),iv x] (.dat (sl ((Dm l x).map iN))):=by
 cases l with
 | nil=>exact jR (Ti (gD (a:=[]) (b:=[x]) (by simp)))
 | cons y0 r=>
  obtain⟨l,hl⟩:∃l,l=y0::r:=⟨_,rfl⟩;have hnl:(l.map iN)=iN y0::r.map iN:=by rw[hl];rfl
  have hne:sl (l.map iN)=.slice (l.map iN):=by rw[hnl];rfl
  rw[←hl] at hn ⊢;have hle:=PV (l:=l) (x:=x);have hloop:KD (.loop (roundOf Tryz.f197 0)) (fun e s=>e=.exit 0/\s=(KY (l.map iN) x (Int.ofNat (kW l x))).an Tryz.f197.ntmps) ((Rs (l.map iN) x (Int.ofNat 0)).an Tryz.f197.ntmps):=by
   refine aZ (St:=fun i=>(Rs (l.map iN) x (Int.ofNat i)).an Tryz.f197.ntmps) (kW l x) ?_ ?_ (i:=0) (Nat.zero_le _)
   ·intro i hi;have hil:i < l.length:=by omega
    have hg:l[i]?=some l[i]:=List.getElem?_eq_getElem hil;refine @uV _ _ (l[i]) _ true true (bc (by simpa using hil)) (fun _=>uY hg) (PU hi hg) _ (fun _=>?_) (fun h=>by simp at h);rw[ba (by omega)];rfl
   cases hg:l[kW l x]? with
   | none=>
    have:l.length<=kW l x:=by simpa using hg
    exact @uV _ _ 0 _ false (aH 0 x) (bW (by simp;omega)) (fun h=>by simp at h) rfl _ (fun h=>by simp at h) (fun _=>⟨rfl,rfl⟩)
   | some y=>
    have hil:=(List.getElem?_eq_some_iff.1 hg).1;exact @uV _ _ y _ true false (bc (by simpa using hil)) (fun _=>uY hg) (PW hg) _ (fun h=>by simp at h) (fun _=>⟨rfl,rfl⟩)
  have s1:=Ew (l:=l) hle (.tmp 35);have s2:=yg (l:=l) hle (.tmp 42);have a1:=gD (a:=[]) (b:=l.take (kW l x)) (by simp;omega);have a2:=gD (a:=l.take (kW l x)) (b:=[x]) (by simp;omega);have a3:=gD (a:=l.take (kW l x)++[x]) (b:=l.drop (kW l x)) (by simp;omega);rw[List.map_append] at a3;have hins:sl ((eY l (kW l x) x).map iN)=.slice ((l.take (kW l x)).map iN++[x].map iN++(l.drop (kW l x)).map iN):=by
   have:(eY l (kW l x) x).map iN=(l.take (kW l x)).map iN++[x].map iN++(l.drop (kW l x)).map iN:=by simp[eY]
   rw[←this]
   cases h:(eY l (kW l x) x).map iN with
   | nil=>simp[eY] at h
   | cons _ _=>rfl
  rw[hnl] at s1 s2 hloop hne;rw[hnl,hne];unfold Dm
  cases hg:l[kW l x]? with
  | none=>
   have:l.length<=kW l x:=by simpa using hg
   have h:=@Kt _ _ _ _ _ 0 _ false (aB 0 x) (bW (by rw[←hnl];simp;omega)) (fun h=>by simp at h) rfl hloop s1 s2 a1 a2 a3;dsimp only;rw[hins];exact jR h
  | some y=>
   have hil:=(List.getElem?_eq_some_iff.1 hg).1;have h:=@Kt _ _ _ _ _ y _ true (aB y x) (bc (by rw[←hnl];simpa using hil)) (fun _=>by rw[←hnl];exact uY hg) rfl hloop s1 s2 a1 a2 a3;dsimp only;generalize aB y x=c at h
   cases c
   ·dsimp only;rw[hins];exact jR h
   dsimp only;rw[hnl];exact h
noncomputable def hRF:Hints:=⟨bS,uK,bg,rowsOf bg 182⟩
def YO (lo:Heap) (u:Nat) (s:al) (i:Int):ab:=⟨[(7,iv i),(3,.ptr (.loc 3) 0),(1,iv (Int.ofNat u)),(2,.dat s)],lo,[],0⟩
def Vx (lo:Heap) (u:Nat) (s:al) (i:Int):ab:=⟨[(27,bv false),(7,iv i),(3,.ptr (.loc 3) 0),(1,iv (Int.ofNat u)),(2,.dat s)],lo,[],0⟩
def YJ (c6 c1:Bool):Int:=match c6 with|true=>(match c1 with|true=>1|false=>0)|false=>0
theorem Ra (k:Int) (i:Nat):Int.ofNat (dU k i)=YJ (aB k 6) (aB (Int.ofNat i) (Int.ofNat 1)):=by
 unfold dU;rw[zT]
 cases aB k 6
 ·simp[YJ]
 by_cases h:i=1
 ·subst h;rfl
 simp[YJ,h]
theorem rb (k:Int) (nm:List UInt8) (ix:Int) (a:List al) (i:Nat):ae 198 [.dat (.agg [i64 k,sb nm,i64 ix,sl a]),iv (Int.ofNat i)] (iv (Int.ofNat (dU k i))):=by
 rw[Ra];generalize h6:aB k 6=c6;generalize h1:aB (Int.ofNat i) (Int.ofNat 1)=c1
 rcases a with _|⟨x,a⟩ <;>
 ·refine co [7,10] [] (x:=.of Tryz.f198 HF J4) ?_;refine ob h6 ?_
  cases c6
  ·exact fi
  refine ob h1 ?_
  cases c1 <;>
  ·exact fi
theorem NM {k:Int} {nm:List UInt8} {ix:Int} {x:al} {es:List al} {l:List Ty} {t:Ty} {i u b:Nat} {s s2:List al} (hl:ax l=x::es) (hi:i < (ax l).length) (ht:l[i]?=some t)
  (hb:ae 198 [.dat (.agg [i64 k,sb nm,i64 ix,.slice (x::es)]),iv (Int.ofNat i)] (iv (Int.ofNat b)))
  (hc:ae 182 [.dat t.enc,iv (ap .i64 (Int.ofNat u+Int.ofNat b)),.dat (sl s)] (.dat (sl s2))) {T:Exit->aa->Prop}
  (e:T .normal ((YO (jT 3 k nm ix (.slice (x::es))) u (sl s2) (ap .i64 (Int.ofNat i+1))).an Tryz.f182.ntmps)) :
  KD (roundOf Tryz.f182 0) T ((YO (jT 3 k nm ix (.slice (x::es))) u (sl s) (Int.ofNat i)).an Tryz.f182.ntmps):=by
 have h1:=bc hi;have h2:=oF ht;rw[hl] at h1 h2;clear ht hi hl;obtain⟨k2,nm2,ix2,a2⟩:=t
 rcases a2 with _|⟨b2,d2⟩ <;>
 ·rcases s with _|⟨y,s⟩ <;>
  ·refine ay [27] [33] (H:=hRF) (live:=nv) (by kernel_rfl) ?_;refine ob h1 ?_;refine oo h2 ?_;refine on hb ?_;refine on hc ?_;exact oe e
theorem R7 {k:Int} {nm:List UInt8} {ix:Int} {l s:List al} {u:Nat} {T:Exit->aa->Prop} (e:T (.exit 0) ((Vx (jT 3 k nm ix (sl l)) u (sl s) (Int.ofNat l.length)).an Tryz.f182.ntmps)) :
  KD (roundOf Tryz.f182 0) T ((YO (jT 3 k nm ix (sl l)) u (sl s) (Int.ofNat l.length)).an Tryz.f182.ntmps):=by
 have h1:=bW (i:=l.length) (L:=l.length) (by omega)
 rcases l with _|⟨x,l⟩
 ·refine ay [] [] (H:=hRF) (live:=nv) (by kernel_rfl) ?_;exact oe e
 refine ay [27] [] (H:=hRF) (live:=nv) (by kernel_rfl) ?_;refine ob h1 ?_;exact oe e
theorem NN {k:Int} {nm:List UInt8} {ix:Int} {l s s1 s2:List al} {u:Nat} {ck cg:Bool} (hk:aB k 5=ck) (hg:aH ix (Int.ofNat u)=cg)
  (ha:ck=true->cg=false->ae 197 [.dat (sl s),iv (ap .i64 (ix - Int.ofNat u))] (.dat (sl s1))) (he:ck=false∨cg=true->s1=s)
  (hl:KD (.loop (roundOf Tryz.f182 0)) (fun e s'=>e=.exit 0/\s'=(Vx (jT 3 k nm ix (sl l)) u (sl s2) (Int.ofNat l.length)).an Tryz.f182.ntmps) ((YO (jT 3 k nm ix (sl l)) u (sl s1) (Int.ofNat 0)).an Tryz.f182.ntmps)) :
  ae 182 [.dat (.agg [i64 k,sb nm,i64 ix,sl l]),iv (Int.ofNat u),.dat (sl s)] (.dat (sl s2)):=by
 rcases l with _|⟨x,l⟩ <;>
 ·rcases s with _|⟨y,s⟩ <;>
  ·cases ck
   ·obtain rfl:=he (.inl rfl);clear he ha;refine co [10] [] (x:=.of Tryz.f182 uK nv) ?_;refine ob hk ?_;refine lo hl ?_;rintro ex s ⟨rfl,rfl⟩;refine⟨_,rfl,?_⟩;exact fi
   cases cg
   ·have ha2:=ha rfl rfl;clear he ha;refine co [10,15] [] (x:=.of Tryz.f182 uK nv) ?_;refine ob hk ?_;refine ox hg ?_;refine on ha2 ?_;refine lo hl ?_;rintro ex s ⟨rfl,rfl⟩;refine⟨_,rfl,?_⟩;exact fi
   obtain rfl:=he (.inr rfl);clear he ha;refine co [10,15] [] (x:=.of Tryz.f182 uK nv) ?_;refine ob hk ?_;refine ox hg ?_;refine lo hl ?_;rintro ex s ⟨rfl,rfl⟩;refine⟨_,rfl,?_⟩;exact fi
def NH (k ix:Int) (u:Nat) (s:List Int):List Int:=match aB k 5 with|false=>s|true=>(match aH ix (Int.ofNat u) with|true=>s|false=>Dm s (ix - Int.ofNat u))
theorem NG {k ix:Int} {u:Nat} {s:List Int} (h:s.Pairwise (·<=·)):NH k ix u s=ew k ix u s:=by
 unfold NH ew
 cases aB k 5 <;> cases aH ix (Int.ofNat u) <;> first|rfl|exact FC h
def RF (t:Ty) (u:Nat) (s:List Int):Prop:=ae 182 [.dat t.enc,iv (Int.ofNat u),.dat (sl (s.map iN))] (.dat (sl ((t.cf u s).map iN)))
theorem Wb {k:Int} {nm:List UInt8} {ix:Int} {l:List Ty} {u b:Nat} {s:List Int} (hs:fZ b s) (hbd:b+1+aT l < 100000000) (hu:u < 1000000000) (hix:aB k 5=true->aH ix 9223372036854775808=true)
  (ih:∀t∈l,∀v s2,v<=u+1->fZ (b+1+aT l) s2->(∃b2,fZ b2 s2/\b2+t.size<=b+1+aT l)->RF t v s2):RF (.mk k nm ix l) u s:=by
 have hlen:=gf l;have hs1:=@yy _ k ix u _ hs;have ha:aB k 5=true->aH ix (Int.ofNat u)=false->ae 197 [.dat (sl (s.map iN)),iv (ap .i64 (ix - Int.ofNat u))] (.dat (sl ((ew k ix u s).map iN))):=by
  intro hk hg;rw[←NG hs.1];unfold NH;rw[hk,hg];have hix:=hix hk;rw[cW] at hg hix;simp only[decide_eq_false_iff_not,decide_eq_true_eq] at hg hix;have e:ap .i64 (ix - Int.ofNat u)=ix - Int.ofNat u:=by
   rw[cF];simp only[Int.ofNat_eq_natCast] at hg ⊢;exact wrap_i64 (by omega) (by omega)
  rw[e];exact aaj (by have:=hs.2;omega)
 have he:aB k 5=false∨aH ix (Int.ofNat u)=true->(ew k ix u s).map iN=s.map iN:=by
  unfold ew;rintro (h|h)
  ·rw[h]
  rw[h];cases aB k 5 <;> rfl
 refine NN rfl rfl ha he ?_;refine aZ (St:=fun i=>(YO (jT 3 k nm ix (sl (ax l))) u (sl ((qV k (l.take i) 0 u (ew k ix u s)).map iN)) (Int.ofNat i)).an Tryz.f182.ntmps) (ax l).length ?_ ?_ (i:=0) (Nat.zero_le _)
 ·intro i hi;obtain⟨t,ht,hmem⟩:=get_mem hi;have hi2:=hi;rw[aJ] at hi2;have hbn:dU k i<=1:=by unfold dU;split <;> omega
  obtain⟨x,es,hx⟩:∃x es,ax l=x::es:=by
   cases hl:ax l with
   | nil=>rw[hl] at hi;simp at hi
   | cons x es=>exact⟨x,es,rfl⟩
  have hst:=kC ht;have hsl:=se (l:=l) (i+1);have hpre:fZ (b+1+aT (l.take i)) (qV k (l.take i) 0 u (ew k ix u s)):=DJ _ u hs1;have hcf:=ih t hmem (u+dU k i) (qV k (l.take i) 0 u (ew k ix u s)) (by omega) ⟨hpre.1,by have:=hpre.2;omega⟩ ⟨_,hpre,by omega⟩;unfold RF at hcf;rw[←wrap_add (n:=u) (m:=dU k i) (by omega)] at hcf;have hbi:=rb k nm ix (x::es) i;have e:=NM (T:=sj (fun s'=>s'=(YO (jT 3 k nm ix (sl (ax l))) u (sl ((qV k (l.take (i+1)) 0 u (ew k ix u s)).map iN)) (Int.ofNat (i+1))).an Tryz.f182.ntmps)
   (fun e s'=>e=.exit 0/\s'=(Vx (jT 3 k nm ix (sl (ax l))) u (sl (((Ty.mk k nm ix l).cf u s).map iN)) (Int.ofNat (ax l).length)).an Tryz.f182.ntmps)) hx hi ht hbi hcf (by
    rw[hx,ba (by omega),Gj ht];rfl)
  rw[hx];rw[hx] at e;exact e
 refine R7 ⟨rfl,?_⟩;rw[aJ,List.take_length,Ty.cf]
mutual
theorem N7:∀(t:Ty) (u:Nat) {b:Nat} {s:List Int},fZ b s->b+t.size < 100000000->u+t.depth < 1000000000->t.gJ->RF t u s
 | .mk k nm ix l,u,b,s,hs,hb,hu,hx=>by
  simp only[Ty.size] at hb;simp only[Ty.depth] at hu;simp only[Ty.gJ] at hx;exact Wb hs (by omega) (by omega) hx.1 (JD l u (by omega) (by omega) hx.2)
theorem JD:∀(l:List Ty) (u:Nat) {B:Nat},u+cK l+1 < 1000000000->B < 100000000->eO l->∀t∈l,∀v s2,v<=u+1->fZ B s2->(∃b2,fZ b2 s2/\b2+t.size<=B)->RF t v s2
 | [],u,B,hu,_,hx,t,ht,_,_,_,_,_=>by simp at ht
 | y::r,u,B,hu,hB,hx,t,ht,v,s2,hv,h1,h2=>by
  simp only[cK] at hu;simp only[eO] at hx
  rcases List.mem_cons.1 ht with h3|ht
  ·obtain⟨b2,h4,h5⟩:=h2;rw[h3] at h5 ⊢;exact N7 y v h4 (by omega) (by omega) hx.1
  exact JD r u (by omega) hB hx.2 t ht v s2 hv h1 h2
end
theorem V1 {k:Int} {nm:List UInt8} {ix:Int} {l s:List al} (h:ae 182 [.dat (.agg [i64 k,sb nm,i64 ix,sl l]),iv (Int.ofNat 0),.dat nl] (.dat (sl s))):ae 154 [.dat (.agg [i64 k,sb nm,i64 ix,sl l])] (.dat (sl s)):=by
 rcases l with _|⟨x,l⟩ <;>
 ·rcases s with _|⟨y,s⟩ <;>
  ·refine co [] [] (x:=.of Tryz.f154 HP Ke) ?_;refine on h ?_;exact fi
theorem Ht {t:Ty} (hs:t.size < 100000000) (hx:t.gJ):ae 154 [.dat t.enc] (.dat (sl (t.fv.map iN))):=by
 have h1:RF t 0 []:=N7 t 0 (b:=0) ⟨List.Pairwise.nil,Nat.le_refl 0⟩ (by omega) (by have:=nS t;omega) hx;unfold RF at h1;unfold Ty.fv;obtain⟨k,nm,ix,l⟩:=t;exact V1 h1
def Ks {α:Type}:List α->Bool
 | []=>true
 | _=>false
theorem We {k:Int} {nm:List UInt8} {ix:Int} {l s:List al} (h:ae 154 [.dat (.agg [i64 k,sb nm,i64 ix,sl l])] (.dat (sl s))):ae 108 [.dat (.agg [i64 k,sb nm,i64 ix,sl l])] (bv (Ks s)):=by
 rcases l with _|⟨x,l⟩ <;>
 ·rcases s with _|⟨y,s⟩ <;>
  ·refine co [] [] (x:=.of Tryz.f108 HW Kl) ?_;refine on h ?_;exact fi
theorem ES {t:Ty} (hs:t.size < 100000000) (hx:t.gJ):ae 108 [.dat t.enc] (bv (Ks t.fv)):=by
 have h:=Ht hs hx;have e:Ks t.fv=Ks (t.fv.map iN):=by cases t.fv <;> rfl
 rw[e];obtain⟨k,nm,ix,l⟩:=t;exact We h
def fg (n s:Int) (u:Bool):Bool:=(aB n 0&&!u)||(u&&(!aH n 0&&aH n s))
def dS (n s:Int):Bool:=!aH n 0&&aH n s
def Ins.unary (x:Ins):Bool:=aB x.op 3&&aB x.im 5
def Ik (x:Ins):Int:=Int.ofNat x.ar.length
def E7 (sl:Int) (x:Ins) (s:ke):Bool:=x.ar.all (fun n=>fg n sl s.ar)&&((s.ar||aB (Ik x) 0)&&(!aH 6 (Ik x)&&(fg x.dst sl s.dst&&(fg x.a sl s.a&&fg x.b sl (s.b&&!x.unary)))))
def FE (ni ne:Int) (op im:Int):Bool:=
 if (aB op 12||aB op 13)=true then !aH im 0&&aH im ni
 else if aB op 3=true then !aH im 1&&!aH 7 im
 else if aB op 8=true then !aH im 0&&aH im 6
 else if aB op 17=true then !aH im 0&&aH im ne
 else if (aB op 20||aB op 22)=true then !aH im 1
 else aB im 0
def ey (n:Nat):Bool:=!Nat.blt n 32&&!Nat.blt 126 n
def mg (k i:Int) (s:List UInt8):Bool:=
 if (!aB k 3&&!ju s [])=true then false
 else if aB k 0=true then aB i 0
 else if aB k 1=true then true
 else if aB k 2=true then aB i 0||aB i 1
 else if aB k 3=true then s.all (fun c=>ey c.toNat)&&(aB i 0&&!aH 2000 (Int.ofNat s.length))
 else false
def rM (k i:Int) (s:List UInt8):Bool:=
 if (!aB k 3&&!ju s [])=true then false
 else if (!aB k 1&&(!aB k 2&&!aB i 0))=true then false
 else if s.all (fun c=>ey c.toNat)=false then false
 else if (aB k 0||aB k 1)=true then true
 else if aB k 2=true then aB i 0||aB i 1
 else if aB k 3=true then !aH 2000 (Int.ofNat s.length)
 else false
theorem TN (a b:List UInt8):ju a b=true↔a=b:=by rw[vr];simp
theorem QN (k i:Int) (s:List UInt8):mg k i s=rM k i s:=by
 by_cases hs:s=[]
 ·subst hs;simp only[mg,rM,ct,cW,ju,List.all_nil,List.length_nil]
  by_cases h0:k=0
  ·subst h0;simp
   by_cases hi:i=0 <;> simp[hi]
  by_cases h1:k=1
  ·subst h1;simp
  by_cases h2:k=2
  ·subst h2;simp
  by_cases h3:k=3
  ·subst h3;simp
   by_cases hi:i=0 <;> simp[hi]
  simp[h0,h1,h2,h3]
 have hb:ju s []=false:=by
  rw[Bool.eq_false_iff];intro h;exact hs ((TN s []).1 h)
 simp only[mg,rM,hb,ct,cW]
 by_cases h3:k=3
 ·subst h3
  cases ha:s.all (fun c=>ey c.toNat) <;> by_cases hi:i=0 <;> simp[hi]
 simp[h3]
def A8 (k i:Int) (s:List UInt8):Bool:=aB k 0&&(aB i 0&&ju s [])
theorem IU (k i:Int) (s:List UInt8):(mg k i s&&aB k 0)=A8 k i s:=by
 unfold A8 mg;simp only[ct]
 by_cases h0:k=0
 ·subst h0
  cases hb:ju s [] <;> simp
 have h1:(k==0)=false:=by simpa using h0
 rw[h1,Bool.and_false,Bool.false_and]
def tyP (u:Bool) (t:Ty):Bool:=if u=true then (aB t.validate 0&&Ks t.fv) else MC t (.mk 0 [] 0 [])
def ig (ni ne sl:Int) (x:Ins):Bool:=
 match dI x.op with
 | none=>false
 | some s=>E7 sl x s&&(FE ni ne x.op x.im&&((if s.nm=true then isIdent x.nm else ju x.nm [])&&(tyP s.ty x.ty&&(mg x.ck x.ci x.cs&&(s.con||aB x.ck 0)))))
def Sv (sl:Int) (x:Ins) (s:ke):Bool:=(!(s.dst&&!dS x.dst sl)&&(!(s.a&&!dS x.a sl)&&(!(s.b&&!dS x.b sl)&&!aH 6 (Ik x))))&&x.ar.all (fun n=>dS n sl)
def noR (x:Ins) (s:ke):Bool:=(s.dst||aB x.dst 0)&&((s.a||aB x.a 0)&&((s.b||aB x.b 0)&&((s.im||aB x.im 0)&&((s.nm||ju x.nm [])&&((s.ar||!aH 0 (Ik x))&&((s.ty||MC x.ty (.mk 0 [] 0 []))&&(s.con||A8 x.ck x.ci x.cs)))))))
def RI (x:Ins) (s:ke):Bool:=(!s.nm||isIdent x.nm)&&((!s.ty||(aB x.ty.validate 0&&Ks x.ty.fv))&&(!s.con||rM x.ck x.ci x.cs))
def P3 (ni ne:Int) (x:Ins):Bool:=
 if (aB x.op 12||aB x.op 13)=true then !aH x.im 0&&aH x.im ni
 else if aB x.op 3=true then !aH x.im 1&&(!aH 7 x.im&&(!aB x.im 5||aB x.b 0))
 else if aB x.op 8=true then !aH x.im 0&&aH x.im 6
 else if aB x.op 17=true then !aH x.im 0&&aH x.im ne
 else if (aB x.op 20||aB x.op 22)=true then !aH x.im 1
 else true
def Dl (ni ne sl:Int) (x:Ins):Bool:=
 match dI x.op with
 | none=>false
 | some s=>noR x s&&(Sv sl x s&&(RI x s&&P3 ni ne x))
theorem oP {op:Int} {s:ke} (h:dI op=some s):∃n:Nat,op=Int.ofNat n/\1<=n/\n<=22/\jL n=some s:=by
 cases h1:aH op 1 with
 | true=>rw[CI h1] at h;exact absurd h (by simp)
 | false=>
  cases h2:aH op 23 with
  | false=>rw[CJ h2] at h;exact absurd h (by simp)
  | true=>
   obtain⟨n,rfl,a,b⟩:=yk h1 h2;exact⟨n,rfl,a,b,h⟩
theorem T0 (sl:Int) (u:Bool) (l:List Int):(l.all (fun n=>fg n sl u)&&(u||aB (Int.ofNat l.length) 0))=((u||!aH 0 (Int.ofNat l.length))&&l.all (fun n=>dS n sl)):=by
 cases u
 ·cases l with
  | nil=>simp[ct,cW]
  | cons a r=>
   have:¬((r.length:Int)+1=0):=by omega
   simp[ct,cW,this]
 simp[fg,dS]
theorem rj (n sl:Int) (u:Bool):fg n sl u=((u||aB n 0)&&!(u&&!dS n sl)):=by
 cases u <;> simp[fg,dS]
theorem LQ {ni ne:Int} {x:Ins} {s:ke} (h:dI x.op=some s) (hu:x.unary=false):FE ni ne x.op x.im=((s.im||aB x.im 0)&&P3 ni ne x):=by
 obtain⟨op,dst,a,b,im,nm,az,ar,ty,ck,ci,cs⟩:=x;obtain⟨n,h1,h2,h3,h4⟩:=oP h;simp only at h1;subst h1;have hc:n=1∨n=2∨n=3∨n=4∨n=5∨n=6∨n=7∨n=8∨n=9∨n=10∨n=11∨n=12∨n=13∨n=14∨n=15∨n=16∨n=17∨n=18∨n=19∨n=20∨n=21∨n=22:=by omega
 clear h2 h3 h
 rcases hc with rfl|rfl|rfl|rfl|rfl|rfl|rfl|rfl|rfl|rfl|rfl|rfl|rfl|rfl|rfl|rfl|rfl|rfl|rfl|rfl|rfl|rfl <;>
 ·simp only[jL,Option.some.injEq] at h4;subst h4;simp[FE,P3,ct]
  try
   have hu2:(im==5)=false:=by
    have hu3:(aB 3 3&&aB im 5)=false:=hu;rw[show aB 3 3=true from rfl,Bool.true_and,ct] at hu3;exact hu3
   rw[hu2];simp
theorem Pm (u:Bool) (nm:List UInt8):(if u=true then isIdent nm else ju nm [])=((u||ju nm [])&&(!u||isIdent nm)):=by
 cases u <;> simp
theorem ML (u:Bool) (t:Ty):tyP u t=((u||MC t (.mk 0 [] 0 []))&&(!u||(aB t.validate 0&&Ks t.fv))):=by
 cases u <;> simp[tyP]
theorem Mg (u:Bool) (k i:Int) (s:List UInt8):(mg k i s&&(u||aB k 0))=((u||A8 k i s)&&(!u||rM k i s)):=by
 cases u
 ·have:=IU k i s
  simp only[Bool.false_or,Bool.not_false,Bool.true_or,Bool.and_true];exact this
 simp[QN]
theorem WI (ni ne sl:Int) (x:Ins):ig ni ne sl x=Dl ni ne sl x:=by
 unfold ig Dl
 cases h:dI x.op with
 | none=>rfl
 | some s=>
  show (E7 sl x s&&(FE ni ne x.op x.im&&((if s.nm=true then isIdent x.nm else ju x.nm [])&&(tyP s.ty x.ty&&(mg x.ck x.ci x.cs&&(s.con||aB x.ck 0))))))=(noR x s&&(Sv sl x s&&(RI x s&&P3 ni ne x)));have ha:=T0 sl s.ar x.ar;rw[Mg,ML,Pm]
  cases hu:x.unary with
  | false=>
   rw[LQ h hu];unfold E7 Sv noR RI Ik;rw[hu,rj x.dst,rj x.a,rj x.b,Bool.not_false,Bool.and_true];rw[←Bool.and_assoc (x.ar.all _),ha];simp only[Bool.and_assoc,Bool.and_comm,Bool.and_left_comm]
  | true=>
   have hu2:=hu;obtain⟨n,h1,h2,h3,h4⟩:=oP h;simp only[Ins.unary,ct,Bool.and_eq_true,beq_iff_eq] at hu2;obtain⟨ho,hi⟩:=hu2;rw[ho] at h;have hs:s=⟨[112,114,105,109],true,true,true,true,false,false,false,false,false,false,false⟩:=by
    have:dI 3=some ⟨[112,114,105,109],true,true,true,true,false,false,false,false,false,false,false⟩:=rfl
    rw[this] at h;exact (Option.some.inj h).symm
   subst hs;unfold E7 Sv noR RI Ik FE P3;rw[hu,ho,hi];have e1:∀n,fg n sl true=dS n sl:=fun n=>by simp[fg,dS]
   have e2:fg x.b sl false=aB x.b 0:=by simp[fg]
   have ha':(x.ar.all (fun n=>fg n sl false)&&(false||aB (Int.ofNat x.ar.length) 0))=((false||!aH 0 (Int.ofNat x.ar.length))&&x.ar.all (fun n=>dS n sl)):=ha;simp only[Bool.not_true,Bool.and_false,e1,e2];rw[←Bool.and_assoc (x.ar.all _),ha'];have e3:(dS x.dst sl&&aB x.b 0)=(dS x.dst sl&&(dS x.b sl&&aB x.b 0)):=by
    simp only[dS,ct,cW]
    by_cases hb:x.b=0
    ·rw[hb]
     by_cases hd:x.dst < 0 <;> by_cases hd2:x.dst < sl <;> simp[hd,hd2]
     omega
    have:(x.b==0)=false:=by simpa using hb
    rw[this];simp
   have n1:aB 3 12=false:=rfl;have n2:aB 3 13=false:=rfl;have n3:aB 3 3=true:=rfl;have n4:aH 5 1=false:=rfl;have n5:aH 7 5=false:=rfl;have n6:aB 5 5=true:=rfl;simp only[n1,n2,n3,n4,n5,n6,Bool.or_self,Bool.or_false,Bool.false_or,Bool.true_or,Bool.not_true,Bool.not_false,Bool.true_and,Bool.and_true,if_true,Bool.false_eq_true,if_false,Bool.not_not];generalize aB x.b 0=q at *;generalize dS x.b sl=q2 at *;generalize dS x.dst sl=q1 at *;generalize dS x.a sl=q3 at *
   cases q1 <;> cases q <;> cases q2 <;> cases q3 <;> simp at e3 ⊢
   simp only[Bool.and_assoc,Bool.and_comm,Bool.and_left_comm]
def cV (d:al):Prop:=d=nl∨∃es,d=.slice es
theorem dz (l:List al):cV (sl l):=by cases l with|nil=>exact .inl rfl|cons a b=>exact .inr ⟨_,rfl⟩
theorem dH (z:Bool) (l:List al):cV (sx z l):=by
 cases l with
 | nil=>cases z with
  | true=>exact .inr ⟨_,rfl⟩
  | false=>exact .inl rfl
 | cons a b=>exact .inr ⟨_,rfl⟩
def aP (p s:Int) (d1 d2:al):al:=.agg [i64 p,i64 s,d1,d2]
def eb (op dst a b im:Int) (nm:List UInt8) (d:al) (k:Int) (tn:List UInt8) (ix:Int) (d2:al) (ck ci:Int) (cs:List UInt8):al:=.agg [i64 op,i64 dst,i64 a,i64 b,i64 im,sb nm,d,i64 k,sb tn,i64 ix,d2,i64 ck,i64 ci,sb cs,nl]
theorem aS {p s:Int} {d1 d2:al} (h1:cV d1) (h2:cV d2):Rn [.dat (aP p s d1 d2)]=some ⟨.undef,.new (.cells [.dat (i64 p),.dat (i64 s),.dat d1,.dat d2])⟩:=by
 rcases h1 with rfl|⟨e1,rfl⟩ <;> rcases h2 with rfl|⟨e2,rfl⟩ <;> kernel_rfl
theorem br {op dst a b im:Int} {nm:List UInt8} {d:al} {k:Int} {tn:List UInt8} {ix:Int} {d2:al} {ck ci:Int} {cs:List UInt8} (h1:cV d) (h2:cV d2) :
  Rn [.dat (eb op dst a b im nm d k tn ix d2 ck ci cs)]=some ⟨.undef,.new (.cells [.dat (i64 op),.dat (i64 dst),.dat (i64 a),.dat (i64 b),.dat (i64 im),.dat (sb nm),.dat d,.dat (i64 k),.dat (sb tn),.dat (i64 ix),.dat d2,.dat (i64 ck),.dat (i64 ci),.dat (sb cs),.dat nl])⟩:=by
 rcases h1 with rfl|⟨e1,rfl⟩ <;> rcases h2 with rfl|⟨e2,rfl⟩ <;> kernel_rfl
def cC (p s:Int) (d1 d2:al):List ac:=[.dat (i64 p),.dat (i64 s),.dat d1,.dat d2]
def hC (p s:Int) (d1 d2:al):Heap:=[(.out 0,.cells (cC p s d1 d2))]
def cX (op dst a b im:Int) (nm:List UInt8) (d:al) (k:Int) (tn:List UInt8) (ix:Int) (d2:al) (ck ci:Int) (cs:List UInt8):List ac:=[.dat (i64 op),.dat (i64 dst),.dat (i64 a),.dat (i64 b),.dat (i64 im),.dat (sb nm),.dat d,.dat (i64 k),.dat (sb tn),.dat (i64 ix),.dat d2,.dat (i64 ck),.dat (i64 ci),.dat (sb cs),.dat nl]
def cS (s:ke):List ac:=[.dat (sb s.w),bv s.dst,bv s.a,bv s.b,bv s.im,bv s.nm,bv s.ar,bv s.ty,bv s.con,bv s.call,bv s.cond,bv s.fin]
theorem DN {p1 n sl:Int} {d1 d2:al} {u:Bool}:KC 141 [iv n,bv u,.ptr (.out 0) 0] (hC p1 sl d1 d2) 1 (XQ ⟨bv (fg n sl u),hC p1 sl d1 d2,1⟩):=by
 unfold fg;generalize h1:aB n 0=c1;generalize h2:aH n 0=c2;generalize h3:aH n sl=c3;refine gB [7,16,22] [] (x:=rP.of Tryz.f141 HR Kg) (by kernel_rfl) ?_;refine ob h1 ?_
 cases c1 <;>
 ·cases u
  ·exact fi
  refine ox h2 ?_
  cases c2
  ·refine ob h3 ?_
   cases c3 <;>
   ·exact fi
  exact fi
noncomputable def Tk:Hints:=⟨bS,E5,bg,rowsOf bg 97⟩
def Ei (ar:al) (n:Nat) (c3 c4 c5:List ac) (i:Int):ab:=⟨[(15,iv i),(14,iv (Int.ofNat n)),(13,.dat ar),(7,.fn (.func 141) [] [.ptr (.loc 3) 0]),(5,.ptr (.loc 5) 0),(4,.ptr (.loc 4) 0)],[(.loc 5,.cells c5),(.loc 4,.cells c4),(.loc 3,.cells c3)],[],0⟩
def Nc (ar:al) (n:Nat) (c3 c4 c5:List ac) (i:Int):ab:=⟨[(16,bv false),(15,iv i),(14,iv (Int.ofNat n)),(13,.dat ar),(7,.fn (.func 141) [] [.ptr (.loc 3) 0]),(5,.ptr (.loc 5) 0),(4,.ptr (.loc 4) 0)],[(.loc 5,.cells c5),(.loc 4,.cells c4),(.loc 3,.cells c3)],[],0⟩
def Nb (ar:al) (n:Nat) (H:Heap) (c4 c5:List ac) (i:Int):ab:=⟨[(15,iv i),(14,iv (Int.ofNat n)),(13,.dat ar),(7,.fn (.func 141) [] [.ptr (.out 0) 0]),(5,.ptr (.loc 5) 0),(4,.ptr (.loc 4) 0)],[(.loc 5,.cells c5),(.loc 4,.cells c4)],H,1⟩
def Na (ar:al) (n:Nat) (H:Heap) (c4 c5:List ac) (i:Int):ab:=⟨[(16,bv false),(15,iv i),(14,iv (Int.ofNat n)),(13,.dat ar),(7,.fn (.func 141) [] [.ptr (.out 0) 0]),(5,.ptr (.loc 5) 0),(4,.ptr (.loc 4) 0)],[(.loc 5,.cells c5),(.loc 4,.cells c4)],H,1⟩
def Jq (H:Heap):ab:=⟨[(6,bv false)],[],H,1⟩
theorem H0 {l:List Int} {t p1 sl:Int} {d1 d2:al} {op dst a b im:Int} {nm:List UInt8} {dx:al} {k:Int} {tn:List UInt8} {ix:Int} {dt:al} {ck ci:Int} {cs:List UInt8} {s:ke} {c:Bool} {T:Exit->aa->Prop} (hi:0 < (l.map iN).length) (ht:l[0]?=some t)
  (hc:KC 141 [iv t,bv s.ar,.ptr (.out 0) 0] (hC p1 sl d1 d2) 1 (XQ ⟨bv c,hC p1 sl d1 d2,1⟩))
  (e1:c=true->T .normal ((Nb (.slice (l.map iN)) (l.map iN).length (hC p1 sl d1 d2) (cX op dst a b im nm dx k tn ix dt ck ci cs) (cS s) (Int.ofNat 1)).an Tryz.f97.ntmps)) (e2:c=false->T .ret ((Jq (hC p1 sl d1 d2)).an Tryz.f97.ntmps)) :
  KD (roundOf Tryz.f97 0) T ((Ei (.slice (l.map iN)) (l.map iN).length (cC p1 sl d1 d2) (cX op dst a b im nm dx k tn ix dt ck ci cs) (cS s) (Int.ofNat 0)).an Tryz.f97.ntmps):=by
 have h1:=bc hi;have h2:=uY ht;generalize l.map iN=es at *;clear ht hi;obtain⟨w,s1,s2,s3,s4,s5,s6,s7,s8,s9,s10,s11⟩:=s;refine ay [16] [17] (H:=Tk) (live:=rG) (by kernel_rfl) ?_;refine ob h1 ?_;refine oo h2 ?_;refine oh hc ?_
 cases c
 ·exact oe (e2 rfl)
 exact oe (e1 rfl)
theorem Lw {l:List Int} {t p1 sl:Int} {d1 d2:al} {op dst a b im:Int} {nm:List UInt8} {dx:al} {k:Int} {tn:List UInt8} {ix:Int} {dt:al} {ck ci:Int} {cs:List UInt8} {s:ke} {c:Bool} {i:Nat} {T:Exit->aa->Prop} (hi:i < (l.map iN).length) (ht:l[i]?=some t)
  (hc:KC 141 [iv t,bv s.ar,.ptr (.out 0) 0] (hC p1 sl d1 d2) 1 (XQ ⟨bv c,hC p1 sl d1 d2,1⟩))
  (e1:c=true->T .normal ((Nb (.slice (l.map iN)) (l.map iN).length (hC p1 sl d1 d2) (cX op dst a b im nm dx k tn ix dt ck ci cs) (cS s) (ap .i64 (Int.ofNat i+1))).an Tryz.f97.ntmps)) (e2:c=false->T .ret ((Jq (hC p1 sl d1 d2)).an Tryz.f97.ntmps)) :
  KD (roundOf Tryz.f97 0) T ((Nb (.slice (l.map iN)) (l.map iN).length (hC p1 sl d1 d2) (cX op dst a b im nm dx k tn ix dt ck ci cs) (cS s) (Int.ofNat i)).an Tryz.f97.ntmps):=by
 have h1:=bc hi;have h2:=uY ht;generalize l.map iN=es at *;clear ht hi;obtain⟨w,s1,s2,s3,s4,s5,s6,s7,s8,s9,s10,s11⟩:=s;refine ay [16] [17] (H:=Tk) (live:=rG) (by kernel_rfl) ?_;refine ob h1 ?_;refine oo h2 ?_;refine oh hc ?_
 cases c
 ·exact oe (e2 rfl)
 exact oe (e1 rfl)
theorem LA {ar:al} {p1 sl:Int} {d1 d2:al} {op dst a b im:Int} {nm:List UInt8} {dx:al} {k:Int} {tn:List UInt8} {ix:Int} {dt:al} {ck ci:Int} {cs:List UInt8} {s:ke} {T:Exit->aa->Prop} (e:T (.exit 0) ((Nc ar 0 (cC p1 sl d1 d2) (cX op dst a b im nm dx k tn ix dt ck ci cs) (cS s) (Int.ofNat 0)).an Tryz.f97.ntmps)) :
  KD (roundOf Tryz.f97 0) T ((Ei ar 0 (cC p1 sl d1 d2) (cX op dst a b im nm dx k tn ix dt ck ci cs) (cS s) (Int.ofNat 0)).an Tryz.f97.ntmps):=by
 obtain⟨w,s1,s2,s3,s4,s5,s6,s7,s8,s9,s10,s11⟩:=s;refine ay [] [] (H:=Tk) (live:=rG) (by kernel_rfl) ?_;exact oe e
theorem Ly {ar:al} {n:Nat} {p1 sl:Int} {d1 d2:al} {op dst a b im:Int} {nm:List UInt8} {dx:al} {k:Int} {tn:List UInt8} {ix:Int} {dt:al} {ck ci:Int} {cs:List UInt8} {s:ke} {T:Exit->aa->Prop} (e:T (.exit 0) ((Na ar n (hC p1 sl d1 d2) (cX op dst a b im nm dx k tn ix dt ck ci cs) (cS s) (Int.ofNat n)).an Tryz.f97.ntmps)) :
  KD (roundOf Tryz.f97 0) T ((Nb ar n (hC p1 sl d1 d2) (cX op dst a b im nm dx k tn ix dt ck ci cs) (cS s) (Int.ofNat n)).an Tryz.f97.ntmps):=by
 have h1:=bW (i:=n) (L:=n) (by omega);obtain⟨w,s1,s2,s3,s4,s5,s6,s7,s8,s9,s10,s11⟩:=s;refine ay [16] [] (H:=Tk) (live:=rG) (by kernel_rfl) ?_;refine ob h1 ?_;exact oe e
theorem Lx {ar:al} {p1 sl:Int} {d1 d2:al} {op dst a b im:Int} {nm:List UInt8} {k:Int} {tn:List UInt8} {ix:Int} {dx dt:al} {ck ci:Int} {cs:List UInt8} {s:ke} :
  KD (.loop (roundOf Tryz.f97 0)) (fun e q=>e=.exit 0/\q=(Nc ar 0 (cC p1 sl d1 d2) (cX op dst a b im nm dx k tn ix dt ck ci cs) (cS s) (Int.ofNat 0)).an Tryz.f97.ntmps)
   ((Ei ar 0 (cC p1 sl d1 d2) (cX op dst a b im nm dx k tn ix dt ck ci cs) (cS s) (Int.ofNat 0)).an Tryz.f97.ntmps):=by
 refine aZ (St:=fun i=>(Ei ar 0 (cC p1 sl d1 d2) (cX op dst a b im nm dx k tn ix dt ck ci cs) (cS s) (Int.ofNat i)).an Tryz.f97.ntmps) 0 (fun i hi=>absurd hi (by omega)) ?_ (i:=0) (Nat.le_refl _);exact LA ⟨rfl,rfl⟩
def acE (ar:al) (n:Nat) (p1 sl:Int) (d1 d2:al) (c4 c5:List ac):Nat->ab
 | 0=>Ei ar n (cC p1 sl d1 d2) c4 c5 (Int.ofNat 0)
 | i+1=>Nb ar n (hC p1 sl d1 d2) c4 c5 (Int.ofNat (i+1))
theorem Pe {x:Int} {r:List Int} {p1 sl:Int} {d1 d2:al} {op dst a b im:Int} {nm:List UInt8} {k:Int} {tn:List UInt8} {ix:Int} {dx dt:al} {ck ci:Int} {cs:List UInt8} {s:ke} (hn:(x::r).length < 1000000000) :
  KD (.loop (roundOf Tryz.f97 0)) (fun e q=>(e=.exit 0/\(x::r).all (fun n=>fg n sl s.ar)=true/\q=(Na (.slice ((x::r).map iN)) ((x::r).map iN).length (hC p1 sl d1 d2) (cX op dst a b im nm dx k tn ix dt ck ci cs) (cS s) (Int.ofNat ((x::r).map iN).length)).an Tryz.f97.ntmps)∨(e=.ret/\(x::r).all (fun n=>fg n sl s.ar)=false/\q=(Jq (hC p1 sl d1 d2)).an Tryz.f97.ntmps))
   ((Ei (.slice ((x::r).map iN)) ((x::r).map iN).length (cC p1 sl d1 d2) (cX op dst a b im nm dx k tn ix dt ck ci cs) (cS s) (Int.ofNat 0)).an Tryz.f97.ntmps):=by
 have hall:∀{i:Nat} {t:Int},(x::r)[i]?=some t->((x::r).drop i).all (fun n=>fg n sl s.ar)=(fg t sl s.ar&&((x::r).drop (i+1)).all (fun n=>fg n sl s.ar)):=by
  intro i t h;rw[ku h];rfl
 refine cH (St:=fun i=>(acE (.slice ((x::r).map iN)) ((x::r).map iN).length p1 sl d1 d2 (cX op dst a b im nm dx k tn ix dt ck ci cs) (cS s) i).an Tryz.f97.ntmps) (fun i=>(x::r).all (fun n=>fg n sl s.ar)=((x::r).drop i).all (fun n=>fg n sl s.ar)) ((x::r).map iN).length ?_ ?_ (i:=0) (Nat.zero_le _) rfl
 ·intro i hi hI;have hi2:i < (x::r).length:=by simpa using hi
  have ht:(x::r)[i]?=some ((x::r)[i]):=List.getElem?_eq_getElem hi2;generalize (x::r)[i]=t at ht;have ha:=hall ht;rw[←hI] at ha;have hc:=@DN p1 t sl d1 d2 s.ar;generalize fg t sl s.ar=c at hc ha
  cases i with
  | zero=>
   refine H0 hi ht hc ?_ ?_
   ·rintro rfl;exact⟨rfl,ha⟩
   rintro rfl;exact .inr ⟨rfl,ha,rfl⟩
  | succ j=>
   have hw:ap .i64 (Int.ofNat (j+1)+1)=Int.ofNat (j+1+1):=ba (by omega);refine Lw hi ht hc ?_ ?_
   ·rintro rfl;rw[hw];exact⟨rfl,ha⟩
   rintro rfl;exact .inr ⟨rfl,ha,rfl⟩
 intro hI;have h1:(x::r).all (fun n=>fg n sl s.ar)=true:=by
  rw[hI,List.length_map,List.drop_length];rfl
 exact Ly (.inl ⟨rfl,h1,rfl⟩)
theorem Su {es:List al} {p1 sl:Int} {d1 d2:al} (g1:cV d1) (g2:cV d2) {op dst a b im:Int} {nm:List UInt8} {k:Int} {tn:List UInt8} {ix:Int} {dt:al} {ck ci:Int} {cs:List UInt8} {s:ke} {d c1 c2 c3 e0 e6 u1 u2:Bool} (g3:cV dt)
  (hl:KD (.loop (roundOf Tryz.f97 0)) (fun e q=>(e=.exit 0/\d=true/\q=(Na (.slice es) es.length (hC p1 sl d1 d2) (cX op dst a b im nm (.slice es) k tn ix dt ck ci cs) (cS s) (Int.ofNat es.length)).an Tryz.f97.ntmps)∨(e=.ret/\d=false/\q=(Jq (hC p1 sl d1 d2)).an Tryz.f97.ntmps))
   ((Ei (.slice es) es.length (cC p1 sl d1 d2) (cX op dst a b im nm (.slice es) k tn ix dt ck ci cs) (cS s) (Int.ofNat 0)).an Tryz.f97.ntmps))
  (h1:KC 141 [iv dst,bv s.dst,.ptr (.out 0) 0] (hC p1 sl d1 d2) 1 (XQ ⟨bv c1,hC p1 sl d1 d2,1⟩))
  (h2:KC 141 [iv a,bv s.a,.ptr (.out 0) 0] (hC p1 sl d1 d2) 1 (XQ ⟨bv c2,hC p1 sl d1 d2,1⟩))
  (h3:KC 141 [iv b,bv (s.b&&!(u1&&u2)),.ptr (.out 0) 0] (hC p1 sl d1 d2) 1 (XQ ⟨bv c3,hC p1 sl d1 d2,1⟩))
  (z0:aB (Int.ofNat es.length) 0=e0) (z6:aH 6 (Int.ofNat es.length)=e6) (zu:aB op 3=u1) (zv:aB im 5=u2) :
  ae 97 [.dat (aP p1 sl d1 d2),.dat (eb op dst a b im nm (.slice es) k tn ix dt ck ci cs),.dat s.enc] (bv (d&&((s.ar||e0)&&(!e6&&(c1&&(c2&&c3)))))):=by
 have q1:=aS (p:=p1) (s:=sl) g1 g2;have q2:=@br op dst a b im nm (.slice es) k tn ix _ ck ci cs (.inr ⟨_,rfl⟩) g3;clear g1 g2 g3;obtain⟨w,s1,s2,s3,s4,s5,s6,s7,s8,s9,s10,s11⟩:=s;refine co [28,32,46,40] [3,4] (x:=.of Tryz.f97 E5 rG) ?_;refine oo q1 ?_;refine oo q2 ?_;refine lo hl ?_;rintro ex s (⟨rfl,rfl,rfl⟩|⟨rfl,rfl,rfl⟩)
 ·refine⟨_,rfl,?_⟩;refine ob zu ?_
  cases u1
  ·cases s6
   ·refine ob z0 ?_
    cases e0
    ·exact fi
    refine ox z6 ?_
    cases e6
    ·refine oh h1 ?_
     cases c1
     ·exact fi
     refine oh h2 ?_
     cases c2
     ·exact fi
     cases s3 <;>
     ·refine oh h3 ?_;exact fi
    exact fi
   refine ox z6 ?_
   cases e6
   ·refine oh h1 ?_
    cases c1
    ·exact fi
    refine oh h2 ?_
    cases c2
    ·exact fi
    cases s3 <;>
    ·refine oh h3 ?_;exact fi
   exact fi
  refine ob zv ?_
  cases u2 <;>
  ·cases s6
   ·refine ob z0 ?_
    cases e0
    ·exact fi
    refine ox z6 ?_
    cases e6
    ·refine oh h1 ?_
     cases c1
     ·exact fi
     refine oh h2 ?_
     cases c2
     ·exact fi
     cases s3 <;>
     ·refine oh h3 ?_;exact fi
    exact fi
   refine ox z6 ?_
   cases e6
   ·refine oh h1 ?_
    cases c1
    ·exact fi
    refine oh h2 ?_
    cases c2
    ·exact fi
    cases s3 <;>
    ·refine oh h3 ?_;exact fi
   exact fi
 refine⟨_,rfl,?_⟩;exact fi
end Go.Proofs.YtmpmgmmcaghacaaGreatDoor
namespace Go.Proofs
open Go.Shelf
def Tryz.Ld:Go.Shelf.Ren:=⟨fun|5=>59|8=>93|7=>92|19=>135|20=>136|10=>126|11=>127|12=>128|13=>129|14=>130|15=>131|16=>132|17=>133|18=>134|30=>167|31=>168|32=>169|33=>170|34=>171|35=>172|40=>191|n=>n,fun|23=>22|25=>3|3=>3|32=>134|22=>22|0=>0|44=>178|46=>162|4=>4|36=>171|35=>170|41=>57|5=>5|9=>9|53=>195|57=>199|63=>211|64=>212|n=>n,fun|n=>n⟩
theorem Tryz.gy:Go.Proofs.SlLaysM.n5 Tryz.prog Tryz.Ld:={
 mixed:=by kernel_rfl
 f5:=⟨Tryz.f59.name,by decide,Tryz.func59.trans (congrArg some (by kernel_rfl))⟩
 f7:=⟨Tryz.f92.name,by decide,Tryz.func92.trans (congrArg some (by kernel_rfl))⟩
 f8:=Tryz.func93.trans (congrArg some (by kernel_rfl))
 f10:=⟨Tryz.f126.name,by decide,Tryz.func126.trans (congrArg some (by kernel_rfl))⟩
 f11:=⟨Tryz.f127.name,by decide,Tryz.func127.trans (congrArg some (by kernel_rfl))⟩
 f12:=⟨Tryz.f128.name,by decide,Tryz.func128.trans (congrArg some (by kernel_rfl))⟩
 f13:=⟨Tryz.f129.name,by decide,Tryz.func129.trans (congrArg some (by kernel_rfl))⟩
 f14:=⟨Tryz.f130.name,by decide,Tryz.func130.trans (congrArg some (by kernel_rfl))⟩
 f15:=⟨Tryz.f131.name,by decide,Tryz.func131.trans (congrArg some (by kernel_rfl))⟩
 f16:=⟨Tryz.f132.name,by decide,Tryz.func132.trans (congrArg some (by kernel_rfl))⟩
 f17:=⟨Tryz.f133.name,by decide,Tryz.func133.trans (congrArg some (by kernel_rfl))⟩
 f18:=⟨Tryz.f134.name,by decide,Tryz.func134.trans (congrArg some (by kernel_rfl))⟩
 f19:=Tryz.func135.trans (congrArg some (by kernel_rfl))
 f20:=Tryz.func136.trans (congrArg some (by kernel_rfl))
 f30:=⟨Tryz.f167.name,by decide,Tryz.func167.trans (congrArg some (by kernel_rfl))⟩
 f31:=Tryz.func168.trans (congrArg some (by kernel_rfl))
 f32:=Tryz.func169.trans (congrArg some (by kernel_rfl))
 f33:=⟨Tryz.f170.name,by decide,Tryz.func170.trans (congrArg some (by kernel_rfl))⟩
 f34:=⟨Tryz.f171.name,by decide,Tryz.func171.trans (congrArg some (by kernel_rfl))⟩
 f35:=⟨Tryz.f172.name,by decide,Tryz.func172.trans (congrArg some (by kernel_rfl))⟩
 f40:=⟨Tryz.f191.name,by decide,Tryz.func191.trans (congrArg some (by kernel_rfl))⟩
 t0:=Tryz.underlying0
 a0:=Tryz.isAgg0
 z0:=Tryz.sizeOf0
 v0:=Tryz.zeroValue0
 t3:=Tryz.underlying3
 a3:=Tryz.isAgg3
 z3:=Tryz.sizeOf3
 v3:=Tryz.zeroValue3
 t4:=Tryz.underlying4
 a4:=Tryz.isAgg4
 z4:=Tryz.sizeOf4
 v4:=Tryz.zeroValue4
 t5:=Tryz.underlying5
 a5:=Tryz.isAgg5
 z5:=Tryz.sizeOf5
 v5:=Tryz.zeroValue5
 t9:=Tryz.underlying9
 a9:=Tryz.isAgg9
 z9:=Tryz.sizeOf9
 v9:=Tryz.zeroValue9
 t22:=Tryz.underlying22
 a22:=Tryz.isAgg22
 z22:=Tryz.sizeOf22
 v22:=Tryz.zeroValue22
 t23:=Tryz.underlying22
 a23:=Tryz.isAgg22
 z23:=Tryz.sizeOf22
 v23:=Tryz.zeroValue22
 t25:=Tryz.underlying3
 a25:=Tryz.isAgg3
 z25:=Tryz.sizeOf3
 v25:=Tryz.zeroValue3
 t32:=Tryz.underlying134
 a32:=Tryz.isAgg134
 z32:=Tryz.sizeOf134
 v32:=Tryz.zeroValue134
 t35:=Tryz.underlying170
 a35:=Tryz.isAgg170
 z35:=Tryz.sizeOf170
 v35:=Tryz.zeroValue170
 t36:=Tryz.underlying171
 a36:=Tryz.isAgg171
 z36:=Tryz.sizeOf171
 v36:=Tryz.zeroValue171
 t41:=Tryz.underlying57
 a41:=Tryz.isAgg57
 z41:=Tryz.sizeOf57
 v41:=Tryz.zeroValue57
 t44:=Tryz.underlying178
 a44:=Tryz.isAgg178
 z44:=Tryz.sizeOf178
 v44:=Tryz.zeroValue178
 t46:=Tryz.underlying162
 a46:=Tryz.isAgg162
 z46:=Tryz.sizeOf162
 v46:=Tryz.zeroValue162
 t53:=Tryz.underlying195
 a53:=Tryz.isAgg195
 z53:=Tryz.sizeOf195
 v53:=Tryz.zeroValue195
 t57:=Tryz.underlying199
 a57:=Tryz.isAgg199
 z57:=Tryz.sizeOf199
 v57:=Tryz.zeroValue199
 t63:=Tryz.underlying211
 a63:=Tryz.isAgg211
 z63:=Tryz.sizeOf211
 v63:=Tryz.zeroValue211
 t64:=Tryz.underlying212
 a64:=Tryz.isAgg212
 z64:=Tryz.sizeOf212
 v64:=Tryz.zeroValue212 }
def Tryz.tH:Go.Shelf.Ren:=⟨fun|43=>60|n=>n,fun|22=>22|23=>3|3=>3|4=>4|0=>0|n=>n,fun|n=>n⟩
theorem Tryz.QQ:Go.Proofs.SlLaysE.n43 Tryz.prog Tryz.tH:={
 mixed:=by kernel_rfl
 f43:=⟨Tryz.f60.name,by decide,Tryz.func60.trans (congrArg some (by kernel_rfl))⟩
 t0:=Tryz.underlying0
 a0:=Tryz.isAgg0
 z0:=Tryz.sizeOf0
 v0:=Tryz.zeroValue0
 t3:=Tryz.underlying3
 a3:=Tryz.isAgg3
 z3:=Tryz.sizeOf3
 v3:=Tryz.zeroValue3
 t4:=Tryz.underlying4
 a4:=Tryz.isAgg4
 z4:=Tryz.sizeOf4
 v4:=Tryz.zeroValue4
 t22:=Tryz.underlying22
 a22:=Tryz.isAgg22
 z22:=Tryz.sizeOf22
 v22:=Tryz.zeroValue22
 a23:=Tryz.isAgg3
 z23:=Tryz.sizeOf3 }
end Go.Proofs
namespace Go.Tp
open Go.Proofs Go.Shelf Go.RowKit Go.Maps Go.Sort Go.Lib
def nF (n:Int):al:=.flat (.int .i64 n)
section
variable {P:Program} {ρ ρ':Ren} {G:bw}
def kO:List ac->Option (List Int)
 | []=>some []
 | .dat (.flat (.int .i64 n))::r=>(match kO r with|some l=>some (n::l)|none=>none)
 | _=>none
theorem qR:∀{cs:List ac} {zs:List Int},kO cs=some zs->cs=zs.map (fun n=>.dat (nF n))
 | [],zs,h=>by simp[kO] at h;subst h;rfl
 | c::r,zs,h=>by
  unfold kO at h
  split at h
  ·simp at *
  ·rename_i n r' heq;simp at heq;obtain⟨rfl,rfl⟩:=heq
   split at h
   ·rename_i l hl;simp at h;subst h;rw[qR hl];rfl
   simp at h
  simp at h
def Ag (args:List ac) (heap:Heap) (next:Nat):Option eW:=
 match args with
 | [.win (.out m) 1 0 len]=>(match pO (.out m) heap with
  | some (.cells cs)=>(match Nat.beq len cs.length&&Nat.ble 1 len&&Nat.ble len 4294967296 with
   | true=>(match kO cs with
    | some zs=>some ⟨.dat (.slice ((compactUpTo zs.toArray zs.length).map nF)),pR (.out m) heap,next⟩
    | none=>none)
   | false=>none)
  | _=>none)
 | _=>none
theorem Fv {w:World} {R R':Own} {blk:Nat} {vs:Array Value} {elem:TypeId} (hblk:w.heap[blk]?=some (.cells vs elem (0,0))) (hR:R'=fun c off=>c≠blk/\R c off) (hRv:∀j,j < vs.size->R blk j) (h0:0 < vs.size) (q:Nat) (d:Array Int) (bs:List Nat) (hb:blk∉bs) :
  bm w R (putRow (Value.int .i64) (Sort.ahead w q) blk 0 d) R' bs:=by
 have hother:∀c,c≠blk->(putRow (Value.int .i64) (Sort.ahead w q) blk 0 d).heap[c]?=w.heap[c]?:=fun c hc=>by
  simp[putRow,mapBlock,Sort.ahead,Array.getElem?_modify,Ne.symm hc]
 have hself:(putRow (Value.int .i64) (Sort.ahead w q) blk 0 d).heap[blk]?=some (.cells (putCells (Value.int .i64) 0 d vs) elem (0,0)):=by
  simp[putRow,mapBlock,Sort.ahead,Array.getElem?_modify,hblk,onCells]
 have hsz:(putCells (Value.int .i64) 0 d vs).size=vs.size:=by simp[putCells]
 subst hR;refine⟨⟨rfl,rfl,rfl,by simp[Sort.ahead],fun c hc hno=>?_,fun c off hc hno=>⟨fun h=>hno h.2,?_⟩,fun c hc=>?_⟩,fun c hc _=>?_⟩
 ·have hne:c≠blk:=fun e=>hno 0 (e ▸ hRv 0 h0)
  exact⟨hother c hne,fun off h=>hno off h.2⟩
 ·by_cases hcb:c=blk
  ·subst hcb;have ho:vs.size<=off:=by
    rcases Nat.lt_or_ge off vs.size with h'|h'
    ·exact (hno (hRv off h')).elim
    exact h'
   rw[cell_of_row _ c off _ elem (0,0) hself,cell_of_row w c off vs elem (0,0) hblk,Array.getElem?_eq_none (by omega),Array.getElem?_eq_none ho]
  exact World.cell?_of_block (a:=⟨c,off,none⟩) (hother c hcb)
 ·by_cases hcb:c=blk
  ·subst hcb;rw[dq hself,dq hblk,hsz]
  exact eK (hother c hcb)
 have hne:c≠blk:=fun e=>hb (e ▸ hc)
 exact⟨hother c hne,fun off h=>⟨hne,h⟩⟩
theorem Mp (L:SlLaysE.n43 P ρ) (v23:∀w,(zeroValue (ρ.t 23)).run P w=.ok (.int .i64 0) w) {args:List ac} {heap:Heap} {next:Nat} {r:eW} (h:Ag args heap next=some r):aD P G (ρ.f 43) args heap next (XQ r):=by
 unfold Ag at h
 split at h
 rotate_left
 ·simp at h
 rename_i m len
 split at h
 rotate_left
 ·simp at h
 rename_i cs hm
 split at h
 rotate_left
 ·simp at h
 rename_i hc;simp only[Bool.and_eq_true,Nat.ble_eq] at hc;obtain⟨⟨hl,h1⟩,h2⟩:=hc;have hl:=Nat.eq_of_beq_eq_true hl
 split at h
 rotate_left
 ·simp at h
 rename_i zs hzs;simp only[Option.some.injEq] at h;subst h;have hcs:=qR hzs;have hzl:zs.length=len:=by rw[hl,hcs];simp
 rw[jA] at hm;rw[kX];intro w R N cargs bsA bsH bsF hargs hheap hnd hnx hglob hF;obtain⟨v0,r1,c0,d1,rfl,rfl,h0,hr1⟩:=aw hargs;obtain⟨rfl,rfl⟩:=aQ hr1;simp only[ai] at h0;obtain⟨rfl,b,cap,hb,rfl,hcap,_,hblt,hrow⟩:=h0;obtain⟨pre,b',b1,post,e1,hb',hobj,_,bs',hdel,hsub⟩:=aj.ki hheap hm
 have:b'=b:=by rw[hb] at hb';simpa using hb'.symm
 subst this;subst e1;obtain⟨vs,elem,sp,hblk,hrv,hRv,_⟩:=hobj;have hvs:cap=vs.size:=by rw[dX,hblk] at hrow;simpa using hrow
 have hval:∀j (hj:j < zs.length),vs[j]?=some (.int .i64 zs[j])/\bH (.int .i64 zs[j])=true:=by
  intro j hj;have ha:cs[j]?=some (.dat (nF zs[j])):=by rw[hcs,List.getElem?_map,List.getElem?_eq_getElem hj];rfl
  obtain⟨x,bx,q1,q2,_⟩:=dM hrv (qj ha);obtain⟨_,rfl,hf⟩:=aE q2;exact⟨by rw[←Array.getElem?_toList];exact q1,hf⟩
 have hH:Holds (Value.int .i64) w b' 0 zs.toArray:=by
  intro j hj;have hj:j < zs.length:=by simpa using hj
  obtain⟨q1,_⟩:=hval j hj;rw[Nat.zero_add];refine⟨?_,by simp[World.frozen?,hblk]⟩;simp[World.cell?,hblk,q1,hj]
 have hsz:zs.toArray.size=len:=by simpa using hzl
 rw[←hsz];refine (AnyE.slices_Compact L (Value.int .i64) (fun _=>rfl) (EqlAt.intD P (ρ.t 23) .i64) (NeqAt.intD P (ρ.t 23) .i64) 0 v23 b' 0 cap zs.toArray w hH (by rw[hsz];omega) (by rw[hsz];exact hcap)).mono ?_;rintro e w' ⟨rfl,q,rfl⟩;obtain⟨out,hout⟩:∃out,out=compactUpTo zs.toArray zs.toArray.size:=⟨_,rfl⟩;have hout':compactUpTo zs.toArray zs.length=out:=by rw[hout];simp
 rw[hout',←hout];have hol:out.length<=len:=by
  rw[hout,←hsz];simp only[compactUpTo,List.length_map];exact Nat.le_trans (List.length_filter_le _ _) (by simp)
 have hmem:∀n∈out,bH (.int .i64 n)=true:=by
  intro n hn;rw[hout] at hn;simp only[compactUpTo,List.mem_map,List.mem_filter,List.mem_range] at hn;obtain⟨j,⟨hj,_⟩,rfl⟩:=hn;have hj:j < zs.length:=by simpa using hj
  have:=(hval j hj).2
  simpa [hj] using this
 obtain⟨d',hd'⟩:∃d',d'=(out++List.replicate (zs.toArray.size - out.length) (0:Int)).toArray:=⟨_,rfl⟩;rw[←hd'];have hds:d'.size=zs.toArray.size:=by rw[hd'];simp;omega
 obtain⟨R',hR'⟩:∃R':Own,R'=fun c off=>c≠b'/\R c off:=⟨_,rfl⟩
 have hk:∀bs,b'∉bs->bm w R (putRow (Value.int .i64) (Sort.ahead w q) b' 0 d') R' bs:=fun bs hbs=>Fv hblk hR' hRv (by omega) q d' bs hbs
 have hp:([]++((pre++(b'::b1)++post)++bsF)).Perm (b'::(b1++((pre++post)++bsF))):=by
  rw[List.perm_iff_count];intro x;simp only[List.count_append,List.count_cons,List.count_nil];omega
 have hnd2:=List.nodup_cons.1 (hp.nodup_iff.1 (by simpa using hnd));have hno:=hnd2.1;simp only[List.mem_append,not_or] at hno;obtain⟨_,⟨n3,n3'⟩,n4⟩:=hno;have n5:b'∉bs':=fun hm=>by
  rcases List.mem_append.1 (hsub.subset hm) with h|h
  ·exact n3 h
  exact n3' h
 refine⟨_,_,_,next,R',N,[],bs',rfl,⟨rfl,rfl,rfl⟩,bR (d:=.slice (out.map nF)) ?_,hdel.keep (hk bs' n5),?_,hnx,hk bsF n4,fun _ _ h=>h⟩
 ·have hel:(out.map nF).length=out.length:=by simp
  have hH2:=holds_putRow (Value.int .i64) (Sort.ahead w q) b' 0 zs.toArray d' (holds_ahead _ w q b' 0 zs.toArray hH) hds;have hget:∀i (hi:i < out.length),(putRow (Value.int .i64) (Sort.ahead w q) b' 0 d').cell? ⟨b',0+i,none⟩=some (.int .i64 out[i]):=by
   intro i hi;have hi2:i < d'.size:=by rw[hds,hsz];omega
   have:=(hH2 i hi2).1
   rw[this];congr 2;rw[getElem!_pos d' i hi2];subst hd';simp[hi]
  rw[←hel];show eF _ _ _ _;refine .slice b' 0 cap 1 _ (fun i _=>.int .i64 (out[i]?.getD 0)) (by omega) ?_ (by rw[hel];omega) (by rw[hel];simp only[lim];omega) ?_ ?_
  ·intro e he;simp only[List.mem_map] at he;obtain⟨y,_,rfl⟩:=he;rfl
  ·intro i j hi hj;rw[hel] at hi
   have:j=0:=by omega
   subst this;refine⟨?_,fun h=>by subst hR';exact h.1 rfl⟩
   have:=hget i hi
   simpa [hi] using this
  intro i j e c he hc;have hi:i < out.length:=by
   rcases Nat.lt_or_ge i out.length with h'|h'
   ·exact h'
   rw[List.getElem?_eq_none (by simpa using h')] at he;simp at he
  have he':e=nF out[i]:=by
   rw[List.getElem?_map,List.getElem?_eq_getElem hi] at he;simpa using he.symm
  subst he';have hc':c=nF out[i]:=by
   cases j with
   | zero=>simpa [nF,al.cells] using hc.symm
   | succ j=>simp[nF,al.cells] at hc
  subst hc';have e2:out[i]?.getD 0=out[i]:=by rw[List.getElem?_eq_getElem hi];rfl
  rw[e2];exact .flat (hmem _ (List.getElem_mem hi))
 have h2:=(List.nodup_append.1 hnd2.2).2.1;rw[List.nil_append];exact List.Nodup.sublist (List.Sublist.append hsub (.refl _)) h2
def gy (l:List Int):List Int:=l.mergeSort (fun x y=>decide (x<=y))
theorem ye (l:List Int):(gy l).Perm l:=List.mergeSort_perm _ _
theorem gX (l:List Int):(gy l).length=l.length:=(ye l).length_eq
theorem LL {w:World} {R:Own} (os:Array Obj) (bs:List Nat):bm w R (grow w os) (fun b off=>b < w.heap.size/\R b off) bs:=by
 have h1:∀b,b < w.heap.size->(grow w os).heap[b]?=w.heap[b]?:=fun b hb=>by simp[grow,Array.getElem?_append,hb]
 refine⟨⟨rfl,rfl,rfl,by simp[grow],fun b hb hno=>⟨h1 b hb,fun off h=>hno off h.2⟩,fun b off hb hno=>⟨fun h=>hno h.2,World.cell?_of_block (a:=⟨b,off,none⟩) (h1 b hb)⟩,fun b hb=>eK (h1 b hb)⟩,fun b hb hlt=>⟨h1 b hlt,fun off h=>⟨hlt,h⟩⟩⟩
theorem Mn (L:SlLaysM.n5 P ρ) {l:List Int} (hl:l≠[]) (hn:l.length < 1000000000) :
  aD P G (ρ.f 5) [.win (.out 0) 1 0 l.length] [(.out 0,.cells (bB l))] 1 (XQ ⟨.tup [],[(.out 0,.cells (bB (gy l)))],1⟩):=by
 intro w R N cargs bsA bsH bsF hargs hheap hnd hnx hglob hF;obtain⟨v0,r1,c0,d1,rfl,rfl,h0,hr1⟩:=aw hargs;obtain⟨rfl,rfl⟩:=aQ hr1;obtain⟨b,b1,b2,rfl,hb,hobj,hrest⟩:=hheap;have hrest:b2=[]:=hrest;subst hrest;obtain⟨vs,elem,sp,hblk,hrv,hRv,_⟩:=hobj;simp only[ai] at h0;obtain⟨rfl,b',cap,hb',rfl,hcap,hcm,hblt,hrow⟩:=h0
 have:b'=b:=by rw[hb] at hb';simpa using hb'.symm
 subst this;obtain⟨us1,us2,q1,q2,hus,rfl,hr1,hq2⟩:=eM hrv;obtain⟨rfl,rfl,hfl⟩:=nD hr1;obtain⟨rfl,husp⟩:=mA hq2;have hlp:0 < l.length:=List.length_pos_iff.2 hl;have hvs:vs.toList.length=l.length+us2.length:=by rw[hus];simp[ints]
 have hcell:∀j (hj:j < l.length),vs[j]?=some (.int .i64 l[j]):=by
  intro j hj;rw[←Array.getElem?_toList,hus,List.getElem?_append_left (by simpa [ints] using hj)];simp[ints,hj]
 have hH:Holds (Value.int .i64) w b' 0 l.toArray:=by
  intro j hj;have hj:j < l.length:=by simpa using hj
  rw[Nat.zero_add];refine⟨?_,by simp[World.frozen?,hblk]⟩;simp[World.cell?,hblk,hcell j hj,hj]
 refine (AnyM.slices_Sort_int L b' 0 cap l w hH hblt (by omega)).mono ?_;rintro e w' ⟨rfl,n,os,rfl⟩;obtain⟨d,hd⟩:∃d,d=(gy l).toArray:=⟨_,rfl⟩;show ∃v cv heap' next' R' N' bsV bsH',_;have hds:d.size=l.length:=by rw[hd];simp[gX]
 rw[show (l.mergeSort fun x y=>decide (x<=y)).toArray=d from hd.symm];have hself:(putRow (Value.int .i64) (Sort.ahead w n) b' 0 d).heap[b']?=some (.cells (putCells (Value.int .i64) 0 d vs) elem (0,0)):=by
  simp[putRow,mapBlock,Sort.ahead,Array.getElem?_modify,hblk,onCells]
 have hother:∀c,c≠b'->(putRow (Value.int .i64) (Sort.ahead w n) b' 0 d).heap[c]?=w.heap[c]?:=fun c hc=>by
  simp[putRow,mapBlock,Sort.ahead,Array.getElem?_modify,Ne.symm hc]
 have hsz:(putCells (Value.int .i64) 0 d vs).size=vs.size:=by simp[putCells]
 have hvp:0 < vs.size:=by rw[←Array.length_toList];omega
 have hhs:(putRow (Value.int .i64) (Sort.ahead w n) b' 0 d).heap.size=w.heap.size:=by simp[putRow,mapBlock,Sort.ahead]
 obtain⟨R',hR'⟩:∃R':Own,R'=fun c off=>c < w.heap.size/\R c off:=⟨_,rfl⟩
 have hk1:∀bs,b'∉bs->bm w R (putRow (Value.int .i64) (Sort.ahead w n) b' 0 d) R bs:=by
  intro bs hbs;refine⟨⟨rfl,rfl,rfl,by rw[hhs];exact Nat.le_refl _,fun c hc hno=>?_,fun c off hc hno=>⟨hno,?_⟩,fun c hc=>?_⟩,fun c hc _=>?_⟩
  ·have hne:c≠b':=fun e=>hno 0 (e ▸ hRv 0 hvp)
   exact⟨hother c hne,hno⟩
  ·by_cases hcb:c=b'
   ·subst hcb;have ho:vs.size<=off:=by
     rcases Nat.lt_or_ge off vs.size with h'|h'
     ·exact (hno (hRv off h')).elim
     exact h'
    rw[cell_of_row _ c off _ elem (0,0) hself,cell_of_row w c off vs elem (0,0) hblk,Array.getElem?_eq_none (by omega),Array.getElem?_eq_none ho]
   exact World.cell?_of_block (a:=⟨c,off,none⟩) (hother c hcb)
  ·by_cases hcb:c=b'
   ·subst hcb;rw[dq hself,dq hblk,hsz]
   exact eK (hother c hcb)
  have hne:c≠b':=fun e=>hbs (e ▸ hc)
  exact⟨hother c hne,fun off h=>h⟩
 have hk:∀bs,b'∉bs->bm w R (grow (putRow (Value.int .i64) (Sort.ahead w n) b' 0 d) os) R' bs:=by
  intro bs hbs;have h:=(hk1 bs hbs).trans (LL (R:=R) os bs);rw[hhs] at h;rw[hR'];exact h
 have hbF:b'∉bsF:=by
  have h1:(b'::bsF).Nodup:=by simpa using hnd
  exact (List.nodup_cons.1 h1).1
 have hg:(grow (putRow (Value.int .i64) (Sort.ahead w n) b' 0 d) os).heap[b']?=some (.cells (putCells (Value.int .i64) 0 d vs) elem (0,0)):=by
  have hlt:b' < (putRow (Value.int .i64) (Sort.ahead w n) b' 0 d).heap.size:=by rw[hhs];exact hblt
  rw[show (grow (putRow (Value.int .i64) (Sort.ahead w n) b' 0 d) os).heap[b']?=(putRow (Value.int .i64) (Sort.ahead w n) b' 0 d).heap[b']? by rw[grow,Array.getElem?_append_left hlt]];exact hself
 refine⟨_,_,_,1,R',N,[],[b'],rfl,⟨rfl,rfl,rfl⟩,by simp only[ai];exact⟨[],rfl,aR⟩,?_,by simpa using hnd,hnx,hk bsF hbF,fun _ _ h=>h⟩;refine⟨b',[],[],rfl,hb,?_,rfl⟩;refine⟨putCells (Value.int .i64) 0 d vs,elem,sp,hg,?_,fun j hj=>by rw[hsz] at hj;subst hR';exact⟨hblt,hRv j hj⟩,fun h=>by rw[Kq] at h;simp at h⟩;have hfl2:∀x∈gy l,bH (.int .i64 x)=true:=fun x hx=>hfl x ((ye l).mem_iff.1 hx)
 have hlist:(putCells (Value.int .i64) 0 d vs).toList=ints (gy l)++us2:=by
  apply List.ext_getElem?
  intro j;rw[Array.getElem?_toList];simp only[putCells,Array.getElem?_mapIdx,Nat.zero_le,true_and,Nat.zero_add,Nat.sub_zero];have hvj:vs[j]?=(ints l++us2)[j]?:=by rw[←Array.getElem?_toList,hus]
  rw[hvj]
  by_cases hj:j < l.length
  ·rw[List.getElem?_append_left (by simpa [ints] using hj),List.getElem?_append_left (by simpa [ints,gX] using hj)];have hj2:j < d.size:=by omega
   have hj3:j < (gy l).length:=by rw[gX];exact hj
   simp only[ints,List.getElem?_map,List.getElem?_eq_getElem hj,List.getElem?_eq_getElem hj3,Option.map_some,hj2,if_true];rw[getElem!_pos d j hj2];subst hd;simp
  rw[List.getElem?_append_right (by simpa [ints] using hj),List.getElem?_append_right (by simpa [ints,gX] using hj)];simp only[ints,List.length_map,gX]
  cases us2[j - l.length]? with
  | none=>rfl
  | some u=>simp only[Option.map_some];rw[if_neg (by omega)]
 rw[hlist];have h2:=fx (w:=grow (putRow (Value.int .i64) (Sort.ahead w n) b' 0 d) os) (R:=R') (N:=outs N) us2;rw[husp] at h2;have h3:ah (grow (putRow (Value.int .i64) (Sort.ahead w n) b' 0 d) os) R' (outs N) (bB (gy l)) (ints (gy l)) []:=Dk hfl2;simpa using cB h3 h2
theorem Mo (L:SlLaysM.n5 P ρ):aD P G (ρ.f 5) [.dat (.flat (.slice none 0 0))] [] 0 (XQ ⟨.tup [],[],0⟩):=by
 intro w R N cargs bsA bsH bsF hargs hheap hnd hnx hglob hF;obtain⟨v0,r1,c0,d1,rfl,rfl,h0,hr1⟩:=aw hargs;obtain⟨rfl,rfl⟩:=aQ hr1;simp only[ai] at h0;obtain⟨rfl,h0⟩:=h0;have h0:eF w R v0 (.flat (.slice none 0 0)):=h0;have e0:v0=.slice none 0 0:=by cases h0 with|flat _=>rfl
 subst e0;refine (AnyM.slices_Sort_int_none L none 0 w).mono ?_;rintro e w' ⟨rfl,rfl⟩;exact⟨_,_,_,0,R,N,[],bsH,rfl,⟨rfl,rfl,rfl⟩,by simp only[ai];exact⟨[],rfl,aR⟩,hheap,by simpa using hnd,hnx,⟨Step.refl _ _,fun _ _ _=>⟨rfl,fun _ h=>h⟩⟩,fun _ _ h=>h⟩
end
end Go.Tp
namespace Go.Proofs.YtmpmgmmcaghacaaGreatDoor
open Go.Tp
theorem xq (t:Bool) {op dst a b im:Int} {nm:List UInt8} {dx:al} {k:Int} {tn:List UInt8} {ix:Int} {dt:al} {ck ci:Int} {cs:List UInt8} (h1:cV dx) (h2:cV dt):er (env ak.aC) t 45 [.ref [i64 op,i64 dst,i64 a,i64 b,i64 im,sb nm,dx,i64 k,sb tn,i64 ix,dt,i64 ck,i64 ci,sb cs,nl]] none=some ⟨.dat (eb op dst a b im nm dx k tn ix dt ck ci cs),.keep⟩:=by
 cases t <;> rcases h1 with rfl|⟨e1,rfl⟩ <;> rcases h2 with rfl|⟨e2,rfl⟩ <;> kernel_rfl
theorem G3 (l:Nat) {op dst a b im:Int} {nm:List UInt8} {dx:al} {k:Int} {tn:List UInt8} {ix:Int} {dt:al} {ck ci:Int} {cs:List UInt8} (h1:cV dx) (h2:cV dt):dR (env ak.aC) 45 [.ptr (.loc l) 0,.dat (eb op dst a b im nm dx k tn ix dt ck ci cs)] (some (.cells (cX 0 0 0 0 0 [] nl 0 [] 0 nl 0 0 [])))=some ⟨.undef,.set (.cells (cX op dst a b im nm dx k tn ix dt ck ci cs))⟩:=by
 rcases h1 with rfl|⟨e1,rfl⟩ <;> rcases h2 with rfl|⟨e2,rfl⟩ <;> kernel_rfl
theorem Jt {l:List Int} (o:Nat) (hl:l≠[]) (hn:l.length < 1000000000) :
  KC 59 [.win (.out o) 1 0 l.length] [(.out o,.cells (bB l))] (o+1) (XQ ⟨.tup [],[(.out o,.cells (bB (gy l)))],o+1⟩):=by
 have h:=Mn (G:=bZ) Tryz.gy hl hn;have e:∀(l:List Int) (ρ:Nat->Nat),gx ρ (bB l)=bB l:=by
  intro l ρ
  induction l with
  | nil=>rfl
  | cons a r ih=>show eS ρ (iv a)::gx ρ (bB r)=_;rw[ih];rfl
 have e0:∀(l:List Int),iC 1 (bB l)=false:=by
  intro l
  induction l with
  | nil=>rfl
  | cons a r ih=>show (iB 1 (iv a)||iC 1 (bB r))=_;rw[ih];rfl
 have hf:=aD.frame h (fun _=>o) (heap:=[(.out o,.cells (bB l))]) (rest:=[]) (next:=o+1) (by
  have:gS (fun _=>o) [(Name.out 0,aM.cells (bB l))]=[(.out o,.cells (bB l))]:=by simp only[gS,tY,oE,e]
  rw[this];exact List.Perm.refl _) rfl (by simp only[hZ,Ff,e0];rfl) rfl rfl
 refine hf.mono ?_;rintro v' h' m' ⟨v0,h1,n1,⟨rfl,rfl,rfl⟩,rfl,rfl,rfl⟩;refine⟨rfl,?_,rfl⟩;have hl0:gd (fun _=>o) 1 (o+1) 0=o:=rfl;simp only[gS,tY,oE,e,hl0,List.append_nil]
theorem z23:∀w,(Go.zeroValue (Tryz.tH.t 23)).run Tryz.prog w=.ok (.int .i64 0) w:=Tryz.zeroValue3
theorem KA (o:Nat) {l:List Int} {r:List Int} (h1:1<=l.length) (h2:l.length < 1000000000) (hr:Go.Lib.compactUpTo l.toArray l.length=r) :
  KC 60 [.win (.out o) 1 0 l.length] [(.out o,.cells (bB l))] (o+1) (XQ ⟨.dat (.slice (r.map iN)),[],o+1⟩):=by
 refine Mp (G:=bZ) Tryz.QQ z23 ?_;subst hr;have e:∀l:List Int,kO (bB l)=some l:=by
  intro l
  induction l with
  | nil=>rfl
  | cons a r ih=>
   show (match kO (bB r) with|some l=>some (a::l)|none=>none)=_;rw[ih]
 have h3:(bB l).length=l.length:=List.length_map _;have ea:pO (.out o) [(Name.out o,aM.cells (bB l))]=some (.cells (bB l)):=by rw[jA];simp[dV]
 have ed:pR (.out o) [(Name.out o,aM.cells (bB l))]=[]:=by rw[kX];simp[iV]
 have hb:(Nat.beq l.length l.length&&Nat.ble 1 l.length&&Nat.ble l.length 4294967296)=true:=by
  rw[Bool.and_eq_true,Bool.and_eq_true,Nat.beq_eq,Nat.ble_eq,Nat.ble_eq];exact⟨⟨rfl,h1⟩,Nat.le_trans (Nat.le_of_lt h2) (by decide)⟩
 simp only[Ag,ea,h3,hb,e,ed];rfl
theorem DQ:ae 60 [.dat nl] (.dat nl):=by
 refine co [] [] (x:=.of Tryz.f60 OC PE) ?_;exact fi
theorem QW:KC 59 [.dat nl] [] 0 (XQ ⟨.tup [],[],0⟩):=Mo (G:=bZ) Tryz.gy
def qx (a b:Int):List Int:=if b < a then [b,a] else if a=b then [a] else [a,b]
theorem Bw (a b:Int):gy [a,b]=if b < a then [b,a] else [a,b]:=by
 have e:gy [a,b]=List.merge [a] [b] (fun x y=>decide (x<=y)):=by
  simp[gy,List.mergeSort,List.MergeSort.Internal.splitInTwo,List.splitAt_eq]
 rw[e]
 by_cases h:b < a
 ·have:¬a<=b:=by omega
  simp[h,this,List.merge]
 have:a<=b:=by omega
 simp[h,this,List.merge]
theorem Gg (a b:Int):Go.Lib.compactUpTo #[a,b] 2=if a=b then [a] else [a,b]:=by
 by_cases h:a=b
 ·subst h;simp[Go.Lib.compactUpTo,List.range,List.range.loop,Go.Lib.keeps]
 have hb:¬b=a:=fun e=>h e.symm
 simp[Go.Lib.compactUpTo,List.range,List.range.loop,List.filter,Go.Lib.keeps,h,hb]
theorem QR (a b:Int):Go.Lib.compactUpTo (gy [a,b]).toArray (gy [a,b]).length=qx a b:=by
 rw[Bw];unfold qx
 by_cases h:b < a
 ·rw[if_pos h,if_pos h]
  have:=Gg b a
  rw[if_neg (by omega)] at this;exact this
 rw[if_neg h,if_neg h];exact Gg a b
def nxD (A B:Bool) (j im:Int) (l2:List al):al:=match A,B with
 | true,true=>.slice l2
 | true,false=>.slice [iN j]
 | false,true=>.slice [iN im]
 | false,false=>nl
theorem Wm {p sl:Int} {es:List al} {d2:al} {i:Int} (g2:cV d2) {op dst a b im:Int} {nm:List UInt8} {dx:al} {k:Int} {tn:List UInt8} {ix:Int} {dt:al} {ck ci:Int} {cs:List UInt8} (g3:cV dx) (g4:cV dt)
  (hi:aq (env ak.aC) 23 [.dat (.slice es),.dat (.flat (.int .i64 i))]=some ⟨.ref [i64 op,i64 dst,i64 a,i64 b,i64 im,sb nm,dx,i64 k,sb tn,i64 ix,dt,i64 ck,i64 ci,sb cs,nl],.keep⟩)
  {s:ke} {ok c1 c2:Bool} (hs:ae 58 [iv op] (.tup [.dat s.enc,bv ok])) (h1:aH (ap .i64 (i+1)) (Int.ofNat es.length)=c1) (h2:aB op 12=c2) {u v:Int} {l2:List al}
  (k0:KC 59 [.dat nl] [] 0 (XQ ⟨.tup [],[],0⟩)) (m0:ae 60 [.dat nl] (.dat nl))
  (k1:KC 59 [.win (.out 0) 1 0 1] [(.out 0,.cells [iv (ap .i64 (i+1))])] 1 (XQ ⟨.tup [],[(.out 0,.cells [iv (ap .i64 (i+1))])],1⟩)) (m1:KC 60 [.win (.out 0) 1 0 1] [(.out 0,.cells [iv (ap .i64 (i+1))])] 1 (XQ ⟨.dat (.slice [iN (ap .i64 (i+1))]),[],1⟩))
  (k2:KC 59 [.win (.out 0) 1 0 1] [(.out 0,.cells [iv im])] 1 (XQ ⟨.tup [],[(.out 0,.cells [iv im])],1⟩)) (m2:KC 60 [.win (.out 0) 1 0 1] [(.out 0,.cells [iv im])] 1 (XQ ⟨.dat (.slice [iN im]),[],1⟩))
  (k3:KC 59 [.win (.out 1) 1 0 2] [(.out 1,.cells [iv (ap .i64 (i+1)),iv im])] 2 (XQ ⟨.tup [],[(.out 1,.cells [iv u,iv v])],2⟩)) (m3:KC 60 [.win (.out 1) 1 0 2] [(.out 1,.cells [iv u,iv v])] 2 (XQ ⟨.dat (.slice l2),[],2⟩)) :
  ae 40 [.dat (aP p sl (.slice es) d2),iv i] (.dat (nxD (!s.fin&&c1) (s.cond||c2) (ap .i64 (i+1)) im l2)):=by
 have q1:=@aS p sl (.slice es) _ (.inr ⟨_,rfl⟩) g2;have q2:=@xq false op dst a b im nm _ k tn ix _ ck ci cs g3 g4;have q3:=@G3 5 op dst a b im nm _ k tn ix _ ck ci cs g3 g4;clear g2 g3 g4;obtain⟨w,s1,s2,s3,s4,s5,s6,s7,s8,s9,s10,s11⟩:=s;refine co [41,29] [2,12,13,100005] (x:=.of Tryz.f40 OD PF) ?_;refine oo q1 ?_;refine oo hi ?_;refine oo q2 ?_;refine oo q3 ?_;refine on hs ?_
 cases s11
 ·refine ob h1 ?_
  cases c1
  ·cases s10
   ·refine ob h2 ?_
    cases c2
    ·refine on k0 ?_;refine on m0 ?_;exact fi
    refine oh k2 ?_;refine oh m2 ?_;exact fi
   refine oh k2 ?_;refine oh m2 ?_;exact fi
  cases s10
  ·refine ob h2 ?_
   cases c2
   ·refine oh k1 ?_;refine oh m1 ?_;exact fi
   refine oh k3 ?_;refine oh m3 ?_;exact fi
  refine oh k3 ?_;refine oh m3 ?_;exact fi
 cases s10
 ·refine ob h2 ?_
  cases c2
  ·refine on k0 ?_;refine on m0 ?_;exact fi
  refine oh k2 ?_;refine oh m2 ?_;exact fi
 refine oh k2 ?_;refine oh m2 ?_;exact fi
def gV (n:Nat) (op im:Int) (i:Nat):List Int:=
 match !(jM (dI op)).fin&&decide (i+1 < n),(jM (dI op)).cond||aB op 12 with
 | true,true=>qx (Int.ofNat (i+1)) im
 | true,false=>[Int.ofNat (i+1)]
 | false,true=>[im]
 | false,false=>[]
theorem sc (a b:Int):qx a b≠[]:=by unfold qx;split <;> (try split) <;> simp
theorem IZ {p sl:Int} {ins:List Ins} {d2:al} {i:Nat} {x:Ins} (g2:cV d2) (hx:ins[i]?=some x) (hn:ins.length < 1000000000) :
  ae 40 [.dat (aP p sl (.slice (encI ins)) d2),iv (Int.ofNat i)] (.dat (Go.Proofs.YtmpmgmmcaghacaaGreatDoor.sl ((gV ins.length x.op x.im i).map iN))):=by
 have hi:=tm hx;have hs:=tL x.op;obtain⟨op,dst,a,b,im,nm,az,ar,⟨k,tn,ix,la⟩,ck,ci,cs⟩:=x;have hil:i < ins.length:=(List.getElem?_eq_some_iff.1 hx).1;have hw:ap .i64 (Int.ofNat i+1)=Int.ofNat (i+1):=ba (by omega);have hlt:aH (ap .i64 (Int.ofNat i+1)) (Int.ofNat (encI ins).length)=decide (i+1 < ins.length):=by
  rw[hw,bP,gI]
 obtain⟨j,hj⟩:∃j,ap .i64 (Int.ofNat i+1)=j:=⟨_,rfl⟩;have e1:∀y:Int,gy [y]=[y]:=fun y=>by simp[gy]
 have e2:∀y:Int,Go.Lib.compactUpTo [y].toArray [y].length=[y]:=fun y=>by simp[Go.Lib.compactUpTo,List.range,List.range.loop,Go.Lib.keeps]
 obtain⟨u,v,huv⟩:∃u v,gy [j,im]=[u,v]:=by
  rw[Bw]
  split
  ·exact⟨_,_,rfl⟩
  exact⟨_,_,rfl⟩
 have k3:=Jt (l:=[j,im]) 1 (by simp) (by simp);rw[huv] at k3;have m3:=KA (l:=[u,v]) 1 (by simp) (by simp) (r:=qx j im) (by rw[←huv,QR]);have k1:∀y:Int,KC 59 [.win (.out 0) 1 0 1] [(.out 0,.cells [iv y])] 1 (XQ ⟨.tup [],[(.out 0,.cells [iv y])],1⟩):=fun y=>by
  have h:=Jt (l:=[y]) 0 (by simp) (by simp);rw[e1] at h;exact h
 have m1:=fun y=>KA (l:=[y]) 0 (by simp) (by simp) (r:=[y]) (e2 y)
 subst hj;have h:=Wm (p:=p) (sl:=sl) (es:=encI ins) (i:=Int.ofNat i) g2 (dH az (ar.map iN)) (dz (ax la)) hi hs hlt rfl QW DQ (k1 _) (m1 _) (k1 _) (m1 _) k3 m3;rw[hw] at h;have e:nxD (!(jM (dI op)).fin&&decide (i+1 < ins.length)) ((jM (dI op)).cond||aB op 12) (Int.ofNat (i+1)) im ((qx (Int.ofNat (i+1)) im).map iN)=Go.Proofs.YtmpmgmmcaghacaaGreatDoor.sl ((gV ins.length op im i).map iN):=by
  unfold nxD gV
  cases (!(jM (dI op)).fin&&decide (i+1 < ins.length)) with
  | true=>
   cases ((jM (dI op)).cond||aB op 12) with
   | true=>
    dsimp only
    have:=sc (Int.ofNat (i+1)) im
    generalize qx (Int.ofNat (i+1)) im=l at *
    cases l with
    | nil=>exact absurd rfl this
    | cons a r=>rfl
   | false=>rfl
  | false=>
   cases ((jM (dI op)).cond||aB op 12) with
   | true=>rfl
   | false=>rfl
 rw[e] at h;exact h
theorem Lu:Gz (fun n=>Aq (ey n) (X 148 [Fx n] [] 0)) 256=true:=by kernel_rfl
theorem TT (c:UInt8):ae 148 [Fx c.toNat] (bv (ey c.toNat)):=dm _ _ _ _ _ (pI (qv Lu _ c.toNat_lt))
def aaD (c1 c2 c3 c4 c5 c6 c7 c8 c9 c10 c11 c12 c13 c14:Bool):Bool:=
 if (c1||c2)=true then !c8&&c13
 else if c3=true then !c9&&!c10
 else if c4=true then !c8&&c11
 else if c5=true then !c8&&c14
 else if (c6||c7)=true then !c9
 else c12
theorem P2 {p s:Int} {es ed:List al} {op dst a b im:Int} {nm:List UInt8} {dx:al} {k:Int} {tn:List UInt8} {ix:Int} {dt:al} {ck ci:Int} {cs:List UInt8} (g2:cV dx) (g3:cV dt)
  {c1 c2 c3 c4 c5 c6 c7 c8 c9 c10 c11 c12 c13 c14:Bool} (h1:aB op 12=c1) (h2:aB op 13=c2) (h3:aB op 3=c3) (h4:aB op 8=c4) (h5:aB op 17=c5) (h6:aB op 20=c6) (h7:aB op 22=c7)
  (h8:aH im 0=c8) (h9:aH im 1=c9) (h10:aH 7 im=c10) (h11:aH im 6=c11) (h12:aB im 0=c12) (h13:aH im (Int.ofNat es.length)=c13) (h14:aH im (Int.ofNat ed.length)=c14) :
  ae 98 [.dat (aP p s (.slice es) (.slice ed)),.dat (eb op dst a b im nm dx k tn ix dt ck ci cs)] (bv (aaD c1 c2 c3 c4 c5 c6 c7 c8 c9 c10 c11 c12 c13 c14)):=by
 have q2:=@br op dst a b im nm _ k tn ix _ ck ci cs g2 g3;clear g2 g3
 cases c8
 ·cases c9
  ·refine co [8,12,19,9,22,25,29,32,35,39,42,45,52,55,59,56,62] [3] (x:=.of Tryz.f98 wb rF) ?_;refine oo q2 ?_;refine ob h1 ?_
   cases c1
   ·refine ob h2 ?_
    cases c2
    ·refine ob h3 ?_
     cases c3
     ·refine ob h4 ?_
      cases c4
      ·refine ob h5 ?_
       cases c5
       ·refine ob h6 ?_
        cases c6
        ·refine ob h7 ?_
         cases c7
         ·refine ob h12 ?_
          cases c12 <;>
          ·exact fi
         refine ox h9 ?_;exact fi
        refine ox h9 ?_;exact fi
       refine ox h8 ?_;refine ob h14 ?_
       cases c14 <;>
       ·exact fi
      refine ox h8 ?_;refine ob h11 ?_
      cases c11 <;>
      ·exact fi
     refine ox h9 ?_;refine ox h10 ?_
     cases c10 <;>
     ·exact fi
    refine ox h8 ?_;refine ob h13 ?_
    cases c13 <;>
    ·exact fi
   refine ox h8 ?_;refine ob h13 ?_
   cases c13 <;>
   ·exact fi
  refine co [8,12,19,9,22,25,32,35,39,42,45,52,55,59,56,62] [3] (x:=.of Tryz.f98 wb rF) ?_;refine oo q2 ?_;refine ob h1 ?_
  cases c1
  ·refine ob h2 ?_
   cases c2
   ·refine ob h3 ?_
    cases c3
    ·refine ob h4 ?_
     cases c4
     ·refine ob h5 ?_
      cases c5
      ·refine ob h6 ?_
       cases c6
       ·refine ob h7 ?_
        cases c7
        ·refine ob h12 ?_
         cases c12 <;>
         ·exact fi
        refine ox h9 ?_;exact fi
       refine ox h9 ?_;exact fi
      refine ox h8 ?_;refine ob h14 ?_
      cases c14 <;>
      ·exact fi
     refine ox h8 ?_;refine ob h11 ?_
     cases c11 <;>
     ·exact fi
    refine ox h9 ?_;exact fi
   refine ox h8 ?_;refine ob h13 ?_
   cases c13 <;>
   ·exact fi
  refine ox h8 ?_;refine ob h13 ?_
  cases c13 <;>
  ·exact fi
 refine co [8,12,9,22,25,29,32,35,42,45,55,59,56,62] [3] (x:=.of Tryz.f98 wb rF) ?_;refine oo q2 ?_;refine ob h1 ?_
 cases c1
 ·refine ob h2 ?_
  cases c2
  ·refine ob h3 ?_
   cases c3
   ·refine ob h4 ?_
    cases c4
    ·refine ob h5 ?_
     cases c5
     ·refine ob h6 ?_
      cases c6
      ·refine ob h7 ?_
       cases c7
       ·refine ob h12 ?_
        cases c12 <;>
        ·exact fi
       refine ox h9 ?_
       cases c9 <;>
       ·exact fi
      refine ox h9 ?_
      cases c9 <;>
      ·exact fi
     refine ox h8 ?_;exact fi
    refine ox h8 ?_;exact fi
   refine ox h9 ?_
   cases c9
   ·refine ox h10 ?_
    cases c10 <;>
    ·exact fi
   exact fi
  refine ox h8 ?_;exact fi
 refine ox h8 ?_;exact fi
theorem WJ {p s:Int} {es:List al} {op dst a b im:Int} {nm:List UInt8} {dx:al} {k:Int} {tn:List UInt8} {ix:Int} {dt:al} {ck ci:Int} {cs:List UInt8} (g2:cV dx) (g3:cV dt)
  {c1 c2 c3 c4 c5 c6 c7 c8 c9 c10 c11 c12 c13:Bool} (h1:aB op 12=c1) (h2:aB op 13=c2) (h3:aB op 3=c3) (h4:aB op 8=c4) (h5:aB op 17=c5) (h6:aB op 20=c6) (h7:aB op 22=c7)
  (h8:aH im 0=c8) (h9:aH im 1=c9) (h10:aH 7 im=c10) (h11:aH im 6=c11) (h12:aB im 0=c12) (h13:aH im (Int.ofNat es.length)=c13) :
  ae 98 [.dat (aP p s (.slice es) nl),.dat (eb op dst a b im nm dx k tn ix dt ck ci cs)] (bv (aaD c1 c2 c3 c4 c5 c6 c7 c8 c9 c10 c11 c12 c13 c8)):=by
 have q2:=@br op dst a b im nm _ k tn ix _ ck ci cs g2 g3;clear g2 g3
 cases c8
 ·cases c9
  ·refine co [8,12,19,9,22,25,29,32,35,39,42,45,52,55,59,56,62] [3] (x:=.of Tryz.f98 wb rF) ?_;refine oo q2 ?_;refine ob h1 ?_
   cases c1
   ·refine ob h2 ?_
    cases c2
    ·refine ob h3 ?_
     cases c3
     ·refine ob h4 ?_
      cases c4
      ·refine ob h5 ?_
       cases c5
       ·refine ob h6 ?_
        cases c6
        ·refine ob h7 ?_
         cases c7
         ·refine ob h12 ?_
          cases c12 <;>
          ·exact fi
         refine ox h9 ?_;exact fi
        refine ox h9 ?_;exact fi
       refine ox h8 ?_;refine ob h8 ?_;exact fi
      refine ox h8 ?_;refine ob h11 ?_
      cases c11 <;>
      ·exact fi
     refine ox h9 ?_;refine ox h10 ?_
     cases c10 <;>
     ·exact fi
    refine ox h8 ?_;refine ob h13 ?_
    cases c13 <;>
    ·exact fi
   refine ox h8 ?_;refine ob h13 ?_
   cases c13 <;>
   ·exact fi
  refine co [8,12,19,9,22,25,32,35,39,42,45,52,55,59,56,62] [3] (x:=.of Tryz.f98 wb rF) ?_;refine oo q2 ?_;refine ob h1 ?_
  cases c1
  ·refine ob h2 ?_
   cases c2
   ·refine ob h3 ?_
    cases c3
    ·refine ob h4 ?_
     cases c4
     ·refine ob h5 ?_
      cases c5
      ·refine ob h6 ?_
       cases c6
       ·refine ob h7 ?_
        cases c7
        ·refine ob h12 ?_
         cases c12 <;>
         ·exact fi
        refine ox h9 ?_;exact fi
       refine ox h9 ?_;exact fi
      refine ox h8 ?_;refine ob h8 ?_;exact fi
     refine ox h8 ?_;refine ob h11 ?_
     cases c11 <;>
     ·exact fi
    refine ox h9 ?_;exact fi
   refine ox h8 ?_;refine ob h13 ?_
   cases c13 <;>
   ·exact fi
  refine ox h8 ?_;refine ob h13 ?_
  cases c13 <;>
  ·exact fi
 refine co [8,12,9,22,25,29,32,35,42,45,55,59,56,62] [3] (x:=.of Tryz.f98 wb rF) ?_;refine oo q2 ?_;refine ob h1 ?_
 cases c1
 ·refine ob h2 ?_
  cases c2
  ·refine ob h3 ?_
   cases c3
   ·refine ob h4 ?_
    cases c4
    ·refine ob h5 ?_
     cases c5
     ·refine ob h6 ?_
      cases c6
      ·refine ob h7 ?_
       cases c7
       ·refine ob h12 ?_
        cases c12 <;>
        ·exact fi
       refine ox h9 ?_
       cases c9 <;>
       ·exact fi
      refine ox h9 ?_
      cases c9 <;>
      ·exact fi
     refine ox h8 ?_;exact fi
    refine ox h8 ?_;exact fi
   refine ox h9 ?_
   cases c9
   ·refine ox h10 ?_
    cases c10 <;>
    ·exact fi
   exact fi
  refine ox h8 ?_;exact fi
 refine ox h8 ?_;exact fi
theorem aca {p s:Int} {es ed:List al} (z:Bool) (x:Ins):ae 98 [.dat (aP p s (.slice es) (sx z ed)),.dat x.enc] (bv (FE (Int.ofNat es.length) (Int.ofNat ed.length) x.op x.im)):=by
 obtain⟨op,dst,a,b,im,nm,az,ar,⟨k,tn,ix,la⟩,ck,ci,cs⟩:=x
 cases ed with
 | nil=>
  cases z
  ·exact WJ (dH az (ar.map iN)) (dz (ax la)) rfl rfl rfl rfl rfl rfl rfl rfl rfl rfl rfl rfl rfl
  exact P2 (ed:=[]) (dH az (ar.map iN)) (dz (ax la)) rfl rfl rfl rfl rfl rfl rfl rfl rfl rfl rfl rfl rfl rfl
 | cons y r=>exact P2 (ed:=y::r) (dH az (ar.map iN)) (dz (ax la)) rfl rfl rfl rfl rfl rfl rfl rfl rfl rfl rfl rfl rfl rfl
def lf (k i:Int) (s:List UInt8):al:=.agg [i64 k,i64 i,sb s,nl]
noncomputable def aaL:Hints:=⟨bS,za,bg,rowsOf bg 102⟩
def JZ (k i:Int) (s:List UInt8):Heap:=[(.loc 1,.cells [iv k,iv i,.dat (sb s),.dat nl])]
def Bv (k i:Int) (s:List UInt8) (j:Int):ab:=⟨[(3,iv j),(1,.ptr (.loc 1) 0)],JZ k i s,[],0⟩
def Hf (k i:Int) (s:List UInt8):ab:=⟨[(43,bv false),(3,iv (Int.ofNat s.length)),(1,.ptr (.loc 1) 0)],JZ k i s,[],0⟩
def Hg:ab:=⟨[(2,bv false)],[],[],0⟩
theorem Mh {k i:Int} {s:List UInt8} {j:Nat} {c:UInt8} {b:Bool} {T:Exit->aa->Prop} (h1:aH (Int.ofNat j) (Int.ofNat s.length)=true) (h2:pV (env ak.aC) 9 [.dat (sb s),.dat (.flat (.int .i64 (Int.ofNat j)))]=some ⟨Fx c.toNat,.keep⟩)
  (h3:ae 148 [Fx c.toNat] (bv b)) (e1:b=true->T .normal ((Bv k i s (ap .i64 (Int.ofNat j+1))).an Tryz.f102.ntmps)) (e2:b=false->T .ret (Hg.an Tryz.f102.ntmps)) :
  KD (roundOf Tryz.f102 0) T ((Bv k i s (Int.ofNat j)).an Tryz.f102.ntmps):=by
 refine ay [43] [49] (H:=aaL) (live:=sZ) (by kernel_rfl) ?_;refine ob h1 ?_;refine oo h2 ?_;refine on h3 ?_
 cases b
 ·exact oe (e2 rfl)
 exact oe (e1 rfl)
theorem QP {k i:Int} {s:List UInt8} {T:Exit->aa->Prop} (e1:T (.exit 1) ((Hf k i s).an Tryz.f102.ntmps)) :
  KD (roundOf Tryz.f102 0) T ((Bv k i s (Int.ofNat s.length)).an Tryz.f102.ntmps):=by
 have h1:=bW (i:=s.length) (L:=s.length) (by omega);refine ay [43] [] (H:=aaL) (live:=sZ) (by kernel_rfl) ?_;refine ob h1 ?_;exact oe e1
theorem QO {k i:Int} {s:List UInt8} (hn:s.length < 1000000000) :
  KD (.loop (roundOf Tryz.f102 0)) (fun e q=>(e=.exit 1/\s.all (fun c=>ey c.toNat)=true/\q=(Hf k i s).an Tryz.f102.ntmps)∨(e=.ret/\s.all (fun c=>ey c.toNat)=false/\q=Hg.an Tryz.f102.ntmps)) ((Bv k i s (Int.ofNat 0)).an Tryz.f102.ntmps):=by
 refine cH (St:=fun j=>(Bv k i s (Int.ofNat j)).an Tryz.f102.ntmps) (fun j=>s.all (fun c=>ey c.toNat)=(s.drop j).all (fun c=>ey c.toNat)) s.length ?_ ?_ (i:=0) (Nat.zero_le _) rfl
 ·intro j hj hI;have hg:s[j]?=some s[j]:=List.getElem?_eq_getElem hj;have hd:(s.drop j).all (fun c=>ey c.toNat)=(ey s[j].toNat&&(s.drop (j+1)).all (fun c=>ey c.toNat)):=by rw[List.drop_eq_getElem_cons hj];rfl
  have hw:ap .i64 (Int.ofNat j+1)=Int.ofNat (j+1):=ba (by omega);have hc:=TT s[j];generalize s[j]=c at hg hd hc;generalize ey c.toNat=tc at hd hc;rw[←hI] at hd;refine Mh (bc hj) (mW hg) hc ?_ ?_
  ·rintro rfl;rw[hw];exact⟨rfl,hd⟩
  rintro rfl;exact .inr ⟨rfl,hd,rfl⟩
 intro hI;have h1:s.all (fun c=>ey c.toNat)=true:=by rw[hI,List.drop_length];rfl
 exact QP (.inl ⟨rfl,h1,rfl⟩)
theorem TP {k i:Int} {s:List UInt8} {c0 c1 c2 c3 c4 c5 c6 c7 d:Bool} (h0:aB k 0=c0) (h1:aB k 1=c1) (h2:aB k 2=c2) (h3:aB k 3=c3) (h4:aB i 0=c4) (h5:aB i 1=c5) (h6:ju s []=c6) (h7:aH 2000 (Int.ofNat s.length)=c7)
  (hl:KD (.loop (roundOf Tryz.f102 0)) (fun e q=>(e=.exit 1/\d=true/\q=(Hf k i s).an Tryz.f102.ntmps)∨(e=.ret/\d=false/\q=Hg.an Tryz.f102.ntmps)) ((Bv k i s (Int.ofNat 0)).an Tryz.f102.ntmps)) :
  ae 102 [.dat (lf k i s)] (bv (if (!c3&&!c6)=true then false else if c0=true then c4 else if c1=true then true else if c2=true then c4||c5 else if c3=true then d&&(c4&&!c7) else false)):=by
 cases c6
 ·refine co [11,21,24,26,28,31,35,38,54,59,15] [] (x:=.of Tryz.f102 za sZ) ?_;refine ox h3 ?_
  cases c3
  ·refine ox h6 ?_;exact fi
  refine ob h0 ?_
  cases c0
  ·refine ob h1 ?_
   cases c1
   ·refine ob h2 ?_
    cases c2
    ·refine ob h3 ?_;refine lo hl ?_;rintro ex s (⟨rfl,rfl,rfl⟩|⟨rfl,rfl,rfl⟩)
     ·refine⟨_,rfl,?_⟩;refine ob h4 ?_
      cases c4
      ·exact fi
      refine ox h7 ?_
      cases c7 <;>
      ·exact fi
     refine⟨_,rfl,?_⟩;exact fi
    refine ob h4 ?_
    cases c4
    ·refine ob h5 ?_
     cases c5 <;>
     ·exact fi
    exact fi
   exact fi
  refine ob h4 ?_
  cases c4 <;>
  ·exact fi
 refine co [11,21,24,26,28,31,35,38,54,59,15] [] (x:=.of Tryz.f102 za sZ) ?_;refine ox h3 ?_
 cases c3
 ·refine ox h6 ?_;refine ob h0 ?_
  cases c0
  ·refine ob h1 ?_
   cases c1
   ·refine ob h2 ?_
    cases c2
    ·refine ob h3 ?_;exact fi
    refine ob h4 ?_
    cases c4
    ·refine ob h5 ?_
     cases c5 <;>
     ·exact fi
    exact fi
   exact fi
  refine ob h4 ?_
  cases c4 <;>
  ·exact fi
 refine ob h0 ?_
 cases c0
 ·refine ob h1 ?_
  cases c1
  ·refine ob h2 ?_
   cases c2
   ·refine ob h3 ?_;refine lo hl ?_;rintro ex s (⟨rfl,rfl,rfl⟩|⟨rfl,rfl,rfl⟩)
    ·refine⟨_,rfl,?_⟩;refine ob h4 ?_
     cases c4
     ·exact fi
     refine ox h7 ?_
     cases c7 <;>
     ·exact fi
    refine⟨_,rfl,?_⟩;exact fi
   refine ob h4 ?_
   cases c4
   ·refine ob h5 ?_
    cases c5 <;>
    ·exact fi
   exact fi
  exact fi
 refine ob h4 ?_
 cases c4 <;>
 ·exact fi
theorem TX {k i:Int} {s:List UInt8} (hn:s.length < 1000000000):ae 102 [.dat (lf k i s)] (bv (mg k i s)):=TP rfl rfl rfl rfl rfl rfl rfl rfl (QO hn)
theorem QZ {t:Ty} {v:Int} {fv:List Int} (h1:ae 146 [.dat t.enc] (iv v)) (h2:ae 147 [.dat t.enc] (.dat (sl (fv.map iN)))):ae 100 [.dat t.enc] (bv (aB v 0&&Ks fv)):=by
 obtain⟨k,nm,ix,la⟩:=t;generalize h3:aB v 0=c
 rcases fv with _|⟨x,fv⟩
 ·rcases la with _|⟨y,la⟩ <;>
  ·refine co [5] [] (x:=.of Tryz.f100 C9 Di) ?_;refine on h1 ?_;refine ob h3 ?_
   cases c
   ·exact fi
   refine on h2 ?_;exact fi
 have h4:aB (Int.ofNat ((x::fv).map iN).length) 0=false:=rfl
 rcases la with _|⟨y,la⟩ <;>
 ·refine co [5] [] (x:=.of Tryz.f100 C9 Di) ?_;refine on h1 ?_;refine ob h3 ?_
  cases c
  ·exact fi
  refine on h2 ?_;exact fi
theorem DO {t:Ty} {c:Bool} (h1:ae 82 [.dat t.enc,.dat (Ty.mk 0 [] 0 []).enc] (bv c)):ae 101 [.dat t.enc] (bv c):=by
 obtain⟨k,nm,ix,la⟩:=t
 rcases la with _|⟨y,la⟩ <;>
 ·refine co [] [] (x:=.of Tryz.f101 HZ Ko) ?_;refine on h1 ?_;exact fi
theorem aN (t:Bool) (l:Nat) {p s:Int} {d1 d2:al} (h1:cV d1) (h2:cV d2):er (env ak.aC) t 26 [.ptr (.loc l) 0] (some (.cells (cC p s d1 d2)))=some ⟨.dat (aP p s d1 d2),.keep⟩:=by
 cases t <;> rcases h1 with rfl|⟨e1,rfl⟩ <;> rcases h2 with rfl|⟨e2,rfl⟩ <;> kernel_rfl
theorem PN (t:Bool) (l:Nat) {op dst a b im:Int} {nm:List UInt8} {dx:al} {k:Int} {tn:List UInt8} {ix:Int} {dt:al} {ck ci:Int} {cs:List UInt8} (h1:cV dx) (h2:cV dt):er (env ak.aC) t 45 [.ptr (.loc l) 0] (some (.cells (cX op dst a b im nm dx k tn ix dt ck ci cs)))=some ⟨.dat (eb op dst a b im nm dx k tn ix dt ck ci cs),.keep⟩:=by
 cases t <;> rcases h1 with rfl|⟨e1,rfl⟩ <;> rcases h2 with rfl|⟨e2,rfl⟩ <;> kernel_rfl
theorem bD (t:Bool) (l:Nat) {op dst a b im:Int} {nm:List UInt8} {dx:al} {k:Int} {tn:List UInt8} {ix:Int} {dt:al} {ck ci:Int} {cs:List UInt8} (h1:cV dx) (h2:cV dt):er (env ak.aC) t 40 [.ptr (.loc l) 7] (some (.cells (cX op dst a b im nm dx k tn ix dt ck ci cs)))=some ⟨.dat (.agg [i64 k,sb tn,i64 ix,dt]),.keep⟩:=by
 cases t <;> rcases h1 with rfl|⟨e1,rfl⟩ <;> rcases h2 with rfl|⟨e2,rfl⟩ <;> kernel_rfl
theorem bd (t:Bool) (l:Nat) {op dst a b im:Int} {nm:List UInt8} {dx:al} {k:Int} {tn:List UInt8} {ix:Int} {dt:al} {ck ci:Int} {cs:List UInt8} (h1:cV dx) (h2:cV dt):er (env ak.aC) t 43 [.ptr (.loc l) 11] (some (.cells (cX op dst a b im nm dx k tn ix dt ck ci cs)))=some ⟨.dat (lf ck ci cs),.keep⟩:=by
 cases t <;> rcases h1 with rfl|⟨e1,rfl⟩ <;> rcases h2 with rfl|⟨e2,rfl⟩ <;> kernel_rfl
theorem U5 {p sl:Int} {d1 d2:al} (g1:cV d1) (g2:cV d2) {op dst a b im:Int} {nm:List UInt8} {dx:al} {k:Int} {tn:List UInt8} {ix:Int} {dt:al} {ck ci:Int} {cs:List UInt8} (g3:cV dx) (g4:cV dt) {s:ke} {ok c1 c2 c3 c4 c5 c6 c7 c8:Bool}
  (h0:ae 58 [iv op] (.tup [.dat s.enc,bv ok])) (h1:ae 97 [.dat (aP p sl d1 d2),.dat (eb op dst a b im nm dx k tn ix dt ck ci cs),.dat s.enc] (bv c1)) (h2:ae 98 [.dat (aP p sl d1 d2),.dat (eb op dst a b im nm dx k tn ix dt ck ci cs)] (bv c2))
  (h3:ae 99 [.dat (sb nm)] (bv c3)) (h4:ju nm []=c4) (h5:ae 100 [.dat (.agg [i64 k,sb tn,i64 ix,dt])] (bv c5)) (h6:ae 101 [.dat (.agg [i64 k,sb tn,i64 ix,dt])] (bv c6))
  (h7:ae 102 [.dat (lf ck ci cs)] (bv c7)) (h8:aB ck 0=c8) :
  ae 67 [.dat (aP p sl d1 d2),.dat (eb op dst a b im nm dx k tn ix dt ck ci cs)] (bv (ok&&(c1&&(c2&&((if s.nm=true then c3 else c4)&&((if s.ty=true then c5 else c6)&&(c7&&(s.con||c8)))))))):=by
 have q1:=aS (p:=p) (s:=sl) g1 g2;have q2:=@br op dst a b im nm dx k tn ix dt ck ci cs g3 g4;have q3:=aN false 2 (p:=p) (s:=sl) g1 g2;have q4:=@PN false 3 op dst a b im nm dx k tn ix dt ck ci cs g3 g4;have q5:=@bD false 3 op dst a b im nm dx k tn ix dt ck ci cs g3 g4;have q6:=@bd false 3 op dst a b im nm dx k tn ix dt ck ci cs g3 g4;clear g1 g2 g3 g4;obtain⟨w,s1,s2,s3,s4,s5,s6,s7,s8,s9,s10,s11⟩:=s
 cases s5
 ·cases s7
  ·refine co [45,78] [2,3,17,18,24,25,63,69] (x:=.of Tryz.f67 BN zk) ?_;refine oo q1 ?_;refine oo q2 ?_;refine on h0 ?_
   cases ok
   ·exact fi
   refine oo q3 ?_;refine oo q4 ?_;refine on h1 ?_
   cases c1
   ·exact fi
   refine oo q3 ?_;refine oo q4 ?_;refine on h2 ?_
   cases c2
   ·exact fi
   refine ox h4 ?_
   cases c4
   ·exact fi
   refine oo q5 ?_;refine on h6 ?_
   cases c6
   ·exact fi
   refine oo q6 ?_;refine on h7 ?_
   cases c7
   ·exact fi
   cases s8
   ·refine ob h8 ?_
    cases c8 <;>
    ·exact fi
   exact fi
  refine co [45,78] [2,3,17,18,24,25,53,69] (x:=.of Tryz.f67 BN zk) ?_;refine oo q1 ?_;refine oo q2 ?_;refine on h0 ?_
  cases ok
  ·exact fi
  refine oo q3 ?_;refine oo q4 ?_;refine on h1 ?_
  cases c1
  ·exact fi
  refine oo q3 ?_;refine oo q4 ?_;refine on h2 ?_
  cases c2
  ·exact fi
  refine ox h4 ?_
  cases c4
  ·exact fi
  refine oo q5 ?_;refine on h5 ?_
  cases c5
  ·exact fi
  refine oo q6 ?_;refine on h7 ?_
  cases c7
  ·exact fi
  cases s8
  ·refine ob h8 ?_
   cases c8 <;>
   ·exact fi
  exact fi
 cases s7
 ·refine co [78] [2,3,17,18,24,25,63,69] (x:=.of Tryz.f67 BN zk) ?_;refine oo q1 ?_;refine oo q2 ?_;refine on h0 ?_
  cases ok
  ·exact fi
  refine oo q3 ?_;refine oo q4 ?_;refine on h1 ?_
  cases c1
  ·exact fi
  refine oo q3 ?_;refine oo q4 ?_;refine on h2 ?_
  cases c2
  ·exact fi
  refine on h3 ?_
  cases c3
  ·exact fi
  refine oo q5 ?_;refine on h6 ?_
  cases c6
  ·exact fi
  refine oo q6 ?_;refine on h7 ?_
  cases c7
  ·exact fi
  cases s8
  ·refine ob h8 ?_
   cases c8 <;>
   ·exact fi
  exact fi
 refine co [78] [2,3,17,18,24,25,53,69] (x:=.of Tryz.f67 BN zk) ?_;refine oo q1 ?_;refine oo q2 ?_;refine on h0 ?_
 cases ok
 ·exact fi
 refine oo q3 ?_;refine oo q4 ?_;refine on h1 ?_
 cases c1
 ·exact fi
 refine oo q3 ?_;refine oo q4 ?_;refine on h2 ?_
 cases c2
 ·exact fi
 refine on h3 ?_
 cases c3
 ·exact fi
 refine oo q5 ?_;refine on h5 ?_
 cases c5
 ·exact fi
 refine oo q6 ?_;refine on h7 ?_
 cases c7
 ·exact fi
 cases s8
 ·refine ob h8 ?_
  cases c8 <;>
  ·exact fi
 exact fi
def fk (l:List Bool):List ac:=l.map bv
theorem dw:∀l:List Int,bC (.cells (bB l))=true
 | []=>rfl
 | a::r=>by
  have h:bA (bB r)=true:=dw r;show (fH (iv a)&&bA (bB r))=true;rw[h];rfl
theorem iL:∀l:List Bool,bC (.cells (fk l))=true
 | []=>rfl
 | a::r=>by
  have h:bA (fk r)=true:=iL r;show (fH (bv a)&&bA (fk r))=true;rw[h];rfl
theorem E0:∀(l:List Int) (i:Nat) (x:Int),i < l.length->cO i [iv x] (bB l)=bB (l.set i x)
 | [],i,x,h=>absurd h (Nat.not_lt_zero i)
 | a::r,0,x,_=>by simp[cO,bB]
 | a::r,i+1,x,h=>by
  show iv a::cO i [iv x] (bB r)=_;rw[E0 r i x (Nat.lt_of_succ_lt_succ h)];rfl
theorem E1:∀(l:List Bool) (i:Nat) (x:Bool),i < l.length->cO i [bv x] (fk l)=fk (l.set i x)
 | [],i,x,h=>absurd h (Nat.not_lt_zero i)
 | a::r,0,x,_=>by simp[cO,fk]
 | a::r,i+1,x,h=>by
  show bv a::cO i [bv x] (fk r)=_;rw[E1 r i x (Nat.lt_of_succ_lt_succ h)];rfl
theorem qt:∀l:List Int,cy (bB l)=false
 | []=>rfl
 | [_]=>rfl
 | [_,_]=>rfl
 | _::_::_::_=>rfl
theorem Cl:∀l:List Bool,cy (fk l)=false
 | []=>rfl
 | [_]=>rfl
 | [_,_]=>rfl
 | _::_::_::_=>rfl
noncomputable def MT:TI:=match (env ak.aC).ty 3 with|some t=>t|none=>default
theorem D7:(env ak.aC).ty 3=some MT:=by kernel_rfl
theorem KO:MT.isAgg=false:=by kernel_rfl
theorem GO:MT.size=1:=by kernel_rfl
noncomputable def GQ:TI:=match (env ak.aC).ty 4 with|some t=>t|none=>default
theorem Bd:(env ak.aC).ty 4=some GQ:=by kernel_rfl
theorem GP:GQ.isAgg=false:=by kernel_rfl
theorem D9:GQ.size=1:=by kernel_rfl
noncomputable def wM:TI:=match Go.Tp.elemOf (env ak.aC) 35 with|some t=>t|none=>default
theorem Jk:Go.Tp.elemOf (env ak.aC) 35=some wM:=by kernel_rfl
theorem pY:wM.size=1:=by kernel_rfl
theorem zq {l:List Int} {i:Nat} {x:Int} (m:Name) (h:l[i]?=some x):er (env ak.aC) false 3 [.ptr m i] (some (.cells (bB l)))=some ⟨iv x,.keep⟩:=
 BU D7 KO (by show (l.map iv)[i]?=_;rw[List.getElem?_map,h];rfl)
theorem M3 {l:List Int} {i:Nat} (m:Name) (x:Int) (h:i < l.length):dR (env ak.aC) 3 [.ptr m i,iv x] (some (.cells (bB l)))=some ⟨.undef,.set (.cells (bB (l.set i x)))⟩:=by
 have h1:=E0 l i x h
 have:=xS (m:=m) (v:=.int .i64 x) D7 GO (cs:=bB l) (off:=i) (by show i < (l.map iv).length;simpa using h) (by
  show cy (cO i [iv x] (bB l))=false;rw[h1];exact qt _)
 rw[←h1];exact this
theorem Dj {l:List Bool} {i:Nat} {x:Bool} (m:Name) (h:l[i]?=some x):er (env ak.aC) false 4 [.ptr m i] (some (.cells (fk l)))=some ⟨bv x,.keep⟩:=
 BU Bd GP (by show (l.map bv)[i]?=_;rw[List.getElem?_map,h];rfl)
theorem M4 {l:List Bool} {i:Nat} (m:Name) (x:Bool) (h:i < l.length):dR (env ak.aC) 4 [.ptr m i,bv x] (some (.cells (fk l)))=some ⟨.undef,.set (.cells (fk (l.set i x)))⟩:=by
 have h1:=E1 l i x h
 have:=xS (m:=m) (v:=.bool x) Bd D9 (cs:=fk l) (off:=i) (by show i < (l.map bv).length;simpa using h) (by
  show cy (cO i [bv x] (fk l))=false;rw[h1];exact Cl _)
 rw[←h1];exact this
theorem zx {m:Name} {n k:Nat} (h:k < n):aq (env ak.aC) 22 [.win m 1 0 n,iv (Int.ofNat k)]=some ⟨.ptr m k,.keep⟩:=by
 have:=Go.Tp.xu (m:=m) (off:=0) (s:=1) Cy fe.symm h
 rw[Nat.zero_add,Nat.mul_one] at this;exact this
theorem qh {m:Name} {n k:Nat} (h:k < n):aq (env ak.aC) 35 [.win m 1 0 n,iv (Int.ofNat k)]=some ⟨.ptr m k,.keep⟩:=by
 have:=Go.Tp.xu (m:=m) (off:=0) (s:=1) Jk pY.symm h
 rw[Nat.zero_add,Nat.mul_one] at this;exact this
theorem zo {m:Name} {n:Nat} (h:n < 1000000000):jB (env ak.aC) 35 [.win m 1 0 n] none=some ⟨iv (Int.ofNat n),.keep⟩:=by
 have e:jB (env ak.aC) 35 [.win m 1 0 n] none=if Nat.ble n lim=true then some ⟨iv (Int.ofNat n),.keep⟩ else none:=by kernel_rfl
 rw[e,if_pos];rw[Nat.ble_eq];simp only[lim];omega
theorem uC {a:ac}:∀n:Nat,ot [a] n=List.replicate n a
 | 0=>rfl
 | n+1=>by show [a]++ot [a] n=_;rw[uC n];rfl
theorem Td (n:Nat):bB (List.replicate n 0)=ot [iv 0] n:=by rw[uC];simp[bB]
theorem TY (n:Nat):fk (List.replicate n false)=ot [bv false] n:=by rw[uC];simp[fk]
theorem SA {n:Nat} (h:n < 1000000):eV (env ak.aC) 22 [iv (Int.ofNat n),iv (Int.ofNat n)]=some ⟨.undef,.grow (.cells (bB (List.replicate n 0))) 1 n⟩:=by
 have e:eV (env ak.aC) 22 [iv (Int.ofNat n),iv (Int.ofNat n)]=if (Nat.ble n n&&Nat.ble (ri.bytes*n) 140737488355328&&Nat.ble n lim&&Nat.blt 0 ri.size&&eD (bj (bE ri.zero))&&!cy (ot (bj (bE ri.zero)) n))=true
    then some ⟨.undef,.grow (.cells (ot (bj (bE ri.zero)) n)) ri.size n⟩ else none:=by kernel_rfl
 have ez:bj (bE ri.zero)=[iv 0]:=by kernel_rfl
 rw[e,ez,←Td,qt,fe];have hb:ri.bytes<=1000:=fM (by kernel_rfl);have h1:Nat.ble n n=true:=by rw[Nat.ble_eq];exact Nat.le_refl _
 have h2:Nat.ble (ri.bytes*n) 140737488355328=true:=by
  rw[Nat.ble_eq]
  calc ri.bytes*n<=1000*1000000:=Nat.mul_le_mul hb (by omega)
   _<=140737488355328:=by decide
 have h3:Nat.ble n lim=true:=by rw[Nat.ble_eq];simp only[lim];omega
 rw[h1,h2,h3];rfl
theorem Fh {n:Nat} (h:n < 1000000):eV (env ak.aC) 35 [iv (Int.ofNat n),iv (Int.ofNat n)]=some ⟨.undef,.grow (.cells (fk (List.replicate n false))) 1 n⟩:=by
 have e:eV (env ak.aC) 35 [iv (Int.ofNat n),iv (Int.ofNat n)]=if (Nat.ble n n&&Nat.ble (wM.bytes*n) 140737488355328&&Nat.ble n lim&&Nat.blt 0 wM.size&&eD (bj (bE wM.zero))&&!cy (ot (bj (bE wM.zero)) n))=true
    then some ⟨.undef,.grow (.cells (ot (bj (bE wM.zero)) n)) wM.size n⟩ else none:=by kernel_rfl
 have ez:bj (bE wM.zero)=[bv false]:=by kernel_rfl
 rw[e,ez,←TY,Cl,pY];have hb:wM.bytes<=1000:=fM (by kernel_rfl);have h1:Nat.ble n n=true:=by rw[Nat.ble_eq];exact Nat.le_refl _
 have h2:Nat.ble (wM.bytes*n) 140737488355328=true:=by
  rw[Nat.ble_eq]
  calc wM.bytes*n<=1000*1000000:=Nat.mul_le_mul hb (by omega)
   _<=140737488355328:=by decide
 have h3:Nat.ble n lim=true:=by rw[Nat.ble_eq];simp only[lim];omega
 rw[h1,h2,h3];rfl
def Wo (c:Bool) (r m:Int):Int:=match c with|true=>ap .i64 (r+m)|false=>r
theorem R9 {n m:Int} (h:aB m 0=false):My (env ak.aC) .rem 3 [iv n,iv m]=some ⟨iv (n.tmod m),.keep⟩:=by
 have h1:My (env ak.aC) .rem 3 [iv n,iv m]=Wl (if aB m 0=true then none else some (.int .i64 (n.tmod m))):=by kernel_rfl
 rw[h1,h];rfl
theorem Wn {n m:Int} {c:Bool} (h1:My (env ak.aC) .rem 3 [iv n,iv m]=some ⟨iv (n.tmod m),.keep⟩) (h2:aH (n.tmod m) 0=c):ae 28 [iv n,iv m] (iv (Wo c (n.tmod m) m)):=by
 refine co [9] [7] (x:=.of Tryz.f28 OH PI) ?_;refine oo h1 ?_;refine ob h2 ?_
 cases c <;>
 ·exact fi
theorem UY (n:Int) {m:Nat} (hm:0 < m) (hb:m < 1000000000):ae 28 [iv n,iv (Int.ofNat m)] (iv (n % Int.ofNat m)):=by
 have h:=Wn (n:=n) (m:=Int.ofNat m) (R9 (by rw[ct,beq_eq_false_iff_ne];intro h;have:=Int.ofNat.inj (h.trans (show (0:Int)=Int.ofNat 0 from rfl));omega)) rfl;have e:Wo (aH (n.tmod (Int.ofNat m)) 0) (n.tmod (Int.ofNat m)) (Int.ofNat m)=n % Int.ofNat m:=by
  have h0:(0:Int) < Int.ofNat m:=by simp;omega
  have h1:=Int.emod_nonneg n (show Int.ofNat m≠0 by omega);have h2:=Int.emod_lt_of_pos n h0;have h3:Int.ofNat m < 1000000000:=by simp;omega
  rw[cW];have ht:=Int.tmod_eq_emod (a:=n) (b:=Int.ofNat m);generalize Int.ofNat m=M at *;generalize n % M=q at *;rw[ht];unfold Wo
  split at ht
  ·rename_i hc;rw[if_pos hc,show ((0:Nat):Int)=0 from rfl,Int.sub_zero];rw[decide_eq_false (by omega)]
  rename_i hc;rw[if_neg hc];have hM:(M.natAbs:Int)=M:=by omega
  rw[hM];rw[decide_eq_true (by omega)];dsimp only;rw[cF,wrap_i64 (by omega) (by omega)];omega
 rw[e] at h;exact h
def db (l:List al) (k:Int):Heap:=[(.out 0,.cells [.dat (.slice l),iv k])]
def dy:ac:=.ptr (.out 0) 0
theorem UZ {l:List al}:KC 10 [.dat (.slice l)] [] 0 (XQ ⟨dy,db l 0,1⟩):=by
 refine co [] [] (x:=.of Tryz.f10 Pd PM) ?_;exact fi
theorem JV {l:List al} {k n x r:Int} {c:Bool} (h1:aH k (Int.ofNat l.length)=c) (h2:c=true->aq (env ak.aC) 22 [.dat (.slice l),.dat (.flat (.int .i64 (ap .i64 (ap .i64 (k+1) - 1))))]=some ⟨.ref [iN x],.keep⟩) (h3:ae 28 [iv x,iv n] (iv r)) :
  KC 32 [dy,iv n] (db l k) 1 (XQ ⟨iv (match c with|true=>r|false=>0),db l (match c with|true=>ap .i64 (k+1)|false=>k),1⟩):=by
 refine co [14] [31] (x:=.of Tryz.f32 OF PG) ?_;refine ox h1 ?_
 cases c
 ·exact fi
 refine oo (h2 rfl) ?_;refine on h3 ?_;exact fi
theorem bq {l:List Int} {k:Nat} {n:Nat} (hl:l.length < 1000000000) (hk0:k<=l.length) (hn:0 < n) (hb:n < 1000000000) :
  ∃r k2:Nat,(r < n/\k<=k2/\k2<=l.length/\(0 < r->k < k2))/\KC 32 [dy,iv (Int.ofNat n)] (db (l.map iN) (Int.ofNat k)) 1 (XQ ⟨iv (Int.ofNat r),db (l.map iN) (Int.ofNat k2),1⟩):=by
 by_cases hk:k < l.length
 ·have hg:l[k]?=some l[k]:=List.getElem?_eq_getElem hk;have hw:ap .i64 (Int.ofNat k+1)=Int.ofNat (k+1):=ba (by omega);have hw2:ap .i64 (Int.ofNat (k+1) - 1)=Int.ofNat k:=by
   rw[cF,show Int.ofNat (k+1) - 1=Int.ofNat k by simp];exact wrap_i64 (by show _<=(k:Int);omega) (by show (k:Int)<=_;omega)
  have h0:=Int.emod_nonneg l[k] (show Int.ofNat n≠0 from fun h=>absurd (Int.ofNat.inj (h.trans (show (0:Int)=Int.ofNat 0 from rfl))) (by omega));have h2:=Int.emod_lt_of_pos l[k] (show (0:Int) < Int.ofNat n from Int.ofNat_lt.2 hn);refine⟨(l[k] % Int.ofNat n).toNat,k+1,⟨(Int.toNat_lt h0).2 h2,by omega,by omega,fun _=>by omega⟩,?_⟩;have h:=@JV (l.map iN) (Int.ofNat k) (Int.ofNat n) (l[k]) (l[k] % Int.ofNat n) true (by rw[gI,List.length_map,decide_eq_true hk]) (fun _=>by rw[hw,hw2];exact uY hg) (UY _ hn hb);dsimp only at h;rw[hw] at h;rw[show Int.ofNat (l[k] % Int.ofNat n).toNat=l[k] % Int.ofNat n from Int.toNat_of_nonneg h0];exact h
 refine⟨0,k,⟨hn,by omega,by omega,fun h=>by omega⟩,?_⟩;exact @JV (l.map iN) (Int.ofNat k) (Int.ofNat n) 0 0 false (by rw[gI,List.length_map,decide_eq_false hk]) (fun h=>by simp at h) (by have:=UY 0 hn hb;rw[Int.zero_emod] at this;exact this)
noncomputable def YT:Hints:=⟨bS,OE,bg,rowsOf bg 4⟩
def SC (c:List ac):Heap:=[(.loc 3,.cells c)]
def Ha (c:List ac) (H:Heap) (rd:al) (i:Int):ab:=⟨[(5,iv i),(4,.dat rd),(3,.ptr (.loc 3) 0)],SC c,H,1⟩
def Um (c:List ac) (H:Heap) (rd:al) (i:Int):ab:=⟨[(39,bv false),(5,iv i),(4,.dat rd),(3,.ptr (.loc 3) 0)],SC c,H,1⟩
def Ej (c:List ac) (H:Heap) (rd:al) (i:Int) (dl:al) (k:Int):ab:=⟨[(8,iv k),(6,.dat dl),(5,iv i),(4,.dat rd),(3,.ptr (.loc 3) 0)],SC c,H,1⟩
def Js (c:List ac) (H:Heap) (rd:al) (i:Int) (dl:al) (k:Int):ab:=⟨[(69,bv false),(8,iv k),(6,.dat dl),(5,iv i),(4,.dat rd),(3,.ptr (.loc 3) 0)],SC c,H,1⟩
def Un (H:Heap):ab:=⟨[(2,bv false)],[],H,1⟩
theorem acM {p sl K:Int} {l es els rs:List al} {d2:al} {i k to:Int} {yi yt:Bool} {T:Exit->aa->Prop} (h0:aH k (Int.ofNat els.length)=true)
  (h1:aq (env ak.aC) 22 [.dat (.slice els),iv k]=some ⟨.ref [iN to],.keep⟩) (h2:aH to 0=false) (h3:aH to (Int.ofNat rs.length)=true)
  (h4:aq (env ak.aC) 35 [.dat (.slice rs),iv i]=some ⟨.ref [bl yi],.keep⟩) (h5:aq (env ak.aC) 35 [.dat (.slice rs),iv to]=some ⟨.ref [bl yt],.keep⟩)
  (e1:(yi&&!yt)=false->T .normal ((Ej (cC p sl (.slice es) d2) (db l K) (.slice rs) i (.slice els) (ap .i64 (k+1))).an Tryz.f4.ntmps)) (e2:(yi&&!yt)=true->T .ret ((Un (db l K)).an Tryz.f4.ntmps)) :
  KD (roundOf Tryz.f4 1) T ((Ej (cC p sl (.slice es) d2) (db l K) (.slice rs) i (.slice els) k).an Tryz.f4.ntmps):=by
 refine ay [69,76,84] [74,80,89,95,97] (H:=YT) (live:=sQ) (by kernel_rfl) ?_;refine ob h0 ?_;refine oo h1 ?_;refine ob h2 ?_;refine oo h1 ?_;refine ox h3 ?_;refine oo h4 ?_
 cases yi
 ·exact oe (e1 rfl)
 refine oo h1 ?_;refine oo h5 ?_
 cases yt
 ·exact oe (e2 rfl)
 exact oe (e1 rfl)
theorem aax {p sl K:Int} {l es els rs:List al} {d2:al} {i k:Int} {T:Exit->aa->Prop} (h0:aH k (Int.ofNat els.length)=false)
  (e:T (.exit 2) ((Js (cC p sl (.slice es) d2) (db l K) (.slice rs) i (.slice els) k).an Tryz.f4.ntmps)) :
  KD (roundOf Tryz.f4 1) T ((Ej (cC p sl (.slice es) d2) (db l K) (.slice rs) i (.slice els) k).an Tryz.f4.ntmps):=by
 refine ay [69] [] (H:=YT) (live:=sQ) (by kernel_rfl) ?_;refine ob h0 ?_;exact oe e
theorem aay {p sl K:Int} {l es rs:List al} {d2:al} {i:Int} {T:Exit->aa->Prop}
  (e:T (.exit 2) ((Js (cC p sl (.slice es) d2) (db l K) (.slice rs) i nl 0).an Tryz.f4.ntmps)) :
  KD (roundOf Tryz.f4 1) T ((Ej (cC p sl (.slice es) d2) (db l K) (.slice rs) i nl 0).an Tryz.f4.ntmps):=by
 refine ay [] [] (H:=YT) (live:=sQ) (by kernel_rfl) ?_;exact oe e
theorem acN {p sl K:Int} {l es els rs:List al} {d2:al} (g2:cV d2) {i op:Int} {lc:List al} {T:Exit->aa->Prop} (h0:aH i (Int.ofNat es.length)=true)
  (hs:ae 16 [.dat (aP p sl (.slice es) d2),iv i] (.dat (.slice els)))
  (hi:aq (env ak.aC) 23 [.dat (.slice es),.dat (.flat (.int .i64 i))]=some ⟨.ref (i64 op::lc),.keep⟩) (h16:aB op 16=false) (h19:aB op 19=false) (hne:aB (Int.ofNat els.length) 0=false)
  (hl:KD (.loop (roundOf Tryz.f4 1)) (fun e q=>e=.exit 2/\∃k,q=(Js (cC p sl (.slice es) d2) (db l K) (.slice rs) i (.slice els) k).an Tryz.f4.ntmps) ((Ej (cC p sl (.slice es) d2) (db l K) (.slice rs) i (.slice els) 0).an Tryz.f4.ntmps))
  (e:T .normal ((Ha (cC p sl (.slice es) d2) (db l K) (.slice rs) (ap .i64 (i+1))).an Tryz.f4.ntmps)) :
  KD (roundOf Tryz.f4 0) T ((Ha (cC p sl (.slice es) d2) (db l K) (.slice rs) i).an Tryz.f4.ntmps):=by
 have q3:=@aN false 3 p sl (.slice es) _ (.inr ⟨_,rfl⟩) g2;clear g2;refine ay [39,51,59,63] [42,48,56] (H:=YT) (live:=sQ) (by kernel_rfl) ?_;refine ob h0 ?_;refine oo q3 ?_;refine on hs ?_;refine oo hi ?_;refine ob h16 ?_;refine oo hi ?_;refine ob h19 ?_;refine ob hne ?_;refine lo hl ?_;rintro ex s ⟨rfl,⟨x0,rfl⟩⟩;refine⟨_,rfl,?_⟩;exact oe e
theorem aaA {p sl K:Int} {l es rs:List al} {d2:al} (g2:cV d2) {i op:Int} {lc:List al} {c16 c19:Bool} {T:Exit->aa->Prop} (h0:aH i (Int.ofNat es.length)=true)
  (hs:ae 16 [.dat (aP p sl (.slice es) d2),iv i] (.dat nl))
  (hi:aq (env ak.aC) 23 [.dat (.slice es),.dat (.flat (.int .i64 i))]=some ⟨.ref (i64 op::lc),.keep⟩) (h16:aB op 16=c16) (h19:aB op 19=c19)
  (hl:KD (.loop (roundOf Tryz.f4 1)) (fun e q=>e=.exit 2/\∃k,q=(Js (cC p sl (.slice es) d2) (db l K) (.slice rs) i nl k).an Tryz.f4.ntmps) ((Ej (cC p sl (.slice es) d2) (db l K) (.slice rs) i nl 0).an Tryz.f4.ntmps))
  (e:(c16||c19)=true->T .normal ((Ha (cC p sl (.slice es) d2) (db l K) (.slice rs) (ap .i64 (i+1))).an Tryz.f4.ntmps)) (e2:(c16||c19)=false->T .ret ((Un (db l K)).an Tryz.f4.ntmps)) :
  KD (roundOf Tryz.f4 0) T ((Ha (cC p sl (.slice es) d2) (db l K) (.slice rs) i).an Tryz.f4.ntmps):=by
 have q3:=@aN false 3 p sl (.slice es) _ (.inr ⟨_,rfl⟩) g2;clear g2;refine ay [39,51,59] [42,48,56] (H:=YT) (live:=sQ) (by kernel_rfl) ?_;refine ob h0 ?_;refine oo q3 ?_;refine on hs ?_;refine oo hi ?_;refine ob h16 ?_
 cases c16
 ·refine oo hi ?_;refine ob h19 ?_
  cases c19
  ·exact oe (e2 rfl)
  refine lo hl ?_;rintro ex s ⟨rfl,⟨x1,rfl⟩⟩;refine⟨_,rfl,?_⟩;exact oe (e rfl)
 refine lo hl ?_;rintro ex s ⟨rfl,⟨x0,rfl⟩⟩;refine⟨_,rfl,?_⟩;exact oe (e rfl)
theorem aaz {p sl K:Int} {l es rs:List al} {d2:al} {i:Int} {T:Exit->aa->Prop} (h0:aH i (Int.ofNat es.length)=false) (e:T (.exit 0) ((Um (cC p sl (.slice es) d2) (db l K) (.slice rs) i).an Tryz.f4.ntmps)) :
  KD (roundOf Tryz.f4 0) T ((Ha (cC p sl (.slice es) d2) (db l K) (.slice rs) i).an Tryz.f4.ntmps):=by
 refine ay [39] [] (H:=YT) (live:=sQ) (by kernel_rfl) ?_;refine ob h0 ?_;exact oe e
theorem Jo (l:Nat) {p s:Int} {d1 d2:al} (h1:cV d1) (h2:cV d2):dR (env ak.aC) 26 [.ptr (.loc l) 0,.dat (aP p s d1 d2)] (some (.cells (cC 0 0 nl nl)))=some ⟨.undef,.set (.cells (cC p s d1 d2))⟩:=by
 rcases h1 with rfl|⟨e1,rfl⟩ <;> rcases h2 with rfl|⟨e2,rfl⟩ <;> kernel_rfl
theorem Tc {p sl K v:Int} {l es:List al} {d2:al} (g2:cV d2) (hc:KC 9 [dy,iv 1] (db l 0) 1 (XQ ⟨.dat (aP p sl (.slice es) d2),db l K,1⟩)) (hk:ae 12 [] (bv true))
  (h1:ae 13 [.dat (aP p sl (.slice es) d2)] (iv v)) (h2:ae 14 [.dat (aP p sl (.slice es) d2)] (iv v)) (hv:aB v 0=false) :
  ae 4 [.dat (.slice l)] (bv true):=by
 have hN:=UZ (l:=l);have q3:=@aN false 3 p sl (.slice es) _ (.inr ⟨_,rfl⟩) g2;have q4:=@Jo 3 p sl (.slice es) _ (.inr ⟨_,rfl⟩) g2;clear g2;refine co [14,19] [100003,12,17] (x:=.of Tryz.f4 OE sQ) ?_;refine oh hN ?_;refine oh hc ?_;refine oo q4 ?_;refine oo q3 ?_;refine on h1 ?_;refine ox hv ?_;refine on hk ?_;refine oo q3 ?_;refine on h2 ?_;refine ox hv ?_;exact fi
theorem PS {p sl K:Int} {l es rs:List al} {d2:al} (g2:cV d2) (hc:KC 9 [dy,iv 1] (db l 0) 1 (XQ ⟨.dat (aP p sl (.slice es) d2),db l K,1⟩)) (hk:ae 12 [] (bv true))
  (h1:ae 13 [.dat (aP p sl (.slice es) d2)] (iv 0)) (h2:ae 15 [.dat (aP p sl (.slice es) d2)] (.dat (.slice rs))) (hl:aB (Int.ofNat rs.length) (Int.ofNat es.length)=true)
  (h3:aq (env ak.aC) 35 [.dat (.slice rs),iv 0]=some ⟨.ref [bl true],.keep⟩)
  (ho:KD (.loop (roundOf Tryz.f4 0)) (fun e q=>e=.exit 0/\∃i,q=(Um (cC p sl (.slice es) d2) (db l K) (.slice rs) i).an Tryz.f4.ntmps) ((Ha (cC p sl (.slice es) d2) (db l K) (.slice rs) 0).an Tryz.f4.ntmps)) :
  ae 4 [.dat (.slice l)] (bv true):=by
 have hN:=UZ (l:=l);have q3:=@aN false 3 p sl (.slice es) _ (.inr ⟨_,rfl⟩) g2;have q4:=@Jo 3 p sl (.slice es) _ (.inr ⟨_,rfl⟩) g2;clear g2;refine co [28] [100003,12,21,31] (x:=.of Tryz.f4 OE sQ) ?_;refine oh hN ?_;refine oh hc ?_;refine oo q4 ?_;refine oo q3 ?_;refine on h1 ?_;refine oo q3 ?_;refine on h2 ?_;refine ox hl ?_;refine oo h3 ?_;refine lo ho ?_;rintro ex s ⟨rfl,⟨x0,rfl⟩⟩;refine⟨_,rfl,?_⟩;refine on hk ?_;exact fi
theorem BZ (i:Int):ae 95 [iv i] (.dat (Ty.mk 5 [] i []).enc):=by
 refine co [] [] (x:=.of Tryz.f95 Ov Px) ?_;exact fi
theorem B0:ae 104 [] (.dat (Ty.mk 0 [] 0 []).enc):=by
 refine co [] [] (x:=.of Tryz.f104 C8 Dh) ?_;exact fi
theorem Tu:ae 140 [] (.dat (Ty.mk 1 [] 0 []).enc):=by
 refine co [] [] (x:=.of Tryz.f140 HS Kh) ?_;exact fi
theorem pv (nm:List UInt8):ae 96 [.dat (sb nm),.dat nl] (.dat (Ty.mk 2 nm 0 []).enc):=by
 refine co [] [] (x:=.of Tryz.f96 JM Ig) ?_;exact fi
theorem zI (nm:List UInt8) (x:al) (l:List al):ae 96 [.dat (sb nm),.dat (.slice (x::l))] (.dat (.agg [i64 2,sb nm,i64 0,.slice (x::l)])):=by
 refine co [] [] (x:=.of Tryz.f96 JM Ig) ?_;exact fi
theorem Kw (x:al) (l:List al):ae 138 [.dat (.slice (x::l))] (.dat (.agg [i64 4,sb [],i64 0,.slice (x::l)])):=by
 refine co [] [] (x:=.of Tryz.f138 HU Kj) ?_;exact fi
theorem pw (t u:Ty):ae 139 [.dat t.enc,.dat u.enc] (.dat (Ty.mk 6 [] 0 [t,u]).enc):=by
 refine co [] [] (x:=.of Tryz.f139 HT Ki) ?_;obtain⟨v0,v1,v2,v3⟩:=t
 rcases v3 with _|⟨v10,v11⟩
 ·obtain⟨v4,v5,v6,v7⟩:=u
  rcases v7 with _|⟨v8,v9⟩ <;>
  ·exact fi
 obtain⟨v12,v13,v14,v15⟩:=u
 rcases v15 with _|⟨v16,v17⟩ <;>
 ·exact fi
theorem Qv {L:List (List UInt8)} {i:Nat} {b:List UInt8} (h:L[i]?=some b):(encS L)[i]?=some (sb b):=by simp[encS,h,sb]
noncomputable def tiS:TI:=match Go.Tp.elemOf (env ak.aC) 70 with|some t=>t|none=>default
theorem Vs:Go.Tp.elemOf (env ak.aC) 70=some tiS:=by kernel_rfl
theorem D6:tiS.size=1:=by kernel_rfl
theorem A0 {L:List (List UInt8)} {i:Nat} {b:List UInt8} (h:L[i]?=some b):aq (env ak.aC) 70 [.dat (.slice (encS L)),.dat (.flat (.int .i64 (Int.ofNat i)))]=some ⟨.ref [sb b],.keep⟩:=
 lO Vs rfl (Qv h) (by rw[D6];rfl) (by rw[D6];decide)
theorem UQ {l:List tW} {i:Nat} {t:tW} (h:l[i]?=some t):aq (env ak.aC) 112 [.dat (.slice (lg l)),.dat (.flat (.int .i64 (Int.ofNat i)))]=some ⟨.ref t.cells,.keep⟩:=
 lO Vt rfl (QC h) (by rw[D8];exact Ym t) (by rw[D8];decide)
theorem Ps {l ds:List al} {k k2:Int} {r v dp:Int} {b:List UInt8} (h1:KC 32 [dy,iv (ap .i64 (Int.ofNat ds.length+4))] (db l k) 1 (XQ ⟨iv r,db l k2,1⟩)) (h2:aH r 4=true)
  (hi:aq (env ak.aC) 70 [.dat (.slice (encS kM)),.dat (.flat (.int .i64 r))]=some ⟨.ref [sb b],.keep⟩) :
  KC 137 [dy,.dat (.slice ds),iv dp,iv v] (db l k) 1 (XQ ⟨.dat (Ty.mk 2 b 0 []).enc,db l k2,1⟩):=by
 have h3:=pv b;refine co [19] [22] (x:=.of Tryz.f137 yX sV) ?_;refine oh h1 ?_;refine ob h2 ?_;refine oo hi ?_;refine on h3 ?_;exact fi
noncomputable def P6:Hints:=⟨bS,yX,bg,rowsOf bg 137⟩
def Wp (lo:Heap) (nm:List UInt8) (pre:List Ty):Heap:=(.loc 11,.cells [iv 2,.dat (sb nm),iv 0,aak pre])::lo
def Ic (cs:List ac):Heap:=[(.loc 10,.cells cs),(.loc 8,.cells [iv 0,.dat (sb []),iv 0,.dat nl])]
def Nd (lo:Heap) (l ds:List al) (dp v K i:Int):ab:=⟨[(12,iv i),(11,.ptr (.loc 11) 0),(10,.ptr (.loc 10) 0),(8,.ptr (.loc 8) 0),(0,dy),(1,.dat (.slice ds)),(2,iv dp),(3,iv v)],lo,db l K,1⟩
def Ul (lo:Heap) (l ds:List al) (dp v K i:Int):ab:=⟨[(36,bv false),(12,iv i),(11,.ptr (.loc 11) 0),(10,.ptr (.loc 10) 0),(8,.ptr (.loc 8) 0),(0,dy),(1,.dat (.slice ds)),(2,iv dp),(3,iv v)],lo,db l K,1⟩
theorem Pn {l ds:List al} {dp v K K2 ar i kk ix:Int} {nm tn:List UInt8} {con:Bool} {la lb:List al} {pre:List Ty} {t:Ty} (h1:aH i ar=true)
  (h2:KC 173 [dy,.dat (.slice ds),iv (ap .i64 (dp - 1)),iv v] (db l K) 1 (XQ ⟨.dat t.enc,db l K2,1⟩)) (hp:pre.length < 1000000000) {T:Exit->aa->Prop}
  (e:T .normal ((Nd (Wp (Ic (cellsD nm ar kk tn ix la con lb)) nm (pre++[t])) l ds dp v K2 (ap .i64 (i+1))).an Tryz.f137.ntmps)) :
  KD (roundOf Tryz.f137 0) T ((Nd (Wp (Ic (cellsD nm ar kk tn ix la con lb)) nm pre) l ds dp v K i).an Tryz.f137.ntmps):=by
 have h3:=YL (t:=t) hp;clear hp
 rcases pre with _|⟨d,r⟩ <;>
 ·refine ay [36] [48] (H:=P6) (live:=sV) (by kernel_rfl) ?_;refine ob h1 ?_;refine oh h2 ?_;obtain⟨v0,v1,v2,v3⟩:=t;refine oo h3 ?_;exact oe e
theorem Sy {l ds:List al} {dp v K ar i kk ix:Int} {nm tn:List UInt8} {con:Bool} {la lb:List al} {pre:List Ty} (h1:aH i ar=false) {T:Exit->aa->Prop}
  (e:T (.exit 0) ((Ul (Wp (Ic (cellsD nm ar kk tn ix la con lb)) nm pre) l ds dp v K i).an Tryz.f137.ntmps)) :
  KD (roundOf Tryz.f137 0) T ((Nd (Wp (Ic (cellsD nm ar kk tn ix la con lb)) nm pre) l ds dp v K i).an Tryz.f137.ntmps):=by
 rcases pre with _|⟨d,r⟩ <;>
 ·refine ay [36] [] (H:=P6) (live:=sV) (by kernel_rfl) ?_;refine ob h1 ?_;exact oe e
theorem Pt {l:List al} {ds:List al} {k k2 k3:Int} {r v dp:Int} {nm tn:List UInt8} {ar kk ix ie:Int} {con:Bool} {la lb:List al} {ts:List Ty} (h1:KC 32 [dy,iv (ap .i64 (Int.ofNat ds.length+4))] (db l k) 1 (XQ ⟨iv r,db l k2,1⟩)) (h2:aH r 4=false)
  (hi:aq (env ak.aC) 112 [.dat (.slice ds),.dat (.flat (.int .i64 (ap .i64 (r - 4))))]=some ⟨.ref [sb nm,i64 ar,i64 kk,sb tn,i64 ix,sl la,bl con,sl lb],.keep⟩)
  (hl:KD (.loop (roundOf Tryz.f137 0)) (fun e s=>e=.exit 0/\s=(Ul (Wp (Ic (cellsD nm ar kk tn ix la con lb)) nm ts) l ds dp v k3 ie).an Tryz.f137.ntmps) ((Nd (Wp (Ic (cellsD nm ar kk tn ix la con lb)) nm []) l ds dp v k2 0).an Tryz.f137.ntmps)) :
  KC 137 [dy,.dat (.slice ds),iv dp,iv v] (db l k) 1 (XQ ⟨.dat (Ty.mk 2 nm 0 ts).enc,db l k3,1⟩):=by
 have q1:=RQ 10 nm ar kk tn ix la con lb
 rcases ts with _|⟨t,ts⟩ <;>
 ·refine co [19] [28,100010] (x:=.of Tryz.f137 yX sV) ?_;refine oh h1 ?_;refine ob h2 ?_;refine oo hi ?_;refine oo q1 ?_;refine lo hl ?_;rintro ex s ⟨rfl,rfl⟩;refine⟨_,rfl,?_⟩;exact fi
theorem T1 {l ds:List al} {k k2 k3 r v dp i:Int} (h1:KC 32 [dy,iv 6] (db l k) 1 (XQ ⟨iv r,db l k2,1⟩)) (h2:aH r 2=true) (h3:aH 0 v=true) (h4:KC 32 [dy,iv v] (db l k2) 1 (XQ ⟨iv i,db l k3,1⟩)) :
  KC 173 [dy,.dat (.slice ds),iv dp,iv v] (db l k) 1 (XQ ⟨.dat (Ty.mk 5 [] i []).enc,db l k3,1⟩):=by
 have h5:=BZ i;refine co [14,17] [] (x:=.of Tryz.f173 oV ny) ?_;refine oh h1 ?_;refine ob h2 ?_;refine ob h3 ?_;refine oh h4 ?_;refine on h5 ?_;exact fi
theorem Rh {l ds:List al} {k k2 k3 r v dp i:Int} {b:List UInt8} {c2 c3:Bool} (h1:KC 32 [dy,iv 6] (db l k) 1 (XQ ⟨iv r,db l k2,1⟩)) (h2:aH r 2=c2) (h3:aH 0 v=c3) (hc:c2=true->c3=false) (hd:aH 0 dp=false) (h4:KC 32 [dy,iv 4] (db l k2) 1 (XQ ⟨iv i,db l k3,1⟩))
  (hi:aq (env ak.aC) 70 [.dat (.slice (encS kM)),.dat (.flat (.int .i64 i))]=some ⟨.ref [sb b],.keep⟩) :
  KC 173 [dy,.dat (.slice ds),iv dp,iv v] (db l k) 1 (XQ ⟨.dat (Ty.mk 2 b 0 []).enc,db l k3,1⟩):=by
 have h5:=pv b
 cases c2
 ·refine co [14,25] [29] (x:=.of Tryz.f173 oV ny) ?_;refine oh h1 ?_;refine ob h2 ?_;refine ox hd ?_;refine oh h4 ?_;refine oo hi ?_;refine on h5 ?_;exact fi
 obtain rfl:=hc rfl;refine co [14,17,25] [29] (x:=.of Tryz.f173 oV ny) ?_;refine oh h1 ?_;refine ob h2 ?_;refine ob h3 ?_;refine ox hd ?_;refine oh h4 ?_;refine oo hi ?_;refine on h5 ?_;exact fi
theorem Ms {l ds:List al} {k k2 k3 r v dp:Int} {t:Ty} {c2 c3:Bool} (h1:KC 32 [dy,iv 6] (db l k) 1 (XQ ⟨iv r,db l k2,1⟩)) (h2:aH r 2=c2) (h3:aH 0 v=c3) (hc:c2=true->c3=false) (hd:aH 0 dp=true) (h4:aH r 4=true)
  (h5:KC 137 [dy,.dat (.slice ds),iv dp,iv v] (db l k2) 1 (XQ ⟨.dat t.enc,db l k3,1⟩)) :
  KC 173 [dy,.dat (.slice ds),iv dp,iv v] (db l k) 1 (XQ ⟨.dat t.enc,db l k3,1⟩):=by
 obtain⟨ek,en,ei,ea⟩:=t
 cases c2
 ·rcases ea with _|⟨x,ea⟩ <;>
  ·refine co [14,25,34] [] (x:=.of Tryz.f173 oV ny) ?_;refine oh h1 ?_;refine ob h2 ?_;refine ox hd ?_;refine ob h4 ?_;refine oh h5 ?_;exact fi
 obtain rfl:=hc rfl
 rcases ea with _|⟨x,ea⟩ <;>
 ·refine co [14,17,25,34] [] (x:=.of Tryz.f173 oV ny) ?_;refine oh h1 ?_;refine ob h2 ?_;refine ob h3 ?_;refine ox hd ?_;refine ob h4 ?_;refine oh h5 ?_;exact fi
theorem Rf {l ds:List al} {k k2 k3 r v dp:Int} {t:Ty} (h1:KC 32 [dy,iv 6] (db l k) 1 (XQ ⟨iv r,db l k2,1⟩)) (h2:aH r 2=false) (hd:aH 0 dp=true) (h4:aH r 4=false)
  (h5:KC 94 [dy,.dat (.slice ds),iv (ap .i64 (dp - 1)),iv 0] (db l k2) 1 (XQ ⟨.dat t.enc,db l k3,1⟩)) :
  KC 173 [dy,.dat (.slice ds),iv dp,iv v] (db l k) 1 (XQ ⟨.dat t.enc,db l k3,1⟩):=by
 obtain⟨ek,en,ei,ea⟩:=t
 rcases ea with _|⟨x,ea⟩ <;>
 ·refine co [14,25,34] [] (x:=.of Tryz.f173 oV ny) ?_;refine oh h1 ?_;refine ob h2 ?_;refine ox hd ?_;refine ob h4 ?_;refine oh h5 ?_;exact fi
abbrev dF (l:List al) (k n r k2:Int):Prop:=KC 32 [dy,iv n] (db l k) 1 (XQ ⟨iv r,db l k2,1⟩)
abbrev dW (l ds:List al) (dp v k:Int) (d:al) (k2:Int):Prop:=KC 94 [dy,.dat (.slice ds),iv dp,iv v] (db l k) 1 (XQ ⟨.dat d,db l k2,1⟩)
abbrev vL (l ds:List al) (dp v k:Int) (d:al) (k2:Int):Prop:=KC 137 [dy,.dat (.slice ds),iv dp,iv v] (db l k) 1 (XQ ⟨.dat d,db l k2,1⟩)
theorem xO {l ds:List al} {k k2 k3 v dp i:Int} {c:Bool} {b:List UInt8} (h1:dF l k 14 0 k2) (h2:aH 0 dp=c) (h4:dF l k2 4 i k3)
  (hi:aq (env ak.aC) 70 [.dat (.slice (encS kM)),.dat (.flat (.int .i64 i))]=some ⟨.ref [sb b],.keep⟩):dW l ds dp v k (Ty.mk 2 b 0 []).enc k3:=by
 have h5:=pv b;refine co [17] [29] (x:=.of Tryz.f94 fQ dY) ?_;refine oh h1 ?_;refine ox h2 ?_
 cases c <;>
 ·refine oh h4 ?_;refine oo hi ?_;refine on h5 ?_;exact fi
theorem xN {l ds:List al} {k k2 k3 v dp i:Int} {c:Bool} {b:List UInt8} (h1:dF l k 14 1 k2) (h2:aH 0 dp=c) (h4:dF l k2 4 i k3)
  (hi:aq (env ak.aC) 70 [.dat (.slice (encS kM)),.dat (.flat (.int .i64 i))]=some ⟨.ref [sb b],.keep⟩):dW l ds dp v k (Ty.mk 2 b 0 []).enc k3:=by
 have h5:=pv b;refine co [17] [29] (x:=.of Tryz.f94 fQ dY) ?_;refine oh h1 ?_;refine ox h2 ?_
 cases c <;>
 ·refine oh h4 ?_;refine oo hi ?_;refine on h5 ?_;exact fi
theorem KR {l ds:List al} {k k2 k3 v dp i r:Int} {b:List UInt8} (h1:dF l k 14 r k2) (h2:aH 0 dp=false) (h3:aH 5 r=true) (h4:dF l k2 4 i k3)
  (hi:aq (env ak.aC) 70 [.dat (.slice (encS kM)),.dat (.flat (.int .i64 i))]=some ⟨.ref [sb b],.keep⟩):dW l ds dp v k (Ty.mk 2 b 0 []).enc k3:=by
 have h5:=pv b;refine co [17,20] [29] (x:=.of Tryz.f94 fQ dY) ?_;refine oh h1 ?_;refine ox h2 ?_;refine ob h3 ?_;refine oh h4 ?_;refine oo hi ?_;refine on h5 ?_;exact fi
theorem Eb {l ds:List al} {k k2 v dp:Int} {c:Bool} (h1:dF l k 14 2 k2) (h2:aH 0 dp=c):dW l ds dp v k (Ty.mk 0 [] 0 []).enc k2:=by
 have h5:=B0;refine co [17] [] (x:=.of Tryz.f94 fQ dY) ?_;refine oh h1 ?_;refine ox h2 ?_
 cases c <;>
 ·refine on h5 ?_;exact fi
theorem Bf {l ds:List al} {k k2 k3 v dp i:Int} {c:Bool} (h1:dF l k 14 3 k2) (h2:aH 0 dp=c) (h3:aH 0 v=true) (h4:dF l k2 v i k3):dW l ds dp v k (Ty.mk 5 [] i []).enc k3:=by
 have h5:=BZ i;refine co [17,39] [] (x:=.of Tryz.f94 fQ dY) ?_;refine oh h1 ?_;refine ox h2 ?_
 cases c <;>
 ·refine ob h3 ?_;refine oh h4 ?_;refine on h5 ?_;exact fi
theorem Bi {l ds:List al} {k k2 k3 v dp:Int} {c:Bool} {t:Ty} (h1:dF l k 14 3 k2) (h2:aH 0 dp=c) (h3:aH 0 v=false) (h4:vL l ds dp v k2 t.enc k3):dW l ds dp v k t.enc k3:=by
 obtain⟨ek,en,ei,ea⟩:=t
 rcases ea with _|⟨x,ea⟩ <;>
 ·refine co [17,39] [] (x:=.of Tryz.f94 fQ dY) ?_;refine oh h1 ?_;refine ox h2 ?_
  cases c <;>
  ·refine ob h3 ?_;refine oh h4 ?_;exact fi
theorem Be {l ds:List al} {k k2 k3 v dp i:Int} {c:Bool} (h1:dF l k 14 4 k2) (h2:aH 0 dp=c) (h3:aH 0 v=true) (h4:dF l k2 v i k3):dW l ds dp v k (Ty.mk 5 [] i []).enc k3:=by
 have h5:=BZ i;refine co [17,39] [] (x:=.of Tryz.f94 fQ dY) ?_;refine oh h1 ?_;refine ox h2 ?_
 cases c <;>
 ·refine ob h3 ?_;refine oh h4 ?_;refine on h5 ?_;exact fi
theorem Bh {l ds:List al} {k k2 k3 v dp:Int} {c:Bool} {t:Ty} (h1:dF l k 14 4 k2) (h2:aH 0 dp=c) (h3:aH 0 v=false) (h4:vL l ds dp v k2 t.enc k3):dW l ds dp v k t.enc k3:=by
 obtain⟨ek,en,ei,ea⟩:=t
 rcases ea with _|⟨x,ea⟩ <;>
 ·refine co [17,39] [] (x:=.of Tryz.f94 fQ dY) ?_;refine oh h1 ?_;refine ox h2 ?_
  cases c <;>
  ·refine ob h3 ?_;refine oh h4 ?_;exact fi
theorem Bg {l ds:List al} {k k2 k3 v dp:Int} {c:Bool} {t:Ty} (h1:dF l k 14 5 k2) (h2:aH 0 dp=c) (h4:vL l ds dp v k2 t.enc k3):dW l ds dp v k t.enc k3:=by
 obtain⟨ek,en,ei,ea⟩:=t
 rcases ea with _|⟨x,ea⟩ <;>
 ·refine co [17] [] (x:=.of Tryz.f94 fQ dY) ?_;refine oh h1 ?_;refine ox h2 ?_
  cases c <;>
  ·refine oh h4 ?_;exact fi
theorem KQ {l ds:List al} {k k2 k3 v dp:Int} {t:Ty} (h1:dF l k 14 6 k2) (h2:aH 0 dp=true) (h4:vL l ds dp v k2 t.enc k3):dW l ds dp v k t.enc k3:=by
 obtain⟨ek,en,ei,ea⟩:=t
 rcases ea with _|⟨x,ea⟩ <;>
 ·refine co [17] [] (x:=.of Tryz.f94 fQ dY) ?_;refine oh h1 ?_;refine ox h2 ?_;refine oh h4 ?_;exact fi
theorem KP {l ds:List al} {k k2 k3 v dp:Int} {t:Ty} (h1:dF l k 14 7 k2) (h2:aH 0 dp=true) (h4:vL l ds dp v k2 t.enc k3):dW l ds dp v k t.enc k3:=by
 obtain⟨ek,en,ei,ea⟩:=t
 rcases ea with _|⟨x,ea⟩ <;>
 ·refine co [17] [] (x:=.of Tryz.f94 fQ dY) ?_;refine oh h1 ?_;refine ox h2 ?_;refine oh h4 ?_;exact fi
theorem MX {l ds:List al} {k k2 k3 k4 v dp:Int} {t u:Ty} (h1:dF l k 14 8 k2) (h2:aH 0 dp=true) (h4:dW l ds (ap .i64 (dp - 1)) v k2 t.enc k3) (h5:dW l ds (ap .i64 (dp - 1)) v k3 u.enc k4):dW l ds dp v k (Ty.mk 4 [] 0 [t,u]).enc k4:=by
 have h6:=Kw t.enc [u.enc];obtain⟨ek,en,ei,ea⟩:=t;obtain⟨uk,un,ui,ua⟩:=u
 rcases ea with _|⟨x,ea⟩ <;>
 ·rcases ua with _|⟨y,ua⟩ <;>
  ·refine co [17] [] (x:=.of Tryz.f94 fQ dY) ?_;refine oh h1 ?_;refine ox h2 ?_;refine oh h4 ?_;refine oh h5 ?_;refine on h6 ?_;exact fi
theorem MW {l ds:List al} {k k2 k3 k4 v dp:Int} {t u:Ty} (h1:dF l k 14 9 k2) (h2:aH 0 dp=true) (h4:dW l ds (ap .i64 (dp - 1)) v k2 t.enc k3) (h5:dW l ds (ap .i64 (dp - 1)) v k3 u.enc k4):dW l ds dp v k (Ty.mk 4 [] 0 [t,u]).enc k4:=by
 have h6:=Kw t.enc [u.enc];obtain⟨ek,en,ei,ea⟩:=t;obtain⟨uk,un,ui,ua⟩:=u
 rcases ea with _|⟨x,ea⟩ <;>
 ·rcases ua with _|⟨y,ua⟩ <;>
  ·refine co [17] [] (x:=.of Tryz.f94 fQ dY) ?_;refine oh h1 ?_;refine ox h2 ?_;refine oh h4 ?_;refine oh h5 ?_;refine on h6 ?_;exact fi
noncomputable def US:Hints:=⟨bS,fQ,bg,rowsOf bg 94⟩
def aas (pre:List Ty):Heap:=[(.loc 10,.cells [iv 3,.dat (sb []),iv 0,aak pre]),(.loc 8,.cells [iv 0,.dat (sb []),iv 0,.dat nl])]
def G5 (l ds:List al) (dp v n K i:Int) (pre:List Ty):ab:=⟨[(12,iv i),(11,iv n),(10,.ptr (.loc 10) 0),(8,.ptr (.loc 8) 0),(0,dy),(1,.dat (.slice ds)),(2,iv dp),(3,iv v)],aas pre,db l K,1⟩
def Jp (l ds:List al) (dp v n K i:Int) (pre:List Ty):ab:=⟨[(83,bv false),(12,iv i),(11,iv n),(10,.ptr (.loc 10) 0),(8,.ptr (.loc 8) 0),(0,dy),(1,.dat (.slice ds)),(2,iv dp),(3,iv v)],aas pre,db l K,1⟩
theorem MP {l ds:List al} {dp v n K K2 i:Int} {pre:List Ty} {t:Ty} (h1:aH i n=true) (h2:dW l ds (ap .i64 (dp - 1)) v K t.enc K2) (hp:pre.length < 1000000000) {T:Exit->aa->Prop}
  (e:T .normal ((G5 l ds dp v n K2 (ap .i64 (i+1)) (pre++[t])).an Tryz.f94.ntmps)) :
  KD (roundOf Tryz.f94 0) T ((G5 l ds dp v n K i pre).an Tryz.f94.ntmps):=by
 have h3:=YL (t:=t) hp;clear hp
 rcases pre with _|⟨d,r⟩ <;>
 ·refine ay [83] [95] (H:=US) (live:=dY) (by kernel_rfl) ?_;refine ob h1 ?_;refine oh h2 ?_;obtain⟨v0,v1,v2,v3⟩:=t;refine oo h3 ?_;exact oe e
theorem RK {l ds:List al} {dp v n K i:Int} {pre:List Ty} (h1:aH i n=false) {T:Exit->aa->Prop}
  (e:T (.exit 1) ((Jp l ds dp v n K i pre).an Tryz.f94.ntmps)) :
  KD (roundOf Tryz.f94 0) T ((G5 l ds dp v n K i pre).an Tryz.f94.ntmps):=by
 rcases pre with _|⟨d,r⟩ <;>
 ·refine ay [83] [] (H:=US) (live:=dY) (by kernel_rfl) ?_;refine ob h1 ?_;exact oe e
theorem GU {l ds:List al} {k k2 k3 k4 v dp n ie:Int} {ts:List Ty} (h1:dF l k 14 10 k2) (h2:aH 0 dp=true) (h4:dF l k2 4 n k3)
  (hl:KD (.loop (roundOf Tryz.f94 0)) (fun e s=>e=.exit 1/\s=(Jp l ds dp v n k4 ie ts).an Tryz.f94.ntmps) ((G5 l ds dp v n k3 0 []).an Tryz.f94.ntmps)):dW l ds dp v k (Ty.mk 3 [] 0 ts).enc k4:=by
 rcases ts with _|⟨x,ea⟩ <;>
 ·refine co [17] [] (x:=.of Tryz.f94 fQ dY) ?_;refine oh h1 ?_;refine ox h2 ?_;refine oh h4 ?_;refine lo hl ?_;rintro ex s ⟨rfl,rfl⟩;refine⟨_,rfl,?_⟩;exact fi
theorem GS {l ds:List al} {k k2 k3 k4 v dp n ie:Int} {ts:List Ty} (h1:dF l k 14 11 k2) (h2:aH 0 dp=true) (h4:dF l k2 4 n k3)
  (hl:KD (.loop (roundOf Tryz.f94 0)) (fun e s=>e=.exit 1/\s=(Jp l ds dp v n k4 ie ts).an Tryz.f94.ntmps) ((G5 l ds dp v n k3 0 []).an Tryz.f94.ntmps)):dW l ds dp v k (Ty.mk 3 [] 0 ts).enc k4:=by
 rcases ts with _|⟨x,ea⟩ <;>
 ·refine co [17] [] (x:=.of Tryz.f94 fQ dY) ?_;refine oh h1 ?_;refine ox h2 ?_;refine oh h4 ?_;refine lo hl ?_;rintro ex s ⟨rfl,rfl⟩;refine⟨_,rfl,?_⟩;exact fi
theorem MZ {l ds:List al} {k k2 k3 k4 v dp:Int} {u:Ty} (h1:dF l k 14 12 k2) (h2:aH 0 dp=true) (h4:dF l k2 2 0 k3) (h5:dW l ds (ap .i64 (dp - 1)) (ap .i64 (v+1)) k3 u.enc k4):dW l ds dp v k (Ty.mk 6 [] 0 [.mk 0 [] 0 [],u]).enc k4:=by
 have h6:=B0;have h7:=pw (.mk 0 [] 0 []) u;obtain⟨uk,un,ui,ua⟩:=u
 rcases ua with _|⟨y,ua⟩ <;>
 ·refine co [17] [] (x:=.of Tryz.f94 fQ dY) ?_;refine oh h1 ?_;refine ox h2 ?_;refine on h6 ?_;refine oh h4 ?_;refine oh h5 ?_;refine on h7 ?_;exact fi
theorem MY {l ds:List al} {k k2 k3 k4 k5 v dp:Int} {t u:Ty} (h1:dF l k 14 12 k2) (h2:aH 0 dp=true) (h3:dF l k2 2 1 k3) (h4:dW l ds 1 0 k3 t.enc k4) (h5:dW l ds (ap .i64 (dp - 1)) (ap .i64 (v+1)) k4 u.enc k5):dW l ds dp v k (Ty.mk 6 [] 0 [t,u]).enc k5:=by
 have h6:=B0;have h7:=pw t u;obtain⟨ek,en,ei,ea⟩:=t;obtain⟨uk,un,ui,ua⟩:=u
 rcases ea with _|⟨x,ea⟩ <;>
 ·rcases ua with _|⟨y,ua⟩ <;>
  ·refine co [17] [] (x:=.of Tryz.f94 fQ dY) ?_;refine oh h1 ?_;refine ox h2 ?_;refine on h6 ?_;refine oh h3 ?_;refine oh h4 ?_;refine oh h5 ?_;refine on h7 ?_;exact fi
theorem GV {l ds:List al} {k k2 k3 v dp:Int} (h1:dF l k 14 13 k2) (h2:aH 0 dp=true) (h4:dF l k2 4 0 k3):dW l ds dp v k (Ty.mk 1 [] 0 []).enc k3:=by
 have h6:=Tu;refine co [17] [] (x:=.of Tryz.f94 fQ dY) ?_;refine oh h1 ?_;refine ox h2 ?_;refine oh h4 ?_;refine on h6 ?_;exact fi
def I4:Ty:=.mk 6 [] 0 [.mk 0 [] 0 [],.mk 2 [66,111,120] 0 [.mk 5 [] 0 []]]
theorem KU {l ds:List al} {k k2 k3 v dp:Int} (h1:dF l k 14 13 k2) (h2:aH 0 dp=true) (h4:dF l k2 4 1 k3):dW l ds dp v k I4.enc k3:=by
 have h5:=B0;have h6:=BZ 0;have h7:=zI [66,111,120] (Ty.mk 5 [] 0 []).enc [];have h8:=pw (.mk 0 [] 0 []) (.mk 2 [66,111,120] 0 [.mk 5 [] 0 []]);refine co [17] [] (x:=.of Tryz.f94 fQ dY) ?_;refine oh h1 ?_;refine ox h2 ?_;refine oh h4 ?_;refine on h5 ?_;refine on h6 ?_;refine on h7 ?_;refine on h8 ?_;exact fi
theorem KT {l ds:List al} {k k2 k3 v dp:Int} (h1:dF l k 14 13 k2) (h2:aH 0 dp=true) (h4:dF l k2 4 2 k3):dW l ds dp v k I4.enc k3:=by
 have h5:=B0;have h6:=BZ 0;have h7:=zI [66,111,120] (Ty.mk 5 [] 0 []).enc [];have h8:=pw (.mk 0 [] 0 []) (.mk 2 [66,111,120] 0 [.mk 5 [] 0 []]);refine co [17] [] (x:=.of Tryz.f94 fQ dY) ?_;refine oh h1 ?_;refine ox h2 ?_;refine oh h4 ?_;refine on h5 ?_;refine on h6 ?_;refine on h7 ?_;refine on h8 ?_;exact fi
theorem KS {l ds:List al} {k k2 k3 v dp:Int} (h1:dF l k 14 13 k2) (h2:aH 0 dp=true) (h4:dF l k2 4 3 k3):dW l ds dp v k I4.enc k3:=by
 have h5:=B0;have h6:=BZ 0;have h7:=zI [66,111,120] (Ty.mk 5 [] 0 []).enc [];have h8:=pw (.mk 0 [] 0 []) (.mk 2 [66,111,120] 0 [.mk 5 [] 0 []]);refine co [17] [] (x:=.of Tryz.f94 fQ dY) ?_;refine oh h1 ?_;refine ox h2 ?_;refine oh h4 ?_;refine on h5 ?_;refine on h6 ?_;refine on h7 ?_;refine on h8 ?_;exact fi
end Go.Proofs.YtmpmgmmcaghacaaGreatDoor
