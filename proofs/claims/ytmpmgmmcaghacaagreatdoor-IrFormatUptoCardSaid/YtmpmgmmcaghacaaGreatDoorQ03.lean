/- Part 3 of what the last text proves. -/
import Derived.Scope
import Derived.Deep.Slices
import Derived.ChangeSame
import Derived.LaidLaws
import Derived.RowKit
import Derived.KernelRfl
import Derived.ChangeSlices
import Derived.ReadAgain
import Derived.ChangeMaps5
import Derived.Test.YtmpmgmmcaghacaaGreatDoorQ02
set_option linter.unusedVariables false
set_option linter.unusedSimpArgs false
open Int (ofNat)
set_option maxRecDepth 100000
set_option maxHeartbeats 4000000
namespace Go.Tp
noncomputable def eE (l:Sl):Nat->Sl:=
 @List.rec (Nat×ac) (fun _=>Nat->Sl) (fun _=>[]) (fun p _ a m=>@Bool.rec (fun _=>Sl) (p::a (Nat.xor m (Nat.pow 2 p.1))) (a m) (Nat.beq (Nat.land 1 (Nat.shiftRight m p.1)) 0)) l
theorem afg (m d:Nat):Nat.beq (Nat.land 1 (Nat.shiftRight m d)) 0=!(m.testBit d):=by
 have e:m.testBit d=(Nat.land 1 (Nat.shiftRight m d) != 0):=rfl;rw[e];generalize Nat.land 1 (Nat.shiftRight m d)=x
 by_cases h:x=0
 ·simp_all
 have a:Nat.beq x 0=false:=by rw[Bool.eq_false_iff];simp_all
 grind
theorem xe (d:Nat) (v:ac) (r:Sl) (m:Nat):eE ((d,v)::r) m=if m.testBit d=true then (d,v)::eE r (m ^^^ 2 ^ d) else eE r m:=by
 have e:eE ((d,v)::r) m=@Bool.rec (fun _=>Sl) ((d,v)::eE r (m ^^^ 2 ^ d)) (eE r m) (Nat.beq (Nat.land 1 (Nat.shiftRight m d)) 0):=rfl;rw[e,afg]
 cases m.testBit d <;> simp
theorem sG:∀(l:Sl) (m t:Nat),m.testBit t=false->rJ (eE l m) t=.undef
 | [],_,_,_=>rfl
 |(d,v)::r,m,t,h=>by
  rw[xe]
  split
  ·rename_i D;have a:d≠t:=fun e=>by grind
   rw[ij,if_neg a]
   apply sG
   grind
  exact sG r m t h
theorem sH:∀(l:Sl) (m t:Nat),rJ (eE l m) t=rJ l t∨rJ (eE l m) t=.undef
 | [],_,_=>.inl rfl
 |(d,v)::r,m,t=>by
  rw[xe,ij]
  split
  ·rw[ij]
   split
   ·grind
   exact sH r _ t
  rename_i D
  split
  ·grind[sG]
  exact sH r m t
theorem Gs {w:World} {R:Own} {N:Name->Option Nat}:∀{as as':List ac} {d:List Value} {B:List Nat},as'.length=as.length->(∀i:Nat,as'[i]?=as[i]?∨as'[i]?=some .undef)->ah w R N as d B->∃c,ah w R N as' d c/\c.Sublist B
 | [],[],_,B,_,_,h=>⟨B,h,.refl _⟩
 | [],_::_,_,_,l,_,_=>by grind
 | _::_,[],_,_,l,_,_=>by grind
 | a::as,k::as',d,B,l,e,h=>by
  obtain⟨v,j,r,Q,rfl,rfl,g,b⟩:=au h;obtain⟨c,f,K⟩:=Gs (as:=as) (as':=as') (by grind) (fun i=>by simpa using e (i+1)) b
  rcases e 0 with o|o
  ·simp at o;subst o;exact⟨r++c,aD g f,List.Sublist.append (.refl _) K⟩
  simp at o;subst o;exact⟨[]++c,aD (aJ _) f,List.Sublist.append (List.nil_sublist _) K⟩
def iL (f:ab) (m:Sl->Sl):ab:=match f with|⟨d,b,a,c⟩=>⟨m d,b,a,c⟩
theorem dw.prune {G:bA} {w:World} {R:Own} {N:Name->Option Nat} {b:List Value} {n:Nat} {f:ab} {Z U H z:List Nat} (h:dw G w R N b (f.al n) undef .undef [] Z U H z) (m:Nat) :
  ∃a,dw G w R N b ((iL f (fun l=>eE l m)).al n) undef .undef [] a U H z:=by
 obtain⟨j,d,c,e⟩:=f;obtain⟨a,g,K⟩:=Gs (as':=Gn n 0 (eE j m)) (by simp[ab.al,oq]) (fun i=>by
  grind[ab.al,kq,sH]) h.tmps
 exact⟨a,aJ _,g,h.locs,h.heap,List.Nodup.sublist (List.Sublist.append (.refl _) (List.Sublist.append K (.refl _))) h.nodup,h.next,h.glob,h.frame⟩
mutual
def iq (k:Nat):ac->Bool
 | .ptr (.out o) _=>Nat.ble k o
 | .ptr (.loc _) _=>true
 | .map (.out o)=>Nat.ble k o
 | .map (.loc _)=>true
 | .win (.out o) _ _ _=>Nat.ble k o
 | .win (.loc _) _ _ _=>true
 | .fn _ a b=>gZ k a||gZ k b
 | .agg c=>gZ k c
 | .tup c=>gZ k c
 | _=>false
def gZ (k:Nat):List ac->Bool
 | []=>false
 | a::r=>iq k a||gZ k r
end
def mb (k:Nat):Name->Bool
 | .out o=>Nat.blt o k
 | .loc _=>false
def jz (k:Nat):Heap->Heap
 | []=>[]
 |(m,o)::r=>match mb k m with|true=>(m,o)::jz k r|false=>jz k r
def BS (k:Nat):aL->Bool
 | .cells c=>gZ k c
 | .map _=>false
def gH (k:Nat):Heap->Bool
 | []=>false
 |(_,o)::r=>BS k o||gH k r
mutual
def KM:ac->List Nat
 | .ptr (.out o) _=>[o]
 | .map (.out o)=>[o]
 | .win (.out o) _ _ _=>[o]
 | .fn _ a b=>CM a++CM b
 | .agg c=>CM c
 | .tup c=>CM c
 | _=>[]
def CM:List ac->List Nat
 | []=>[]
 | a::r=>KM a++CM r
end
def ot (o:Nat):List Nat->Bool
 | []=>false
 | x::r=>match Nat.beq x o with|true=>true|false=>ot o r
def addN:List Nat->List Nat->List Nat
 | [],l=>l
 | n::a,l=>match ot n l with|true=>addN a l|false=>addN a (n::l)
def rc (k:Nat) (l:List Nat):Heap->List Nat
 | []=>l
 |(.out o,.cells c)::r=>(match Nat.blt o k||ot o l with|true=>rc k (addN (CM c) l) r|false=>rc k l r)
 | _::r=>rc k l r
def EM (k:Nat) (h:Heap):Nat->List Nat->List Nat
 | 0,l=>l
 | n+1,l=>EM k h n (rc k l h)
def nr (k:Nat) (l:List Nat):Heap->Heap
 | []=>[]
 |(.out o,x)::r=>(match Nat.blt o k||ot o l with|true=>(.out o,x)::nr k l r|false=>nr k l r)
 | _::r=>nr k l r
def M0 (k:Nat) (r:eX):eX:=
 match r with
 | ⟨b,a,c⟩=>match iq k b||gH k (jz k a) with
  | false=>⟨b,jz k a,k⟩
  | true=>⟨b,nr k (EM k a 3 (KM b)) a,c⟩
section
variable {w:World} {R:Own} {M M2:Name->Option Nat}
theorem qd (k:Nat):∀{c:Heap} {B:List Nat},aj w R M c B->∃a,aj w R M (jz k c) a/\a.Sublist B
 | [],B,h=>⟨B,h,.refl _⟩
 |(m,o)::c,_,⟨b,r,Q,e,N,O,d⟩=>by
  subst e;obtain⟨a,f,K⟩:=qd k d;simp only[jz]
  split
  ·exact⟨b::(r++a),⟨b,r,a,rfl,N,O,f⟩,(List.Sublist.append (.refl _) K).cons_cons _⟩
  grind
theorem ky (k:Nat) (l:List Nat):∀{c:Heap} {B:List Nat},aj w R M c B->∃a,aj w R M (nr k l c) a/\a.Sublist B
 | [],B,h=>⟨B,h,.refl _⟩
 |(.out m,o)::c,_,⟨b,r,Q,e,N,O,d⟩=>by
  subst e;obtain⟨a,f,K⟩:=ky k l d;simp only[nr]
  split
  ·exact⟨b::(r++a),⟨b,r,a,rfl,N,O,f⟩,(List.Sublist.append (.refl _) K).cons_cons _⟩
  grind
 |(.loc m,o)::c,_,⟨b,r,Q,e,N,O,d⟩=>by
  subst e;obtain⟨a,f,K⟩:=ky k l d;exact⟨a,f,K.trans ((List.sublist_append_right r Q).cons _)⟩
variable (hM:∀m b,(∃o,m=.out o)->M m=some b->M2 m=some b)
mutual
theorem ai.low {k:Nat} (l:∀o b,o < k->M (.out o)=some b->M2 (.out o)=some b):∀{a:ac} {v:Value} {B:List Nat},iq k a=false->ai w R M a v B->ai w R M2 a v B
 | .dat _,_,_,_,h=>by exact h
 | .own _,_,_,_,h=>by exact h
 | .ref _,_,_,_,h=>by exact h
 | .ptr (.loc _) _,_,_,N,_=>by grind[iq]
 | .ptr (.out o) _,_,_,N,h=>by
  grind[iq,ai,gC]
 | .map (.loc _),_,_,N,_=>by grind[iq]
 | .win (.loc _) _ _ _,_,_,N,_=>by grind[iq]
 | .win (.out o) _ _ _,_,_,N,h=>by
  grind[iq,ai,gC]
 | .map (.out o),_,_,N,h=>by
  grind[iq,ai,gC]
 | .fn _ i g,_,_,N,h=>by
  simp only[iq,Bool.or_eq_false_iff] at N;obtain⟨q,d,r,e,j,f⟩:=h;exact⟨q,d,r,e,ah.low l (as:=i) N.1 j,ah.low l (as:=g) N.2 f⟩
 | .agg c,_,_,N,h=>by
  obtain⟨d,e,j⟩:=h;exact⟨d,e,ah.low l (as:=c) N j⟩
 | .tup c,_,_,N,h=>by
  obtain⟨d,e,j⟩:=h;exact⟨d,e,ah.low l (as:=c) N j⟩
 | .undef,_,_,_,h=>by exact h
theorem ah.low {k:Nat} (l:∀o b,o < k->M (.out o)=some b->M2 (.out o)=some b):∀{as:List ac} {s:List Value} {B:List Nat},gZ k as=false->ah w R M as s B->ah w R M2 as s B
 | [],_,_,_,h=>by exact h
 | a::as,_,_,N,h=>by
  simp only[gZ,Bool.or_eq_false_iff] at N;obtain⟨t,d,n,p,E,F,q,j⟩:=h;exact⟨t,d,n,p,E,F,ai.low l (a:=a) N.1 q,ah.low l (as:=as) N.2 j⟩
end
theorem qh (k:Nat):∀(l m:List ac),gZ k (l++m)=(gZ k l||gZ k m)
 | [],m=>by simp[gZ]
 | a::l,m=>by simp[gZ,qh k l m,Bool.or_assoc]
theorem Qh (k:Nat) (c:List ac) (j:Nat):gZ k (c++List.replicate j .undef)=gZ k c:=by
 rw[qh]
 have:gZ k (List.replicate j .undef)=false:=by
  induction j <;> grind[gZ,iq]
 grind
theorem aj.low {k:Nat} (i:∀o b,o < k->M (.out o)=some b->M2 (.out o)=some b):∀{f:Heap} {B:List Nat},(∀p∈f,mb k p.1=true)->gH k f=false->aj w R M f B->aj w R M2 f B
 | [],_,_,_,h=>h
 |(m,o)::f,_,s,N,⟨b,r,Q,e,d,O,q⟩=>by
  simp only[gH,Bool.or_eq_false_iff] at N;have x:=s (m,o) (by simp);refine⟨b,r,Q,e,?_,?_,aj.low i (fun p y=>s p (by grind)) N.2 q⟩
  ·cases m <;> grind[mb,oY]
  cases o with
  | cells c=>
   obtain⟨u,l,t,a,g,n⟩:=O;exact⟨u,l,t,a,g.low i (by grind[Qh,BS]),n⟩
  | map v=>exact O
theorem ma (k:Nat):∀a:Heap,∀p∈jz k a,mb k p.1=true
 | [],p,h=>by grind[jz]
 |(m,o)::a,p,h=>by
  simp only[jz] at h
  split at h
  ·rename_i b
   rcases List.mem_cons.1 h with rfl|h
   ·grind
   exact ma k a p h
  exact ma k a p h
end
theorem ay.gc {P:Program} {G:bA} {f:FuncId} {j:List ac} {l:Heap} {a:Nat} {r:eX} (h:ay P G f j l a (XQ r)):ay P G f j l a (XQ (M0 a r)):=by
 intro w R N q C H z A T D E J Q;refine (h w R N q C H z A T D E J Q).mono ?_;rintro e V ⟨U,v,c,g,L,B,t,M,rfl,⟨rfl,rfl,rfl⟩,y,u,n,x,k,S⟩;obtain⟨s,c,g⟩:=r;unfold M0;dsimp only
 split
 ·rename_i d;simp at d;obtain⟨p,F,K⟩:=qd a u
  let I:Name->Option Nat:=fun m=>match m with|.loc i=>B (.loc i)|.out o=>if o < a then B (.out o) else none
  have O:∀o b,o < a->outs B (.out o)=some b->outs I (.out o)=some b:=by
   grind[outs]
  refine⟨s,v,jz a c,a,L,I,t,p,rfl,⟨rfl,rfl,rfl⟩,y.low O d.1,F.low O (ma a c) d.2,?_,?_,k,?_⟩
  ·exact List.Nodup.sublist (List.Sublist.append (.refl _) (List.Sublist.append K (.refl _))) n
  all_goals grind
 obtain⟨p,F,K⟩:=ky a (EM a c 3 (KM s)) u;exact⟨s,v,_,g,L,B,t,p,rfl,⟨rfl,rfl,rfl⟩,y,F,List.Nodup.sublist (List.Sublist.append (.refl _) (List.Sublist.append K (.refl _))) n,x,k,S⟩
section
variable (X:lH) (E:bz) (G:bA) (H:Hints) (n:Nat)
def uM (f:ab) (r:eX) (d:Option Tmp):ab:=
 match f,r with
 | ⟨e,b,_,_⟩,⟨v,a,c⟩=>iW ⟨e,b,a,c⟩ d v
variable {Q:Exit->aa->Prop} {c:Code} {f:ab}
theorem aeO (f:ab) (r:eX) (a:Option Tmp):(uM f r a).al n=({f.al n with heap:=r.heap,next:=r.next }:aa).put a r.val:=by
 obtain⟨c,b,heap,next⟩:=f;obtain⟨v,h,k⟩:=r;simp only[uM,eT];rfl
noncomputable def JH (a:List Oper) (o:Oper) (f:ab):Option ab:=
 match gW n a f o.guard with
 | none=>none
 | some b=>match b with
  | true=>
   (match dv o.op with
    | some c=>(match ru E G H n c f with
     | some (g,d,e)=>(match X g d e.heap e.next with
      | some r=>some (uM e r o.dst)
      | none=>none)
     | none=>none)
    | none=>xp E G n (readOnly H.moves a o) (lQ H a o) o f)
  | false=>some (iW f o.dst (.tup []))
theorem wl {a:List Oper} {o:Oper} {k:ab} (h:JH X E G H n a o f=some k):HP X E G H a o (f.al n)=some (k.al n):=by
 unfold JH at h;unfold HP;rw[lx]
 cases l:gW n a f o.guard with
 | none=>grind
 | some b=>
  rw[l] at h
  cases b with
  | false=>grind[eT]
  | true=>
   dsimp only at h ⊢;cases e:dv o.op with
   | none=>
    grind[uE]
   | some c=>
    rw[e] at h;dsimp only at h ⊢;rw[AY]
    cases d:ru E G H n c f with
    | none=>grind
    | some x=>
     obtain⟨g,j,i⟩:=x;rw[d] at h;dsimp only[Option.map_some] at h ⊢;have m:(i.al n).heap=i.heap:=rfl;have F:(i.al n).next=i.next:=rfl;grind[aeO]
noncomputable def EB (a:List Oper) (b:List Oper):ab->Option ab:=
 @List.rec Oper (fun _=>ab->Option ab) (fun f=>some f) (fun o _ d f=>match JH X E G H n a o f with|some c=>d c|none=>none) b
theorem rp {a:List Oper}:∀{d:List Oper} {f c:ab},EB X E G H n a d f=some c->E3 X E G H a d (f.al n)=some (c.al n)
 | [],f,c,h=>by
  have e:EB X E G H n a [] f=some f:=rfl;rw[e] at h;simp at h;subst h;rfl
 | o::b,f,c,h=>by
  have e:EB X E G H n a (o::b) f=(match JH X E G H n a o f with|some c=>EB X E G H n a b c|none=>none):=rfl;rw[e] at h;simp only[E3]
  cases O:JH X E G H n a o f with
  | none=>grind
  | some g=>
   rw[O] at h;rw[wl X E G H n O];exact rp h
noncomputable def wg (a:List Nat) (t:Tmp) (f:ab):List Nat:=match Jw (rK n f t) with|true=>[]|false=>a
theorem C4 (a:List Nat) (t:Tmp) (f:ab):ae5 a t (f.al n)=wg n a t f:=by
 grind[ae5,wg,jC,rK]
noncomputable def JG (i:Bool) (j:List Nat) (a:List Oper) (o:Oper) (f:ab):Option ab:=
 match gW n a f o.guard with
 | none=>none
 | some b=>match b with
  | true=>
   (match dv o.op with
    | some c=>(match ny E G H n c f with
     | some (g,d,e)=>(match hO H o with
      | true=>(match X g d [] e.next with
       | some ⟨v,[],k⟩=>some (uM e ⟨v,e.heap,k⟩ o.dst)
       | _=>none)
      | false=>(match X g d e.heap e.next with
       | some r=>(match !mK H o||vn e.heap r.heap with
        | true=>some (uM e r o.dst)
        | false=>none)
       | none=>none))
     | none=>none)
    | none=>(match fk o.op with
     | some t=>(match mf n i a (gk a t (wg n j t f)) f with
      | some h=>xp E G n false false o h
      | none=>none)
     | none=>(match iI o.op with
      | true=>xp E G n (readOnly H.moves a o) (lQ H a o) o f
      | false=>none)))
  | false=>some (iW f o.dst (.tup []))
theorem wk {p:Bool} {q:List Nat} {a:List Oper} {o:Oper} {u:ab} (h:JG X E G H n p q a o f=some u):HO X E G H p q a o (f.al n)=some (u.al n):=by
 unfold JG at h;unfold HO;rw[lx]
 cases w:gW n a f o.guard with
 | none=>rw[w] at h;simp at h
 | some b=>
  rw[w] at h
  cases b with
  | false=>simp at h;subst h;simp[eT]
  | true=>
   dsimp only at h ⊢;rw[if_pos rfl]
   cases e:dv o.op with
   | none=>
    rw[e] at h;dsimp only at h ⊢
    cases T:fk o.op with
    | none=>
     rw[T] at h;dsimp only at h ⊢
     cases d:iI o.op with
     | false=>rw[d] at h;simp at h
     | true=>
      rw[d] at h;dsimp only at h ⊢;rw[uE,h];rfl
    | some t=>
     rw[T] at h;dsimp only at h ⊢;rw[C4]
     cases s:mf n p a (gk a t (wg n q t f)) f with
     | none=>rw[s] at h;simp at h
     | some z=>
      rw[s] at h;rw[oL n p a _ _ _ s];dsimp only at h ⊢;rw[uE,h];rfl
   | some c=>
    rw[e] at h;dsimp only at h ⊢;rw[xz]
    cases i:ny E G H n c f with
    | none=>rw[i] at h;simp at h
    | some x=>
     obtain⟨g,l,j⟩:=x;rw[i] at h;dsimp only[Option.map_some] at h ⊢;have y:(j.al n).heap=j.heap:=rfl;have F:(j.al n).next=j.next:=rfl;rw[y,F]
     cases m:hO H o with
     | true=>
      rw[m] at h;dsimp only at h ⊢
      split at h
      ·rename_i v k R;simp at h;subst h;simp[aeO,R]
      simp at h
     | false=>
      rw[m] at h;dsimp only at h ⊢
      cases R:X g l j.heap j.next with
      | none=>rw[R] at h;simp at h
      | some r=>
       rw[R] at h;dsimp only at h ⊢
       cases d:(!mK H o||vn j.heap r.heap) with
       | false=>rw[d] at h;simp at h
       | true=>
        rw[d] at h;simp at h;subst h;simp[aeO]
noncomputable def G0 (h:List Nat) (c:Bool) (g:Nat->Bool) (b:List Oper) (l:List (Nat×Bool)):ab->Option ab:=
 @List.rec (Nat×Bool) (fun _=>ab->Option ab) (fun f=>some f) (fun p _ d f=>
  match b[p.1]? with
  | none=>none
  | some o=>match p.2 with
   | true=>(match JG X E G H n c h b o f with|some e=>d e|none=>none)
   | false=>(match qt E G n (c||g p.1) b o f with
    | some a=>d (iW f o.dst a)
    | none=>none)) l
theorem M3 {g:List Nat} {d:Bool} {e:Nat->Bool} {b:List Oper} {i:Nat} {lone:Bool} {c:List (Nat×Bool)}:G0 X E G H n g d e b ((i,lone)::c) f=(match b[i]? with
   | none=>none
   | some o=>match lone with
    | true=>(match JG X E G H n d g b o f with|some h=>G0 X E G H n g d e b c h|none=>none)
    | false=>(match qt E G n (d||e i) b o f with
     | some a=>G0 X E G H n g d e b c (iW f o.dst a)
     | none=>none)):=rfl
theorem rm {j:List Nat} {c:Bool} {g:Nat->Bool} {b:List Oper}:∀{l:List (Nat×Bool)} {f d:ab},G0 X E G H n j c g b l f=some d->Dy X E G H j c g b l (f.al n)=some (d.al n)
 | [],f,d,h=>by
  have e:G0 X E G H n j c g b [] f=some f:=rfl;rw[e] at h;simp at h;subst h;rfl
 |(i,lone)::k,f,d,h=>by
  rw[M3] at h;simp only[Dy]
  cases m:b[i]? with
  | none=>grind
  | some o=>
   rw[m] at h
   cases lone
   ·dsimp only at h ⊢;rw[if_neg (by simp),wh]
    cases O:qt E G n (c||g i) b o f with
    | none=>grind
    | some a=>
     rw[O] at h;dsimp only at h ⊢;rw[←eT];exact rm h
   dsimp only at h ⊢;cases O:JG X E G H n c j b o f with
   | none=>grind
   | some p=>
    rw[O] at h;rw[wk X E G H n O];exact rm h
noncomputable def AW (b:List Oper):Nat->Array Bool->ab->Option ab
 | 0,_,f=>some f
 | m+1,a,f=>match Region.ready .any b.toArray a with
  | []=>some f
  | i::_=>(match b[i]? with
   | some o=>(match JH X E G H n b o f with|some c=>AW b m (bK a i) c|none=>none)
   | none=>none)
noncomputable def EG (all:List Oper) (k:Nat) (b:aa):Nat->Array Bool->ab->Bool
 | 0,a,f=>(Region.ready .any all.toArray a).isEmpty&&Mu k b (f.al n)
 | m+1,a,f=>match Region.ready .any all.toArray a with
  | []=>Mu k b (f.al n)
  | i::l=>(i::l).all fun i=>match all[i]? with
   | some o=>(match JH X E G H n all o f with|some c=>EG all k b m (bK a i) c|none=>false)
   | none=>false
theorem xx {b:List Oper}:∀(m:Nat) (a:Array Bool) (f c:ab),AW X E G H n b m a f=some c->DA X E G H b m a (f.al n)=some (c.al n)
 | 0,a,f,c,h=>by simp only[AW,Option.some.injEq] at h;subst h;rfl
 | m+1,a,f,c,h=>by
  simp only[AW] at h;simp only[DA]
  split at h
  ·grind
  rename_i i l g;rw[g];dsimp only
  split at h
  ·rename_i o O;rw[O];dsimp only
   split at h
   ·rename_i e d;rw[wl X E G H n d];exact xx m _ e c h
   grind
  grind
theorem xy {c:List Oper} {k:Nat} {e:aa}:∀(m:Nat) (b:Array Bool) (f:ab),EG X E G H n c k e m b f=true->sr X E G H c k e m b (f.al n)=true
 | 0,b,f,h=>h
 | m+1,b,f,h=>by
  simp only[EG] at h;simp only[sr]
  split at h
  ·grind
  rename_i i l p;rw[p];refine List.all_eq_true.2 fun j q=>?_
  have a:=List.all_eq_true.1 h j q
  split at a
  ·rename_i o O;rw[O];dsimp only
   split at a
   ·rename_i g d;rw[wl X E G H n d];exact xy m _ g a
   grind
  grind
noncomputable def AS (h:aw) (b:List Oper):Nat->Array Bool->ab->Option ab
 | 0,_,f=>some f
 | m+1,a,f=>match Region.ready .any b.toArray a with
  | []=>none
  | i::_=>(match b[i]? with
   | some o=>(match JG X E G H n (aK H b h.pre) h.tk b o f with|some c=>AS h b m (bK a i) c|none=>none)
   | none=>none)
noncomputable def EE (h:aw) (all:List Oper) (p:Array Bool) (b:aa):Nat->Array Bool->ab->Bool
 | 0,a,f=>rL a.toList p.toList&&Cx b (f.al n)
 | m+1,a,f=>!rL a.toList p.toList&&!(Region.ready .any all.toArray a).isEmpty&&(Region.ready .any all.toArray a).all fun i=>h.pre.contains (i,true)&&(match all[i]? with
   | some o=>(match JG X E G H n (aK H all h.pre) h.tk all o f with|some c=>EE h all p b m (bK a i) c|none=>false)
   | none=>false)
noncomputable def JP (a:List Oper) (h:aw) (f:ab):Option ab:=
 match G0 X E G H n h.tk (aK H a h.pre) (quietAt H a h.pre) a (bR h.pre) f with
 | some c=>(match AS X E G H n h a (h.pre.length - (bR h.pre).length) (eR (bR h.pre) (Array.replicate a.length false)) c with
  | some b=>(match EE X E G H n h a (eR h.pre (Array.replicate a.length false)) (b.al n) (h.pre.length - (bR h.pre).length) (eR (bR h.pre) (Array.replicate a.length false)) c with
   | true=>(match oM E n a h.nw b with
    | some d=>EB X E G H n a (dZ a h.tail) d
    | none=>none)
   | false=>none)
  | none=>none)
 | none=>none
theorem xu {h:aw} {c:List Oper}:∀(m:Nat) (a:Array Bool) (f d:ab),AS X E G H n h c m a f=some d->Dz X E G H h c m a (f.al n)=some (d.al n)
 | 0,a,f,d,b=>by simp only[AS,Option.some.injEq] at b;subst b;rfl
 | m+1,a,f,d,b=>by
  simp only[AS] at b;simp only[Dz]
  split at b
  ·grind
  rename_i i l j;rw[j];dsimp only
  split at b
  ·rename_i o O;rw[O];dsimp only
   split at b
   ·rename_i g e;rw[wk X E G H n e];exact xu m _ g d b
   grind
  grind
theorem xv {h:aw} {d:List Oper} {p:Array Bool} {i:aa}:∀(m:Nat) (c:Array Bool) (f:ab),EE X E G H n h d p i m c f=true->sq X E G H h d p i m c (f.al n)=true
 | 0,c,f,e=>e
 | m+1,c,f,e=>by
  simp only[EE,Bool.and_eq_true] at e;simp only[sq,Bool.and_eq_true];refine⟨e.1,List.all_eq_true.2 fun j l=>?_⟩;have a:=List.all_eq_true.1 e.2 j l;simp only[Bool.and_eq_true] at a ⊢;refine⟨a.1,?_⟩;have b:=a.2
  split at b
  ·rename_i o O;rw[O];dsimp only
   split at b
   ·rename_i k g;rw[wk X E G H n g];exact xv m _ k b
   grind
  grind
theorem G7 {b:List Oper} {h:aw} {c:ab} (d:JP X E G H n b h f=some c):yF X E G H b h (f.al n)=some (c.al n):=by
 unfold JP at d;unfold yF
 split at d
 ·rename_i e a;rw[rm X E G H n a];grind[xu,xv,kz,rp]
 grind
noncomputable def G8 (a:List Oper) (h:aw) (f:ab):Option ab:=
 match gz h with
 | true=>(match AW X E G H n a a.length (Array.replicate a.length false) f with
  | some b=>(match EG X E G H n a f.next (b.al n) a.length (Array.replicate a.length false) f with|true=>some b|false=>none)
  | none=>none)
 | false=>
 match gP h with
 | true=>JP X E G H n a (gh h) f
 | false=>
 match G0 X E G H n h.tk (aK H a h.pre) (quietAt H a h.pre) a h.pre f with
 | some c=>(match oM E n a h.nw c with
  | some d=>EB X E G H n a (dZ a h.tail) d
  | none=>none)
 | none=>none
theorem JO {c:List Oper} {h:aw} {i:ab} (d:G8 X E G H n c h f=some i):Kh X E G H c h (f.al n)=some (i.al n):=by
 unfold G8 at d;unfold Kh
 cases j:gz h with
 | true=>
  rw[j] at d;dsimp only at d;rw[if_pos rfl]
  split at d
  ·rename_i l o;rw[xx X E G H n _ _ _ _ o];dsimp only
   split at d
   ·rename_i b;simp at d;subst d
    have:=xy X E G H n _ _ _ b
    have e:(f.al n).next=f.next:=rfl;grind
   grind
  grind
 | false=>
 rw[j] at d;cases g:gP h with
 | true=>
  grind[G7]
 | false=>
 rw[g] at d;cases a:G0 X E G H n h.tk (aK H c h.pre) (quietAt H c h.pre) c h.pre f with
 | none=>grind
 | some k=>
  rw[a] at d;rw[rm X E G H n a];dsimp only at d ⊢
  cases b:oM E n c h.nw k with
  | none=>grind
  | some m=>
   simp_all[kz,rp]
noncomputable def C6 (a:ab->Option (Exit×ab)) (b:Nat):ab->Option (Exit×ab):=
 @Nat.rec (fun _=>ab->Option (Exit×ab)) (fun _=>none) (fun _ d f=>match a f with
  | some (.normal,c)=>d c
  | r=>r) b
def uV:Nat->Nat->Nat->List Nat
 | 0,_,_=>[]
 | m+1,k,g=>match Nat.beq g 0 with
  | true=>[]
  | false=>(match Nat.beq (Nat.land g 1) 1 with|true=>k::uV m (k+1) (Nat.shiftRight g 1)|false=>uV m (k+1) (Nat.shiftRight g 1))
def zD (a:ac) (b:Heap):Option (Nat×List ak):=
 match rowOf a with
 | some x=>DU x.1 x.2 (qJ (.out x.1) b)
 | none=>none
theorem FL (a:ac) (b:Heap):zD a b=yh a b:=by
 grind[zD,yh,jS]
noncomputable def Zw (n t:Nat) (f:ab):Option ab:=
 match zD (rK n f t) f.heap with
 | some (m,d)=>(match iW f (some t) (.dat (.slice d)) with
  | ⟨e,b,a,c⟩=>some ⟨e,b,qL (.out m) a,c⟩)
 | none=>none
noncomputable def G5 (n:Nat):List Nat->ab->Option ab
 | [],f=>some f
 | t::r,f=>(match Zw n t f with|some a=>G5 n r a|none=>none)
noncomputable def EA (n:Nat):List Nat->ab->ab
 | [],f=>f
 | t::r,f=>EA n r (xt false (uJ f [rK n f t]) f []).1
noncomputable def aeN (n a:Nat) (f:ab):Option ab:=
 match Nat.beq (Nat.shiftRight a 4096) 0 with
 | true=>some f
 | false=>G5 n (uV 1000 0 (Nat.land (Nat.shiftRight a 4096) (2 ^ 1024 - 1))) (EA n (uV 1000 0 (Nat.shiftRight a 5120)) f)
theorem JN {n t:Nat} {a:ab} (h:Zw n t f=some a):gF G (f.al n) (a.al n):=by
 unfold Zw at h;rw[FL] at h
 split at h
 ·rename_i m b V;have e:DV t (f.al n)=some (a.al n):=by
   unfold DV;rw[jC];have F:(f.al n).heap=f.heap:=rfl;rw[F,V];have w:=eT (n:=n) f (some t) (.dat (.slice b));generalize iW f (some t) (.dat (.slice b))=g at h w;obtain⟨i,c,heap,d⟩:=g;simp at h;subst h;simp_all[ab.al,aa.put,lE,aa.next]
  exact MX e
 grind
theorem xw {n:Nat}:∀(l:List Nat) {f b:ab},G5 n l f=some b->gF G (f.al n) (b.al n)
 | [],f,b,h=>by simp[G5] at h;subst h;exact .refl _ _
 | t::r,f,b,h=>by
  simp only[G5] at h
  split at h
  ·rename_i c a;exact (JN G a).trans (xw r h)
  grind
theorem uH {n:Nat}:∀(l:List Nat) (f:ab),gF G (f.al n) ((EA n l f).al n)
 | [],f=>.refl _ _
 | t::r,f=>by
  refine gF.trans ?_ (uH r _);have h:=JD (G:=G) (uJ f [rK n f t]) (f.al n);grind[uI]
theorem oO {n a:Nat} {b:ab} (h:aeN n a f=some b):gF G (f.al n) (b.al n):=by
 unfold aeN at h
 split at h
 ·simp at h;subst h;exact .refl _ _
 exact (uH G _ _).trans (xw G _ h)
noncomputable def iO (a:Nat->Nat) (h:Nat) (c:Code):ab->Option (Exit×ab):=
 Code.rec (motive:=fun _=>ab->Option (Exit×ab))
  (skip:=fun f=>some (.normal,f))
  (region:=fun id d g f=>
   (match (match g with|true=>G8 X E G H n d.toList (H.ord id) f|false=>EB X E G (H.at id) n d.toList d.toList f) with
    | some e=>(match aeN n (a id) (iL e (fun l=>eE l (a id))) with|some m=>some (.normal,m)|none=>none)
    | none=>none))
  (seq:=fun _ _ x k f=>(match x f with
   | some (.normal,e)=>k e
   | r=>r))
  (cond:=fun c _ _ x k f=>(match py G n f c with
   | .dat (.flat (.bool b))=>(match b with|true=>x f|false=>k f)
   | _=>none))
  (block:=fun id _ j f=>(match j f with
   | some (.exit i,e)=>(match Nat.beq i id with|true=>some (.normal,e)|false=>some (.exit i,e))
   | r=>r))
  (loop:=fun _ j f=>C6 j h f)
  (rangeFunc:=fun _ _ _ _ _ _ _=>none)
  (exit:=fun id f=>some (.exit id,f))
  (scope:=fun _ j f=>(match j f with
   | some (.goto _,_)=>none
   | r=>r))
  (label:=fun _ f=>some (.normal,f))
  (goto:=fun _ _=>none)
  (ret:=fun f=>some (.ret,f))
  (refuse:=fun _ _=>none) c
theorem Ha {b:Nat->Nat} {a:Nat}:iO X E G H n b a (.scope c) f=(match iO X E G H n b a c f with
   | some (.goto _,_)=>none
   | r=>r):=rfl
theorem M6 {b:Nat->Nat} {a:Nat} {x y:Code}:iO X E G H n b a (.seq x y) f=(match iO X E G H n b a x f with
   | some (.normal,c)=>iO X E G H n b a y c
   | r=>r):=rfl
theorem Hb {b:Nat->Nat} {a:Nat} {id:Nat}:iO X E G H n b a (.block id c) f=(match iO X E G H n b a c f with
   | some (.exit i,d)=>(match Nat.beq i id with|true=>some (.normal,d)|false=>some (.exit i,d))
   | r=>r):=rfl
theorem JQ {d:Nat->Nat} {a:Nat} {c:Operand} {x y:Code}:iO X E G H n d a (.cond c x y) f=(match py G n f c with
   | .dat (.flat (.bool b))=>(match b with|true=>iO X E G H n d a x f|false=>iO X E G H n d a y f)
   | _=>none):=rfl
theorem EH {a:Nat->Nat} {d:Nat} {id:Nat} {b:Array Oper} {c:Bool}:iO X E G H n a d (.region id b c) f =
   (match (match c with|true=>G8 X E G H n b.toList (H.ord id) f|false=>EB X E G (H.at id) n b.toList b.toList f) with
    | some e=>(match aeN n (a id) (iL e (fun l=>eE l (a id))) with|some g=>some (.normal,g)|none=>none)
    | none=>none):=rfl
theorem G1 {P:Program} {g:ab->Option (Exit×ab)} (d:∀f e m,g f=some (e,m)->∀Q:Exit->aa->Prop,Q e (m.al n)->cL P G c Q (f.al n)) {k:Nat} {m:ab} {e:Exit}
  (h:C6 g k f=some (e,m)) (hQ:Q e (m.al n)):cL P G (.loop c) Q (f.al n):=by
 intro w R N ad Z U H z hr D hd;refine wp_loop_ghost (I:=fun k a u=>∃p x v l j i,C6 g k p=some (e,m)/\dw G u x v a.tmps.toList (p.al n) undef .undef [] l j i z/\a.defers=D/\bp w R u x z/\(∀o b,N (.out o)=some b->v (.out o)=some b)) (n0:=k) ?_ ?_
 ·grind[aZ]
 rintro k a u ⟨p,x,v,l,j,i,X,M,L,hk,W⟩
 cases k with
 | zero=>exact absurd X (by intro X;cases X)
 | succ k=>
  have X:(match g p with
   | some (.normal,m)=>C6 g k m
   | r=>r)=some (e,m):=X
  have ae:∀E y,g p=some (E,y)->(E=.normal->C6 g k y=some (e,m))->(E≠.normal->E=e/\y=m)->c.wp P (Exit.then (fun V u=>∃n',n' < k+1/\∃p x v l j i,C6 g n' p=some (e,m)/\dw G u x v V.tmps.toList (p.al n) undef .undef [] l j i z/\V.defers=D/\bp w R u x z/\(∀o b,N (.out o)=some b->v (.out o)=some b)) (Dx G D Q w R N z)) a u:=by
   intro E y A h1 h2;refine wp_mono (d p E y A (fun e' O=>e'=E/\O=y.al n) ⟨rfl,rfl⟩ u x v a l j i z M L) ?_;rintro K a3 w3 ⟨s3,T,S,t,s,q,⟨rfl,rfl⟩,J,C,F,B⟩
   by_cases Y:K=.normal
   ·subst Y;exact⟨k,Nat.lt_succ_self k,y,T,S,t,s,q,h1 rfl,J,C,hk.trans F,fun o b h=>B o b (W o b h)⟩
   obtain⟨rfl,rfl⟩:=h2 Y
   have:Dx G D Q w R N z K a3 w3:=⟨_,T,S,t,s,q,hQ,J,C,hk.trans F,fun o b h=>B o b (W o b h)⟩
   cases K with
   | normal=>grind
   | _=>exact this
  grind
theorem xL {P:Program} {s t:aa} (h:cL P G c (fun e r=>e=.normal/\r=t) s) {m:aa} (J:gF G t m) (A:Q .normal m):cL P G c Q s:=by
 intro w R N d Z U H z C D B;refine wp_mono (h w R N d Z U H z C B) ?_;rintro e a L ⟨r,K,I,q,p,n,⟨rfl,rfl⟩,j,g,k,y⟩;obtain⟨v,u,F,E,x,l,i,f⟩:=J _ _ _ _ _ _ _ _ j;exact⟨m,v,u,F,E,x,A,l,g,k.trans i,fun o b O=>f o b (y o b O)⟩
theorem BA {P:Program} {s q:aa} (h:cL P G c (fun e p=>e=.normal/\p=q) s) {o:aa}
  (A:∀(w:World) (R:Own) (N:Name->Option Nat) (d:List Value) (Z U H z:List Nat),dw G w R N d q undef .undef [] Z U H z->∃b,dw G w R N d o undef .undef [] b U H z) (v:Q .normal o):cL P G c Q s:=by
 intro w R N j Z U H z y D x;refine wp_mono (h w R N j Z U H z y x) ?_;rintro e a B ⟨p,t,r,b,g,f,⟨rfl,rfl⟩,m,l,k,u⟩;obtain⟨i,n⟩:=A _ _ _ _ _ _ _ _ m;exact⟨o,t,r,i,g,f,v,n,l,k,u⟩
theorem fj {P:Program} (W:E.Ok P) (J:Kg P G X) (g:Nat->Nat) (j:Nat):∀(c:Code) (f m:ab) (e:Exit),dh H c=true->iO X E G H n g j c f=some (e,m)->∀Q:Exit->aa->Prop,Q e (m.al n)->cL P G c Q (f.al n)
 | .skip,f,m,e,_,h,Q,k=>by
  have h:some (Exit.normal,f)=some (e,m):=h;simp at h;obtain⟨rfl,rfl⟩:=h;exact gD wp_skip k
 | .region id O ad,f,m,e,o,h,Q,k=>by
  rw[EH] at h
  cases ad
  ·dsimp only at h
   cases L:EB X E G (H.at id) n O.toList O.toList f with
   | none=>rw[L] at h;simp at h
   | some A=>
    rw[L] at h;dsimp only at h
    cases M:aeN n (g id) (iL A (fun l=>eE l (g id))) with
    | none=>rw[M] at h;simp at h
    | some f2=>
    rw[M] at h;simp at h;obtain⟨rfl,rfl⟩:=h;refine xL G (BA G (uY W (nN J (rp X E G (H.at id) n L) ⟨rfl,rfl⟩)) ?_ ⟨rfl,rfl⟩) (oO G M) k;intro w R N ae Z U p z C;exact C.prune _
  dsimp only at h
  cases L:G8 X E G H n O.toList (H.ord id) f with
  | none=>rw[L] at h;simp at h
  | some A=>
   rw[L] at h;dsimp only at h
   cases M:aeN n (g id) (iL A (fun l=>eE l (g id))) with
   | none=>rw[M] at h;simp at h
   | some f2=>
   rw[M] at h;simp at h;obtain⟨rfl,rfl⟩:=h;refine xL G (BA G (BB W W.mixed (by simpa [dh] using o) (E4 J (JO X E G H n L) ⟨rfl,rfl⟩)) ?_ ⟨rfl,rfl⟩) (oO G M) k;intro w R N ae Z U p z C;exact C.prune _
 | .seq x y,f,m,e,o,h,Q,k=>by
  simp only[dh,Bool.and_eq_true] at o;rw[M6] at h;refine wK ?_
  cases I:iO X E G H n g j x f with
  | none=>rw[I] at h;simp at h
  | some r=>
   obtain⟨K,A⟩:=r;rw[I] at h;refine fj W J g j x f A K o.1 I _ ?_
   cases K with
   | normal=>exact fj W J g j y A m e o.2 h Q k
   | _=>simp at h;obtain⟨rfl,rfl⟩:=h;exact k
 | .cond c x y,f,m,e,o,h,Q,k=>by
  simp only[dh,Bool.and_eq_true] at o;intro w R N v Z U p z C D T;rw[JQ] at h
  split at h
  ·rename_i b d;obtain⟨B,he⟩:=qw C.tmps C.glob c;rw[nv,d] at he;obtain⟨_,he,_⟩:=aC he;refine wp_cond he ?_
   cases b
   ·exact fj W J g j y f m e o.2 h Q k w R N v Z U p z C T
   exact fj W J g j x f m e o.1 h Q k w R N v Z U p z C T
  simp at h
 | .block id c,f,m,e,o,h,Q,k=>by
  simp only[dh] at o;rw[Hb] at h
  cases I:iO X E G H n g j c f with
  | none=>rw[I] at h;simp at h
  | some r=>
   obtain⟨K,A⟩:=r;rw[I] at h;intro w R N v Z U p z C D T
   apply wp_block
   refine wp_mono (fj W J g j c f A K o I (fun e' S=>e'=K/\S=A.al n) ⟨rfl,rfl⟩ w R N v Z U p z C T) ?_;rintro F a w' ⟨s2,Y,V,t,s,q,⟨rfl,rfl⟩,u⟩
   cases F with
   | exit i=>
    simp only[Exit.inBlock];dsimp only at h
    by_cases hi:i=id
    ·have d:Nat.beq i id=true:=by rw[Nat.beq_eq];exact hi
     rw[if_pos hi];rw[d] at h;simp at h;obtain⟨rfl,rfl⟩:=h;exact⟨_,Y,V,t,s,q,k,u⟩
    have d:Nat.beq i id=false:=by rw[Bool.eq_false_iff];intro o;rw[Nat.beq_eq] at o;exact hi o
    rw[if_neg hi];rw[d] at h;simp at h;obtain⟨rfl,rfl⟩:=h;exact⟨_,Y,V,t,s,q,k,u⟩
   | _=>simp at h;obtain⟨rfl,rfl⟩:=h;exact⟨_,Y,V,t,s,q,k,u⟩
 | .exit id,f,m,e,_,h,Q,k=>by
  have h:some (Exit.exit id,f)=some (e,m):=h;simp at h;obtain⟨rfl,rfl⟩:=h;exact gD wp_exit k
 | .ret,f,m,e,_,h,Q,k=>by
  have h:some (Exit.ret,f)=some (e,m):=h;simp at h;obtain⟨rfl,rfl⟩:=h;exact gD wp_ret k
 | .loop c,f,m,e,o,h,Q,k=>by
  simp only[dh] at o;exact G1 G n (fun f e m d Q k=>fj W J g j c f m e o d Q k) h k
 | .rangeFunc _ _ _ _,_,_,_,_,h,_,_=>by cases h
 | .scope c,f,m,e,o,h,Q,k=>by
  simp only[dh] at o;rw[Ha] at h
  cases I:iO X E G H n g j c f with
  | none=>rw[I] at h;simp at h
  | some r=>
   obtain⟨K,A⟩:=r;rw[I] at h;intro w R N v Z U p z C D T
   apply wp_scope_straight
   refine wp_mono (fj W J g j c f A K o I (fun e' S=>e'=K/\S=A.al n) ⟨rfl,rfl⟩ w R N v Z U p z C T) ?_;rintro F a w' ⟨s2,Y,V,t,s,q,⟨rfl,rfl⟩,u⟩
   cases F with
   | goto l=>simp at h
   | _=>simp at h;obtain⟨rfl,rfl⟩:=h;exact⟨_,Y,V,t,s,q,k,u⟩
 | .label _,f,m,e,_,h,Q,k=>by
  have h:some (Exit.normal,f)=some (e,m):=h;simp at h;obtain⟨rfl,rfl⟩:=h;exact gD wp_label k
 | .goto _,_,_,_,_,h,_,_=>by cases h
 | .refuse _,_,_,_,_,h,_,_=>by cases h
noncomputable def uL (f:ab) (a:Tmp) (t:TypeId):Option ac:=
 match rK n f a with
 | .ptr k b=>(match Rc f k,E.ty t with
  | some (.cells c),some i=>loadCells i b c
  | _,_=>none)
 | _=>none
theorem Hc (f:ab) (a:Tmp) (t:TypeId):yC E (f.al n) a t=uL E n f a t:=by
 grind[yC,uL,jC,EC]
noncomputable def iK:ab->List ResultVar->Option (List ac)
 | _,[]=>some []
 | f,.tmp t::r=>(match iK (uK n f (some 0) [.tmp t]) r with|some b=>some (rK n f t::b)|none=>none)
 | f,.cell a t::r=>(match uL E n f a t,iK f r with|some v,some b=>some (v::b)|_,_=>none)
theorem qu:∀(b:List ResultVar) (f:ab),gU E (f.al n) b=iK E n f b
 | [],_=>rfl
 | .tmp t::r,f=>by
  simp only[gU,iK,←AX,qu r,jC]
  grind
 | .cell a t::r,f=>by
  simp only[gU,iK,Hc,qu r]
  grind
noncomputable def G6:List Name->ab->List ac->ab×List ac
 | [],f,a=>(f,a)
 | k::c,f,a=>
  (match (aU k a||jL k f.locs) with
   | true=>(match wj true k f a with
   | some (d,b)=>G6 c d b
   | none=>G6 c f a)
   | false=>G6 c f a)
theorem yB:∀(b:List Name) (f:ab) (a:List ac),aei b (f.al n) a=((G6 b f a).1.al n,(G6 b f a).2)
 | [],_,_=>rfl
 | k::b,f,a=>by
  simp only[aei,G6,C5];have e:(f.al n).locs=f.locs:=rfl;rw[e]
  cases (aU k a||jL k f.locs) with
  | false=>exact yB b f a
  | true=>
   cases wj true k f a with
   | none=>exact yB b f a
   | some x=>exact yB b x.1 x.2
noncomputable def sU (d:List ResultVar) (f:ab):Option eX:=
 match iK E n f d with
 | none=>none
 | some b=>
  match aW (jF b) with
  | true=>some ⟨pack (jF b),f.heap,f.next⟩
  | false=>match G6 (repeatL f.locs.length (nq f.locs)) f (jF b) with
   |(c,a)=>if aW a=true then some ⟨pack a,c.heap,c.next⟩ else none
theorem yz (a:List ResultVar) (f:ab):SB E a (f.al n)=sU E n a f:=by
 unfold SB sU;rw[qu]
 cases iK E n f a with
 | none=>rfl
 | some b=>
  dsimp only
  cases aW (jF b) with
  | true=>rfl
  | false=>
   have e:(f.al n).locs=f.locs:=rfl;rw[e,yB];generalize G6 (repeatL f.locs.length (nq f.locs)) f (jF b)=c;obtain⟨g,d⟩:=c;rfl
def rG:Nat->List ac->Sl
 | _,[]=>[]
 | k,a::r=>(k,a)::rG (k+1) r
theorem pS:∀(b:List ac) (k t:Nat),rJ (rG k b) t=if k<=t then bq b (t - k) else .undef
 | [],k,t=>by
  grind[rG,AM,bq]
 | a::r,k,t=>by
  rw[rG,ij,pS r (k+1) t]
  grind[bq]
end
section
variable (E:bz) (G:bA) (moves caps:FuncId->Bool) (F:FuncId->Option qS) (M:lH) (fuel:Nat)
noncomputable def C8:Nat->lH
 | 0=>fun _ _ _ _=>none
 | k+1=>fun g b c a=>
  match F g with
  | none=>none
  | some x=>match Nat.ble b.length x.ntmps with
   | false=>none
   | true=>(match iO (fun g b c a=>match M g b c a with|some r=>some r|none=>C8 k g b c a) E G ⟨moves,x.ord,caps,rowsOf caps g⟩ x.ntmps x.live fuel x.code ⟨rG 0 b,[],c,a⟩ with
    | some (.ret,f)=>(match sU E x.ntmps x.results f with|some r=>some (M0 a r)|none=>none)
    | some (.normal,f)=>(match sU E x.ntmps x.results f with|some r=>some (M0 a r)|none=>none)
    | _=>none)
variable {E G moves caps F M}
theorem xA {P:Program} (W:E.Ok P) (w:Z9 P moves caps F) (y:Kg P G M):∀k,Kg P G (C8 E G moves caps F M fuel k)
 | 0=>by intro f d j c r h;cases h
 | k+1=>by
  intro g d j c r h;simp only[C8] at h
  split at h
  ·simp at h
  rename_i x X;obtain⟨K,a,b,z,A,B⟩:=w g x X;have I:=xA W w y k;have C:Kg P G (fun g d j c=>match M g d j c with|some r=>some r|none=>C8 E G moves caps F M fuel k g d j c):=by
   intro g d j c r h;dsimp only at h
   split at h
   ·rename_i L v;simp at h;subst h;exact y _ _ _ _ _ v
   exact I _ _ _ _ _ h
  split at h
  ·simp at h
  rename_i o;have o:=fD o;have q:(⟨rG 0 d,[],j,c⟩:ab).al x.ntmps=enter x.ntmps d j c:=by
   simp only[ab.al,enter];congr 1
   apply List.ext_getElem?
   intro i;rw[kq,Nat.zero_add,pS,if_pos (Nat.zero_le _),Nat.sub_zero,List.getElem?_append]
   split
   ·split
    ·rename_i u;unfold bq;rw[List.getElem?_eq_getElem u]
    rename_i H u;rw[List.getElem?_replicate,if_pos (by omega)];unfold bq;rw[List.getElem?_eq_none (by omega)]
   rename_i u;rw[if_neg (by omega),List.getElem?_replicate,if_neg (by omega)]
  have t:∀e f,iO (fun g d j c=>match M g d j c with|some r=>some r|none=>C8 E G moves caps F M fuel k g d j c) E G ⟨moves,x.ord,caps,rowsOf caps g⟩ x.ntmps x.live fuel x.code ⟨rG 0 d,[],j,c⟩=some (e,f)->e=.ret∨e=.normal->
    (match sU E x.ntmps x.results f with|some r=>some (M0 c r)|none=>none)=some r->ay P G g d j c (XQ r):=by
   intro e f X D R
   cases p:sU E x.ntmps x.results f with
   | none=>rw[p] at R;simp at R
   | some J=>
    rw[p] at R;simp at R;subst R
    apply ay.gc
    refine gX W a b ?_;intro _ _;rw[z,A,←q];refine fj _ E G ⟨moves,x.ord,caps,rowsOf caps g⟩ x.ntmps W C x.live fuel x.code _ _ _ (by rw[eM];exact B) X _ ?_
    have:=nL (E:=E) (rs:=x.results) (s:=f.al x.ntmps) (r:=J) (by rw[yz];exact p)
    rcases D with rfl|rfl <;> exact this
  split at h
  ·rename_i f p;exact t _ _ p (.inl rfl) h
  ·rename_i f p;exact t _ _ p (.inr rfl) h
  simp at h
end
end Go.Tp
namespace Go.Tp
variable {P:Program} {G:bA}
end Go.Tp
namespace Go.Tp
mutual
def NB:ac->Bool
 | .dat _=>true
 | .own _=>true
 | .ref _=>true
 | .undef=>true
 | .agg c=>Jc c
 | .tup c=>Jc c
 | .fn _ x y=>Jc x&&Jc y
 | .ptr _ _=>false
 | .map _=>false
 | .win _ _ _ _=>false
def Jc:List ac->Bool
 | []=>true
 | a::r=>NB a&&Jc r
end
section
variable {w:World} {R:Own} {N N':Name->Option Nat}
mutual
theorem ai.nm:∀{a:ac} {v:Value} {B:List Nat},ai w R N a v B->NB a=true->ai w R N' a v B
 | .dat _,_,_,h,_=>by exact h
 | .own _,_,_,h,_=>by exact h
 | .ref _,_,_,h,_=>by exact h
 | .ptr _ _,_,_,_,d=>by grind[NB]
 | .map _,_,_,_,d=>by grind[NB]
 | .win _ _ _ _,_,_,_,d=>by grind[NB]
 | .fn _ x y,_,_,h,d=>by
  simp only[NB,Bool.and_eq_true] at d;obtain⟨i,g,m,e,b,f⟩:=h;exact⟨i,g,m,e,ah.nm (l:=x) b d.1,ah.nm (l:=y) f d.2⟩
 | .agg c,_,_,h,d=>by
  obtain⟨g,e,h⟩:=h;exact⟨g,e,ah.nm (l:=c) h d⟩
 | .tup c,_,_,h,d=>by
  obtain⟨g,e,h⟩:=h;exact⟨g,e,ah.nm (l:=c) h d⟩
 | .undef,_,_,h,_=>by exact h
theorem ah.nm:∀{l:List ac} {g:List Value} {B:List Nat},ah w R N l g B->Jc l=true->ah w R N' l g B
 | [],_,_,h,_=>by exact h
 | a::l,_,_,h,d=>by
  simp only[Jc,Bool.and_eq_true] at d;obtain⟨v,j,r,Q,E,F,i,b⟩:=h;exact⟨v,j,r,Q,E,F,ai.nm (a:=a) i d.1,ah.nm (l:=l) b d.2⟩
end
end
variable {P:Program} {G:bA}
end Go.Tp
namespace Go.Tp
inductive Qy (α:Type):Type where
 |fin (a:α)
 |fail
 |bool (t:Nat) (b:Bool) (k:Bool->Qy α)
 |out (t:Nat) (o:Option Out) (k:Out->Qy α)
 |res (g:FuncId) (args:List ac) (heap:Heap) (next:Nat) (k:eX->Qy α)
 |stay (h h':Heap) (k:Qy α)
 |loop (n:Nat) (c:Code) (f:ab) (k:Exit×ab->Qy α)
 |both (a b:Qy α)
section
variable (P:Program) (G:bA) {α:Type} (T:α->Prop)
def Qy.tg:Qy α->Prop
 | .fin a=>T a
 | .fail=>False
 | .bool _ b k=>(k b).tg
 | .out _ o k=>∃x,o=some x/\(k x).tg
 | .res g d i j k=>ay P G g d i j (fun v h m=>nH v->yc h->(k ⟨v,h,m⟩).tg)
 | .stay h p k=>Sk h p/\k.tg
 | .loop n c f k=>cL P G (.loop c) (fun e s=>∃l,s=l.al n/\(k (e,l)).tg) (f.al n)
 | .both a b=>a.tg/\b.tg
end
def Gf (o:Oper):Nat:=
 match o.dst with
 | some t=>t
 | none=>(match o.op with
  | .store _ (.tmp u) _=>100000+u
  | .mapUpdate _ (.tmp u) _ _=>100000+u
  | .insert _ (.tmp u) _ _=>100000+u
  | .call c=>(match c.args.toList with|.tmp u::_=>100000+u|_=>0)
  | _=>0)
section
variable {α:Type} (A B:Nat->Bool) (E:bz) (G:bA) (H:Hints) (n:Nat)
noncomputable def vG (d:Option Tmp) (f:ab) (k:ab->Qy α):Qy α:=
 match d with
 | none=>k f
 | some t=>(match A t with
  | true=>(match rK n f t with
   | .dat (.flat (.bool b))=>.bool t b (fun b=>k (iW f (some t) (.dat (.flat (.bool b)))))
   | _=>k f)
  | false=>k f)
def oJ (k:Option Name) (out:Out):Option aL:=
 match out with
 | ⟨_,b⟩=>match b with
  | .grow a _ _=>some a
  | .set a=>(match k with
   | some (.out _)=>some a
   | _=>none)
  | _=>none
noncomputable def AV (o:Oper) (k:Option Name) (f:ab) (out:Out):Option ab:=
 match out with
 | ⟨_,h⟩=>match h with
  | .grow d i e=>(match f with
   | ⟨g,c,b,a⟩=>match k with
    | some (.loc j)=>some (iW ⟨g,qL (.loc j) c,(.out a,d)::b,a+1⟩ o.dst (.win (.out a) i 0 e))
    | some (.out j)=>some (iW ⟨g,c,(.out a,d)::qL (.out j) b,a+1⟩ o.dst (.win (.out a) i 0 e))
    | none=>some (iW ⟨g,c,(.out a,d)::b,a+1⟩ o.dst (.win (.out a) i 0 e)))
  | .set d=>(match f with
   | ⟨g,c,b,a⟩=>match k with
    | some (.out j)=>(match out with|⟨l,_⟩=>some (iW ⟨g,c,qG (.out j) d b,a⟩ o.dst l))
    | _=>none)
  | _=>none
theorem M5 {o:Oper} {k:Option Name} {f g:ab} {c:Out} {m:aL} (a:oJ k c=some m) (b:bh m=true) (h:AV o k f c=some g):ly o k f c=some g:=by
 obtain⟨p,d⟩:=c;obtain⟨q,j,i,l⟩:=f
 cases d with
 | grow e r n=>
  simp only[oJ,Option.some.injEq] at a;subst a
  rcases k with _|⟨_|_⟩ <;> simp only[AV] at h <;> simp only[ly,b,if_true] <;> exact h
 | set e=>
  rcases k with _|⟨_|_⟩
  all_goals grind[oJ,AV,ly,rl]
 | _=>grind[oJ]
noncomputable def FZ (q a:Bool) (o:Oper) (f:ab) (k:ab->Qy α):Qy α:=
 match B (Gf o) with
 | true=>.out (Gf o) (jE E a o.op (gf G n f (kp q o.op) 0 (opsL o.op)) (rq f o.op (gf G n f (kp q o.op) 0 (opsL o.op))))
   (fun out=>match oJ (looks o.op (gf G n f (kp q o.op) 0 (opsL o.op))) out with
    | some d=>.bool (Gf o+500000) (bh d) (fun b=>match b with
     | true=>(match AV o (looks o.op (gf G n f (kp q o.op) 0 (opsL o.op))) (uK n f (kp q o.op) (opsL o.op)) out with
      | some c=>vG A n o.dst c k
      | none=>.fail)
     | false=>.fail)
    | none=>(match ly o (looks o.op (gf G n f (kp q o.op) 0 (opsL o.op))) (uK n f (kp q o.op) (opsL o.op)) out with
     | some c=>vG A n o.dst c k
     | none=>.fail))
 | false=>(match xp E G n q a o f with
  | some c=>vG A n o.dst c k
  | none=>.fail)
noncomputable def Pc (a:List Oper) (o:Oper) (f:ab) (k:ab->Qy α):Qy α:=
 match gW n a f o.guard with
 | none=>.fail
 | some b=>match b with
  | true=>
   (match dv o.op with
    | some c=>(match ru E G H n c f with
     | some (g,d,e)=>.res g d e.heap e.next (fun r=>vG A n o.dst (uM e r o.dst) k)
     | none=>.fail)
    | none=>FZ A B E G n (readOnly H.moves a o) (lQ H a o) o f k)
  | false=>k (iW f o.dst (.tup []))
noncomputable def O9 (a:List Oper) (b:List Oper):ab->(ab->Qy α)->Qy α:=
 @List.rec Oper (fun _=>ab->(ab->Qy α)->Qy α) (fun f k=>k f) (fun o _ d f k=>Pc A B E G H n a o f (fun c=>d c k)) b
noncomputable def zU (d:Bool) (c:List Oper) (o:Oper) (f:ab) (k:ac->Qy α):Qy α:=
 match B (Gf o) with
 | true=>(match gW n c f o.guard with
  | none=>.fail
  | some b=>match b with
   | true=>(match oE o.op with
    | true=>(match jE E false o.op [] none with|some _=>k .undef|none=>.fail)
    | false=>(match dv o.op with
     | some _=>.fail
     | none=>(match jf o.op&&qk d (looks o.op (gf G n f none 0 (opsL o.op))) with
      | true=>.out (Gf o) (jE E false o.op (gf G n f none 0 (opsL o.op)) (rq f o.op (gf G n f none 0 (opsL o.op)))) (fun out=>match out with|⟨v,.keep⟩=>k v|_=>.fail)
      | false=>.fail)))
   | false=>k (.tup []))
 | false=>(match qt E G n d c o f with
  | some a=>k a
  | none=>.fail)
noncomputable def Pb (i:Bool) (l:List Nat) (d:List Oper) (o:Oper) (f:ab) (k:ab->Qy α):Qy α:=
 match gW n d f o.guard with
 | none=>.fail
 | some b=>match b with
  | true=>
   (match dv o.op with
    | some c=>(match ny E G H n c f with
     | some (g,e,h)=>(match hO H o with
      | true=>.res g e [] h.next (fun r=>match r with
       | ⟨v,[],m⟩=>vG A n o.dst (uM h ⟨v,h.heap,m⟩ o.dst) k
       | _=>.fail)
      | false=>.res g e h.heap h.next (fun r=>match mK H o with
       | true=>.stay h.heap r.heap (vG A n o.dst (uM h r o.dst) k)
       | false=>vG A n o.dst (uM h r o.dst) k))
     | none=>.fail)
    | none=>(match fk o.op with
     | some t=>(match mf n i d (gk d t (wg n l t f)) f with
      | some j=>FZ A B E G n false false o j k
      | none=>.fail)
     | none=>(match iI o.op with
      | true=>FZ A B E G n (readOnly H.moves d o) (lQ H d o) o f k
      | false=>zU B E G n i d o f (fun a=>vG A n o.dst (iW f o.dst a) k))))
  | false=>k (iW f o.dst (.tup []))
noncomputable def My (h:List Nat) (d:Bool) (g:Nat->Bool) (b:List Oper) (l:List (Nat×Bool)):ab->(ab->Qy α)->Qy α:=
 @List.rec (Nat×Bool) (fun _=>ab->(ab->Qy α)->Qy α) (fun f k=>k f) (fun p _ e f k=>
  match b[p.1]? with
  | none=>.fail
  | some o=>match p.2 with
   | true=>Pb A B E G H n d h b o f (fun c=>e c k)
   | false=>zU B E G n (d||g p.1) b o f (fun a=>vG A n o.dst (iW f o.dst a) (fun c=>e c k))) l
def KK (F:Nat->Qy α):Nat->List Nat->Qy α
 | i,[]=>F i
 | i,j::l=>.both (F i) (KK F j l)
noncomputable def F4 (b:List Oper):Nat->Array Bool->ab->(ab->Qy α)->Qy α
 | 0,a,f,k=>(match Region.ready .any b.toArray a with
  | []=>k f
  | _=>.fail)
 | m+1,a,f,k=>(match Region.ready .any b.toArray a with
  | []=>k f
  | i::l=>KK (fun i=>match b[i]? with
   | some o=>Pc A B E G H n b o f (fun c=>F4 b m (bK a i) c k)
   | none=>.fail) i l)
noncomputable def F1 (h:aw) (b:List Oper) (p:Array Bool):Nat->Array Bool->ab->(ab->Qy α)->Qy α
 | 0,a,f,k=>(match rL a.toList p.toList with
  | true=>k f
  | false=>.fail)
 | m+1,a,f,k=>(match rL a.toList p.toList with
  | true=>.fail
  | false=>(match Region.ready .any b.toArray a with
   | []=>.fail
   | i::l=>KK (fun i=>match h.pre.contains (i,true) with
    | true=>(match b[i]? with
     | some o=>Pb A B E G H n (aK H b h.pre) h.tk b o f (fun c=>F1 h b p m (bK a i) c k)
     | none=>.fail)
    | false=>.fail) i l))
noncomputable def Ph (a:List Oper) (h:aw) (f:ab) (k:ab->Qy α):Qy α:=
 match gz h with
 | true=>F4 A B E G H n a a.length (Array.replicate a.length false) f k
 | false=>(match gP h with
  | true=>My A B E G H n (gh h).tk (aK H a (gh h).pre) (quietAt H a (gh h).pre) a (bR (gh h).pre) f (fun b=>
    F1 A B E G H n (gh h) a (eR (gh h).pre (Array.replicate a.length false)) ((gh h).pre.length - (bR (gh h).pre).length) (eR (bR (gh h).pre) (Array.replicate a.length false)) b (fun d=>
     match oM E n a (gh h).nw d with
     | some c=>O9 A B E G H n a (dZ a (gh h).tail) c k
     | none=>.fail))
  | false=>My A B E G H n h.tk (aK H a h.pre) (quietAt H a h.pre) a h.pre f (fun b=>
    match oM E n a h.nw b with
    | some c=>O9 A B E G H n a (dZ a h.tail) c k
    | none=>.fail))
def vx:Sl->List Name
 | []=>[]
 | p::r=>Qj p.2++vx r
def acd (m:Name):List Name->Bool
 | []=>false
 | x::r=>match tX x m with|true=>true|false=>acd m r
def Gg (l:List Name):Heap->Heap
 | []=>[]
 |(m,o)::r=>match acd m l with|true=>(m,o)::Gg l r|false=>Gg l r
def ae4 (f:ab):ab:=
 match f with
 | ⟨d,[],a,c⟩=>⟨d,[],a,c⟩
 | ⟨d,p::b,a,c⟩=>⟨d,Gg (Bf (p::b) (p::b).length (tb (vx d) [])) (p::b),a,c⟩
def X5:FuncId:=4000000
def JM (a:FuncId->Bool) (f:ab):ab:=match a X5 with|true=>ae4 f|false=>f
noncomputable def yk (a:Nat->Nat) (id:Nat) (b:Array Oper) (c:Bool) (f:ab) (k:ab->Qy α):Qy α:=
 match c with
 | true=>Ph A B E G H n b.toList (H.ord id) f (fun d=>match aeN n (a id) (iL d (fun l=>eE l (a id))) with|some e=>k (JM H.caps e)|none=>.fail)
 | false=>O9 A B E G (H.at id) n b.toList b.toList f (fun d=>match aeN n (a id) (iL d (fun l=>eE l (a id))) with|some e=>k (JM H.caps e)|none=>.fail)
noncomputable def tL (d:Nat->Nat) (c:Code):ab->(Exit×ab->Qy α)->Qy α:=
 Code.rec (motive:=fun _=>ab->(Exit×ab->Qy α)->Qy α)
  (skip:=fun f k=>k (.normal,f))
  (region:=fun id j a f k=>yk A B E G H n d id j a f (fun f=>k (.normal,f)))
  (seq:=fun _ _ x h f k=>x f (fun r=>match r with
   |(.normal,e)=>h e k
   | r=>k r))
  (cond:=fun c _ _ x h f k=>(match py G n f c with
   | .dat (.flat (.bool b))=>(match b with|true=>x f k|false=>h f k)
   | _=>.fail))
  (block:=fun id _ g f k=>g f (fun r=>match r with
   |(.exit i,e)=>(match Nat.beq i id with|true=>k (.normal,e)|false=>k (.exit i,e))
   | r=>k r))
  (loop:=fun c _ f k=>.loop n c f k)
  (rangeFunc:=fun _ _ _ _ _ _ _ _=>.fail)
  (exit:=fun id f k=>k (.exit id,f))
  (scope:=fun _ g f k=>g f (fun r=>match r with
   |(.goto _,_)=>.fail
   | r=>k r))
  (label:=fun _ f k=>k (.normal,f))
  (goto:=fun _ _ _=>.fail)
  (ret:=fun f k=>k (.ret,f))
  (refuse:=fun _ _ _=>.fail) c
end
noncomputable def Pf (A B:Nat->Bool) (E:bz) (G:bA) (d c:FuncId->Bool) (x:qS) (g:FuncId) (b:List ac) (e:Heap) (a:Nat):Qy eX:=
 match Nat.ble b.length x.ntmps with
 | false=>.fail
 | true=>tL A B E G ⟨d,x.ord,c,rowsOf c g⟩ x.ntmps x.live x.code ⟨rG 0 b,[],e,a⟩ (fun r=>match r with
  |(.ret,f)=>(match sU E x.ntmps x.results f with|some r=>.fin (M0 a r)|none=>.fail)
  |(.normal,f)=>(match sU E x.ntmps x.results f with|some r=>.fin (M0 a r)|none=>.fail)
  | _=>.fail)
section
variable {P:Program} {E:bz} {G:bA} {H:Hints} {n:Nat} {α:Type} {A B:Nat->Bool} {T:α->Prop}
variable {f:ab} {o:Oper}
theorem wH {g:List Oper} {K i:aa->Prop} {s:aa} (k:∀s,K s->i s) (h:mT (ay P G) E G H g o K s):mT (ay P G) E G H g o i s:=by
 unfold mT at h ⊢
 split
 ·grind
 rename_i b q;simp only[q] at h
 split
 ·rename_i d;simp only[d,if_true] at h
  split
  ·rename_i c e;simp only[e] at h
   split
   ·rename_i f j r A;simp only[A] at h;exact h.mono fun v l n p a m=>k _ (p a m)
   grind
  grind
 grind
def vg (P:Program) (G:bA) (n:Nat) (T:α->Prop) (k:ab->Qy α) (s:aa):Prop:=∃a,s=a.al n/\(k a).tg P G T
theorem km {d:Option Tmp} {k:ab->Qy α} (h:(vG A n d f k).tg P G T):vg P G n T k (f.al n):=by
 unfold vG at h
 cases d with
 | none=>exact⟨f,rfl,h⟩
 | some t=>
  dsimp only at h
  split at h
  ·split at h
   ·rename_i b c;refine⟨iW f (some t) (.dat (.flat (.bool b))),?_,h⟩;rw[eT];rw[←jC] at c;unfold aa.put;dsimp only;have a:(f.al n).tmps[t]?=some (.dat (.flat (.bool b))):=by
     grind[bq]
    rw[zx a]
   exact⟨f,rfl,h⟩
  exact⟨f,rfl,h⟩
theorem zT {q a:Bool} {k:ab->Qy α} (h:(FZ A B E G n q a o f k).tg P G T):∃g,aa4 E G q a o (f.al n)=some g/\vg P G n T k g:=by
 rw[uE];unfold FZ at h
 split at h
 ·obtain⟨d,O,h⟩:=h;dsimp only at h
  split at h
  ·rename_i e i;have h:(match bh e with
     | true=>(match AV o (looks o.op (gf G n f (kp q o.op) 0 (opsL o.op))) (uK n f (kp q o.op) (opsL o.op)) d with
      | some b=>vG A n o.dst b k
      | none=>.fail)
     | false=>.fail:Qy α).tg P G T:=h
   cases N:bh e with
   | false=>rw[N] at h;exact h.elim
   | true=>
    rw[N] at h;dsimp only at h
    split at h
    ·rename_i b c;refine⟨b.al n,?_,km h⟩;grind[xp,Ez,M5]
    exact h.elim
  split at h
  ·rename_i b c;refine⟨b.al n,?_,km h⟩;grind[xp,Ez]
  exact h.elim
 split at h
 ·rename_i b c;exact⟨b.al n,by grind,km h⟩
 exact h.elim
theorem KI {d:List Oper} {k:ab->Qy α} (h:(Pc A B E G H n d o f k).tg P G T):mT (ay P G) E G H d o (vg P G n T k) (f.al n):=by
 unfold Pc at h;unfold mT;rw[lx]
 cases j:gW n d f o.guard with
 | none=>rw[j] at h;exact h.elim
 | some b=>
  rw[j] at h
  cases b with
  | false=>
   dsimp only at h ⊢;exact⟨_,by rw[eT],h⟩
  | true=>
   dsimp only at h ⊢;cases e:dv o.op with
   | none=>
    grind[zT]
   | some c=>
    rw[e] at h;dsimp only at h ⊢;rw[AY]
    cases a:ru E G H n c f with
    | none=>rw[a] at h;exact h.elim
    | some x=>
     obtain⟨g,i,p⟩:=x;rw[a] at h;refine ay.mono h ?_;intro v q m l r Q
     have:=km (l r Q)
     grind[aeO]
theorem ym {a:List Oper} {k:ab->Qy α}:∀{b:List Oper} {f:ab},(O9 A B E G H n a b f k).tg P G T->mS (ay P G) E G H a (vg P G n T k) b (f.al n)
 | [],f,h=>⟨f,rfl,h⟩
 | o::c,f,h=>by
  simp only[mS,iT];refine wH ?_ (KI h);rintro s ⟨e,rfl,d⟩;exact ym d
theorem CD {g:Bool} {c:List Oper} {k:ac->Qy α} (h:(zU B E G n g c o f k).tg P G T):∃a,qt E G n g c o f=some a/\(k a).tg P G T:=by
 unfold zU at h
 split at h
 ·unfold qt
  split at h
  ·exact h.elim
  rename_i b j;rw[j];dsimp only
  cases b with
  | false=>grind
  | true=>
   rw[if_pos rfl];dsimp only at h
   split at h
   ·rename_i d;rw[if_pos d]
    split at h
    ·grind
    exact h.elim
   rename_i d;rw[if_neg (by grind)]
   split at h
   ·exact h.elim
   rename_i e;rw[e];split at h
   ·rename_i i;rw[if_pos i];obtain⟨l,O,h⟩:=h;rw[O];dsimp only at h ⊢
    split at h
    ·grind
    exact h.elim
   exact h.elim
 split at h
 ·grind
 exact h.elim
theorem KH {y:Bool} {z:List Nat} {i:List Oper} {k:ab->Qy α} (h:(Pb A B E G H n y z i o f k).tg P G T):KV (ay P G) E G H y z i o (vg P G n T k) (f.al n):=by
 unfold Pb at h;unfold KV;rw[lx]
 cases I:gW n i f o.guard with
 | none=>rw[I] at h;exact h.elim
 | some b=>
  rw[I] at h
  cases b with
  | false=>
   dsimp only at h ⊢;rw[if_neg (by simp)];exact⟨_,by rw[eT],h⟩
  | true=>
   dsimp only at h ⊢;rw[if_pos rfl]
   cases e:dv o.op with
   | none=>
    rw[e] at h;dsimp only at h ⊢
    cases F:fk o.op with
    | none=>
     rw[F] at h;dsimp only at h ⊢
     cases w:iI o.op with
     | false=>
      rw[w] at h;dsimp only at h ⊢;rw[wh];obtain⟨a,l,p⟩:=CD h;rw[l];dsimp only;rw[←eT];exact km p
     | true=>
      rw[w] at h;dsimp only at h ⊢;obtain⟨L,l,p⟩:=zT h;rw[l];exact p
    | some t=>
     rw[F] at h;dsimp only at h ⊢;rw[C4]
     cases s:mf n y i (gk i t (wg n z t f)) f with
     | none=>rw[s] at h;exact h.elim
     | some M=>
      rw[s] at h;rw[oL n y i _ _ _ s];dsimp only at h ⊢;obtain⟨L,l,p⟩:=zT h;rw[l];exact p
   | some c=>
    rw[e] at h;dsimp only at h ⊢;rw[xz]
    cases j:ny E G H n c f with
    | none=>rw[j] at h;exact h.elim
    | some x=>
     obtain⟨g,C,N⟩:=x;rw[j] at h;dsimp only[Option.map_some] at h ⊢
     cases q:hO H o with
     | true=>
      rw[q] at h;dsimp only at h ⊢;refine ay.mono h ?_;intro v D m d r Q;have d:=d r Q;dsimp only at d
      cases D with
      | nil=>
       dsimp only at d
       have:=km d
       rw[aeO] at this;exact⟨rfl,this⟩
      | cons _ _=>exact d.elim
     | false=>
      rw[q] at h;dsimp only at h ⊢;refine ay.mono h ?_;intro v D m d r Q;have d:=d r Q
      cases u:mK H o with
      | true=>
       rw[u] at d;dsimp only at d;obtain⟨J,K⟩:=d
       have:=km K
       rw[aeO] at this;exact⟨fun _=>J,this⟩
      | false=>
       rw[u] at d;dsimp only at d
       have:=km d
       rw[aeO] at this;exact⟨fun X=>by simp at X,this⟩
theorem Mx {g:List Nat} {d:Bool} {e:Nat->Bool} {b:List Oper} {i:Nat} {lone:Bool} {c:List (Nat×Bool)} {k:ab->Qy α}:My A B E G H n g d e b ((i,lone)::c) f k=(match b[i]? with
  | none=>.fail
  | some o=>match lone with
   | true=>Pb A B E G H n d g b o f (fun h=>My A B E G H n g d e b c h k)
   | false=>zU B E G n (d||e i) b o f (fun a=>vG A n o.dst (iW f o.dst a) (fun h=>My A B E G H n g d e b c h k))):=rfl
theorem yl {r:List Nat} {j:Bool} {m:Nat->Bool} {c:List Oper} {k:ab->Qy α} {K:aa->Prop} (g:∀s,vg P G n T k s->K s):∀{l:List (Nat×Bool)} {f:ab},(My A B E G H n r j m c l f k).tg P G T->mu (ay P G) E G H r j m c K l (f.al n)
 | [],f,h=>g _ ⟨f,rfl,h⟩
 |(i,lone)::q,f,h=>by
  rw[Mx] at h;simp only[mu,iT]
  cases p:c[i]? with
  | none=>rw[p] at h;exact h.elim
  | some o=>
   rw[p] at h
   cases lone
   ·dsimp only at h ⊢;rw[if_neg (by simp),wh];obtain⟨a,u,b⟩:=CD h;rw[u];dsimp only;rw[←eT];obtain⟨t,e,d⟩:=km b;rw[e];exact yl g d
   dsimp only at h ⊢;refine qc ?_ (KH h);rintro s ⟨t,rfl,d⟩;exact yl g d
theorem zV {F:Nat->Qy α}:∀{l:List Nat} {i:Nat},(KK F i l).tg P G T->∀j∈i::l,(F j).tg P G T
 | [],i,h,j,c=>by simp at c;subst c;exact h
 | x::l,i,h,j,c=>by
  obtain⟨a,b⟩:=h
  rcases List.mem_cons.1 c with rfl|c
  ·grind
  exact zV b j c
theorem F3 {c:List Oper} {k:ab->Qy α}:∀(m:Nat) (b:Array Bool) (f:ab),(F4 A B E G H n c m b f k).tg P G T->afz (ay P G) E G H c (vg P G n T k) m b (f.al n)
 | 0,b,f,h=>by
  simp only[F4] at h
  split at h
  ·rename_i d;exact⟨d,f,rfl,h⟩
  exact h.elim
 | m+1,b,f,h=>by
  simp only[F4] at h;split at h
  ·rename_i d;exact .inl ⟨d,f,rfl,h⟩
  rename_i i l d;refine .inr ⟨by grind,?_⟩;rw[d];intro j p;have a:=zV h j p
  split at a
  ·rename_i o O;refine⟨o,O,wH ?_ (KI a)⟩;rintro s ⟨e,rfl,g⟩;exact F3 m _ e g
  exact a.elim
theorem Bx {b:List Oper} {Q d:aa->Prop} (c:∀s,Q s->d s):∀(m:Nat) (a:Array Bool) (s:aa),afz (ay P G) E G H b Q m a s->afz (ay P G) E G H b d m a s
 | 0,a,s,h=>⟨h.1,c _ h.2⟩
 | m+1,a,s,h=>by
  rcases h with h|h
  ·exact .inl ⟨h.1,c _ h.2⟩
  refine .inr ⟨h.1,fun i f=>?_⟩;obtain⟨o,O,e⟩:=h.2 i f;exact⟨o,O,wH (fun s g=>Bx c m _ s g) e⟩
theorem F0 {h:aw} {d:List Oper} {p:Array Bool} {k:ab->Qy α} {K:aa->Prop} (q:∀s,vg P G n T k s->K s):∀(m:Nat) (b:Array Bool) (f:ab),(F1 A B E G H n h d p m b f k).tg P G T->wI (ay P G) E G H h d p K m b (f.al n)
 | 0,b,f,c=>by
  simp only[F1] at c
  split at c
  ·rename_i g;exact⟨Array.ext' (kS.1 g),q _ ⟨f,rfl,c⟩⟩
  exact c.elim
 | m+1,b,f,c=>by
  simp only[F1] at c
  split at c
  ·exact c.elim
  rename_i v
  split at c
  ·exact c.elim
  rename_i i l g;refine⟨fun e=>?_,by grind,fun j r=>?_⟩
  ·grind[kS]
  rw[g] at r;have a:=zV c j r
  split at a
  ·rename_i w;refine⟨by grind,?_⟩
   split at a
   ·rename_i o O;refine⟨o,O,qc ?_ (KH a)⟩;rintro s ⟨t,rfl,u⟩;exact F0 q m _ t u
   exact a.elim
  exact a.elim
theorem Pg {b:List Oper} {h:aw} {k:ab->Qy α} (c:(Ph A B E G H n b h f k).tg P G T):Bz (ay P G) E G H b h (vg P G n T k) (f.al n):=by
 unfold Ph at c;unfold Bz
 cases X:gz h with
 | true=>
  rw[X] at c;refine Bx ?_ _ _ _ (F3 _ _ _ c);intro s q;exact⟨s,q,fun w R N l Z U g z p=>⟨N,Z,U,g,p,fun _ _ _ h=>h⟩⟩
 | false=>
  rw[X] at c;cases e:gP h with
  | true=>
   rw[e] at c;refine yl ?_ c;rintro s ⟨j,rfl,a⟩;refine F0 ?_ _ _ _ a;rintro s ⟨m,rfl,o⟩;dsimp only at o
   split at o
   ·rename_i i d;rw[kz E n b _ m i d];grind[ym]
   exact o.elim
  | false=>
   rw[e] at c;refine yl ?_ c;rintro s ⟨j,rfl,a⟩;dsimp only at a
   split at a
   ·rename_i i d;rw[kz E n b _ j i d];grind[ym]
   exact a.elim
theorem me (f:ab) (m:Nat):gF G (f.al n) ((iL f (fun l=>eE l m)).al n):=by
 intro w R N b Z U H z c;obtain⟨a,d⟩:=c.prune m;grind[aZ]
theorem CP {w:World} {R:Own} {M:Name->Option Nat} (l:List Name):∀{c:Heap} {B:List Nat},aj w R M c B->∃a,aj w R M (Gg l c) a/\a.Sublist B
 | [],B,h=>⟨B,h,.refl _⟩
 |(m,o)::c,_,⟨b,r,Q,e,N,O,d⟩=>by
  subst e;obtain⟨a,f,K⟩:=CP l d;simp only[Gg]
  split
  ·exact⟨b::(r++a),⟨b,r,a,rfl,N,O,f⟩,(List.Sublist.append (.refl _) K).cons_cons _⟩
  grind
theorem MW (c:FuncId->Bool) (f:ab):gF G (f.al n) ((JM c f).al n):=by
 unfold JM
 split
 ·obtain⟨k,a,e,g⟩:=f
  cases a with
  | nil=>exact gF.refl _ _
  | cons p a=>
   intro w R N i Z U H z b;obtain⟨d,j,K⟩:=CP (Bf (p::a) (p::a).length (tb (vx k) [])) b.locs;refine⟨R,N,Z,d,H,⟨aJ _,b.tmps,j,b.heap,?_,b.next,b.glob,b.frame⟩,aZ _,fun _ _ h=>h⟩;refine List.Nodup.sublist ?_ b.nodup;grind
 grind[gF.refl]
theorem iU {c:Code} {s:aa} {Q p:Exit->aa->Prop} (h:cL P G c Q s) (J:∀e u,Q e u->∃d,gF G u d/\p e d):cL P G c p s:=by
 intro w R N f Z U H z E D B;refine wp_mono (h w R N f Z U H z E B) ?_;rintro e a S ⟨I,M,L,t,r,q,C,m,i,k,A⟩;obtain⟨d,J,l⟩:=J e I C;obtain⟨x,v,K,F,y,n,j,g⟩:=J _ _ _ _ _ _ _ _ m;exact⟨d,x,v,K,F,y,l,n,i,k.trans j,fun o b O=>g o b (A o b O)⟩
theorem IC (W:E.Ok P) {b:Nat->Nat} {id:Nat} {g:Array Oper} {c:Bool} {k:ab->Qy α} (q:dh H (.region id g c)=true) (h:(yk A B E G H n b id g c f k).tg P G T) :
  cL P G (.region id g c) (fun e s=>e=.normal/\vg P G n T k s) (f.al n):=by
 have r:∀m,vg P G n T (fun i=>match aeN n (b id) (iL i (fun l=>eE l (b id))) with|some d=>k (JM H.caps d)|none=>.fail) m->∃o,gF G m o/\vg P G n T k o:=by
  rintro m ⟨p,rfl,a⟩;dsimp only at a
  split at a
  ·rename_i d j;exact⟨_,((me p (b id)).trans (oO G j)).trans (MW H.caps d),_,rfl,a⟩
  exact a.elim
 unfold yk at h
 cases c
 ·refine iU (uY (H:=H.at id) (Q:=fun e s=>e=.normal/\vg P G n T (fun i=>match aeN n (b id) (iL i (fun l=>eE l (b id))) with|some d=>k (JM H.caps d)|none=>.fail) s) W ?_) ?_
  ·grind[ym]
  grind
 refine iU (BB (H:=H) (Q:=fun e s=>e=.normal/\vg P G n T (fun i=>match aeN n (b id) (iL i (fun l=>eE l (b id))) with|some d=>k (JM H.caps d)|none=>.fail) s) W W.mixed (by simpa [dh] using q) ?_) ?_
 ·have:=Pg h
  simp_all
 grind
def aea (P:Program) (G:bA) (n:Nat) (T:α->Prop) (k:Exit×ab->Qy α) (e:Exit) (s:aa):Prop:=∃a,s=a.al n/\(k (e,a)).tg P G T
theorem D0 {b:Nat->Nat} {id:Nat} {c:Array Oper} {a:Bool} {k:Exit×ab->Qy α}:tL A B E G H n b (.region id c a) f k=yk A B E G H n b id c a f (fun f=>k (.normal,f)):=rfl
theorem iE (W:E.Ok P) (g:Nat->Nat):∀(c:Code) (f:ab) (k:Exit×ab->Qy α),dh H c=true->(tL A B E G H n g c f k).tg P G T->cL P G c (aea P G n T k) (f.al n)
 | .skip,f,k,_,h=>gD wp_skip ⟨f,rfl,h⟩
 | .region id S O,f,k,C,h=>by
  rw[D0] at h;refine (IC W C h).mono ?_;rintro e s ⟨rfl,q,rfl,t⟩;exact⟨q,rfl,t⟩
 | .seq x y,f,k,C,h=>by
  simp only[dh,Bool.and_eq_true] at C;refine wK ?_;refine (iE W g x f (fun r=>match r with|(.normal,q)=>tL A B E G H n g y q k|r=>k r) C.1 h).mono ?_;rintro e s ⟨q,rfl,t⟩
  cases e with
  | normal=>exact iE W g y q k C.2 t
  | _=>exact⟨q,rfl,t⟩
 | .cond c x y,f,k,C,h=>by
  simp only[dh,Bool.and_eq_true] at C;intro w R N u Z U v z I D J;have h:(match py G n f c with
   | .dat (.flat (.bool b))=>(match b with|true=>tL A B E G H n g x f k|false=>tL A B E G H n g y f k)
   | _=>.fail).tg P G T:=h
  split at h
  ·rename_i b d;obtain⟨Y,M⟩:=qw I.tmps I.glob c;rw[nv,d] at M;obtain⟨_,M,_⟩:=aC M;refine wp_cond M ?_
   cases b
   ·exact iE W g y f k C.2 h w R N u Z U v z I J
   exact iE W g x f k C.1 h w R N u Z U v z I J
  exact h.elim
 | .block id c,f,k,C,h=>by
  intro w R N u Z U v z I D J
  apply wp_block
  refine wp_mono (iE W g c f (fun r=>match r with
   |(.exit i,q)=>(match Nat.beq i id with|true=>k (.normal,q)|false=>k (.exit i,q))
   | r=>k r) C h w R N u Z U v z I J) ?_
  rintro F a X ⟨V,L,K,o,m,j,⟨q,rfl,t⟩,p⟩
  cases F with
  | exit i=>
   simp only[Exit.inBlock];dsimp only at t
   by_cases Q:i=id
   ·have d:Nat.beq i id=true:=by simp_all
    rw[if_pos Q];rw[d] at t;exact⟨_,L,K,o,m,j,⟨q,rfl,t⟩,p⟩
   have d:Nat.beq i id=false:=by rw[Bool.eq_false_iff];simp_all
   rw[if_neg Q];rw[d] at t;exact⟨_,L,K,o,m,j,⟨q,rfl,t⟩,p⟩
  | _=>exact⟨_,L,K,o,m,j,⟨q,rfl,t⟩,p⟩
 | .exit id,f,k,_,h=>gD wp_exit ⟨f,rfl,h⟩
 | .ret,f,k,_,h=>gD wp_ret ⟨f,rfl,h⟩
 | .loop c,f,k,_,h=>h
 | .rangeFunc _ _ _ _,_,_,_,h=>h.elim
 | .scope c,f,k,C,h=>by
  intro w R N u Z U v z I D J
  apply wp_scope_straight
  refine wp_mono (iE W g c f (fun r=>match r with
   |(.goto _,_)=>.fail
   | r=>k r) C h w R N u Z U v z I J) ?_
  rintro F a X ⟨V,L,K,o,m,j,⟨q,rfl,t⟩,p⟩
  cases F with
  | goto l=>exact t.elim
  | _=>exact⟨_,L,K,o,m,j,⟨q,rfl,t⟩,p⟩
 | .label _,f,k,_,h=>gD wp_label ⟨f,rfl,h⟩
 | .goto _,_,_,_,h=>h.elim
 | .refuse _,_,_,_,h=>h.elim
end
structure Qy.Ok {α:Type} (P:Program) (G:bA) (T:α->Prop) (q:Qy α):Prop where
 ok:q.tg P G T
end Go.Tp
namespace Go.Tp
mutual
def fx (ρ:Nat->Nat):ac->ac
 | .ptr (.out o) d=>.ptr (.out (ρ o)) d
 | .map (.out o)=>.map (.out (ρ o))
 | .win (.out o) s d e=>.win (.out (ρ o)) s d e
 | .fn f a b=>.fn f (il ρ a) (il ρ b)
 | .agg c=>.agg (il ρ c)
 | .tup c=>.tup (il ρ c)
 | a=>a
def il (ρ:Nat->Nat):List ac->List ac
 | []=>[]
 | a::r=>fx ρ a::il ρ r
end
def pW (ρ:Nat->Nat):aL->aL
 | .cells c=>.cells (il ρ c)
 | .map a=>.map a
def wX (ρ:Nat->Nat):Name->Name
 | .out o=>.out (ρ o)
 | m=>m
def jJ (ρ:Nat->Nat):Heap->Heap
 | []=>[]
 |(m,o)::r=>(wX ρ m,pW ρ o)::jJ ρ r
section
variable {w:World} {R:Own} {M M2:Name->Option Nat} {ρ:Nat->Nat}
mutual
theorem ai.rn (g:∀i,M (.loc i)=none) (j:∀o b,M (.out o)=some b->M2 (.out (ρ o))=some b):∀{a:ac} {v:Value} {B:List Nat},ai w R M a v B->ai w R M2 (fx ρ a) v B
 | .dat _,_,_,h=>by exact h
 | .own _,_,_,h=>by exact h
 | .ref _,_,_,h=>by exact h
 | .undef,_,_,h=>by exact h
 | .ptr (.loc i) _,_,_,h=>by grind[ai]
 | .map (.loc i),_,_,h=>by grind[ai]
 | .win (.loc i) _ _ _,_,_,h=>by grind[ai]
 | .ptr (.out o) n,_,_,h=>by
  grind[fx,ai]
 | .map (.out o),_,_,h=>by
  grind[fx,ai]
 | .win (.out o) s n u,_,_,h=>by
  grind[fx,ai]
 | .fn f a b,_,_,h=>by
  obtain⟨l,d,x,e,m,t⟩:=h;exact⟨l,d,x,e,ah.rn g j m,ah.rn g j t⟩
 | .agg c,_,_,h=>by
  obtain⟨d,e,h⟩:=h;exact⟨d,e,ah.rn g j h⟩
 | .tup c,_,_,h=>by
  obtain⟨d,e,h⟩:=h;exact⟨d,e,ah.rn g j h⟩
theorem ah.rn (g:∀i,M (.loc i)=none) (j:∀o b,M (.out o)=some b->M2 (.out (ρ o))=some b):∀{as:List ac} {d:List Value} {B:List Nat},ah w R M as d B->ah w R M2 (il ρ as) d B
 | [],_,_,h=>by exact h
 | a::r,_,_,h=>by
  obtain⟨v,p,q,Q,E,F,l,m⟩:=h;exact⟨v,p,q,Q,E,F,ai.rn g j l,ah.rn g j m⟩
end
mutual
theorem ai.iC {k:Nat} (g:∀o b,o < k->M2 (.out (ρ o))=some b->M (.out o)=some b):∀{a:ac} {v:Value} {B:List Nat},iq k a=false->ai w R M2 (fx ρ a) v B->ai w R M a v B
 | .dat _,_,_,_,h=>by exact h
 | .own _,_,_,_,h=>by exact h
 | .ref _,_,_,_,h=>by exact h
 | .undef,_,_,_,h=>by exact h
 | .ptr (.loc _) _,_,_,N,_=>by grind[iq]
 | .map (.loc _),_,_,N,_=>by grind[iq]
 | .win (.loc _) _ _ _,_,_,N,_=>by grind[iq]
 | .ptr (.out o) m,_,_,N,h=>by
  grind[iq,gC,fx,ai]
 | .map (.out o),_,_,N,h=>by
  grind[iq,gC,fx,ai]
 | .win (.out o) s m t,_,_,N,h=>by
  grind[iq,gC,fx,ai]
 | .fn f a b,_,_,N,h=>by
  simp only[iq,Bool.or_eq_false_iff] at N;obtain⟨j,d,u,e,l,q⟩:=h;exact⟨j,d,u,e,ah.iC g N.1 l,ah.iC g N.2 q⟩
 | .agg c,_,_,N,h=>by
  obtain⟨d,e,h⟩:=h;exact⟨d,e,ah.iC g N h⟩
 | .tup c,_,_,N,h=>by
  obtain⟨d,e,h⟩:=h;exact⟨d,e,ah.iC g N h⟩
theorem ah.iC {k:Nat} (g:∀o b,o < k->M2 (.out (ρ o))=some b->M (.out o)=some b):∀{as:List ac} {d:List Value} {B:List Nat},gZ k as=false->ah w R M2 (il ρ as) d B->ah w R M as d B
 | [],_,_,_,h=>by exact h
 | a::r,_,_,N,h=>by
  simp only[gZ,Bool.or_eq_false_iff] at N;obtain⟨v,n,p,Q,E,F,j,l⟩:=h;exact⟨v,n,p,Q,E,F,ai.iC g N.1 j,ah.iC g N.2 l⟩
end
theorem Jv (a:ac):yw (fx ρ a)=yw a:=by
 cases a with
 | ptr n b=>cases n <;> rfl
 | map n=>cases n <;> rfl
 | win n s b c=>cases n <;> rfl
 | _=>rfl
theorem R4 (a b c:ac) (r:List ac):cd (a::b::c::r)=false:=by
 grind[cd]
theorem qE:∀(i:List ac),cd (il ρ i)=cd i
 | []=>rfl
 | [a]=>by
  simp_all[il,cd]
 | [a,b]=>by
  simp only[il]
  cases b with
  | ptr n g=>cases n <;> rfl
  | map n=>cases n <;> rfl
  | win n s g e=>cases n <;> rfl
  | own j=>grind[fx,cd,Jv]
  | dat d=>
   simp only[fx]
   cases d with
   | slice j=>grind[cd,Jv]
   | agg j=>rfl
   | flat v=>
    have h:=Jv (ρ:=ρ) a
    cases v with
    | slice p e f=>
     cases p with
     | some _=>rfl
     | none=>
      cases e with
      | succ _=>rfl
      | zero=>
       cases f with
       | succ _=>rfl
       | zero=>exact h
    | _=>rfl
  | _=>rfl
 | a::b::c::r=>by
  grind[il,R4]
theorem lf (l m:List ac):il ρ (l++m)=il ρ l++il ρ m:=by
 induction l <;> grind[il]
theorem kO:∀k:Nat,il ρ (List.replicate k .undef)=List.replicate k .undef
 | 0=>rfl
 | k+1=>by simp[List.replicate_succ,il,fx,kO k]
theorem Au (k:Nat):∀j:Nat,gZ k (List.replicate j .undef)=false
 | 0=>rfl
 | j+1=>by simp[List.replicate_succ,gZ,iq,Au k j]
theorem aI.rn (l:∀i,M (.loc i)=none) (m:∀o b,M (.out o)=some b->M2 (.out (ρ o))=some b) {o:aL} {b:Nat} {B:List Nat} (h:aI w R M o b B):aI w R M2 (pW ρ o) b B:=by
 cases o with
 | map p=>exact h
 | cells c=>
  obtain⟨n,d,e,a,k,f,g⟩:=h;refine⟨n,d,e,a,?_,f,by grind[qE]⟩
  have:=ah.rn (ρ:=ρ) l m (as:=c++List.replicate e .undef) k
  grind[lf,kO]
theorem aI.iC {k:Nat} (j:∀o b,o < k->M2 (.out (ρ o))=some b->M (.out o)=some b) {o:aL} {b:Nat} {B:List Nat} (N:BS k o=false) (h:aI w R M2 (pW ρ o) b B):aI w R M o b B:=by
 cases o with
 | map m=>exact h
 | cells c=>
  simp only[BS] at N;obtain⟨l,d,e,a,n,f,g⟩:=h;refine⟨l,d,e,a,?_,f,by grind[qE]⟩;refine ah.iC (ρ:=ρ) j (as:=c++List.replicate e .undef) (by grind[qh,Au]) ?_;grind[lf,kO]
def tZ (k:Nat):Heap->Bool
 | []=>true
 |(m,_)::r=>mb k m&&tZ k r
theorem Gh {k:Nat} {m:Name} (h:mb k m=true):∃o,m=.out o/\o < k:=by
 cases m <;> simp_all[mb]
theorem aj.rn (j:∀i,M (.loc i)=none) (c:∀o b,M (.out o)=some b->M2 (.out (ρ o))=some b):∀{k:Heap} {B:List Nat},aj w R M k B->aj w R M2 (jJ ρ k) B
 | [],_,h=>h
 |(.loc i,o)::r,_,⟨b,d,Q,e,a,g,f⟩=>by grind
 |(.out m,o)::r,_,⟨b,d,Q,e,a,g,f⟩=>⟨b,d,Q,e,c m b a,g.rn j c,aj.rn j c f⟩
theorem aj.iC {k:Nat} (d:∀o b,o < k->M2 (.out (ρ o))=some b->M (.out o)=some b):∀{c:Heap} {B:List Nat},tZ k c=true->gH k c=false->aj w R M2 (jJ ρ c) B->aj w R M c B
 | [],_,_,_,h=>h
 |(m,o)::r,_,l,N,⟨b,j,Q,e,a,n,f⟩=>by
  simp only[tZ,Bool.and_eq_true] at l;simp only[gH,Bool.or_eq_false_iff] at N;obtain⟨i,rfl,p⟩:=Gh l.1;exact⟨b,j,Q,e,d i b p a,n.iC d N.1,aj.iC d l.2 N.2 f⟩
theorem aj.append:∀{g c:Heap} {B:List Nat},aj w R M (g++c) B->∃d Q,B=d++Q/\aj w R M g d/\aj w R M c Q
 | [],c,B,h=>⟨[],B,rfl,rfl,h⟩
 |(m,o)::r,c,B,⟨b,d,Q,e,a,i,f⟩=>by
  obtain⟨p,q,F,j,K⟩:=aj.append f;subst e;subst F;exact⟨b::(d++p),q,by simp,⟨b,d,p,rfl,a,i,j⟩,K⟩
theorem aj.join:∀{g c:Heap} {d Q:List Nat},aj w R M g d->aj w R M c Q->aj w R M (g++c) (d++Q)
 | [],c,d,Q,h,k=>by
  subst h;grind
 |(m,o)::r,c,_,Q,⟨b,p,q,e,a,i,f⟩,k=>by
  subst e;exact⟨b,p,q++Q,by simp,a,i,f.join k⟩
theorem aj.perm {k g:Heap} (m:k.Perm g):∀{B:List Nat},aj w R M k B->∃d,aj w R M g d/\B.Perm d:=by
 induction m with
 | nil=>grind
 | cons x _ n=>
  intro B h;obtain⟨b,r,Q,e,a,i,f⟩:=h;obtain⟨d,j,K⟩:=n f;subst e;exact⟨b::(r++d),⟨b,r,d,rfl,a,i,j⟩,(K.append_left r).cons b⟩
 | swap x y l=>
  intro B h;obtain⟨b,r,_,e,a,i,c,p,q,F,j,K,t⟩:=h;subst F;subst e;refine⟨c::(p++(b::(r++q))),⟨c,p,_,rfl,j,K,b,r,q,rfl,a,i,t⟩,?_⟩;grind
 | trans _ _ o s=>
  grind
def hasName (o:Nat):Heap->Bool
 | []=>false
 |(.out m,_)::r=>Nat.beq m o||hasName o r
 |(.loc _,_)::r=>hasName o r
def aeQ (h:Heap):Nat->Bool
 | 0=>true
 | k+1=>hasName k h&&aeQ h k
theorem aj.named {o:Nat}:∀{os:Heap} {B:List Nat},hasName o os=true->aj w R M (jJ ρ os) B->∃b,M (.out (ρ o))=some b
 | [],_,h,_=>by grind[hasName]
 |(.out m,x)::r,_,h,⟨b,c,Q,e,a,d,f⟩=>by
  simp only[hasName,Bool.or_eq_true] at h
  rcases h with h|h
  ·have:=Nat.eq_of_beq_eq_true h
   subst this;exact⟨b,a⟩
  exact aj.named h f
 |(.loc m,x)::r,_,h,⟨b,c,Q,e,a,d,f⟩=>aj.named (os:=r) (by grind[hasName]) f
theorem qI {h:Heap}:∀{k:Nat},aeQ h k=true->∀o,o < k->hasName o h=true
 | 0,_,_,O=>by omega
 | k+1,b,o,O=>by
  simp only[aeQ,Bool.and_eq_true] at b
  rcases Nat.lt_or_ge o k with a|a
  ·exact qI b.2 o a
  grind
end
def ig (ρ:Nat->Nat) (a d o:Nat):Nat:=match Nat.blt o a with|true=>ρ o|false=>d+(o - a)
variable {P:Program} {G:bA}
theorem ay.frame {g:FuncId} {j:List ac} {I:Heap} {c:Nat} {Q:ac->Heap->Nat->Prop} (hc:ay P G g j I c Q) (ρ:Nat->Nat) {heap rest:Heap} {next:Nat}
  (hp:heap.Perm (jJ ρ I++rest)) (K:tZ c I=true) (U:gH c I=false) (J:aeQ I c=true) (A:gZ c j=false) :
  ay P G g (il ρ j) heap next (fun v h m=>∃v0 a n1,Q v0 a n1/\v=fx (ig ρ c next) v0/\h=jJ (ig ρ c next) a++rest/\m=next+(n1 - c)):=by
 intro w R N t E H z u B af C y hF;obtain⟨ag,hP,pP⟩:=B.perm hp;obtain⟨r,b2,e,a,h2⟩:=aj.append hP;subst e
 let D:Name->Option Nat:=fun m=>match m with|.loc _=>none|.out o=>if o < c then N (.out (ρ o)) else none
 have l:∀o b,o < c->outs N (.out (ρ o))=some b->outs D (.out o)=some b:=by
  intro o b O d;simp only[outs] at d ⊢;simp only[D];rw[if_pos O];exact d
 have T:(E++(r++(b2++z))).Nodup:=by
  refine (List.Perm.nodup_iff ?_).1 af;rw[←List.append_assoc r];exact List.Perm.append_left _ (List.Perm.append_right _ pP)
 have f:=hc w R D t E r (b2++z) (u.iC l A) (a.iC l K U) T (by
  intro o b O;simp only[D] at O
  split at O
  ·assumption
  ·simp at O) y (by
  intro b d
  rcases List.mem_append.1 d with d|d
  ·exact h2.lt b d
  exact hF b d)
 refine f.mono ?_;rintro e w' ⟨v0,cv,ae,n1,R',N1,ad,F,rfl,hq,V,hh,S,W,k,hN⟩
 let s:Name->Option Nat:=fun m=>match m with|.loc i=>N (.loc i)|.out x=>if x < next then N (.out x) else N1 (.out (x - next+c))
 have p:∀o b,outs N1 (.out o)=some b->outs s (.out (ig ρ c next o))=some b:=by
  intro o b d;simp only[outs] at d ⊢;unfold ig
  cases L:Nat.blt o c with
  | true=>
   have O:=oY L;dsimp only;obtain⟨b',n⟩:=aj.named (M:=outs N) (ρ:=ρ) (qI J o O) a;simp only[outs] at n;have h4:D (.out o)=some b':=by simp only[D];rw[if_pos O];exact n
   have Y:=hN o b' h4;rw[d] at Y;simp only[s];rw[if_pos (C _ _ n),n,Y]
  | false=>
   dsimp only;have O:¬o < c:=fun h=>by rw[←Nat.blt_eq,L] at h;simp at h
   simp only[s];rw[if_neg (by omega),show next+(o - c) - next+c=o by omega];exact d
 have q:∀i,outs N1 (.loc i)=none:=fun i=>rfl
 refine⟨_,cv,_,_,R',s,ad,F++b2,rfl,⟨v0,ae,n1,hq,rfl,rfl,rfl⟩,V.rn q p,(hh.rn q p).join ?_,by simpa using S,?_,k.sub (by intro b d;simp[d]),?_⟩
 ·have Y:=h2.keep (k.sub (by intro b d;simp[d]));refine Y.ext ?_;intro m b Z
  cases m with
  | loc i=>simp[outs] at Z
  | out x=>
   simp only[outs] at Z ⊢;simp only[s];rw[if_pos (C x b Z)];exact Z
 ·intro x b X;simp only[s] at X
  split at X
  ·omega
  have:=W _ _ X
  omega
 intro x b X;simp only[s];rw[if_pos (C x b X)];exact X
def DW:List Nat->Nat->Nat
 | [],o=>o
 | p::_,0=>p
 | _::a,o+1=>DW a o
end Go.Tp
namespace Go.Tp
section
variable {P:Program} {E:bz} {G:bA}
theorem ay.gcQ {f:FuncId} {p:List ac} {q:Heap} {a:Nat} {Q:ac->Heap->Nat->Prop} (h:ay P G f p q a Q):ay P G f p q a (fun v h m=>∃r:eX,Q r.val r.heap r.next/\(⟨v,h,m⟩:eX)=M0 a r):=by
 intro w R N u L H z A hh M O J hF;refine (h w R N u L H z A hh M O J hF).mono ?_;rintro e U ⟨x,X,c,l,V,I,B,W,rfl,hq,F,C,s,D,Z,hN⟩;have T:∀r:eX,r=M0 a ⟨x,c,l⟩->∃y n g d,ai U y (outs n) r.val X g/\aj U y (outs n) r.heap d/\(g++(d++z)).Nodup/\(∀o b,n (.out o)=some b->o < r.next)/\bp w R U y z/\(∀o b,N (.out o)=some b->n (.out o)=some b):=by
  intro r E;unfold M0 at E;dsimp only at E
  split at E
  ·rename_i j;subst E;simp at j;obtain⟨t,S,K⟩:=qd a C
   let n:Name->Option Nat:=fun m=>match m with|.loc i=>I (.loc i)|.out o=>if o < a then I (.out o) else none
   have Y:∀o b,o < a->outs I (.out o)=some b->outs n (.out o)=some b:=by
    grind[outs]
   refine⟨V,n,B,t,F.low Y j.1,S.low Y (ma a c) j.2,?_,?_,Z,?_⟩
   ·exact List.Nodup.sublist (List.Sublist.append (.refl _) (List.Sublist.append K (.refl _))) s
   all_goals grind
  subst E;obtain⟨t,S,K⟩:=ky a (EM a c 3 (KM x)) C;exact⟨V,I,B,t,F,S,List.Nodup.sublist (List.Sublist.append (.refl _) (List.Sublist.append K (.refl _))) s,D,Z,hN⟩
 obtain⟨y,n,g,d,k⟩:=T _ rfl;exact⟨_,X,_,_,y,n,g,d,rfl,⟨⟨x,c,l⟩,hq,rfl⟩,k⟩
theorem Dr {b:List ResultVar} {Q a:ac->List (Name×aL)->Nat->Prop} {s:aa} (c:∀v h n,Q v h n->a v h n) (h:ye E b Q s):ye E b a s:=by
 grind[ye,nq]
theorem KJ {A B:Nat->Bool} {j k:FuncId->Bool} {F:FuncId->Option qS} (W:E.Ok P) (z:Z9 P j k F) {g:FuncId} {x:qS} (X:F g=some x) {d:List ac} {i:Heap} {c:Nat} {T:eX->Prop}
  (h:rN d->yc i->(Pf A B E G j k x g d i c).Ok P G T):ay P G g d i c (fun v h m=>T ⟨v,h,m⟩):=by
 obtain⟨C,a,b,f,w,D⟩:=z g x X;have y:ay P G g d i c (fun v h m=>T (M0 c ⟨v,h,m⟩)):=by
  refine gX W a b ?_;intro u Q;have h:=(h u Q).ok;rw[f,w];unfold Pf at h
  split at h
  ·exact h.elim
  rename_i l;have l:=fD l;have n:(⟨rG 0 d,[],i,c⟩:ab).al x.ntmps=enter x.ntmps d i c:=by
   simp only[ab.al,enter];congr 1
   apply List.ext_getElem?
   grind[kq,pS,bq]
  rw[←n];refine (iE (H:=⟨j,x.ord,k,rowsOf k g⟩) W x.live x.code _ _ (by grind[eM]) h).mono ?_;rintro e s ⟨p,rfl,q⟩;have o:(match sU E x.ntmps x.results p with|some r=>(Qy.fin (M0 c r):Qy eX)|none=>.fail).tg P G T->ye E x.results (fun v h m=>T (M0 c ⟨v,h,m⟩)) (p.al x.ntmps):=by
   intro t
   split at t
   ·rename_i r R
    have:=nL (E:=E) (rs:=x.results) (s:=p.al x.ntmps) (r:=r) (by grind[yz])
    exact Dr (by rintro v h m ⟨rfl,rfl,rfl⟩;exact t) this
   exact t.elim
  cases e with
  | ret=>exact o q
  | normal=>exact o q
  | _=>exact q.elim
 refine y.gcQ.mono ?_;simp_all
theorem CS {c:Code} {T:Exit->aa->Prop} (I:Nat->aa->Prop)
  (step:∀m s,I m s->cL P G c (xU (fun V=>∃v,v < m/\I v V) T) s) {m:Nat} {s:aa} (h:I m s):cL P G (.loop c) T s:=by
 intro w R N Q Z U H z Y D X;refine wp_loop_ghost (I:=fun k a y=>∃x u t g f d,I k x/\dw G y u t a.tmps.toList x undef .undef [] g f d z/\a.defers=D/\bp w R y u z/\(∀o b,N (.out o)=some b->t (.out o)=some b)) (n0:=m) ?_ ?_
 ·grind[aZ]
 rintro k a y ⟨x,u,t,g,f,d,S,E,B,L,K⟩;refine wp_mono (step k x S y u t a g f d z E B) ?_;rintro e W w2 ⟨O,J,F,l,j,i,M,r,p,q,n⟩
 cases e with
 | normal=>
  obtain⟨v,C,A⟩:=M;exact⟨v,C,O,J,F,l,j,i,A,r,p,L.trans q,fun o b h=>n o b (K o b h)⟩
 | _=>exact⟨O,J,F,l,j,i,M,r,p,L.trans q,fun o b h=>n o b (K o b h)⟩
theorem Mz {A B:Nat->Bool} {H:Hints} {n:Nat} (W:E.Ok P) (a:Nat->Nat) {c:Code} (d:dh H c=true) {f:ab} {T:Exit->aa->Prop}
  (h:(tL A B E G H n a c f (fun r=>.fin r)).Ok P G (fun r=>T r.1 (r.2.al n))):cL P G c T (f.al n):=by
 refine (iE W a c f (fun r=>.fin r) d h.ok).mono ?_;rintro e s ⟨g,rfl,b⟩;exact b
end
section
variable {P:Program} {G:bA} {α:Type} {T:α->Prop}
def Qy.JL:Qy α->Option α
 | .fin a=>some a
 | _=>none
def Qy.Bo:Qy α->Option Bool
 | .bool _ b _=>some b
 | _=>none
def Qy.Z4:Qy α->Bool->Qy α
 | .bool _ _ k,b=>k b
 | _,_=>.fail
def Qy.Tu:Qy α->Option (Option Out)
 | .out _ o _=>some o
 | _=>none
def Qy.ofO:Qy α->Out->Qy α
 | .out _ _ k,x=>k x
 | _,_=>.fail
def Qy.Rf:Qy α->Option FuncId
 | .res g _ _ _ _=>some g
 | _=>none
def Qy.xJ:Qy α->List ac
 | .res _ a _ _ _=>a
 | _=>[]
def Qy.xm:Qy α->Nat
 | .res _ _ _ a _=>a
 | _=>0
def Qy.xo:Qy α->Heap
 | .res _ _ h _ _=>h
 | _=>[]
def Qy.ofR:Qy α->eX->Qy α
 | .res _ _ _ _ k,r=>k r
 | _,_=>.fail
def Qy.CT:Qy α->Option (Nat×Code)
 | .loop n c _ _=>some (n,c)
 | _=>none
def Qy.Gw:Qy α->ab
 | .loop _ _ f _=>f
 | _=>⟨[],[],[],0⟩
def Qy.ofL:Qy α->Exit×ab->Qy α
 | .loop _ _ _ k,r=>k r
 | _,_=>.fail
def Qy.left:Qy α->Option (Qy α)
 | .both a _=>some a
 | _=>none
def Qy.ofX:Qy α->Qy α
 | .both a _=>a
 | _=>.fail
def Qy.ofY:Qy α->Qy α
 | .both _ b=>b
 | _=>.fail
def Qy.QT:Qy α->Bool
 | .both _ _=>true
 | _=>false
theorem fX {q:Qy α} {a:α} (e:q.JL=some a) (h:T a):q.Ok P G T:=by
 cases q with
 | fin x=>simp only[Qy.JL,Option.some.injEq] at e;subst e;exact⟨h⟩
 | _=>grind[Qy.JL]
theorem bn {q:Qy α} {c b:Bool} (a:c=b) (e:q.Bo=some c) (h:(q.Z4 b).Ok P G T):q.Ok P G T:=by
 cases q with
 | bool _ x k=>simp only[Qy.Bo,Option.some.injEq] at e;subst e;subst a;exact⟨h.ok⟩
 | _=>grind[Qy.Bo]
theorem Gi {q:Qy α} {c:Bool} (e:q.Bo=some c) (b:c=true->(q.Z4 true).Ok P G T) (a:c=false->(q.Z4 false).Ok P G T):q.Ok P G T:=by
 cases c
 all_goals grind[bn]
theorem XB {q:Qy α} {o:Option Out} {x:Out} (O:o=some x) (e:q.Tu=some o) (h:(q.ofO x).Ok P G T):q.Ok P G T:=by
 cases q with
 | out _ y k=>simp only[Qy.Tu,Option.some.injEq] at e;subst e;exact⟨⟨x,O,h.ok⟩⟩
 | _=>grind[Qy.Tu]
theorem iF {q:Qy α} {n:Nat} {c:Code} {f:ab} {L:Exit->aa->Prop} (e:q.CT=some (n,c)) (i:q.Gw.al n=f.al n) (l:cL P G (.loop c) L (f.al n))
  (h:∀g s,L g s->∃d,s=d.al n/\(q.ofL (g,d)).Ok P G T):q.Ok P G T:=by
 cases q with
 | loop p j d k=>
  simp only[Qy.CT,Option.some.injEq,Prod.mk.injEq] at e;obtain⟨rfl,rfl⟩:=e;simp only[Qy.Gw] at i;refine⟨?_⟩;show cL P G (.loop j) _ (d.al p);rw[i];exact l.mono (fun e s o=>by obtain⟨m,a,b⟩:=h e s o;exact⟨m,a,b.ok⟩)
 | _=>grind[Qy.CT]
theorem bL {q:Qy α} (e:q.QT=true) (c:q.ofX.Ok P G T) (d:q.ofY.Ok P G T):q.Ok P G T:=by
 cases q with
 | both a b=>exact⟨⟨c.ok,d.ok⟩⟩
 | _=>grind[Qy.QT]
end
end Go.Tp
namespace Go.Tp
mutual
def Nz (p:Nat->Bool):ac->Bool
 | .ptr (.out o) _=>p o
 | .map (.out o)=>p o
 | .win (.out o) _ _ _=>p o
 | .fn _ a b=>mE p a&&mE p b
 | .agg c=>mE p c
 | .tup c=>mE p c
 | _=>true
def mE (p:Nat->Bool):List ac->Bool
 | []=>true
 | a::r=>Nz p a&&mE p r
end
def VN (p:Nat->Bool):aL->Bool
 | .cells c=>mE p c
 | .map _=>true
def Sr (p:Nat->Bool):Heap->Bool
 | []=>true
 |(.out m,o)::r=>p m&&VN p o&&Sr p r
 |(.loc _,o)::r=>VN p o&&Sr p r
section
variable {w:World} {R:Own} {M M2:Name->Option Nat} {ρ:Nat->Nat} {p:Nat->Bool}
mutual
theorem ai.HM (n:∀i b,M (.loc i)=some b->M2 (.loc i)=some b) (g:∀o b,p o=true->M (.out o)=some b->M2 (.out (ρ o))=some b):∀{a:ac} {v:Value} {B:List Nat},Nz p a=true->ai w R M a v B->ai w R M2 (fx ρ a) v B
 | .dat _,_,_,_,h=>by exact h
 | .own _,_,_,_,h=>by exact h
 | .ref _,_,_,_,h=>by exact h
 | .undef,_,_,_,h=>by exact h
 | .ptr (.loc i) _,_,_,_,h=>by grind[fx,ai]
 | .map (.loc i),_,_,_,h=>by grind[fx,ai]
 | .win (.loc i) _ _ _,_,_,_,h=>by grind[fx,ai]
 | .ptr (.out o) u,_,_,d,h=>by
  obtain⟨j,b,k,m⟩:=h;exact⟨j,b,g o b d k,m⟩
 | .map (.out o),_,_,d,h=>by
  obtain⟨j,b,k,m⟩:=h;exact⟨j,b,g o b d k,m⟩
 | .win (.out o) s u z,_,_,d,h=>by
  obtain⟨j,b,t,k,m⟩:=h;exact⟨j,b,t,g o b d k,m⟩
 | .fn f a b,_,_,d,h=>by
  simp only[Nz,Bool.and_eq_true] at d;obtain⟨j,l,A,e,k,m⟩:=h;exact⟨j,l,A,e,ah.HM n g d.1 k,ah.HM n g d.2 m⟩
 | .agg c,_,_,d,h=>by
  obtain⟨l,e,h⟩:=h;exact⟨l,e,ah.HM n g (by grind[Nz]) h⟩
 | .tup c,_,_,d,h=>by
  obtain⟨l,e,h⟩:=h;exact⟨l,e,ah.HM n g (by grind[Nz]) h⟩
theorem ah.HM (n:∀i b,M (.loc i)=some b->M2 (.loc i)=some b) (g:∀o b,p o=true->M (.out o)=some b->M2 (.out (ρ o))=some b):∀{as:List ac} {l:List Value} {B:List Nat},mE p as=true->ah w R M as l B->ah w R M2 (il ρ as) l B
 | [],_,_,_,h=>by exact h
 | a::r,_,_,d,h=>by
  simp only[mE,Bool.and_eq_true] at d;obtain⟨v,x,y,Q,E,F,j,k⟩:=h;exact⟨v,x,y,Q,E,F,ai.HM n g d.1 j,ah.HM n g d.2 k⟩
end
theorem Gj (l m:List ac):mE p (l++m)=(mE p l&&mE p m):=by
 induction l <;> grind[mE]
theorem Ak:∀j:Nat,mE p (List.replicate j .undef)=true
 | 0=>rfl
 | j+1=>by simp[List.replicate_succ,mE,Nz,Ak j]
theorem aI.HM (l:∀i b,M (.loc i)=some b->M2 (.loc i)=some b) (m:∀o b,p o=true->M (.out o)=some b->M2 (.out (ρ o))=some b) {o:aL} {b:Nat} {B:List Nat} (n:VN p o=true) (h:aI w R M o b B):aI w R M2 (pW ρ o) b B:=by
 cases o with
 | map r=>exact h
 | cells c=>
  simp only[VN] at n;obtain⟨q,d,j,a,k,f,g⟩:=h;refine⟨q,d,j,a,?_,f,by grind[qE]⟩
  have:=ah.HM (ρ:=ρ) l m (as:=c++List.replicate j .undef) (by grind[Gj,Ak]) k
  grind[lf,kO]
theorem aj.HM (d:∀i b,M (.loc i)=some b->M2 (.loc i)=some b) (g:∀o b,p o=true->M (.out o)=some b->M2 (.out (ρ o))=some b):∀{l:Heap} {B:List Nat},Sr p l=true->aj w R M l B->aj w R M2 (jJ ρ l) B
 | [],_,_,h=>h
 |(.loc i,o)::r,_,c,⟨b,j,Q,e,a,k,f⟩=>by
  simp only[Sr,Bool.and_eq_true] at c;exact⟨b,j,Q,e,d i b a,k.HM d g c.1,aj.HM d g c.2 f⟩
 |(.out m,o)::r,_,c,⟨b,j,Q,e,a,k,f⟩=>by
  simp only[Sr,Bool.and_eq_true] at c;exact⟨b,j,Q,e,g m b c.1.1 a,k.HM d g c.1.2,aj.HM d g c.2 f⟩
end
section
variable {P:Program} {G:bA}
end
def AI (o:Nat):List Nat->Nat->Nat
 | [],_=>o
 | q::r,k=>match Nat.beq q o with|true=>k|false=>AI o r (k+1)
def dN (q:Nat->Bool):Heap->Heap
 | []=>[]
 |(.out m,o)::r=>(match q m with|true=>(.out m,o)::dN q r|false=>dN q r)
 |(.loc m,o)::r=>(.loc m,o)::dN q r
theorem mD {w:World} {R:Own} {M:Name->Option Nat} (q:Nat->Bool):∀{c:Heap} {B:List Nat},aj w R M c B->∃a,aj w R M (dN q c) a/\a.Sublist B
 | [],B,h=>⟨B,h,.refl _⟩
 |(.out m,o)::c,_,⟨b,r,Q,e,N,O,d⟩=>by
  subst e;obtain⟨a,f,K⟩:=mD q d;simp only[dN]
  split
  ·exact⟨b::(r++a),⟨b,r,a,rfl,N,O,f⟩,(List.Sublist.append (.refl _) K).cons_cons _⟩
  grind
 |(.loc m,o)::c,_,⟨b,r,Q,e,N,O,d⟩=>by
  subst e;obtain⟨a,f,K⟩:=mD q d;exact⟨b::(r++a),⟨b,r,a,rfl,N,O,f⟩,(List.Sublist.append (.refl _) K).cons_cons _⟩
theorem LG {o:Nat}:∀{ps:List Nat} {k:Nat},ot o ps=true->k<=AI o ps k/\AI o ps k < k+ps.length/\ps[AI o ps k - k]?=some o
 | [],k,h=>by grind[ot]
 | q::r,k,h=>by
  simp only[AI]
  cases a:Nat.beq q o with
  | true=>
   simp_all
  | false=>
   dsimp only;have b:ot o r=true:=by
    grind[ot]
   obtain⟨f,g,G⟩:=LG (ps:=r) (k:=k+1) b;grind
end Go.Tp
namespace Go.Tp
open Go.Deep
section
variable {X:lH} {E:bz} {G:bA} {H:Hints} {n:Nat} {live:Nat->Nat} {fuel:Nat}
end
def xl:Own:=fun _ _=>False
theorem agU {P:Program} {W:World} {b:String} {g n:Nat} {c:Array Value} (J:P.globalNamed b=some g) (a:W.var? P b=some c) (N:c.size=n):g < W.heap.size/\eD W g=n:=by
 simp only[World.var?,J,Option.bind_some] at a;unfold eD
 split at a
 ·rename_i h;obtain rfl:=Option.some.inj a;exact⟨bN h,by rw[h];exact N⟩
 simp at a
theorem jm {P:Program} {W:World} {q:String} {g:Nat} {t e:TypeId} {l:List (List UInt8)} (J:P.globalNamed q=some g) (S:(P.globals[g]?).map (·.type)=some t) (T:P.underlying t=some (.slice e)) (he:P.underlying e=some .string) (C:P.cellsOf e=1)
  (H:l.length<=lim) (h:∃g t B u p,P.globalNamed q=some g/\(P.globals[g]?).map (·.type)=some t/\W.var? P q=some B/\DataW.trod (fun _=>()) P W 0 (fun _=>true) false u t B.toList=some (.slice (l.map fun b=>.lit (.string b)) [],p)) :
  aed W xl g [.slice (l.map fun b=>.flat (.string ⟨⟨b⟩⟩))]:=by
 obtain⟨g',t',B,u,p,M,R,v,r⟩:=h;obtain rfl:=Option.some.inj (J.symm.trans M);obtain rfl:=Option.some.inj (S.symm.trans R);have y:=World.var?_cell J v 0
 rcases open_slice1 T C r with⟨_,o⟩|⟨a,n,w,m,k,V,D,Pl,G,_,hl,hm,Q,X,N⟩
 ·simp at o
 refine⟨⟨?_,trivial⟩,agU J v (by rw[←Array.length_toList,G];rfl)⟩;have o:B[0]?=some (.slice (some a) n w):=by
  have:B.toList[0]?=some (.slice (some a) n w):=by rw[G];rfl
  simpa using this
 refine⟨_,y.trans o,fun h=>h,?_⟩;simp only[Prod.mk.injEq,DataW.slice.injEq] at X;obtain⟨⟨K,_⟩,_⟩:=X;have O:l.length=n:=by have:=congrArg List.length K;simpa using this
 have ad:n<=m:=by rw[Q];split <;> omega
 have L:∀(i:Nat) b,l[i]?=some b->V i=.string ⟨⟨b⟩⟩/\b.length<=maxLen:=by
  intro i b A;have z:i < n:=by rw[←O];exact (List.getElem?_eq_some_iff.1 A).1
  obtain⟨_,h2⟩:=N i (by omega);obtain⟨s,E,F,Z⟩:=DataW.trod_string he h2;have f:((List.range n).map D)[i]?=(l.map fun b=>(DataW.lit (.string b):DataW Unit))[i]?:=by rw[K]
  rw[List.getElem?_map,List.getElem?_map,A,List.getElem?_range z] at f;simp only[Option.map_some,Option.some.injEq] at f;simp only[List.cons.injEq,and_true] at E;simp only[Prod.mk.injEq] at F;rw[f] at F;simp at F;obtain⟨⟨sl⟩⟩:=s;simp at F;rw[E,F.1];exact⟨rfl,Z⟩
 cases hz:n with
 | zero=>
  have:l=[]:=List.length_eq_zero_iff.1 (by omega)
  subst this;exact .nil _ _
 | succ k0=>
  have I:a.spot=none:=by
   have:=(N 0 (by omega)).1
   have:=World.cell?_spot this
   simpa [Addr.add] using this
  obtain⟨b,U,Y⟩:=a;simp only at I;subst I;have e:k0+1=(l.map fun b=>(ak.flat (.string ⟨⟨b⟩⟩):ak)).length:=by simp;omega
  rw[e];refine .slice b U w 1 _ (fun i _=>V i) (by omega) ?_ (by simp;omega) (by simpa using H) ?_ ?_
  ·intro d r;obtain⟨x,_,rfl⟩:=List.mem_map.1 r;rfl
  ·intro i j z hj;obtain rfl:j=0:=by omega
   simp at z;refine⟨?_,fun h=>h⟩
   have:=(N i (by omega)).1
   simp only[Addr.add] at this;simp only[Nat.mul_one,Nat.add_zero]
   split at this
   ·rename_i o;subst o;exact this
   exact this
  intro i j d c r C;rw[List.getElem?_map] at r
  cases A:l[i]? with
  | none=>rw[A] at r;simp at r
  | some x=>
   rw[A] at r;simp at r;subst r;obtain⟨E,F⟩:=L i x A
   have:c=.flat (.string ⟨⟨x⟩⟩):=by
    cases j with
    | zero=>simp[ak.cells] at C;exact C.symm
    | succ j=>simp[ak.cells] at C
   subst this;rw[E];refine .flat ?_;simp only[bJ,decide_eq_true_eq]
   have:(ByteArray.mk ⟨x⟩).size=x.length:=rfl
   rw[this];unfold maxLen at F;omega
theorem xY {W a:World} {b:Own} (h:Step W xl a b):W.keptBut a (fun _=>False):=by
 refine⟨h.os,h.output,fun i c=>?_⟩;rw[(h.block i c (fun _ h=>h)).1]
 grind
end Go.Tp
namespace Go.Tp
section
variable {X:lH} {E:bz} {G:bA} {H:Hints} {n:Nat}
theorem uA {t:TypeId} {b:TI} {m:Name} {s off a k:Nat} (c:elemOf E t=some b) (e:s=b.size) (d:k < a) :
  ap E t [.win m s off a,.dat (.flat (.int .i64 (ofNat k)))]=some ⟨.ptr m (off+k*s),.keep⟩:=by
 simp_all[ap]
theorem vS {t:TypeId} {i:TI} {m:Name} {a:Nat} {c:List ac} {v:Value} {take:Bool} (T:E.ty t=some i) (A:i.isAgg=false) (h:c[a]?=some (.dat (.flat v))) :
  eB E take t [.ptr m a] (some (.cells c))=some ⟨.dat (.flat v),.keep⟩:=by
 simp_all[eB,loadCells,xj]
theorem yW {t:TypeId} {i:TI} {m:Name} {off:Nat} {cs:List ac} {v:Value} (T:E.ty t=some i) (s:i.size=1) (h:off < cs.length) (d:cd (bI off [.dat (.flat v)] cs)=false) :
  cG E t [.ptr m off,.dat (.flat v)] (some (.cells cs))=some ⟨.undef,.set (.cells (bI off [.dat (.flat v)] cs))⟩:=by
 simp only[cG,T];rw[if_pos]
 ·rfl
 refine⟨by rw[s];rfl,by grind,rfl,by grind,?_⟩;show (!cd (bI off [.dat (.flat v)] cs)||cd cs)=true;grind
theorem Rj {a:List ak} {i:Nat} {d:ak} (h:a[i]?=some d):bW.nA.elt a (ofNat i)=some d:=by
 show Ex a i=some d;grind[uC]
end
end Go.Tp
namespace Go.Tp
variable {E:bz}
variable {i:Nat}
theorem uX {t:TypeId} {i:TI} {es ds:List ak} {h:Option aL} {a:Bool} {k:Nat} (e:elemOf E t=some i) (w:E.pr=bW.nA) (s:i.size=k+1) (D:sizedB (k+1) ds=true) (f:sizedB (k+1) es=true)
  (d:Nat.blt 0 i.bytes=true) (l:(es.length+ds.length)*i.bytes<=140737488355328) (g:es.length+ds.length<=lim) (c:jr E t (es++ds)=true) (b:(a&&es.isEmpty&&AH (.dat (.slice ds)))=false) :
  bB E a t [.own es,.dat (.slice ds)] h=some ⟨.own (es++ds),.keep⟩:=by
 simp only[bB,e];rw[if_neg (by grind)];grind[gS,bW.nA,gC]
theorem pd {t:TypeId} {a:TI} {b:List ak} {d:ak} (c:elemOf E t=some a) (w:E.pr=bW.nA) (h:b[i]?=some d) (s:d.cells.length=a.size) (o:0 < a.size) :
  ap E t [.dat (.slice b),.dat (.flat (.int .i64 (ofNat i)))]=some ⟨.ref d.cells,.keep⟩:=by
 grind[Rj,ap]
theorem Ur {α:Type} {l:List α} {a:α} (h:l[i]?=some a):Ex l i=some a:=by grind[uC]
theorem kM {k:Nat} {l:List ak} (h:∀d∈l,d.cells.length=k):sizedB k l=true:=gm.2 h
theorem gv {L:Nat}:aF (ofNat i) (ofNat L)=decide (i < L):=by grind[dA]
theorem br {L:Nat} (h:i < L):aF (ofNat i) (ofNat L)=true:=by grind[gv]
theorem cj {L:Nat} (h:¬i < L):aF (ofNat i) (ofNat L)=false:=by grind[gv]
theorem bb (h:i < 9223372036854775807):an .i64 (ofNat i+1)=ofNat (i+1):=by
 grind[cQ,wrap_i64]
theorem A0 {L:Nat}:aB (ofNat i) (ofNat L)=decide (i=L):=by
 grind[cN]
end Go.Tp
namespace Go.Tp
noncomputable def TG (c:Code):List Code:=
 Code.rec (motive:=fun _=>List Code)
  (skip:=[]) (region:=fun _ _ _=>[]) (seq:=fun _ _ x b=>x++b) (cond:=fun _ _ _ x b=>x++b) (block:=fun _ _ a=>a) (loop:=fun c a=>c::a)
  (rangeFunc:=fun _ _ _ _ _ _=>[]) (exit:=fun _=>[]) (scope:=fun _ a=>a) (label:=fun _=>[]) (goto:=fun _=>[]) (ret:=[]) (refuse:=fun _=>[]) c
noncomputable def roundOf (a:Func) (k:Nat):Code:=match (TG (match a.body with|some c=>c|none=>.skip))[k]? with|some c=>c|none=>.skip
def Sv (l:List Nat) (t:Nat):Bool:=ot t l
mutual
def NA:ac->ac
 | .ptr _ _=>.undef
 | .map _=>.undef
 | .win _ _ _ _=>.undef
 | .fn f a b=>.fn f (MI a) (MI b)
 | .agg c=>.agg (MI c)
 | .tup c=>.tup (MI c)
 | a=>a
def MI:List ac->List ac
 | []=>[]
 | a::r=>NA a::MI r
end
section
variable {w:World} {R:Own} {M M2:Name->Option Nat}
mutual
theorem ai.np:∀{a:ac} {v:Value} {B:List Nat},ai w R M a v B->ai w R M2 (NA a) v B
 | .dat _,_,_,h=>by exact h
 | .own _,_,_,h=>by exact h
 | .ref _,_,_,h=>by exact h
 | .undef,_,_,h=>by exact h
 | .ptr _ _,_,_,h=>by exact h.1
 | .map _,_,_,h=>by exact h.1
 | .win _ _ _ _,_,_,h=>by exact h.1
 | .fn f a b,_,_,h=>by
  obtain⟨g,d,o,e,i,n⟩:=h;exact⟨g,d,o,e,ah.np i,ah.np n⟩
 | .agg c,_,_,h=>by
  obtain⟨d,e,h⟩:=h;exact⟨d,e,ah.np h⟩
 | .tup c,_,_,h=>by
  obtain⟨d,e,h⟩:=h;exact⟨d,e,ah.np h⟩
theorem ah.np:∀{k:List ac} {d:List Value} {B:List Nat},ah w R M k d B->ah w R M2 (MI k) d B
 | [],_,_,h=>by exact h
 | a::r,_,_,h=>by
  obtain⟨v,j,m,Q,E,F,g,i⟩:=h;exact⟨v,j,m,Q,E,F,ai.np g,ah.np i⟩
end
end
section
variable {P:Program} {G:bA} {α:Type} {T:α->Prop}
variable {g:FuncId}
theorem Gl {i:List ac} {Q:ac->Prop} (D:∀v,Q v->NB v=true) (h:ay P G g (MI i) [] 0 (fun v h m=>Q v/\h=[]/\m=0)) (a:Heap) (f:Nat):ay P G g i a f (fun v h m=>Q v/\h=a/\m=f):=by
 intro w R N j p H z l c E t n I;have C:=h w R (fun _=>none) j p [] (H++z) l.np (by simp[aj]) (by grind) (by grind) n (by
  intro b d
  rcases List.mem_append.1 d with d|d
  ·exact c.lt b d
  grind)
 refine C.mono ?_;rintro e K ⟨v,B,s,u,A,F,q,o,rfl,⟨y,rfl,rfl⟩,V,J,x,_,k,_⟩;have r:o=[]:=by grind[aj]
 subst r;exact⟨_,B,a,f,A,N,q,H,rfl,⟨y,rfl,rfl⟩,V.nm (D _ y),c.keep (k.sub (by grind)),by grind,t,k.sub (by grind),fun _ _ h=>h⟩
theorem abS {q:Qy α} {b:List ac} {v:ac} (j:ay P G g b [] 0 (XQ ⟨v,[],0⟩)) (e:q.Rf=some g) (A:MI q.xJ=b) (o:NB v=true)
  (h:nH v->(q.ofR ⟨v,q.xo,q.xm⟩).Ok P G T):q.Ok P G T:=by
 cases q with
 | res i c f d k=>
  simp only[Qy.Rf,Option.some.injEq] at e;subst e;refine⟨?_⟩;subst A;have a:ay P G i (MI c) [] 0 (fun u h m=>u=v/\h=[]/\m=0):=j.mono (by rintro u h m ⟨rfl,rfl,rfl⟩;grind);refine (Gl (Q:=fun u=>u=v) (by grind) a f d).mono ?_;rintro p n m ⟨rfl,rfl,rfl⟩ r l;exact (h r).ok
 | _=>grind[Qy.Rf]
theorem Ja {q:Qy α} {a:List ac} {Q:ac->Prop} (i:ay P G g a [] 0 (fun v h m=>Q v/\h=[]/\m=0)) (e:q.Rf=some g) (A:MI q.xJ=a) (f:∀v,Q v->NB v=true)
  (h:∀v,Q v->nH v->(q.ofR ⟨v,q.xo,q.xm⟩).Ok P G T):q.Ok P G T:=by
 cases q with
 | res o d c b k=>
  simp only[Qy.Rf,Option.some.injEq] at e;subst e;refine⟨?_⟩;subst A;refine (Gl f i c b).mono ?_;rintro l p m ⟨j,rfl,rfl⟩ r n;exact (h l j r).ok
 | _=>grind[Qy.Rf]
theorem TB {q:Qy α} {a:List ac} {b:Heap} {c:Nat} {r:eX} (j:ay P G g a b c (XQ r)) (e:q.Rf=some g) (A:q.xJ=a) (l:q.xo=b) (N:q.xm=c)
  (h:(q.ofR r).Ok P G T):q.Ok P G T:=by
 cases q with
 | res o d f i k=>
  simp only[Qy.Rf,Option.some.injEq] at e;subst e;subst A;subst l;subst N;refine⟨?_⟩;refine j.mono ?_;rintro v p m ⟨rfl,rfl,rfl⟩ n Q;exact h.ok
 | _=>grind[Qy.Rf]
theorem Du {a:List ac} {b:Heap} {c:Nat} {r:eX} (h:ay P G g a b c (fun v h m=>(⟨v,h,m⟩:eX)=r)):ay P G g a b c (XQ r):=by
 refine h.mono ?_;rintro v h m e;subst e;exact⟨rfl,rfl,rfl⟩
theorem RL {E:bz} {H:Hints} {n:Nat} {X:lH} (W:E.Ok P) (g:Kg P G X) {b:Nat->Nat} (a:Nat) {c:Code} (i:dh H c=true) {f d:ab} {e:Exit} (h:iO X E G H n b a c f=some (e,d)) :
  cL P G c (fun F s=>F=e/\s=d.al n) (f.al n):=by grind[fj]
def Qy.UI:Qy (Exit×ab)->Option Exit
 | .fin r=>some r.1
 | _=>none
def Qy.Zv:Qy (Exit×ab)->ab
 | .fin r=>r.2
 | _=>⟨[],[],[],0⟩
theorem bS {q:Qy (Exit×ab)} {T:Exit->aa->Prop} {n:Nat} {ex:Exit} (f:ab) (e:q.UI=some ex) (s:q.Zv.al n=f.al n) (h:T ex (f.al n)):q.Ok P G (fun r=>T r.1 (r.2.al n)):=by
 cases q with
 | fin r=>
  simp only[Qy.UI,Option.some.injEq] at e;simp only[Qy.Zv] at s;refine⟨?_⟩;show T r.1 (r.2.al n);grind
 | _=>grind[Qy.UI]
theorem bm {c:Code} {T:Exit->aa->Prop} (St:Nat->aa) (L:Nat) (a:∀i,i < L->cL P G c (xU (fun s=>s=St (i+1)) T) (St i))
  (d:cL P G c (xU (fun _=>False) T) (St L)) {i:Nat} (f:i<=L):cL P G (.loop c) T (St i):=by
 refine CS (I:=fun m s=>∃j,j<=L/\m=L - j/\s=St j) ?_ (m:=L - i) ⟨i,f,rfl,rfl⟩;rintro m s ⟨j,g,rfl,rfl⟩
 by_cases h:j < L
 ·refine (a j h).mono ?_;intro e s b
  cases e with
  | normal=>
   exact⟨L - (j+1),by omega,j+1,by omega,rfl,b⟩
  | _=>exact b
 grind
theorem cV {c:Code} {T:Exit->aa->Prop} (St:Nat->aa) (Inv:Nat->Prop) (L:Nat) (a:∀i,i < L->Inv i->cL P G c (xU (fun s=>s=St (i+1)/\Inv (i+1)) T) (St i))
  (d:Inv L->cL P G c (xU (fun _=>False) T) (St L)) {i:Nat} (g:i<=L) (o:Inv i):cL P G (.loop c) T (St i):=by
 refine CS (I:=fun m s=>∃j,j<=L/\m=L - j/\s=St j/\Inv j) ?_ (m:=L - i) ⟨i,g,rfl,rfl,o⟩;rintro m s ⟨j,k,rfl,rfl,f⟩
 by_cases h:j < L
 ·refine (a j h f).mono ?_;intro e s b
  cases e with
  | normal=>
   exact⟨L - (j+1),by omega,j+1,by omega,rfl,b⟩
  | _=>exact b
 grind
end
end Go.Tp
namespace Go.Tp
section
variable {P:Program} {G:bA} {α:Type} {T:α->Prop}
theorem oh {q:Qy α} {g:FuncId} {a:List ac} {b:Heap} {c:Nat} {r:eX} (d:ay P G g a b c (XQ r)) (h:(q.ofR r).Ok P G T) (e:q.Rf=some g:=by kernel_rfl) (A:q.xJ=a:=by kernel_rfl) (f:q.xo=b:=by kernel_rfl) (N:q.xm=c:=by kernel_rfl):q.Ok P G T:=
 by grind[TB]
theorem on {q:Qy α} {g:FuncId} {a:List ac} {v:ac} (b:ay P G g a [] 0 (XQ ⟨v,[],0⟩)) (h:(q.ofR ⟨v,q.xo,q.xm⟩).Ok P G T) (e:q.Rf=some g:=by kernel_rfl) (A:MI q.xJ=a:=by kernel_rfl) (c:NB v=true:=by exact rfl):q.Ok P G T:=
 by grind[abS]
theorem ob {q:Qy α} {c b:Bool} (a:c=b) (h:(q.Z4 b).Ok P G T) (e:q.Bo=some c:=by kernel_rfl):q.Ok P G T:=bn a e h
theorem ox {q:Qy α} {c b:Bool} (a:c=b) (h:(q.Z4 (!b)).Ok P G T) (e:q.Bo=some (!c):=by kernel_rfl):q.Ok P G T:=by grind[bn]
theorem oo {q:Qy α} {o:Option Out} {x:Out} (O:o=some x) (h:(q.ofO x).Ok P G T) (e:q.Tu=some o:=by kernel_rfl):q.Ok P G T:=XB O e h
theorem fi {q:Qy α} {a:α} (e:q.JL=some a:=by kernel_rfl):q.Ok P G (fun y=>y=a):=fX e rfl
theorem oe {q:Qy (Exit×ab)} {T:Exit->aa->Prop} {n:Nat} {a:Exit} {f:ab} (h:T a (f.al n)) (e:q.UI=some a:=by kernel_rfl) (s:q.Zv.al n=f.al n:=by kernel_rfl):q.Ok P G (fun r=>T r.1 (r.2.al n)):=bS f e s h
theorem lo {q:Qy α} {n:Nat} {c:Code} {f:ab} {L:Exit->aa->Prop} (l:cL P G (.loop c) L (f.al n)) (h:∀e s,L e s->∃a,s=a.al n/\(q.ofL (e,a)).Ok P G T) (e:q.CT=some (n,c):=by kernel_rfl) (b:q.Gw.al n=f.al n:=by kernel_rfl):q.Ok P G T:=iF e b l h
end
end Go.Tp
namespace Go.Tp
noncomputable def Pe (A B:Nat->Bool) (E:bz) (G:bA) (c b:FuncId->Bool) (x:qS) (g:FuncId) (a:List ac) (d:Heap) (e:Nat):Qy eX:=
 match Nat.ble a.length x.ntmps with
 | false=>.fail
 | true=>tL A B E G ⟨c,x.ord,b,rowsOf b g⟩ x.ntmps x.live x.code ⟨rG 0 a,[],d,e⟩ (fun r=>match r with
  |(.ret,f)=>(match sU E x.ntmps x.results f with|some r=>.fin r|none=>.fail)
  |(.normal,f)=>(match sU E x.ntmps x.results f with|some r=>.fin r|none=>.fail)
  | _=>.fail)
section
variable {P:Program} {E:bz} {G:bA}
theorem Pd {A B:Nat->Bool} {i j:FuncId->Bool} {F:FuncId->Option qS} (W:E.Ok P) (y:Z9 P i j F) {g:FuncId} {x:qS} (X:F g=some x) {c:List ac} {d:Heap} {k:Nat} {T:eX->Prop}
  (h:rN c->yc d->(Pe A B E G i j x g c d k).Ok P G T):ay P G g c d k (fun v h m=>T ⟨v,h,m⟩):=by
 obtain⟨z,a,b,f,w,C⟩:=y g x X;refine gX W a b ?_;intro u Q;have h:=(h u Q).ok;rw[f,w];unfold Pe at h
 split at h
 ·exact h.elim
 rename_i l;have l:=fD l;have n:(⟨rG 0 c,[],d,k⟩:ab).al x.ntmps=enter x.ntmps c d k:=by
  simp only[ab.al,enter];congr 1
  apply List.ext_getElem?
  grind[kq,pS,bq]
 rw[←n];refine (iE (H:=⟨i,x.ord,j,rowsOf j g⟩) W x.live x.code _ _ (by grind[eM]) h).mono ?_;rintro e s ⟨p,rfl,q⟩;have o:(match sU E x.ntmps x.results p with|some r=>(Qy.fin r:Qy eX)|none=>.fail).tg P G T->ye E x.results (fun v h m=>T ⟨v,h,m⟩) (p.al x.ntmps):=by
  intro t
  split at t
  ·rename_i r R
   have:=nL (E:=E) (rs:=x.results) (s:=p.al x.ntmps) (r:=r) (by grind[yz])
   exact Dr (by rintro v h m ⟨rfl,rfl,rfl⟩;exact t) this
  exact t.elim
 cases e with
 | ret=>exact o q
 | normal=>exact o q
 | _=>exact q.elim
def BP (b:Nat) (a:List Nat) (o:Nat):Nat:=match ot o a with|true=>AI o a b|false=>o
def lr (a:Nat) (b:List Nat) (o:Nat):Bool:=Nat.blt o a||ot o b
theorem ay.rn {g:FuncId} {d:List ac} {f:Heap} {a:Nat} {Q D:ac->Heap->Nat->Prop} (h:ay P G g d f a Q)
  (U:∀v q m,Q v q m->∃c,Nz (lr a c) v=true/\Sr (lr a c) (dN (lr a c) q)=true/\D (fx (BP a c) v) (jJ (BP a c) (dN (lr a c) q)) (a+c.length)):ay P G g d f a D:=by
 intro w R N j s H z A T y B J S;refine (h w R N j s H z A T y B J S).mono ?_;rintro e w' ⟨v,O,q,m,M,l,t,E,rfl,C,V,u,n,L,k,hN⟩;obtain⟨c,Y,Z,p3⟩:=U _ _ _ C
 let p:Name->Option Nat:=fun m=>match m with|.loc i=>l (.loc i)|.out x=>if x < a then l (.out x) else (match c[x - a]? with|some o=>l (.out o)|none=>none)
 have I:∀o b,lr a c o=true->outs l (.out o)=some b->outs p (.out (BP a c o))=some b:=by
  grind[outs,BP,LG,lr,oY]
 have F:∀i b,outs l (.loc i)=some b->outs p (.loc i)=some b:=fun i b h=>h
 obtain⟨r,W,K⟩:=mD (lr a c) u;refine⟨_,O,_,_,M,p,t,r,rfl,p3,V.HM F I Y,W.HM F I Z,?_,?_,k,?_⟩
 ·exact List.Nodup.sublist (List.Sublist.append (.refl _) (List.Sublist.append K (.refl _))) n
 ·intro x b X;dsimp only[p] at X
  split at X
  ·omega
  grind
 grind
end
end Go.Tp
namespace Go.Tp
def WS:Code->Code
 | .seq a _=>a
 | c=>c
def WR:Code->Code
 | .seq _ b=>b
 | _=>.skip
def VQ:Code->Bool
 | .seq _ _=>true
 | _=>false
def V3:Nat->Code->Code
 | 0,c=>c
 | k+1,c=>WR (V3 k c)
def ZW (a:Func):Code:=match a.body with|some c=>c|none=>.skip
def kc (a:Func) (k:Nat):Code:=V3 k (ZW a)
def du (a:Func) (k:Nat):Code:=WS (kc a k)
section
variable {P:Program} {E:bz} {G:bA}
theorem di {a:Func} {k:Nat} {Q:Exit->aa->Prop} {s d:aa} (f:VQ (kc a k)=true) (h:cL P G (du a k) (fun e q=>e=.normal/\q=d) s) (b:cL P G (kc a (k+1)) Q d):cL P G (kc a k) Q s:=by
 have e:kc a k=.seq (du a k) (kc a (k+1)):=by
  show kc a k=.seq (WS (kc a k)) (WR (kc a k));generalize kc a k=c at f
  cases c <;> simp_all [VQ,WS,WR]
 rw[e];refine wK (h.mono ?_);grind
theorem Nr (W:E.Ok P) {k m:FuncId->Bool} {F:FuncId->Option qS} (u:Z9 P k m F) {g:FuncId} {x:qS} (X:F g=some x) {n:Func} (d:x.code=kc n 0) {c:List ac} {i:Heap} {j:Nat} {r:eX} (l:Nat.ble c.length x.ntmps=true)
  (h:cL P G (kc n 0) (fun e s=>e=.ret/\∃f:ab,s=f.al x.ntmps/\sU E x.ntmps x.results f=some r) ((⟨rG 0 c,[],i,j⟩:ab).al x.ntmps)):ay P G g c i j (XQ r):=by
 obtain⟨w,a,b,q,t,y⟩:=u g x X;refine gX W a b (fun _ _=>?_);rw[q,t];have p:=fD l;have o:(⟨rG 0 c,[],i,j⟩:ab).al x.ntmps=enter x.ntmps c i j:=by
  simp only[ab.al,enter];congr 1
  apply List.ext_getElem?
  grind[kq,pS,bq]
 rw[←o,d];refine h.mono ?_;rintro e s ⟨rfl,v,rfl,R⟩;exact nL (by grind[yz])
end
end Go.Tp
namespace Go.Tp
mutual
def Sw (k:Nat):ac->Bool
 | .ptr (.out o) _=>Nat.ble k o
 | .map (.out o)=>Nat.ble k o
 | .win (.out o) _ _ _=>Nat.ble k o
 | .fn _ a b=>BI k a||BI k b
 | .agg c=>BI k c
 | .tup c=>BI k c
 | _=>false
def BI (k:Nat):List ac->Bool
 | []=>false
 | a::r=>Sw k a||BI k r
end
def Z5 (k:Nat):aL->Bool
 | .cells c=>BI k c
 | .map _=>false
def GM (k:Nat):Heap->Bool
 | []=>false
 |(.out o,x)::r=>Nat.ble k o||(Z5 k x||GM k r)
 |(.loc _,x)::r=>Z5 k x||GM k r
theorem AJ (k:Nat):∀(l m:List ac),BI k (l++m)=(BI k l||BI k m)
 | [],m=>by simp[BI]
 | a::l,m=>by simp[BI,AJ k l m,Bool.or_assoc]
theorem CZ (k:Nat):∀j:Nat,BI k (List.replicate j .undef)=false
 | 0=>rfl
 | j+1=>by simp[List.replicate_succ,BI,Sw,CZ k j]
theorem K0 {k o:Nat} (h:Nat.ble k o=false):o < k:=by
 grind[gC]
section
variable {w:World} {R:Own} {M M2:Name->Option Nat} {ρ:Nat->Nat}
mutual
theorem ai.It (k:∀m b,M m=some b->M2 (wX ρ m)=some b):∀{a:ac} {v:Value} {B:List Nat},ai w R M a v B->ai w R M2 (fx ρ a) v B
 | .dat _,_,_,h=>by exact h
 | .own _,_,_,h=>by exact h
 | .ref _,_,_,h=>by exact h
 | .undef,_,_,h=>by exact h
 | .ptr (.loc i) _,_,_,h=>by
  obtain⟨d,b,g,j⟩:=h;exact⟨d,b,k _ b g,j⟩
 | .map (.loc i),_,_,h=>by
  obtain⟨d,b,g,j⟩:=h;exact⟨d,b,k _ b g,j⟩
 | .win (.loc i) _ _ _,_,_,h=>by
  obtain⟨d,b,n,g,j⟩:=h;exact⟨d,b,n,k _ b g,j⟩
 | .ptr (.out o) q,_,_,h=>by
  obtain⟨d,b,g,j⟩:=h;exact⟨d,b,k _ b g,j⟩
 | .map (.out o),_,_,h=>by
  obtain⟨d,b,g,j⟩:=h;exact⟨d,b,k _ b g,j⟩
 | .win (.out o) s q x,_,_,h=>by
  obtain⟨d,b,n,g,j⟩:=h;exact⟨d,b,n,k _ b g,j⟩
 | .fn f a b,_,_,h=>by
  obtain⟨d,l,y,e,g,j⟩:=h;exact⟨d,l,y,e,ah.It k g,ah.It k j⟩
 | .agg c,_,_,h=>by
  obtain⟨l,e,h⟩:=h;exact⟨l,e,ah.It k h⟩
 | .tup c,_,_,h=>by
  obtain⟨l,e,h⟩:=h;exact⟨l,e,ah.It k h⟩
theorem ah.It (k:∀m b,M m=some b->M2 (wX ρ m)=some b):∀{as:List ac} {l:List Value} {B:List Nat},ah w R M as l B->ah w R M2 (il ρ as) l B
 | [],_,_,h=>by exact h
 | a::r,_,_,h=>by
  obtain⟨v,t,u,Q,E,F,d,g⟩:=h;exact⟨v,t,u,Q,E,F,ai.It k d,ah.It k g⟩
end
mutual
theorem ai.FM {k:Nat} (l:∀i b,M2 (.loc i)=some b->M (.loc i)=some b) (g:∀o b,o < k->M2 (.out (ρ o))=some b->M (.out o)=some b):∀{a:ac} {v:Value} {B:List Nat},Sw k a=false->ai w R M2 (fx ρ a) v B->ai w R M a v B
 | .dat _,_,_,_,h=>by exact h
 | .own _,_,_,_,h=>by exact h
 | .ref _,_,_,_,h=>by exact h
 | .undef,_,_,_,h=>by exact h
 | .ptr (.loc i) _,_,_,_,h=>by
  grind[fx,ai]
 | .map (.loc i),_,_,_,h=>by
  grind[fx,ai]
 | .win (.loc i) _ _ _,_,_,_,h=>by
  grind[fx,ai]
 | .ptr (.out o) p,_,_,N,h=>by
  grind[Sw,fx,ai,K0]
 | .map (.out o),_,_,N,h=>by
  grind[Sw,fx,ai,K0]
 | .win (.out o) s p x,_,_,N,h=>by
  grind[Sw,fx,ai,K0]
 | .fn f a b,_,_,N,h=>by
  simp only[Sw,Bool.or_eq_false_iff] at N;obtain⟨m,d,y,e,n,u⟩:=h;exact⟨m,d,y,e,ah.FM l g N.1 n,ah.FM l g N.2 u⟩
 | .agg c,_,_,N,h=>by
  obtain⟨d,e,h⟩:=h;exact⟨d,e,ah.FM l g N h⟩
 | .tup c,_,_,N,h=>by
  obtain⟨d,e,h⟩:=h;exact⟨d,e,ah.FM l g N h⟩
theorem ah.FM {k:Nat} (l:∀i b,M2 (.loc i)=some b->M (.loc i)=some b) (g:∀o b,o < k->M2 (.out (ρ o))=some b->M (.out o)=some b):∀{as:List ac} {d:List Value} {B:List Nat},BI k as=false->ah w R M2 (il ρ as) d B->ah w R M as d B
 | [],_,_,_,h=>by exact h
 | a::r,_,_,N,h=>by
  simp only[BI,Bool.or_eq_false_iff] at N;obtain⟨v,q,t,Q,E,F,m,n⟩:=h;exact⟨v,q,t,Q,E,F,ai.FM l g N.1 m,ah.FM l g N.2 n⟩
end
theorem aI.It (k:∀m b,M m=some b->M2 (wX ρ m)=some b) {o:aL} {b:Nat} {B:List Nat} (h:aI w R M o b B):aI w R M2 (pW ρ o) b B:=by
 cases o with
 | map n=>exact h
 | cells c=>
  obtain⟨l,d,e,a,j,f,g⟩:=h;refine⟨l,d,e,a,?_,f,by grind[qE]⟩
  have:=ah.It (ρ:=ρ) k (as:=c++List.replicate e .undef) j
  grind[lf,kO]
theorem aI.FM {k:Nat} (l:∀i b,M2 (.loc i)=some b->M (.loc i)=some b) (m:∀o b,o < k->M2 (.out (ρ o))=some b->M (.out o)=some b) {o:aL} {b:Nat} {B:List Nat} (N:Z5 k o=false) (h:aI w R M2 (pW ρ o) b B):aI w R M o b B:=by
 cases o with
 | map p=>exact h
 | cells c=>
  simp only[Z5] at N;obtain⟨n,d,j,a,q,f,g⟩:=h;refine⟨n,d,j,a,?_,f,by grind[qE]⟩;refine ah.FM (ρ:=ρ) l m (as:=c++List.replicate j .undef) (by grind[AJ,CZ]) ?_;grind[lf,kO]
theorem aj.It (c:∀m b,M m=some b->M2 (wX ρ m)=some b):∀{d:Heap} {B:List Nat},aj w R M d B->aj w R M2 (jJ ρ d) B
 | [],_,h=>h
 |(m,o)::r,_,⟨b,i,Q,e,a,j,f⟩=>⟨b,i,Q,e,c m b a,j.It c,aj.It c f⟩
theorem aj.FM {k:Nat} (l:∀i b,M2 (.loc i)=some b->M (.loc i)=some b) (c:∀o b,o < k->M2 (.out (ρ o))=some b->M (.out o)=some b):∀{j:Heap} {B:List Nat},GM k j=false->aj w R M2 (jJ ρ j) B->aj w R M j B
 | [],_,_,h=>h
 |(.loc i,o)::r,_,N,⟨b,d,Q,e,a,g,f⟩=>by
  simp only[GM,Bool.or_eq_false_iff] at N;exact⟨b,d,Q,e,l i b a,g.FM l c N.1,aj.FM l c N.2 f⟩
 |(.out m,o)::r,_,N,⟨b,d,Q,e,a,g,f⟩=>by
  simp only[GM,Bool.or_eq_false_iff] at N;exact⟨b,d,Q,e,c m b (K0 N.1) a,g.FM l c N.2.1,aj.FM l c N.2.2 f⟩
end
def Sq (ρ:Nat->Nat) (a:Nat) (s:aa):aa:=⟨il ρ s.tmps,jJ ρ s.locs,jJ ρ s.heap,a⟩
def UH (s:aa):Bool:=!BI s.next s.tmps&&(!GM s.next s.locs&&(!GM s.next s.heap&&aeQ s.heap s.next))
variable {P:Program} {G:bA}
theorem aj.Jg {w:World} {R:Own} {M:Name->Option Nat} {ρ:Nat->Nat} {o:Nat}:∀{c:Heap} {B:List Nat},hasName o c=true->aj w R M (jJ ρ c) B->∃b,M (.out (ρ o))=some b
 | [],_,h,_=>by grind[hasName]
 |(.out m,x)::r,_,h,⟨b,d,Q,e,a,g,f⟩=>by
  simp only[hasName,Bool.or_eq_true] at h
  rcases h with h|h
  ·rw[Nat.beq_eq] at h;subst h;exact⟨b,a⟩
  exact aj.Jg h f
 |(.loc i,x)::r,_,h,⟨b,d,Q,e,a,g,f⟩=>by
  simp only[hasName] at h;exact aj.Jg h f
theorem cL.rn {c:Code} {Q:Exit->aa->Prop} {r:aa} (hc:cL P G c Q r) (ρ:Nat->Nat) (f:Nat) (L:UH r=true) :
  cL P G c (fun e s=>∃t,Q e t/\s=Sq (ig ρ r.next f) (f+(t.next - r.next)) t) (Sq ρ f r):=by
 intro w R N A Z U H z q D hd;unfold UH at L;simp at L;obtain⟨W,Y,f3,f4⟩:=L;generalize ae:r.next=l at *
 let u:Name->Option Nat:=fun m=>match m with|.loc i=>N (.loc i)|.out o=>if o < l then N (.out (ρ o)) else none
 have I:∀i b,N (.loc i)=some b->u (.loc i)=some b:=fun i b h=>h
 have g:∀o b,o < l->N (.out (ρ o))=some b->u (.out o)=some b:=by
  grind
 have n:∀o b,o < l->outs N (.out (ρ o))=some b->outs u (.out o)=some b:=fun o b O d=>g o b O d
 have T:dw G w R u A.tmps.toList r undef .undef [] Z U H z:=by
  refine⟨aJ _,q.tmps.FM I g W,q.locs.FM I g Y,q.heap.FM (by grind[outs]) n f3,q.nodup,?_,q.glob,q.frame⟩;grind
 refine wp_mono (hc w R u A Z U H z T hd) ?_;rintro e a w' ⟨t,V,v,E,C,B,hq,j,K,k,hN⟩
 let y:Name->Option Nat:=fun m=>match m with|.loc i=>v (.loc i)|.out x=>if x < f then N (.out x) else v (.out (x - f+l))
 have af:∀o b,N (.out o)=some b->o < f:=fun o b h=>q.next o b h
 have p:∀o b,v (.out o)=some b->y (.out (ig ρ l f o))=some b:=by
  intro o b d;unfold ig
  cases J:Nat.blt o l with
  | true=>
   have O:=oY J;obtain⟨b',ad⟩:=aj.Jg (M:=outs N) (ρ:=ρ) (qI f4 o O) q.heap;grind[outs]
  | false=>
   have O:¬o < l:=fun h=>by rw[←Nat.blt_eq,J] at h;grind
   grind
 have F:∀m b,v m=some b->y (wX (ig ρ l f) m)=some b:=by
  intro m b h
  cases m with
  | loc i=>exact h
  | out o=>exact p o b h
 have S:∀m b,outs v m=some b->outs y (wX (ig ρ l f) m)=some b:=by
  intro m b h
  cases m with
  | loc i=>grind[outs]
  | out o=>exact p o b h
 refine⟨_,V,y,E,C,B,⟨t,hq,rfl⟩,⟨aJ _,j.tmps.It F,j.locs.It F,j.heap.It S,j.nodup,?_,j.glob,j.frame⟩,K,k,?_⟩
 ·intro x b X;simp only[y] at X;show x < f+(t.next - l)
  split at X
  ·omega
  have:=j.next _ _ X
  omega
 grind
theorem dw.less {w:World} {R:Own} {N:Name->Option Nat} {c:List Value} {s:aa} {Z U H z:List Nat} {b i:Heap} (d:dw G w R N c s undef .undef [] Z U H z) (k:s.heap.Perm (b++i)) :
  ∃g,dw G w R N c ⟨s.tmps,s.locs,b,s.next⟩ undef .undef [] Z U g z:=by
 obtain⟨j,l,K⟩:=d.heap.perm k;obtain⟨r,Q,e,a,_⟩:=aj.append l;subst e;refine⟨r,aJ _,d.tmps,d.locs,a,?_,d.next,d.glob,d.frame⟩;have h:=d.nodup;simp at h ⊢;have f:(Z++(U++((r++Q)++z))).Nodup:=(List.Perm.append_left _ (List.Perm.append_left _ (List.Perm.append_right _ K))).nodup_iff.1 h;refine List.Nodup.sublist ?_ f;simp_all
theorem cL.ab4 {c:Code} {Q p:Exit->aa->Prop} {s:aa} (x:cL P G c Q s) (B:∀e f,Q e f->∃b d,f.heap.Perm (b++d)/\p e ⟨f.tmps,f.locs,b,f.next⟩):cL P G c p s:=by
 intro w R N j Z U H z C D y;refine wp_mono (x w R N j Z U H z C y) ?_;rintro e a E ⟨f,t,r,i,h,q,v,n,l,k,u⟩;obtain⟨b,d,A,m⟩:=B e f v;obtain⟨g,o⟩:=n.less A;exact⟨_,t,r,i,h,g,m,o,l,k,u⟩
end Go.Tp
namespace Go.Tp
structure Gr where
 n:Nat
 succ:Nat->List Nat
 call:Nat->Bool
 lt:∀i,i < n->∀j∈succ i,j < n
variable {G:Gr}
def Gr.yN (G:Gr):Prop:=∃C:Nat->Prop,(∃i,C i)/\∀c,C c->c < G.n/\G.call c=false/\∃j∈G.succ c,C j
inductive Gr.Fin (G:Gr):List Nat->Prop
 |nil:Gr.Fin G []
 |cons {o:List Nat} {i:Nat}:Gr.Fin G o->(G.call i=true∨∀j∈G.succ i,j∈o)->Gr.Fin G (i::o)
def Gr.cover (G:Gr):Prop:=∃o,G.Fin o/\∀i,i < G.n->i∈o
def gg (a:List Nat) (i:Nat):Nat:=a.getD i 0
variable {a:List Nat} {e i:Nat} {r:List (Nat×Nat)}
theorem ee {j v:Nat} (h:i < a.length):gg (a.set i v) j=if j=i then v else gg a j:=by
 grind[gg]
def Gr.Below (G:Gr) (b:List Nat):Nat->List (Nat×Nat)->Prop
 | _,[]=>True
 | a,(p,e)::r=>p < G.n/\0 < e/\gg b p=1/\G.call p=false/\(G.succ p)[e - 1]?=some a/\(∀k j,k < e - 1->(G.succ p)[k]?=some j->gg b j=2)/\G.Below b p r
def Gr.Top (G:Gr) (a:List Nat):List (Nat×Nat)->Prop
 | []=>True
 |(i,e)::r=>i < G.n/\e<=(G.succ i).length/\(0 < e->gg a i=1/\G.call i=false)/\(e=0->gg a i≠1)/\(∀k j,k < e->(G.succ i)[k]?=some j->gg a j=2)/\G.Below a i r
structure Gr.Inv (G:Gr) (st:List Nat) (stk:List (Nat×Nat)):Prop where
 len:st.length=G.n
 val:∀i,gg st i<=2
 fin:∃o,G.Fin o/\(∀i,i∈o↔i < G.n/\gg st i=2)
 act:∀i,gg st i=1->i∈stk.map Prod.fst
 nodup:(stk.map Prod.fst).Nodup
 top:G.Top st stk
theorem Gr.Below.done {c:List Nat} {i:Nat} (l:i < c.length):∀{r:List (Nat×Nat)} {a:Nat},i∉r.map Prod.fst->G.Below c a r->G.Below (c.set i 2) a r
 | [],_,_,_=>trivial
 |(p,e)::r,a,N,h=>by
  obtain⟨d,b,f,g,j,m,k⟩:=h;simp only[List.map_cons,List.mem_cons,not_or] at N;refine⟨d,b,?_,g,j,?_,Gr.Below.done l N.2 k⟩
  all_goals grind[ee]
theorem Gr.Below.act {c:List Nat} {i:Nat} (l:i < c.length) (b:gg c i≠2):∀{r:List (Nat×Nat)} {a:Nat},G.Below c a r->G.Below (c.set i 1) a r
 | [],_,_=>trivial
 |(p,e)::r,a,h=>by
  obtain⟨d,f,m,g,j,n,k⟩:=h;refine⟨d,f,?_,g,j,?_,Gr.Below.act l b k⟩
  all_goals grind[ee]
theorem Gr.Inv.pop {g:List Nat} (h:G.Inv g ((i,e)::r)) (D:gg g i=2∨G.call i=true∨e=(G.succ i).length):G.Inv (g.set i 2) r:=by
 obtain⟨l,V,⟨o,O,f⟩,A,N,T⟩:=h;obtain⟨u,K,L,M,H,I⟩:=T;have d:i < g.length:=by rw[l];exact u
 simp only[List.map_cons,List.nodup_cons] at N;refine⟨by rw[List.length_set];exact l,?_,?_,?_,N.2,?_⟩
 ·intro j;rw[ee d]
  by_cases a:j=i
  ·rw[if_pos a];exact Nat.le_refl 2
  rw[if_neg a];exact V j
 ·by_cases b:gg g i=2
  ·refine⟨o,O,?_⟩;intro j;rw[ee d,f]
   by_cases a:j=i
   ·subst a;simp[b]
   rw[if_neg a]
  refine⟨i::o,.cons O ?_,?_⟩
  ·rcases D with D|D|D
   ·exact absurd D b
   ·exact .inl D
   refine .inr ?_;intro j a;obtain⟨k,w,E⟩:=List.mem_iff_getElem.1 a;rw[f];refine⟨G.lt i u j a,H k j (by omega) ?_⟩;rw[List.getElem?_eq_getElem w,E]
  intro j;rw[List.mem_cons,ee d,f]
  by_cases a:j=i
  ·subst a;simp[u]
  rw[if_neg a];simp[a]
 ·intro j a;rw[ee d] at a
  by_cases c:j=i
  ·rw[if_pos c] at a;omega
  rw[if_neg c] at a
  have:=A j a
  simp only[List.map_cons,List.mem_cons] at this;exact this.resolve_left c
 cases r with
 | nil=>trivial
 | cons q r=>
  obtain⟨p,m⟩:=q;obtain⟨x,J,y,z,v,B,C⟩:=I;have t:p≠i:=by
   rintro rfl;exact N.1 (by simp)
  have s:m<=(G.succ p).length:=by
   have:=(List.getElem?_eq_some_iff.1 v).1
   omega
  refine⟨x,s,?_,by omega,?_,Gr.Below.done d (fun F=>N.1 (by simp only[List.map_cons,List.mem_cons];exact .inr F)) C⟩
  ·intro _;refine⟨?_,z⟩;rw[ee d,if_neg t];exact y
  intro k j w a;rw[ee d]
  by_cases c:j=i
  ·rw[if_pos c]
  rw[if_neg c]
  by_cases n:k < m - 1
  ·exact B k j n a
  have:k=m - 1:=by omega
  subst this;rw[v] at a;exact absurd (Option.some.inj a).symm c
theorem Gr.Inv.mark (h:G.Inv a ((i,e)::r)) (b:e=0->gg a i≠2):(∀j,gg (a.set i 1) j=if j=i then 1 else gg a j)/\(a.set i 1).length=G.n/\(∃o,G.Fin o/\(∀j,j∈o↔j < G.n/\gg (a.set i 1) j=2))/\(∀j,gg (a.set i 1) j=1->j∈((i,e)::r).map Prod.fst)/\G.Below (a.set i 1) i r/\(∀k j,k < e->(G.succ i)[k]?=some j->gg (a.set i 1) j=2):=by
 obtain⟨l,V,⟨o,O,d⟩,A,N,T⟩:=h;obtain⟨g,m,n,p,q,s⟩:=T;have f:i < a.length:=by grind
 have c:gg a i≠2:=by
  grind
 grind[ee,Gr.Below.act]
theorem Gr.Inv.skip {j:Nat} (h:G.Inv a ((i,e)::r)) (b:e=0->gg a i≠2) (o:e=0->G.call i=false) (p:(G.succ i)[e]?=some j) (D:gg (a.set i 1) j=2):G.Inv (a.set i 1) ((i,e+1)::r):=by
 obtain⟨f,g,l,q,m,s⟩:=h.mark b;obtain⟨n,t,u,v,w,x⟩:=h.top;have c:G.call i=false:=by
  grind
 refine⟨g,?_,l,?_,h.nodup,⟨n,?_,?_,by omega,?_,m⟩⟩
 ·intro k;rw[f]
  by_cases d:k=i
  ·grind
  rw[if_neg d];exact h.val k
 all_goals grind
theorem Gr.Inv.push {j:Nat} (h:G.Inv a ((i,e)::r)) (b:e=0->gg a i≠2) (C:e=0->G.call i=false) (m:(G.succ i)[e]?=some j) (f:gg (a.set i 1) j≠1) (s:gg (a.set i 1) j≠2):G.Inv (a.set i 1) ((j,0)::(i,e+1)::r):=by
 obtain⟨u,v,y,E,z,F⟩:=h.mark b;obtain⟨o,H,I,J,K,L⟩:=h.top;have c:G.call i=false:=by
  grind
 have g:j < G.n:=G.lt i o j (List.mem_of_getElem? m);have l:∀q,G.Below (a.set i 1) q r->∀p∈r.map Prod.fst,gg (a.set i 1) p=1:=by
  intro q d p w;revert q;have t:∀(r:List (Nat×Nat)) (q:Nat),G.Below (a.set i 1) q r->∀p∈r.map Prod.fst,gg (a.set i 1) p=1:=by
   intro r
   induction r with
   | nil=>grind
   | cons x r D=>
    intro q d p w;obtain⟨M,O⟩:=x;obtain⟨_,_,A,_,_,_,B⟩:=d;grind
  grind
 refine⟨v,?_,y,?_,?_,⟨g,Nat.zero_le _,by omega,fun _=>f,fun k q n=>by omega,?_⟩⟩
 ·intro k;rw[u]
  by_cases n:k=i
  ·grind
  rw[if_neg n];exact h.val k
 ·grind
 ·simp only[List.map_cons,List.nodup_cons];have N:=h.nodup;grind
 refine⟨o,by omega,by grind,c,m,?_,z⟩;grind
theorem Gr.Inv.yN {f:List Nat} {j:Nat} (h:G.Inv f ((i,e)::r)) (b:e=0->gg f i≠2) (a:e=0->G.call i=false) (w:(G.succ i)[e]?=some j) (D:gg (f.set i 1) j=1):G.yN:=by
 obtain⟨A,B,C,E,F,H⟩:=h.mark b;obtain⟨I,J,L,N,O,P⟩:=h.top;have l:G.call i=false:=by
  grind
 refine⟨fun c=>c∈((i,e)::r).map Prod.fst,⟨i,by simp⟩,?_⟩;have o:∀(r:List (Nat×Nat)) (q:Nat),G.Below f q r->∀c∈r.map Prod.fst,c < G.n/\G.call c=false/\∃j∈G.succ c,j=q∨j∈r.map Prod.fst:=by
  intro r
  induction r with
  | nil=>grind
  | cons x r n=>
   intro q d c a;obtain⟨p,Q⟩:=x;obtain⟨s,_,t,u,v,_,m⟩:=d;simp only[List.map_cons,List.mem_cons] at a
   rcases a with rfl|a
   ·grind
   obtain⟨y,K,k,M,z⟩:=n p m c a;grind
 intro c g;simp only[List.map_cons,List.mem_cons] at g
 grind
theorem Gr.Inv.start {c:List Nat} (h:G.Inv c []) (d:i < G.n):G.Inv c [(i,0)]:=by
 have a:∀j,gg c j≠1:=fun j b=>by have:=h.act j b;grind
 refine⟨h.len,h.val,h.fin,fun j b=>absurd b (a j),by simp,⟨d,Nat.zero_le _,by omega,fun _=>a i,fun k j e=>by omega,trivial⟩⟩
theorem Gr.Inv.init:G.Inv (List.replicate G.n 0) []:=by
 have o:∀i,gg (List.replicate G.n 0) i=0:=by
  grind[gg]
 refine⟨by simp,fun i=>by grind,⟨[],.nil,fun i=>by grind⟩,fun i a=>by grind,by simp,trivial⟩
theorem Gr.Inv.cover {c:List Nat} (h:G.Inv c []) (D:∀i,i < G.n->gg c i=2):G.cover:=by
 obtain⟨o,O,a⟩:=h.fin;exact⟨o,O,fun i b=>(a i).2 ⟨b,D i b⟩⟩
def LZ (e d:Nat):Nat:=if e=0 then 1 else 2*(d - e)+1
def fresh (G:Gr) (a:List Nat):Nat->Nat
 | 0=>0
 | k+1=>fresh G a k+(if gg a k=0 then 2*(G.succ k).length+4 else 0)
def rI (G:Gr) (b:List Nat) (a:List (Nat×Nat)):Nat:=fresh G b G.n+(a.map (fun x=>LZ x.2 (G.succ x.1).length)).sum
theorem uG {a:List Nat} {i v:Nat} (b:i < a.length) (V:v≠0):∀k,fresh G (a.set i v) k<=fresh G a k
 | 0=>Nat.le_refl _
 | k+1=>by
  have c:=uG b V k;grind[fresh,ee]
theorem GX {a:List Nat} {i v:Nat} (b:i < a.length) (V:v≠0) (o:gg a i=0):∀k,i < k->fresh G (a.set i v) k+(2*(G.succ i).length+4)<=fresh G a k
 | 0,h=>by omega
 | k+1,h=>by
  simp only[fresh];rw[ee b]
  by_cases c:k=i
  ·grind[uG]
  rw[if_neg c]
  have:=GX b V o k (by omega)
  omega
theorem Gq {v:Nat} (b:i < a.length) (V:v≠0):rI G (a.set i v) r < rI G a ((i,e)::r):=by
 grind[uG,LZ,rI]
theorem CR {c:List Nat} {s:List (Nat×Nat)} (h:G.Inv c ((i,e)::r)) (b:e=0->gg c i≠2) (m:e < (G.succ i).length) (n:s=[]∨∃j,s=[(j,0)]) :
  rI G (c.set i 1) (s++(i,e+1)::r) < rI G c ((i,e)::r):=by
 obtain⟨l,q,t,u,w,y⟩:=h.top;have d:i < c.length:=by rw[h.len];grind
 have g:(s.map (fun x=>LZ x.2 (G.succ x.1).length)).sum<=1:=by
  grind[LZ]
 have a:=uG (G:=G) d (v:=1) (by omega) G.n;have p:LZ (e+1) (G.succ i).length=2*((G.succ i).length - (e+1))+1:=by grind[LZ]
 simp only[rI,List.map_append,List.sum_append,List.map_cons,List.sum_cons];by_cases o:e=0
 ·have V:=h.val i;have k:gg c i=0:=by grind
  have f:=GX (G:=G) d (v:=1) (by omega) k G.n l;omega
 grind[LZ]
def Gr.Sound (G:Gr) (f:List Bool):Prop:=∀C:Nat->Prop,(∀c,C c->c < G.n/\G.call c=false/\∃j∈G.succ c,C j)->∀c,C c->f.getD c false=false
def Gr.fp (G:Gr) (f:List Bool):Prop:=∀i,i < G.n->(G.call i=true∨∀j∈G.succ i,f.getD j false=true)->f.getD i false=true
theorem Gr.Sound.set {f:List Bool} (h:G.Sound f) (n:i < f.length) (D:G.call i=true∨∀j∈G.succ i,f.getD j false=true):G.Sound (f.set i true):=by
 intro C d c e;have a:=h C d c e;rw[List.getD_eq_getElem?_getD,List.getElem?_set]
 by_cases k:i=c
 ·subst k
  obtain⟨_,b,j,l,g⟩:=d _ e
  rcases D with D|D
  ·grind
  have m:=D j l;rw[h C d j g] at m;grind
 grind
theorem Gr.Sound.init {n:Nat}:G.Sound (List.replicate n false):=by
 intro C _ c _;grind
theorem Gr.NQ {f:List Bool} (l:f.length=G.n) (h:G.Sound f) (T:G.yN):f.any (fun b=>!b)=true:=by
 obtain⟨C,⟨i,d⟩,c⟩:=T;have a:=h C c i d;have e:=(c i d).1;rw[List.any_eq_true];refine⟨f[i]'(by omega),List.getElem_mem _,?_⟩;grind
theorem Gr.Fin.free {o:List Nat} (h:G.Fin o) {C:Nat->Prop} (a:∀c,C c->c < G.n/\G.call c=false/\∃j∈G.succ c,C j):∀c,C c->c∉o:=by
 induction h <;> grind
theorem Gr.JW (h:G.cover):¬G.yN:=by
 obtain⟨o,O,a⟩:=h;rintro⟨C,⟨i,c⟩,b⟩;exact O.free b i c (a i (b i c).1)
theorem Gr.Sh {f:List Bool} (l:f.length=G.n) (h:G.fp f) (A:f.any (fun b=>!b)=true):G.yN:=by
 refine⟨fun i=>i < G.n/\f.getD i false=false,?_,?_⟩
 ·rw[List.any_eq_true] at A;obtain⟨b,d,o⟩:=A;obtain⟨i,r,q⟩:=List.mem_iff_getElem.1 d;refine⟨i,by omega,?_⟩;grind
 rintro c ⟨a,m⟩;have n:=h c a;rw[m] at n;have g:¬(G.call c=true∨∀j∈G.succ c,f.getD j false=true):=fun D=>by grind
 refine⟨a,?_,?_⟩
 ·grind
 have e:¬ ∀j∈G.succ c,f.getD j false=true:=fun D=>g (.inr D)
 simp only[Classical.not_forall] at e;obtain⟨j,k,p⟩:=e;exact⟨j,k,G.lt c a j k,by grind⟩
end Go.Tp
namespace Go.Tp
theorem SC {w:World} {R:Own} {N:Name->Option Nat} {k C z:Nat} {v:Value} {P:List Nat} {o:Heap} {cs:List ac} {u:List ak} {H:List Nat} (V:ai w R (outs N) (.win (.out k) C 0 z) v P) (hh:aj w R (outs N) o H) (O:eA (.out k) o=some (.cells cs))
  (ax:H.Nodup) (ar:u.length=z) (av:z<=lim)
  (f:∀i d,u[i]?=some d->d.cells.length=C/\∀j c,d.cells[j]?=some c->∃a,cs[i*C+j]?=some a/\dK a=some c) :
  ∃(b:Nat) (R2:Own) (n:List Nat),b∈H/\b∉n/\P=[]/\ai w R2 (outs N) (.dat (.slice u)) v []/\aj w R2 (outs N) (iY (.out k) o) n/\n.Sublist H/\(∀B,b∉B->bp w R w R2 B):=by
 simp only[ai] at V;obtain⟨rfl,b,S,hb,rfl,Y,⟨a0,_⟩,a2,a3⟩:=V;obtain⟨L,m,r,t,E,U,af,_,I,Z,F⟩:=aj.kK hh O
 have:m=b:=by rw[hb] at U;simpa using U.symm
 subst this;obtain⟨vs,T,sp,W,az,a4,_⟩:=af;obtain⟨G,y⟩:∃G:Own,G=fun c s=>c≠m/\R c s:=⟨_,rfl⟩
 have p:Step w R w G:=⟨rfl,rfl,rfl,Nat.le_refl _,fun c _ g=>⟨rfl,fun s h=>by subst y;exact g s h.2⟩,fun c s _ g=>⟨fun h=>by subst y;exact g h.2,rfl⟩,fun _ _=>rfl⟩;have hk:∀B,m∉B->bp w R w G B:=fun B al=>⟨p,fun c M _=>⟨rfl,fun s h=>by subst y;exact⟨fun e=>al (e ▸ M),h⟩⟩⟩
 subst E;have hp:((L++(m::r))++t).Perm (m::(r++(L++t))):=by
  rw[List.perm_iff_count];intro q;simp only[List.count_append,List.count_cons];omega
 have ae:=List.nodup_cons.1 (hp.nodup_iff.1 ax);have g:=ae.1;simp only[List.mem_append,not_or] at g;have n5:m∉I:=fun hm=>by
  rcases List.mem_append.1 (F.subset hm) with h|h
  ·exact g.2.1 h
  exact g.2.2 h
 have ag:eU w G (.slice (some ⟨m,0,none⟩) z S) (.slice u):=by
  subst ar;have M:∀i j e c,u[i]?=some e->e.cells[j]?=some c->∃a x Q,cs[i*C+j]?=some a/\dK a=some c/\vs[i*C+j]?=some x/\ai w R (outs N) a x Q:=by
   intro i j e c he M;obtain⟨a,A,D⟩:=(f i e he).2 j c M;obtain⟨x,Q,q1,q2,_⟩:=dY az (rj A);exact⟨a,x,Q,A,D,by rw[←Array.getElem?_toList];exact q1,q2⟩
  refine .slice m 0 S C _ (fun i j=>vs[i*C+j]?.getD default) a0 ?_ Y av ?_ ?_
  ·intro e he;obtain⟨i,hi,rfl⟩:=List.getElem_of_mem he;exact (f i _ (List.getElem?_eq_getElem hi)).1
  ·intro i j hi hj;have ad:u[i]?=some u[i]:=List.getElem?_eq_getElem hi;have l:=(f i _ ad).1;have aq:u[i].cells[j]?=some (u[i].cells[j]'(by omega)):=List.getElem?_eq_getElem (by omega);obtain⟨a,x,Q,_,D,J,X⟩:=M i j _ _ ad aq;refine⟨?_,fun h=>by subst y;exact h.1 rfl⟩;rw[cell_of_row w m _ vs T (0,0) W];rw[Nat.zero_add,J];rfl
  intro i j e c he am;obtain⟨a,x,Q,_,D,J,X⟩:=M i j e c he am;obtain⟨k1,K⟩:=mn D X;have a1:vs[i*C+j]?.getD default=x:=by rw[J];rfl
  show eU w G (vs[i*C+j]?.getD default) c;rw[a1];exact k1.step p
 refine⟨m,G,I,by simp,n5,rfl,bQ (d:=.slice u) ag,Z.keep (hk I n5),?_,hk⟩;refine F.trans ?_;exact List.Sublist.append (List.sublist_append_left L (m::r)) (List.Sublist.refl t)
section
variable {P:Program} {G:bA}
end
end Go.Tp
namespace Go.Tp
section
variable {w:World} {R:Own} {M:Name->Option Nat}
end
section
variable {P:Program} {G:bA}
end
end Go.Tp
namespace Go.Tp
section
variable {P:Program} {G:bA}
theorem ay.ae1 {g:FuncId} {h:List ac} {H0:Heap} {n0 o sz q m:Nat} {s t:List ac} {W:Heap} {cs:List ac} {E:List ak}
  (hc:ay P G g h H0 n0 (XQ ⟨.agg (s++.win (.out o) sz 0 q::t),W,m⟩)) (O:eA (.out o) W=some (.cells cs)) (M:E.length=q) (T:q<=lim)
  (p:∀i d,E[i]?=some d->d.cells.length=sz/\∀j c,d.cells[j]?=some c->∃a,cs[i*sz+j]?=some a/\dK a=some c) :
  ay P G g h H0 n0 (XQ ⟨.agg (s++.dat (.slice E)::t),iY (.out o) W,m⟩):=by
 intro w R N n D H z A hh U V J hF;refine (hc w R N n D H z A hh U V J hF).mono ?_;rintro e w' ⟨v',v,h1,af,R',N',ag,u,rfl,⟨rfl,rfl,rfl⟩,ad,S,l,B,k,hN⟩;obtain⟨vs,rfl,ae⟩:=ad;obtain⟨al,am,r,Q,rfl,rfl,X,Y⟩:=eL ae;obtain⟨vw,aq,b3,C,rfl,rfl,hw,Z⟩:=au Y;have f:=List.nodup_append.1 l;have y:u.Nodup:=(List.nodup_append.1 f.2.1).1;obtain⟨b,R2,x,m1,m2,m3,m4,m5,m6,m7⟩:=SC hw S O y M T p;subst m3;have L:b∉z:=fun F=>(List.nodup_append.1 f.2.1).2.2 b m1 b F rfl
 have I:b∉r:=fun F=>f.2.2 b (by grind) b (by grind) rfl
 have K:b∉C:=fun F=>f.2.2 b (by grind) b (by grind) rfl
 refine⟨_,_,_,_,R2,N',r++([]++C),x,rfl,⟨rfl,rfl,rfl⟩,?_,m5,?_,B,k.trans (m7 z L),hN⟩
 ·exact⟨_,rfl,ct (X.keep (m7 r I)) (aD m4 (Z.keep (m7 C K)))⟩
 exact List.Nodup.sublist (List.Sublist.append (List.Sublist.refl _) (List.Sublist.append m6 (List.Sublist.refl _))) l
theorem zF {w:World} {R:Own} {N:Name->Option Nat}:∀{e:List ac} {S:List ak} {f:List Value} {B:List Nat},e.map dK=S.map some->ah w R N e f B->dz w R f S
 | [],[],f,B,_,g=>by
  obtain⟨rfl,_⟩:=aM g;trivial
 | [],d::S,_,_,h,_=>by grind
 | c::e,[],_,_,h,_=>by grind
 | c::e,d::S,f,B,h,g=>by
  simp at h;obtain⟨v,i,r,Q,rfl,rfl,a,b⟩:=au g;exact⟨(mn h.1 a).1,zF h.2 b⟩
theorem ay.afm {g:FuncId} {b:List ac} {s:Heap} {u m:Nat} {c:List ac} {ds:List ak} {t:Heap} (F:ay P G g b s u (XQ ⟨.agg c,t,m⟩)) (D:c.map dK=ds.map some) :
  ay P G g b s u (XQ ⟨.dat (.agg ds),t,m⟩):=by
 intro w R N d j H z A I n o J C;refine (F w R N d j H z A I n o J C).mono ?_;rintro e M ⟨L,v,a,r,y,x,B,f,rfl,⟨rfl,rfl,rfl⟩,p,l,h,i,k,E⟩;obtain⟨K,rfl,q⟩:=p;exact⟨_,_,_,_,y,x,[],f,rfl,⟨rfl,rfl,rfl⟩,bQ ⟨K,rfl,zF D q⟩,l,(List.nodup_append.1 h).2.1,i,k,E⟩
end
end Go.Tp
namespace Go.Tp
open Go.ChangeShapes Go.WideShapes
def intD (x:Int):ak:=.flat (.int .i64 x)
theorem X2 {x:Int} (h:(Lit.int .i64 x).wf=true):-9223372036854775808<=x/\x < 9223372036854775808:=by
 have a:decide (-9223372036854775808<=x)=true/\decide (x<=9223372036854775807)=true:=(Bool.and_eq_true _ _).mp h;grind
theorem Dq {H:Type} {F:TypeId×Value->H} {P:Program} {W:World} {w:Nat} {sp:Nat->Bool} {z:Bool} {t e:TypeId} {v:Value} {d:DataW H} {ps:List MemPlace} (N:Name->Option Nat)
  (T:P.underlying t=some (.slice e)) (R:P.underlying e=some (.int .i64)) (Q:P.cellsOf e=1) (V:v.cells=#[v]) (h:DataW.Trod F P W w sp z t v d ps) :
  ∃l:List Int,((d=.nil/\l=[])∨(∃y E,d=.slice y E/\y.length=l.length))/\(∀x∈l,-9223372036854775808<=x/\x < 9223372036854775808)/\(l.length<=lim->ai W xl N (.dat (.slice (l.map intD))) v []):=by
 obtain⟨J,S⟩:=h
 rcases open_ints T R Q S with⟨m,X⟩|⟨a,f,r,q,m,_,U,hm,Z,X,K,L⟩
 ·rw[V] at m;simp only[List.cons.injEq,and_true] at m;have u:v=.slice none 0 0:=by simpa using m
  subst u;refine⟨[],.inl ⟨?_,rfl⟩,by simp,fun _=>bQ (d:=.slice []) (.nil none 0)⟩;simp only[Prod.mk.injEq] at X;exact X.1
 rw[V] at m;have u:v=.slice (some a) f r:=by simpa using m
 subst u;simp only[Prod.mk.injEq] at X;have Y:f<=q.length:=by rw[Z];split <;> omega
 refine⟨q.take f,.inr ⟨_,_,X.1,by simp[lits]⟩,fun x X=>X2 (L x (List.mem_of_mem_take X)),fun O=>?_⟩;have A:(q.take f).length=f:=by rw[List.length_take];omega
 rw[A] at O;refine bQ (d:=.slice _) ?_
 cases k:f with
 | zero=>
  rw[k] at U;simp only[List.take_zero,List.map_nil];exact .nil (some a) r
 | succ k0=>
  have p:a.spot=none:=by
   have:=K 0 (by omega)
   have:=World.cell?_spot this
   simpa [Addr.add] using this
  obtain⟨b,C,M⟩:=a;simp only at p;subst p;rw[←k];have I:((q.take f).map intD).length=f:=by rw[List.length_map,A]
  have n:eU W xl (.slice (some ⟨b,C,none⟩) ((q.take f).map intD).length r) (.slice ((q.take f).map intD)):=by
   refine .slice b C r 1 _ (fun i _=>.int .i64 (q.getD i 0)) (by omega) ?_ (by omega) (by omega) ?_ ?_
   ·intro d D;obtain⟨x,_,rfl⟩:=List.mem_map.1 D;rfl
   ·intro i j G hj;obtain rfl:j=0:=by omega
    rw[I] at G;refine⟨?_,fun h=>h⟩
    have:=K i (by omega)
    simp only[Addr.add] at this;simp only[Nat.mul_one,Nat.add_zero]
    split at this
    ·rename_i o;subst o;exact this
    exact this
   intro i j d c D s;rw[List.getElem?_map] at D
   cases g:(q.take f)[i]? with
   | none=>rw[g] at D;simp at D
   | some x=>
    rw[g] at D;simp at D;subst D
    have:c=.flat (.int .i64 x):=by
     cases j with
     | zero=>simp[intD,ak.cells] at s;exact s.symm
     | succ j=>simp[intD,ak.cells] at s
    subst this;have B:q[i]?=some x:=by
     rw[List.getElem?_take] at g
     split at g
     ·exact g
     simp at g
    have:q.getD i 0=x:=by simp[List.getD,B]
    rw[this];exact .flat (L x (List.mem_of_getElem? B))
  rw[I] at n;exact n
theorem wz {P:Program} {G:bA} {f:FuncId} {l:List ac} {args:List Value} {b:Bool} {r:eX} (W:World) (A:ah W xl (outs fun _=>none) l args []) (h:ay P G f l [] 0 (XQ r)) (R:r.val=bv b) (p:∀g c,G g=some c->aed W xl g c) :
  Calls P f args.toArray W fun e a=>e=.returned (.bool b)/\W.keptBut a (fun _=>False)/\∀i,i < W.heap.size->a.heap[i]?=W.heap[i]?:=by
 refine (h W xl (fun _=>none) args [] [] [] A rfl (by simp) (by intro o b h;simp at h) p (by simp)).mono ?_;rintro e a ⟨v,u,d,j,t,s,n,m,rfl,⟨rfl,_,_⟩,V,_,_,_,k,_⟩;rw[R] at V;obtain⟨_,rfl,_⟩:=aC V;exact⟨rfl,xY k.step,fun i q=>(k.step.block i q (fun _ h=>h)).1⟩
theorem yL {H:Type} {e:TypeId×Value->H} {P:Program} {W g:World} {c:Nat} {k:Nat->Bool} {D:Bool} (f:∀i,i < W.heap.size->g.heap[i]?=W.heap[i]?):∀{m:List TypeId} {q:List Value} {S:List (DataW H)} {j:List MemPlace},
  DataW.TrodAll e P W c k D m q S j->DataW.TrodAll e P g c k D m q S j
 | [],_,_,_,h=>by
  obtain⟨rfl,rfl,rfl⟩:=trodAll_nil h;exact trodAll_mk0
 | _::_,_,_,_,h=>by
  obtain⟨v,u,d,r,a,b,rfl,rfl,rfl,⟨n,N⟩,s⟩:=trodAll_cons h;refine⟨a,b,⟨n,DataW.trod_carry n _ _ _ N (fun p t=>?_)⟩,yL f s,rfl⟩;have l:=DataW.trod_lt n _ _ _ N p t
  cases p with
  | cell b o=>exact World.cell?_of_block (w:=W) (f b l)
  | map b=>exact f b l
end Go.Tp
