/- Part 4 of what the last text proves. -/
import Derived.Deep.Slices
import Derived.ChangeSame
import Derived.LaidLaws
import Derived.RowKit
import Derived.KernelRfl
import Derived.Test.YtmpmgmmcaghacaaGreatDoorQ03
set_option linter.unusedVariables false
set_option linter.unusedSimpArgs false
open Int (ofNat)
set_option maxRecDepth 100000
set_option maxHeartbeats 4000000
namespace Go.Tp
inductive Qy (α:Type):Type where
 |fin (a:α)
 |fail
 |bool (t:Nat) (b:Bool) (k:Bool->Qy α)
 |out (t:Nat) (o:Option Out) (k:Out->Qy α)
 |res (g:FuncId) (args:List ac) (heap:Heap) (next:Nat) (k:eX->Qy α)
 |stay (h h':Heap) (k:Qy α)
 |loop (n:Nat) (c:Code) (f:ab) (k:Exit×ab->Qy α)
 |both (a b:Qy α)
section
variable (P:Program) (G:bA) {α:Type} (T:α->Prop)
def Qy.tg:Qy α->Prop
 | .fin a=>T a
 | .fail=>False
 | .bool _ b k=>(k b).tg
 | .out _ o k=>∃x,o=some x/\(k x).tg
 | .res g d i j k=>ay P G g d i j (fun v h m=>nH v->yc h->(k ⟨v,h,m⟩).tg)
 | .stay h p k=>Sk h p/\k.tg
 | .loop n c f k=>cL P G (.loop c) (fun e s=>∃l,s=l.al n/\(k (e,l)).tg) (f.al n)
 | .both a b=>a.tg/\b.tg
end
def Gf (o:Oper):Nat:=
 match o.dst with
 | some t=>t
 | none=>(match o.op with
  | .store _ (.tmp u) _=>100000+u
  | .mapUpdate _ (.tmp u) _ _=>100000+u
  | .insert _ (.tmp u) _ _=>100000+u
  | .call c=>(match c.args.toList with|.tmp u::_=>100000+u|_=>0)
  | _=>0)
section
variable {α:Type} (A B:Nat->Bool) (E:bz) (G:bA) (H:Hints) (n:Nat)
noncomputable def vG (d:Option Tmp) (f:ab) (k:ab->Qy α):Qy α:=
 match d with
 | none=>k f
 | some t=>(match A t with
  | true=>(match rK n f t with
   | .dat (.flat (.bool b))=>.bool t b (fun b=>k (iW f (some t) (.dat (.flat (.bool b)))))
   | _=>k f)
  | false=>k f)
def oJ (k:Option Name) (out:Out):Option aL:=
 match out with
 | ⟨_,b⟩=>match b with
  | .grow a _ _=>some a
  | .set a=>(match k with
   | some (.out _)=>some a
   | _=>none)
  | _=>none
noncomputable def AV (o:Oper) (k:Option Name) (f:ab) (out:Out):Option ab:=
 match out with
 | ⟨_,h⟩=>match h with
  | .grow d i e=>(match f with
   | ⟨g,c,b,a⟩=>match k with
    | some (.loc j)=>some (iW ⟨g,qL (.loc j) c,(.out a,d)::b,a+1⟩ o.dst (.win (.out a) i 0 e))
    | some (.out j)=>some (iW ⟨g,c,(.out a,d)::qL (.out j) b,a+1⟩ o.dst (.win (.out a) i 0 e))
    | none=>some (iW ⟨g,c,(.out a,d)::b,a+1⟩ o.dst (.win (.out a) i 0 e)))
  | .set d=>(match f with
   | ⟨g,c,b,a⟩=>match k with
    | some (.out j)=>(match out with|⟨l,_⟩=>some (iW ⟨g,c,qG (.out j) d b,a⟩ o.dst l))
    | _=>none)
  | _=>none
theorem M5 {o:Oper} {k:Option Name} {f g:ab} {c:Out} {m:aL} (a:oJ k c=some m) (b:bh m=true) (h:AV o k f c=some g):ly o k f c=some g:=by
 obtain⟨p,d⟩:=c;obtain⟨q,j,i,l⟩:=f
 cases d with
 | grow e r n=>
  simp only[oJ,Option.some.injEq] at a;subst a
  rcases k with _|⟨_|_⟩ <;> simp only[AV] at h <;> simp only[ly,b,if_true] <;> exact h
 | set e=>
  rcases k with _|⟨_|_⟩
  all_goals grind[oJ,AV,ly,api]
 | _=>grind[oJ]
noncomputable def FZ (q a:Bool) (o:Oper) (f:ab) (k:ab->Qy α):Qy α:=
 match B (Gf o) with
 | true=>.out (Gf o) (jE E a o.op (H0 G n f (kp q o.op) 0 (opsL o.op)) (rq f o.op (H0 G n f (kp q o.op) 0 (opsL o.op))))
   (fun out=>match oJ (looks o.op (H0 G n f (kp q o.op) 0 (opsL o.op))) out with
    | some d=>.bool (Gf o+500000) (bh d) (fun b=>match b with
     | true=>(match AV o (looks o.op (H0 G n f (kp q o.op) 0 (opsL o.op))) (uK n f (kp q o.op) (opsL o.op)) out with
      | some c=>vG A n o.dst c k
      | none=>.fail)
     | false=>.fail)
    | none=>(match ly o (looks o.op (H0 G n f (kp q o.op) 0 (opsL o.op))) (uK n f (kp q o.op) (opsL o.op)) out with
     | some c=>vG A n o.dst c k
     | none=>.fail))
 | false=>(match xp E G n q a o f with
  | some c=>vG A n o.dst c k
  | none=>.fail)
noncomputable def Pc (a:List Oper) (o:Oper) (f:ab) (k:ab->Qy α):Qy α:=
 match gW n a f o.guard with
 | none=>.fail
 | some b=>match b with
  | true=>
   (match lK o.op with
    | some c=>(match ru E G H n c f with
     | some (g,d,e)=>.res g d e.heap e.next (fun r=>vG A n o.dst (uM e r o.dst) k)
     | none=>.fail)
    | none=>FZ A B E G n (readOnly H.moves a o) (lQ H a o) o f k)
  | false=>k (iW f o.dst (.tup []))
noncomputable def O9 (a:List Oper) (b:List Oper):ab->(ab->Qy α)->Qy α:=
 @List.rec Oper (fun _=>ab->(ab->Qy α)->Qy α) (fun f k=>k f) (fun o _ d f k=>Pc A B E G H n a o f (fun c=>d c k)) b
noncomputable def zU (d:Bool) (c:List Oper) (o:Oper) (f:ab) (k:ac->Qy α):Qy α:=
 match B (Gf o) with
 | true=>(match gW n c f o.guard with
  | none=>.fail
  | some b=>match b with
   | true=>(match oE o.op with
    | true=>(match jE E false o.op [] none with|some _=>k .undef|none=>.fail)
    | false=>(match lK o.op with
     | some _=>.fail
     | none=>(match jf o.op&&qk d (looks o.op (H0 G n f none 0 (opsL o.op))) with
      | true=>.out (Gf o) (jE E false o.op (H0 G n f none 0 (opsL o.op)) (rq f o.op (H0 G n f none 0 (opsL o.op)))) (fun out=>match out with|⟨v,.keep⟩=>k v|_=>.fail)
      | false=>.fail)))
   | false=>k (.tup []))
 | false=>(match qt E G n d c o f with
  | some a=>k a
  | none=>.fail)
noncomputable def Pb (i:Bool) (l:List Nat) (d:List Oper) (o:Oper) (f:ab) (k:ab->Qy α):Qy α:=
 match gW n d f o.guard with
 | none=>.fail
 | some b=>match b with
  | true=>
   (match lK o.op with
    | some c=>(match ny E G H n c f with
     | some (g,e,h)=>(match hO H o with
      | true=>.res g e [] h.next (fun r=>match r with
       | ⟨v,[],m⟩=>vG A n o.dst (uM h ⟨v,h.heap,m⟩ o.dst) k
       | _=>.fail)
      | false=>.res g e h.heap h.next (fun r=>match mK H o with
       | true=>.stay h.heap r.heap (vG A n o.dst (uM h r o.dst) k)
       | false=>vG A n o.dst (uM h r o.dst) k))
     | none=>.fail)
    | none=>(match fk o.op with
     | some t=>(match mf n i d (gk d t (wg n l t f)) f with
      | some j=>FZ A B E G n false false o j k
      | none=>.fail)
     | none=>(match iI o.op with
      | true=>FZ A B E G n (readOnly H.moves d o) (lQ H d o) o f k
      | false=>zU B E G n i d o f (fun a=>vG A n o.dst (iW f o.dst a) k))))
  | false=>k (iW f o.dst (.tup []))
noncomputable def My (h:List Nat) (d:Bool) (g:Nat->Bool) (b:List Oper) (l:List (Nat×Bool)):ab->(ab->Qy α)->Qy α:=
 @List.rec (Nat×Bool) (fun _=>ab->(ab->Qy α)->Qy α) (fun f k=>k f) (fun p _ e f k=>
  match b[p.1]? with
  | none=>.fail
  | some o=>match p.2 with
   | true=>Pb A B E G H n d h b o f (fun c=>e c k)
   | false=>zU B E G n (d||g p.1) b o f (fun a=>vG A n o.dst (iW f o.dst a) (fun c=>e c k))) l
def KK (F:Nat->Qy α):Nat->List Nat->Qy α
 | i,[]=>F i
 | i,j::l=>.both (F i) (KK F j l)
noncomputable def arW (b:List Oper):Nat->Array Bool->ab->(ab->Qy α)->Qy α
 | 0,a,f,k=>(match Region.ready .any b.toArray a with
  | []=>k f
  | _=>.fail)
 | m+1,a,f,k=>(match Region.ready .any b.toArray a with
  | []=>k f
  | i::l=>KK (fun i=>match b[i]? with
   | some o=>Pc A B E G H n b o f (fun c=>arW b m (bK a i) c k)
   | none=>.fail) i l)
noncomputable def arU (h:aw) (b:List Oper) (p:Array Bool):Nat->Array Bool->ab->(ab->Qy α)->Qy α
 | 0,a,f,k=>(match rL a.toList p.toList with
  | true=>k f
  | false=>.fail)
 | m+1,a,f,k=>(match rL a.toList p.toList with
  | true=>.fail
  | false=>(match Region.ready .any b.toArray a with
   | []=>.fail
   | i::l=>KK (fun i=>match h.pre.contains (i,true) with
    | true=>(match b[i]? with
     | some o=>Pb A B E G H n (aK H b h.pre) h.tk b o f (fun c=>arU h b p m (bK a i) c k)
     | none=>.fail)
    | false=>.fail) i l))
noncomputable def Ph (a:List Oper) (h:aw) (f:ab) (k:ab->Qy α):Qy α:=
 match gz h with
 | true=>arW A B E G H n a a.length (Array.replicate a.length false) f k
 | false=>(match gP h with
  | true=>My A B E G H n (aar h).tk (aK H a (aar h).pre) (quietAt H a (aar h).pre) a (lA (aar h).pre) f (fun b=>
    arU A B E G H n (aar h) a (eR (aar h).pre (Array.replicate a.length false)) ((aar h).pre.length - (lA (aar h).pre).length) (eR (lA (aar h).pre) (Array.replicate a.length false)) b (fun d=>
     match oM E n a (aar h).nw d with
     | some c=>O9 A B E G H n a (dZ a (aar h).tail) c k
     | none=>.fail))
  | false=>My A B E G H n h.tk (aK H a h.pre) (quietAt H a h.pre) a h.pre f (fun b=>
    match oM E n a h.nw b with
    | some c=>O9 A B E G H n a (dZ a h.tail) c k
    | none=>.fail))
def vx:Sl->List Name
 | []=>[]
 | p::r=>Qj p.2++vx r
def acd (m:Name):List Name->Bool
 | []=>false
 | x::r=>match tX x m with|true=>true|false=>acd m r
def Gg (l:List Name):Heap->Heap
 | []=>[]
 |(m,o)::r=>match acd m l with|true=>(m,o)::Gg l r|false=>Gg l r
def ae4 (f:ab):ab:=
 match f with
 | ⟨d,[],a,c⟩=>⟨d,[],a,c⟩
 | ⟨d,p::b,a,c⟩=>⟨d,Gg (Bf (p::b) (p::b).length (tb (vx d) [])) (p::b),a,c⟩
def X5:FuncId:=4000000
def JM (a:FuncId->Bool) (f:ab):ab:=match a X5 with|true=>ae4 f|false=>f
noncomputable def yk (a:Nat->Nat) (id:Nat) (b:Array Oper) (c:Bool) (f:ab) (k:ab->Qy α):Qy α:=
 match c with
 | true=>Ph A B E G H n b.toList (H.ord id) f (fun d=>match aeN n (a id) (iL d (fun l=>eE l (a id))) with|some e=>k (JM H.caps e)|none=>.fail)
 | false=>O9 A B E G (H.at id) n b.toList b.toList f (fun d=>match aeN n (a id) (iL d (fun l=>eE l (a id))) with|some e=>k (JM H.caps e)|none=>.fail)
noncomputable def tL (d:Nat->Nat) (c:Code):ab->(Exit×ab->Qy α)->Qy α:=
 Code.rec (motive:=fun _=>ab->(Exit×ab->Qy α)->Qy α)
  (skip:=fun f k=>k (.normal,f))
  (region:=fun id j a f k=>yk A B E G H n d id j a f (fun f=>k (.normal,f)))
  (seq:=fun _ _ x h f k=>x f (fun r=>match r with
   |(.normal,e)=>h e k
   | r=>k r))
  (cond:=fun c _ _ x h f k=>(match py G n f c with
   | .dat (.flat (.bool b))=>(match b with|true=>x f k|false=>h f k)
   | _=>.fail))
  (block:=fun id _ g f k=>g f (fun r=>match r with
   |(.exit i,e)=>(match Nat.beq i id with|true=>k (.normal,e)|false=>k (.exit i,e))
   | r=>k r))
  (loop:=fun c _ f k=>.loop n c f k)
  (rangeFunc:=fun _ _ _ _ _ _ _ _=>.fail)
  (exit:=fun id f k=>k (.exit id,f))
  (scope:=fun _ g f k=>g f (fun r=>match r with
   |(.goto _,_)=>.fail
   | r=>k r))
  (label:=fun _ f k=>k (.normal,f))
  (goto:=fun _ _ _=>.fail)
  (ret:=fun f k=>k (.ret,f))
  (refuse:=fun _ _ _=>.fail) c
end
noncomputable def Pf (A B:Nat->Bool) (E:bz) (G:bA) (d c:FuncId->Bool) (x:qS) (g:FuncId) (b:List ac) (e:Heap) (a:Nat):Qy eX:=
 match Nat.ble b.length x.ntmps with
 | false=>.fail
 | true=>tL A B E G ⟨d,x.ord,c,rowsOf c g⟩ x.ntmps x.live x.code ⟨rG 0 b,[],e,a⟩ (fun r=>match r with
  |(.ret,f)=>(match sU E x.ntmps x.results f with|some r=>.fin (M0 a r)|none=>.fail)
  |(.normal,f)=>(match sU E x.ntmps x.results f with|some r=>.fin (M0 a r)|none=>.fail)
  | _=>.fail)
section
variable {P:Program} {E:bz} {G:bA} {H:Hints} {n:Nat} {α:Type} {A B:Nat->Bool} {T:α->Prop}
variable {f:ab} {o:Oper}
theorem wH {g:List Oper} {K i:aa->Prop} {s:aa} (k:∀s,K s->i s) (h:mT (ay P G) E G H g o K s):mT (ay P G) E G H g o i s:=by
 unfold mT at h ⊢
 split
 ·grind
 rename_i b q;simp only[q] at h
 split
 ·rename_i d;simp only[d,if_true] at h
  split
  ·rename_i c e;simp only[e] at h
   split
   ·rename_i f j r A;simp only[A] at h;exact h.mono fun v l n p a m=>k _ (p a m)
   grind
  grind
 grind
def vg (P:Program) (G:bA) (n:Nat) (T:α->Prop) (k:ab->Qy α) (s:aa):Prop:=∃a,s=a.al n/\(k a).tg P G T
theorem km {d:Option Tmp} {k:ab->Qy α} (h:(vG A n d f k).tg P G T):vg P G n T k (f.al n):=by
 unfold vG at h
 cases d with
 | none=>exact⟨f,rfl,h⟩
 | some t=>
  dsimp only at h
  split at h
  ·split at h
   ·rename_i b c;refine⟨iW f (some t) (.dat (.flat (.bool b))),?_,h⟩;rw[eT];rw[←jC] at c;unfold aa.put;dsimp only;have a:(f.al n).tmps[t]?=some (.dat (.flat (.bool b))):=by
     grind[bq]
    rw[zx a]
   exact⟨f,rfl,h⟩
  exact⟨f,rfl,h⟩
theorem zT {q b:Bool} {k:ab->Qy α} (h:(FZ A B E G n q b o f k).tg P G T):∃i,aa4 E G q b o (f.al n)=some i/\vg P G n T k i:=by
 rw[uE];unfold FZ at h
 split at h
 ·obtain⟨e,O,h⟩:=h;dsimp only at h
  split at h
  ·rename_i g d;have h:(match bh g with
     | true=>(match AV o (looks o.op (H0 G n f (kp q o.op) 0 (opsL o.op))) (uK n f (kp q o.op) (opsL o.op)) e with
      | some c=>vG A n o.dst c k
      | none=>.fail)
     | false=>.fail:Qy α).tg P G T:=h
   cases N:bh g with
   | false=>rw[N] at h;exact h.elim
   | true=>
    rw[N] at h;dsimp only at h
    split at h
    ·rename_i c a;refine⟨c.al n,?_,km h⟩;grind[xp,Ez,M5]
    exact h.elim
  split at h
  ·rename_i c a;refine⟨c.al n,?_,km h⟩;grind[xp,Ez]
  exact h.elim
 split at h
 ·rename_i c a;exact⟨c.al n,by grind,km h⟩
 exact h.elim
theorem KI {e:List Oper} {k:ab->Qy α} (h:(Pc A B E G H n e o f k).tg P G T):mT (ay P G) E G H e o (vg P G n T k) (f.al n):=by
 unfold Pc at h;unfold mT;rw[lx]
 cases l:gW n e f o.guard with
 | none=>rw[l] at h;exact h.elim
 | some b=>
  rw[l] at h
  cases b with
  | false=>
   dsimp only at h ⊢;exact⟨_,by rw[eT],h⟩
  | true=>
   dsimp only at h ⊢;cases j:lK o.op with
   | none=>
    grind[zT]
   | some c=>
    rw[j] at h;dsimp only at h ⊢;rw[AY]
    cases d:ru E G H n c f with
    | none=>rw[d] at h;exact h.elim
    | some x=>
     obtain⟨g,i,s⟩:=x;rw[d] at h;dsimp only[Option.map_some] at h ⊢;refine ay.mono h ?_;intro v t m q r Q
     have:=km (q r Q)
     rw[aeO] at this;exact this
theorem ym {a:List Oper} {k:ab->Qy α}:∀{b:List Oper} {f:ab},(O9 A B E G H n a b f k).tg P G T->mS (ay P G) E G H a (vg P G n T k) b (f.al n)
 | [],f,h=>⟨f,rfl,h⟩
 | o::c,f,h=>by
  simp only[mS,iT];refine wH ?_ (KI h);rintro s ⟨e,rfl,d⟩;exact ym d
theorem CD {g:Bool} {c:List Oper} {k:ac->Qy α} (h:(zU B E G n g c o f k).tg P G T):∃a,qt E G n g c o f=some a/\(k a).tg P G T:=by
 unfold zU at h
 split at h
 ·unfold qt
  split at h
  ·exact h.elim
  rename_i b j;rw[j];dsimp only
  cases b with
  | false=>grind
  | true=>
   rw[if_pos rfl];dsimp only at h
   split at h
   ·rename_i d;split at h
    ·grind
    exact h.elim
   rename_i d;split at h
   ·exact h.elim
   rename_i e;split at h
   ·rename_i i;obtain⟨l,O,h⟩:=h;dsimp only at h ⊢
    split at h
    ·grind
    exact h.elim
   exact h.elim
 split at h
 ·grind
 exact h.elim
theorem KH {u:Bool} {y:List Nat} {e:List Oper} {k:ab->Qy α} (h:(Pb A B E G H n u y e o f k).tg P G T):KV (ay P G) E G H u y e o (vg P G n T k) (f.al n):=by
 unfold Pb at h;unfold KV;rw[lx]
 cases I:gW n e f o.guard with
 | none=>rw[I] at h;exact h.elim
 | some b=>
  rw[I] at h
  cases b with
  | false=>
   dsimp only at h ⊢;exact⟨_,by rw[eT],h⟩
  | true=>
   dsimp only at h ⊢;cases C:lK o.op with
   | none=>
    rw[C] at h;dsimp only at h ⊢
    cases F:fk o.op with
    | none=>
     rw[F] at h;dsimp only at h ⊢
     cases s:iI o.op with
     | false=>
      rw[s] at h;dsimp only at h ⊢;rw[wh];obtain⟨a,j,l⟩:=CD h;rw[j];dsimp only;rw[←eT];exact km l
     | true=>
      rw[s] at h;dsimp only at h ⊢;obtain⟨L,j,l⟩:=zT h;rw[j];exact l
    | some t=>
     rw[F] at h;dsimp only at h ⊢;rw[C4]
     cases w:mf n u e (gk e t (wg n y t f)) f with
     | none=>rw[w] at h;exact h.elim
     | some M=>
      rw[w] at h;rw[oL n u e _ _ _ w];dsimp only at h ⊢;obtain⟨L,j,l⟩:=zT h;rw[j];exact l
   | some c=>
    rw[C] at h;dsimp only at h ⊢;rw[xz]
    cases i:ny E G H n c f with
    | none=>rw[i] at h;exact h.elim
    | some x=>
     obtain⟨g,z,N⟩:=x;rw[i] at h;dsimp only[Option.map_some] at h ⊢
     cases p:hO H o with
     | true=>
      rw[p] at h;dsimp only at h ⊢;refine ay.mono h ?_;intro v D m d r Q;have d:=d r Q;dsimp only at d
      cases D with
      | nil=>
       dsimp only at d
       have:=km d
       rw[aeO] at this;exact⟨rfl,this⟩
      | cons _ _=>exact d.elim
     | false=>
      rw[p] at h;dsimp only at h ⊢;refine ay.mono h ?_;intro v D m d r Q;have d:=d r Q
      cases q:mK H o with
      | true=>
       rw[q] at d;dsimp only at d;obtain⟨J,K⟩:=d
       have:=km K
       rw[aeO] at this;exact⟨fun _=>J,this⟩
      | false=>
       rw[q] at d;dsimp only at d
       have:=km d
       rw[aeO] at this;exact⟨fun X=>by simp at X,this⟩
theorem Mx {g:List Nat} {d:Bool} {e:Nat->Bool} {b:List Oper} {i:Nat} {lone:Bool} {c:List (Nat×Bool)} {k:ab->Qy α}:My A B E G H n g d e b ((i,lone)::c) f k=(match b[i]? with
  | none=>.fail
  | some o=>match lone with
   | true=>Pb A B E G H n d g b o f (fun h=>My A B E G H n g d e b c h k)
   | false=>zU B E G n (d||e i) b o f (fun a=>vG A n o.dst (iW f o.dst a) (fun h=>My A B E G H n g d e b c h k))):=rfl
theorem yl {r:List Nat} {j:Bool} {m:Nat->Bool} {c:List Oper} {k:ab->Qy α} {K:aa->Prop} (g:∀s,vg P G n T k s->K s):∀{l:List (Nat×Bool)} {f:ab},(My A B E G H n r j m c l f k).tg P G T->mu (ay P G) E G H r j m c K l (f.al n)
 | [],f,h=>g _ ⟨f,rfl,h⟩
 |(i,lone)::q,f,h=>by
  rw[Mx] at h;simp only[mu,iT]
  cases p:c[i]? with
  | none=>rw[p] at h;exact h.elim
  | some o=>
   rw[p] at h
   cases lone
   ·dsimp only at h ⊢;rw[if_neg (by simp),wh];obtain⟨a,u,b⟩:=CD h;rw[u];dsimp only;rw[←eT];obtain⟨t,e,d⟩:=km b;rw[e];exact yl g d
   refine qc ?_ (KH h);rintro s ⟨t,rfl,d⟩;exact yl g d
theorem zV {F:Nat->Qy α}:∀{l:List Nat} {i:Nat},(KK F i l).tg P G T->∀j∈i::l,(F j).tg P G T
 | [],i,h,j,c=>by simp at c;subst c;exact h
 | x::l,i,h,j,c=>by
  obtain⟨a,b⟩:=h
  rcases List.mem_cons.1 c with rfl|c
  ·grind
  exact zV b j c
theorem arV {c:List Oper} {k:ab->Qy α}:∀(m:Nat) (b:Array Bool) (f:ab),(arW A B E G H n c m b f k).tg P G T->afz (ay P G) E G H c (vg P G n T k) m b (f.al n)
 | 0,b,f,h=>by
  simp only[arW] at h
  split at h
  ·rename_i d;exact⟨d,f,rfl,h⟩
  exact h.elim
 | m+1,b,f,h=>by
  simp only[arW] at h;split at h
  ·rename_i d;exact .inl ⟨d,f,rfl,h⟩
  rename_i i l d;refine .inr ⟨by grind,?_⟩;rw[d];intro j p;have a:=zV h j p
  split at a
  ·rename_i o O;refine⟨o,O,wH ?_ (KI a)⟩;rintro s ⟨e,rfl,g⟩;exact arV m _ e g
  exact a.elim
theorem Bx {b:List Oper} {Q d:aa->Prop} (c:∀s,Q s->d s):∀(m:Nat) (a:Array Bool) (s:aa),afz (ay P G) E G H b Q m a s->afz (ay P G) E G H b d m a s
 | 0,a,s,h=>⟨h.1,c _ h.2⟩
 | m+1,a,s,h=>by
  rcases h with h|h
  ·exact .inl ⟨h.1,c _ h.2⟩
  refine .inr ⟨h.1,fun i f=>?_⟩;obtain⟨o,O,e⟩:=h.2 i f;exact⟨o,O,wH (fun s g=>Bx c m _ s g) e⟩
theorem arT {h:aw} {d:List Oper} {p:Array Bool} {k:ab->Qy α} {K:aa->Prop} (r:∀s,vg P G n T k s->K s):∀(m:Nat) (b:Array Bool) (f:ab),(arU A B E G H n h d p m b f k).tg P G T->wI (ay P G) E G H h d p K m b (f.al n)
 | 0,b,f,c=>by
  simp only[arU] at c
  split at c
  ·rename_i q;exact⟨Array.ext' (kS.1 q),r _ ⟨f,rfl,c⟩⟩
  exact c.elim
 | m+1,b,f,c=>by
  simp only[arU] at c
  split at c
  ·exact c.elim
  rename_i g
  split at c
  ·exact c.elim
  rename_i i l q;refine⟨fun e=>?_,by grind,fun j t=>?_⟩
  ·grind[kS]
  rw[q] at t;have a:=zV c j t
  split at a
  ·rename_i w;refine⟨by grind,?_⟩
   split at a
   ·rename_i o O;refine⟨o,O,qc ?_ (KH a)⟩;rintro s ⟨u,rfl,v⟩;exact arT r m _ u v
   exact a.elim
  exact a.elim
theorem Pg {c:List Oper} {h:aw} {k:ab->Qy α} (b:(Ph A B E G H n c h f k).tg P G T):Bz (ay P G) E G H c h (vg P G n T k) (f.al n):=by
 unfold Ph at b;unfold Bz
 cases X:gz h with
 | true=>
  rw[X] at b;refine Bx ?_ _ _ _ (arV _ _ _ b);intro s q;exact⟨s,q,fun w R N l Z U g z p=>⟨N,Z,U,g,p,fun _ _ _ h=>h⟩⟩
 | false=>
  rw[X] at b;cases e:gP h with
  | true=>
   rw[e] at b;refine yl ?_ b;rintro s ⟨j,rfl,a⟩;refine arT ?_ _ _ _ a;rintro s ⟨m,rfl,o⟩;dsimp only at o
   split at o
   ·rename_i i d;rw[kz E n c _ m i d];exact ym o
   exact o.elim
  | false=>
   rw[e] at b;refine yl ?_ b;rintro s ⟨j,rfl,a⟩;dsimp only at a
   split at a
   ·rename_i i d;rw[kz E n c _ j i d];exact ym a
   exact a.elim
theorem me (f:ab) (m:Nat):gF G (f.al n) ((iL f (fun l=>eE l m)).al n):=by
 intro w R N b Z U H z c;obtain⟨a,d⟩:=c.prune m;grind[aZ]
theorem CP {w:World} {R:Own} {M:Name->Option Nat} (l:List Name):∀{c:Heap} {B:List Nat},aj w R M c B->∃a,aj w R M (Gg l c) a/\a.Sublist B
 | [],B,h=>⟨B,h,.refl _⟩
 |(m,o)::c,_,⟨b,r,Q,e,N,O,d⟩=>by
  subst e;obtain⟨a,f,K⟩:=CP l d;simp only[Gg]
  split
  ·exact⟨b::(r++a),⟨b,r,a,rfl,N,O,f⟩,(List.Sublist.append (.refl _) K).cons_cons _⟩
  grind
theorem MW (c:FuncId->Bool) (f:ab):gF G (f.al n) ((JM c f).al n):=by
 unfold JM
 split
 ·obtain⟨k,a,e,g⟩:=f
  cases a with
  | nil=>exact gF.refl _ _
  | cons p a=>
   intro w R N i Z U H z b;obtain⟨d,j,K⟩:=CP (Bf (p::a) (p::a).length (tb (vx k) [])) b.locs;refine⟨R,N,Z,d,H,⟨aJ _,b.tmps,j,b.heap,?_,b.next,b.glob,b.frame⟩,aZ _,fun _ _ h=>h⟩;refine List.Nodup.sublist ?_ b.nodup;grind
 grind[gF.refl]
theorem iU {c:Code} {s:aa} {Q n:Exit->aa->Prop} (h:cL P G c Q s) (J:∀e t,Q e t->∃d,gF G t d/\n e d):cL P G c n s:=by
 intro w R N f Z U H z E D A;refine lp (h w R N f Z U H z E A) ?_;rintro e a S ⟨I,M,L,r,q,p,C,l,i,B,y⟩;obtain⟨d,J,k⟩:=J e I C;obtain⟨v,u,K,F,x,m,j,g⟩:=J _ _ _ _ _ _ _ _ l;exact⟨d,v,u,K,F,x,k,m,i,B.trans j,fun o b O=>g o b (y o b O)⟩
theorem IC (W:E.Ok P) {c:Nat->Nat} {id:Nat} {j:Array Oper} {d:Bool} {k:ab->Qy α} (u:dh H (.region id j d)=true) (h:(yk A B E G H n c id j d f k).tg P G T) :
  cL P G (.region id j d) (fun e s=>e=.normal/\vg P G n T k s) (f.al n):=by
 have q:∀m,vg P G n T (fun p=>match aeN n (c id) (iL p (fun l=>eE l (c id))) with|some i=>k (JM H.caps i)|none=>.fail) m->∃o,gF G m o/\vg P G n T k o:=by
  rintro m ⟨t,rfl,a⟩;dsimp only at a
  split at a
  ·rename_i i r;exact⟨_,((me t (c id)).trans (oO G r)).trans (MW H.caps i),_,rfl,a⟩
  exact a.elim
 unfold yk at h
 cases d
 ·refine iU (uY (H:=H.at id) (Q:=fun e s=>e=.normal/\vg P G n T (fun p=>match aeN n (c id) (iL p (fun l=>eE l (c id))) with|some i=>k (JM H.caps i)|none=>.fail) s) W ?_) ?_
  ·grind[ym]
  grind
 dsimp only at h;refine iU (BB (H:=H) (Q:=fun e s=>e=.normal/\vg P G n T (fun p=>match aeN n (c id) (iL p (fun l=>eE l (c id))) with|some i=>k (JM H.caps i)|none=>.fail) s) W W.mixed (by simpa [dh] using u) ?_) ?_
 ·have:=Pg h
  simpa using this
 rintro e m ⟨rfl,a⟩;obtain⟨o,g,b⟩:=q m a;exact⟨o,g,rfl,b⟩
def aea (P:Program) (G:bA) (n:Nat) (T:α->Prop) (k:Exit×ab->Qy α) (e:Exit) (s:aa):Prop:=∃a,s=a.al n/\(k (e,a)).tg P G T
theorem arp {b:Nat->Nat} {id:Nat} {c:Array Oper} {a:Bool} {k:Exit×ab->Qy α}:tL A B E G H n b (.region id c a) f k=yk A B E G H n b id c a f (fun f=>k (.normal,f)):=rfl
theorem iE (W:E.Ok P) (g:Nat->Nat):∀(c:Code) (f:ab) (k:Exit×ab->Qy α),dh H c=true->(tL A B E G H n g c f k).tg P G T->cL P G c (aea P G n T k) (f.al n)
 | .skip,f,k,_,h=>gD amX ⟨f,rfl,h⟩
 | .region id S Q,f,k,j,h=>by
  rw[arp] at h;refine (IC W j h).mono ?_;rintro e s ⟨rfl,t,rfl,u⟩;exact⟨t,rfl,u⟩
 | .seq x y,f,k,j,h=>by
  simp only[dh,Bool.and_eq_true] at j;refine wK ?_;refine (iE W g x f (fun r=>match r with|(.normal,t)=>tL A B E G H n g y t k|r=>k r) j.1 h).mono ?_;rintro e s ⟨t,rfl,u⟩
  cases e with
  | normal=>exact iE W g y t k j.2 u
  | _=>exact⟨t,rfl,u⟩
 | .cond c x y,f,k,j,h=>by
  simp only[dh,Bool.and_eq_true] at j;intro w R N v Z U C z I D J;have h:(match py G n f c with
   | .dat (.flat (.bool b))=>(match b with|true=>tL A B E G H n g x f k|false=>tL A B E G H n g y f k)
   | _=>.fail).tg P G T:=h
  split at h
  ·rename_i b d;obtain⟨Y,M⟩:=qw I.tmps I.glob c;rw[nv,d] at M;obtain⟨_,M,_⟩:=aC M;refine aoo M ?_
   cases b
   ·exact iE W g y f k j.2 h w R N v Z U C z I J
   exact iE W g x f k j.1 h w R N v Z U C z I J
  exact h.elim
 | .block id c,f,k,j,h=>by
  intro w R N v Z U C z I D J
  apply amW
  refine lp (iE W g c f (fun r=>match r with
   |(.exit i,t)=>(match Nat.beq i id with|true=>k (.normal,t)|false=>k (.exit i,t))
   | r=>k r) j h w R N v Z U C z I J) ?_
  rintro F a X ⟨V,L,K,p,o,m,⟨t,rfl,u⟩,q⟩
  cases F with
  | exit i=>
   simp only[Exit.inBlock];dsimp only at u
   by_cases O:i=id
   ·have d:Nat.beq i id=true:=by simp_all
    rw[if_pos O];rw[d] at u;exact⟨_,L,K,p,o,m,⟨t,rfl,u⟩,q⟩
   have d:Nat.beq i id=false:=by rw[Bool.eq_false_iff];simp_all
   rw[if_neg O];rw[d] at u;exact⟨_,L,K,p,o,m,⟨t,rfl,u⟩,q⟩
  | _=>exact⟨_,L,K,p,o,m,⟨t,rfl,u⟩,q⟩
 | .exit id,f,k,_,h=>gD aon ⟨f,rfl,h⟩
 | .ret,f,k,_,h=>gD aqk ⟨f,rfl,h⟩
 | .loop c,f,k,_,h=>h
 | .rangeFunc _ _ _ _,_,_,_,h=>h.elim
 | .scope c,f,k,j,h=>by
  intro w R N v Z U C z I D J
  apply ank
  refine lp (iE W g c f (fun r=>match r with
   |(.goto _,_)=>.fail
   | r=>k r) j h w R N v Z U C z I J) ?_
  rintro F a X ⟨V,L,K,p,o,m,⟨t,rfl,u⟩,q⟩
  cases F with
  | goto l=>exact u.elim
  | _=>exact⟨_,L,K,p,o,m,⟨t,rfl,u⟩,q⟩
 | .label _,f,k,_,h=>gD aq0 ⟨f,rfl,h⟩
 | .goto _,_,_,_,h=>h.elim
 | .refuse _,_,_,_,h=>h.elim
end
structure Qy.Ok {α:Type} (P:Program) (G:bA) (T:α->Prop) (q:Qy α):Prop where
 ok:q.tg P G T
end Go.Tp
namespace Go.Tp
mutual
def fx (ρ:Nat->Nat):ac->ac
 | .ptr (.out o) d=>.ptr (.out (ρ o)) d
 | .map (.out o)=>.map (.out (ρ o))
 | .win (.out o) s d e=>.win (.out (ρ o)) s d e
 | .fn f a b=>.fn f (il ρ a) (il ρ b)
 | .agg c=>.agg (il ρ c)
 | .tup c=>.tup (il ρ c)
 | a=>a
def il (ρ:Nat->Nat):List ac->List ac
 | []=>[]
 | a::r=>fx ρ a::il ρ r
end
def pW (ρ:Nat->Nat):aL->aL
 | .cells c=>.cells (il ρ c)
 | .map a=>.map a
def wX (ρ:Nat->Nat):Name->Name
 | .out o=>.out (ρ o)
 | m=>m
def jJ (ρ:Nat->Nat):Heap->Heap
 | []=>[]
 |(m,o)::r=>(wX ρ m,pW ρ o)::jJ ρ r
section
variable {w:World} {R:Own} {M M2:Name->Option Nat} {ρ:Nat->Nat}
mutual
theorem ai.rn (g:∀i,M (.loc i)=none) (j:∀o b,M (.out o)=some b->M2 (.out (ρ o))=some b):∀{a:ac} {v:Value} {B:List Nat},ai w R M a v B->ai w R M2 (fx ρ a) v B
 | .dat _,_,_,h=>by exact h
 | .own _,_,_,h=>by exact h
 | .ref _,_,_,h=>by exact h
 | .undef,_,_,h=>by exact h
 | .ptr (.loc i) _,_,_,h=>by grind[ai]
 | .map (.loc i),_,_,h=>by grind[ai]
 | .win (.loc i) _ _ _,_,_,h=>by grind[ai]
 | .ptr (.out o) n,_,_,h=>by
  grind[fx,ai]
 | .map (.out o),_,_,h=>by
  grind[fx,ai]
 | .win (.out o) s n u,_,_,h=>by
  grind[fx,ai]
 | .fn f a b,_,_,h=>by
  obtain⟨l,d,x,e,m,t⟩:=h;exact⟨l,d,x,e,ah.rn g j m,ah.rn g j t⟩
 | .agg c,_,_,h=>by
  obtain⟨d,e,h⟩:=h;exact⟨d,e,ah.rn g j h⟩
 | .tup c,_,_,h=>by
  obtain⟨d,e,h⟩:=h;exact⟨d,e,ah.rn g j h⟩
theorem ah.rn (g:∀i,M (.loc i)=none) (j:∀o b,M (.out o)=some b->M2 (.out (ρ o))=some b):∀{as:List ac} {d:List Value} {B:List Nat},ah w R M as d B->ah w R M2 (il ρ as) d B
 | [],_,_,h=>by exact h
 | a::r,_,_,h=>by
  obtain⟨v,p,q,Q,E,F,l,m⟩:=h;exact⟨v,p,q,Q,E,F,ai.rn g j l,ah.rn g j m⟩
end
mutual
theorem ai.iC {k:Nat} (g:∀o b,o < k->M2 (.out (ρ o))=some b->M (.out o)=some b):∀{a:ac} {v:Value} {B:List Nat},iq k a=false->ai w R M2 (fx ρ a) v B->ai w R M a v B
 | .dat _,_,_,_,h=>by exact h
 | .own _,_,_,_,h=>by exact h
 | .ref _,_,_,_,h=>by exact h
 | .undef,_,_,_,h=>by exact h
 | .ptr (.loc _) _,_,_,N,_=>by grind[iq]
 | .map (.loc _),_,_,N,_=>by grind[iq]
 | .win (.loc _) _ _ _,_,_,N,_=>by grind[iq]
 | .ptr (.out o) m,_,_,N,h=>by
  grind[iq,gC,fx,ai]
 | .map (.out o),_,_,N,h=>by
  grind[iq,gC,fx,ai]
 | .win (.out o) s m t,_,_,N,h=>by
  grind[iq,gC,fx,ai]
 | .fn f a b,_,_,N,h=>by
  simp only[iq,Bool.or_eq_false_iff] at N;obtain⟨j,d,u,e,l,q⟩:=h;exact⟨j,d,u,e,ah.iC g N.1 l,ah.iC g N.2 q⟩
 | .agg c,_,_,N,h=>by
  obtain⟨d,e,h⟩:=h;exact⟨d,e,ah.iC g N h⟩
 | .tup c,_,_,N,h=>by
  obtain⟨d,e,h⟩:=h;exact⟨d,e,ah.iC g N h⟩
theorem ah.iC {k:Nat} (g:∀o b,o < k->M2 (.out (ρ o))=some b->M (.out o)=some b):∀{as:List ac} {d:List Value} {B:List Nat},gZ k as=false->ah w R M2 (il ρ as) d B->ah w R M as d B
 | [],_,_,_,h=>by exact h
 | a::r,_,_,N,h=>by
  simp only[gZ,Bool.or_eq_false_iff] at N;obtain⟨v,n,p,Q,E,F,j,l⟩:=h;exact⟨v,n,p,Q,E,F,ai.iC g N.1 j,ah.iC g N.2 l⟩
end
theorem Jv (a:ac):yw (fx ρ a)=yw a:=by
 cases a with
 | ptr n b=>cases n <;> rfl
 | map n=>cases n <;> rfl
 | win n s b c=>cases n <;> rfl
 | _=>rfl
theorem R4 (a b c:ac) (r:List ac):cd (a::b::c::r)=false:=by
 grind[cd]
theorem qE:∀(i:List ac),cd (il ρ i)=cd i
 | []=>rfl
 | [a]=>by
  simp_all[il,cd]
 | [a,b]=>by
  simp only[il]
  cases b with
  | ptr n g=>cases n <;> rfl
  | map n=>cases n <;> rfl
  | win n s g e=>cases n <;> rfl
  | own j=>grind[fx,cd,Jv]
  | dat d=>
   simp only[fx]
   cases d with
   | slice j=>grind[cd,Jv]
   | agg j=>rfl
   | flat v=>
    have h:=Jv (ρ:=ρ) a
    cases v with
    | slice p e f=>
     cases p with
     | some _=>rfl
     | none=>
      cases e with
      | succ _=>rfl
      | zero=>
       cases f with
       | succ _=>rfl
       | zero=>exact h
    | _=>rfl
  | _=>rfl
 | a::b::c::r=>by
  grind[il,R4]
theorem lf (l m:List ac):il ρ (l++m)=il ρ l++il ρ m:=by
 induction l <;> grind[il]
theorem kO:∀k:Nat,il ρ (List.replicate k .undef)=List.replicate k .undef
 | 0=>rfl
 | k+1=>by simp[List.replicate_succ,il,fx,kO k]
theorem Au (k:Nat):∀j:Nat,gZ k (List.replicate j .undef)=false
 | 0=>rfl
 | j+1=>by simp[List.replicate_succ,gZ,iq,Au k j]
theorem aI.rn (l:∀i,M (.loc i)=none) (m:∀o b,M (.out o)=some b->M2 (.out (ρ o))=some b) {o:aL} {b:Nat} {B:List Nat} (h:aI w R M o b B):aI w R M2 (pW ρ o) b B:=by
 cases o with
 | map p=>exact h
 | cells c=>
  obtain⟨n,d,e,a,k,f,g⟩:=h;refine⟨n,d,e,a,?_,f,by grind[qE]⟩
  have:=ah.rn (ρ:=ρ) l m (as:=c++List.replicate e .undef) k
  grind[lf,kO]
theorem aI.iC {k:Nat} (j:∀o b,o < k->M2 (.out (ρ o))=some b->M (.out o)=some b) {o:aL} {b:Nat} {B:List Nat} (N:BS k o=false) (h:aI w R M2 (pW ρ o) b B):aI w R M o b B:=by
 cases o with
 | map m=>exact h
 | cells c=>
  simp only[BS] at N;obtain⟨l,d,e,a,n,f,g⟩:=h;refine⟨l,d,e,a,?_,f,by grind[qE]⟩;refine ah.iC (ρ:=ρ) j (as:=c++List.replicate e .undef) (by grind[qh,Au]) ?_;grind[lf,kO]
def tZ (k:Nat):Heap->Bool
 | []=>true
 |(m,_)::r=>mb k m&&tZ k r
theorem Gh {k:Nat} {m:Name} (h:mb k m=true):∃o,m=.out o/\o < k:=by
 cases m <;> simp_all[mb]
theorem aj.rn (j:∀i,M (.loc i)=none) (c:∀o b,M (.out o)=some b->M2 (.out (ρ o))=some b):∀{k:Heap} {B:List Nat},aj w R M k B->aj w R M2 (jJ ρ k) B
 | [],_,h=>h
 |(.loc i,o)::r,_,⟨b,d,Q,e,a,g,f⟩=>by grind
 |(.out m,o)::r,_,⟨b,d,Q,e,a,g,f⟩=>⟨b,d,Q,e,c m b a,g.rn j c,aj.rn j c f⟩
theorem aj.iC {k:Nat} (d:∀o b,o < k->M2 (.out (ρ o))=some b->M (.out o)=some b):∀{c:Heap} {B:List Nat},tZ k c=true->gH k c=false->aj w R M2 (jJ ρ c) B->aj w R M c B
 | [],_,_,_,h=>h
 |(m,o)::r,_,l,N,⟨b,j,Q,e,a,n,f⟩=>by
  simp only[tZ,Bool.and_eq_true] at l;simp only[gH,Bool.or_eq_false_iff] at N;obtain⟨i,rfl,p⟩:=Gh l.1;exact⟨b,j,Q,e,d i b p a,n.iC d N.1,aj.iC d l.2 N.2 f⟩
theorem aj.append:∀{g c:Heap} {B:List Nat},aj w R M (g++c) B->∃d Q,B=d++Q/\aj w R M g d/\aj w R M c Q
 | [],c,B,h=>⟨[],B,rfl,rfl,h⟩
 |(m,o)::r,c,B,⟨b,d,Q,e,a,i,f⟩=>by
  obtain⟨p,q,F,j,K⟩:=aj.append f;subst e;subst F;exact⟨b::(d++p),q,by simp,⟨b,d,p,rfl,a,i,j⟩,K⟩
theorem aj.join:∀{g c:Heap} {d Q:List Nat},aj w R M g d->aj w R M c Q->aj w R M (g++c) (d++Q)
 | [],c,d,Q,h,k=>by
  subst h;grind
 |(m,o)::r,c,_,Q,⟨b,p,q,e,a,i,f⟩,k=>by
  subst e;exact⟨b,p,q++Q,by simp,a,i,f.join k⟩
theorem aj.perm {k g:Heap} (m:k.Perm g):∀{B:List Nat},aj w R M k B->∃d,aj w R M g d/\B.Perm d:=by
 induction m with
 | nil=>grind
 | cons x _ n=>
  intro B h;obtain⟨b,r,Q,e,a,i,f⟩:=h;obtain⟨d,j,K⟩:=n f;subst e;exact⟨b::(r++d),⟨b,r,d,rfl,a,i,j⟩,(K.append_left r).cons b⟩
 | swap x y l=>
  intro B h;obtain⟨b,r,_,e,a,i,c,p,q,F,j,K,t⟩:=h;refine⟨c::(p++(b::(r++q))),⟨c,p,_,rfl,j,K,b,r,q,rfl,a,i,t⟩,?_⟩;grind
 | trans _ _ o s=>
  grind
def hasName (o:Nat):Heap->Bool
 | []=>false
 |(.out m,_)::r=>Nat.beq m o||hasName o r
 |(.loc _,_)::r=>hasName o r
def aeQ (h:Heap):Nat->Bool
 | 0=>true
 | k+1=>hasName k h&&aeQ h k
theorem aj.named {o:Nat}:∀{os:Heap} {B:List Nat},hasName o os=true->aj w R M (jJ ρ os) B->∃b,M (.out (ρ o))=some b
 | [],_,h,_=>by grind[hasName]
 |(.out m,x)::r,_,h,⟨b,c,Q,e,a,d,f⟩=>by
  simp only[hasName,Bool.or_eq_true] at h
  rcases h with h|h
  ·have:=Nat.eq_of_beq_eq_true h
   subst this;exact⟨b,a⟩
  exact aj.named h f
 |(.loc m,x)::r,_,h,⟨b,c,Q,e,a,d,f⟩=>aj.named (os:=r) (by grind[hasName]) f
theorem qI {h:Heap}:∀{k:Nat},aeQ h k=true->∀o,o < k->hasName o h=true
 | 0,_,_,O=>by omega
 | k+1,b,o,O=>by
  simp only[aeQ,Bool.and_eq_true] at b
  rcases Nat.lt_or_ge o k with a|a
  ·exact qI b.2 o a
  grind
end
def ig (ρ:Nat->Nat) (a d o:Nat):Nat:=match Nat.blt o a with|true=>ρ o|false=>d+(o - a)
variable {P:Program} {G:bA}
theorem ay.frame {g:FuncId} {j:List ac} {I:Heap} {c:Nat} {Q:ac->Heap->Nat->Prop} (hc:ay P G g j I c Q) (ρ:Nat->Nat) {heap rest:Heap} {next:Nat}
  (hp:heap.Perm (jJ ρ I++rest)) (K:tZ c I=true) (U:gH c I=false) (J:aeQ I c=true) (A:gZ c j=false) :
  ay P G g (il ρ j) heap next (fun v h m=>∃v0 a n1,Q v0 a n1/\v=fx (ig ρ c next) v0/\h=jJ (ig ρ c next) a++rest/\m=next+(n1 - c)):=by
 intro w R N t E H z u B af C y hF;obtain⟨ag,hP,pP⟩:=B.perm hp;obtain⟨r,b2,e,a,h2⟩:=aj.append hP;subst e
 let D:Name->Option Nat:=fun m=>match m with|.loc _=>none|.out o=>if o < c then N (.out (ρ o)) else none
 have l:∀o b,o < c->outs N (.out (ρ o))=some b->outs D (.out o)=some b:=by
  grind[outs]
 have T:(E++(r++(b2++z))).Nodup:=by
  refine (List.Perm.nodup_iff ?_).1 af;grind
 have f:=hc w R D t E r (b2++z) (u.iC l A) (a.iC l K U) T (by
  grind) y (by
  intro b d
  rcases List.mem_append.1 d with d|d
  ·exact h2.lt b d
  exact hF b d)
 refine f.mono ?_;rintro e w' ⟨v0,cv,ae,n1,R',N1,ad,F,rfl,hq,V,hh,S,W,k,hN⟩
 let s:Name->Option Nat:=fun m=>match m with|.loc i=>N (.loc i)|.out x=>if x < next then N (.out x) else N1 (.out (x - next+c))
 have p:∀o b,outs N1 (.out o)=some b->outs s (.out (ig ρ c next o))=some b:=by
  intro o b d;simp only[outs] at d ⊢;unfold ig
  cases L:Nat.blt o c with
  | true=>
   have O:=oY L;dsimp only;obtain⟨b',n⟩:=aj.named (M:=outs N) (ρ:=ρ) (qI J o O) a;simp only[outs] at n;have h4:D (.out o)=some b':=by simp only[D];rw[if_pos O];exact n
   have Y:=hN o b' h4;rw[d] at Y;simp only[s];rw[if_pos (C _ _ n),n,Y]
  | false=>
   dsimp only;have O:¬o < c:=fun h=>by rw[←Nat.blt_eq,L] at h;simp at h
   simp only[s];rw[if_neg (by omega),show next+(o - c) - next+c=o by omega];exact d
 have q:∀i,outs N1 (.loc i)=none:=fun i=>rfl
 refine⟨_,cv,_,_,R',s,ad,F++b2,rfl,⟨v0,ae,n1,hq,rfl,rfl,rfl⟩,V.rn q p,(hh.rn q p).join ?_,by simpa using S,?_,k.sub (by intro b d;simp[d]),?_⟩
 ·have Y:=h2.keep (k.sub (by intro b d;simp[d]));refine Y.ext ?_;intro m b Z
  cases m with
  | loc i=>simp[outs] at Z
  | out x=>
   simp only[outs] at Z ⊢;simp only[s];rw[if_pos (C x b Z)];exact Z
 ·intro x b X;simp only[s] at X
  split at X
  ·omega
  have:=W _ _ X
  omega
 intro x b X;simp only[s];rw[if_pos (C x b X)];exact X
def DW:List Nat->Nat->Nat
 | [],o=>o
 | p::_,0=>p
 | _::a,o+1=>DW a o
end Go.Tp
namespace Go.Tp
section
variable {P:Program} {E:bz} {G:bA}
theorem ay.gcQ {f:FuncId} {p:List ac} {q:Heap} {a:Nat} {Q:ac->Heap->Nat->Prop} (h:ay P G f p q a Q):ay P G f p q a (fun v h m=>∃r:eX,Q r.val r.heap r.next/\(⟨v,h,m⟩:eX)=M0 a r):=by
 intro w R N u L H z A hh M O J hF;refine (h w R N u L H z A hh M O J hF).mono ?_;rintro e U ⟨x,X,c,l,V,I,B,W,rfl,hq,F,C,s,D,Z,hN⟩;have T:∀r:eX,r=M0 a ⟨x,c,l⟩->∃y n g d,ai U y (outs n) r.val X g/\aj U y (outs n) r.heap d/\(g++(d++z)).Nodup/\(∀o b,n (.out o)=some b->o < r.next)/\bp w R U y z/\(∀o b,N (.out o)=some b->n (.out o)=some b):=by
  intro r E;unfold M0 at E;dsimp only at E
  split at E
  ·rename_i j;subst E;simp at j;obtain⟨t,S,K⟩:=qd a C
   let n:Name->Option Nat:=fun m=>match m with|.loc i=>I (.loc i)|.out o=>if o < a then I (.out o) else none
   have Y:∀o b,o < a->outs I (.out o)=some b->outs n (.out o)=some b:=by
    grind[outs]
   refine⟨V,n,B,t,F.low Y j.1,S.low Y (ma a c) j.2,?_,?_,Z,?_⟩
   ·exact List.Nodup.sublist (List.Sublist.append (.refl _) (List.Sublist.append K (.refl _))) s
   all_goals grind
  subst E;obtain⟨t,S,K⟩:=ky a (EM a c 3 (KM x)) C;exact⟨V,I,B,t,F,S,List.Nodup.sublist (List.Sublist.append (.refl _) (List.Sublist.append K (.refl _))) s,D,Z,hN⟩
 obtain⟨y,n,g,d,k⟩:=T _ rfl;exact⟨_,X,_,_,y,n,g,d,rfl,⟨⟨x,c,l⟩,hq,rfl⟩,k⟩
theorem Dr {b:List ResultVar} {Q a:ac->List (Name×aL)->Nat->Prop} {s:aa} (c:∀v h n,Q v h n->a v h n) (h:ye E b Q s):ye E b a s:=by
 grind[ye]
theorem KJ {A B:Nat->Bool} {j k:FuncId->Bool} {F:FuncId->Option qS} (W:E.Ok P) (z:Z9 P j k F) {g:FuncId} {x:qS} (X:F g=some x) {d:List ac} {i:Heap} {c:Nat} {T:eX->Prop}
  (h:rN d->yc i->(Pf A B E G j k x g d i c).Ok P G T):ay P G g d i c (fun v h m=>T ⟨v,h,m⟩):=by
 obtain⟨C,a,b,f,w,D⟩:=z g x X;have y:ay P G g d i c (fun v h m=>T (M0 c ⟨v,h,m⟩)):=by
  refine gX W a b ?_;intro u Q;have h:=(h u Q).ok;rw[f,w];unfold Pf at h
  split at h
  ·exact h.elim
  rename_i l;have l:=fD l;have n:(⟨rG 0 d,[],i,c⟩:ab).al x.ntmps=enter x.ntmps d i c:=by
   simp only[ab.al,enter];congr 1
   apply List.ext_getElem?
   grind[kq,pS,bq]
  rw[←n];refine (iE (H:=⟨j,x.ord,k,rowsOf k g⟩) W x.live x.code _ _ (by grind[eM]) h).mono ?_;rintro e s ⟨p,rfl,q⟩;have o:(match sU E x.ntmps x.results p with|some r=>(Qy.fin (M0 c r):Qy eX)|none=>.fail).tg P G T->ye E x.results (fun v h m=>T (M0 c ⟨v,h,m⟩)) (p.al x.ntmps):=by
   intro t
   split at t
   ·rename_i r R
    have:=nL (E:=E) (rs:=x.results) (s:=p.al x.ntmps) (r:=r) (by grind[yz])
    exact Dr (by rintro v h m ⟨rfl,rfl,rfl⟩;exact t) this
   exact t.elim
  cases e with
  | ret=>exact o q
  | normal=>exact o q
  | _=>exact q.elim
 refine y.gcQ.mono ?_;simp_all
theorem CS {c:Code} {T:Exit->aa->Prop} (I:Nat->aa->Prop)
  (step:∀m s,I m s->cL P G c (xU (fun V=>∃v,v < m/\I v V) T) s) {m:Nat} {s:aa} (h:I m s):cL P G (.loop c) T s:=by
 intro w R N Q Z U H z Y D X;refine S6 (I:=fun k a y=>∃x u t g f d,I k x/\dw G y u t a.tmps.toList x undef .undef [] g f d z/\a.defers=D/\bp w R y u z/\(∀o b,N (.out o)=some b->t (.out o)=some b)) (n0:=m) ?_ ?_
 ·grind[aZ]
 rintro k a y ⟨x,u,t,g,f,d,S,E,B,L,K⟩;refine lp (step k x S y u t a g f d z E B) ?_;rintro e W w2 ⟨O,J,F,l,j,i,M,r,p,q,n⟩
 cases e with
 | normal=>
  obtain⟨v,C,A⟩:=M;exact⟨v,C,O,J,F,l,j,i,A,r,p,L.trans q,fun o b h=>n o b (K o b h)⟩
 | _=>exact⟨O,J,F,l,j,i,M,r,p,L.trans q,fun o b h=>n o b (K o b h)⟩
theorem Mz {A B:Nat->Bool} {H:Hints} {n:Nat} (W:E.Ok P) (a:Nat->Nat) {c:Code} (d:dh H c=true) {f:ab} {T:Exit->aa->Prop}
  (h:(tL A B E G H n a c f (fun r=>.fin r)).Ok P G (fun r=>T r.1 (r.2.al n))):cL P G c T (f.al n):=by
 refine (iE W a c f (fun r=>.fin r) d h.ok).mono ?_;rintro e s ⟨g,rfl,b⟩;exact b
end
section
variable {P:Program} {G:bA} {α:Type} {T:α->Prop}
def Qy.JL:Qy α->Option α
 | .fin a=>some a
 | _=>none
def Qy.Bo:Qy α->Option Bool
 | .bool _ b _=>some b
 | _=>none
def Qy.Z4:Qy α->Bool->Qy α
 | .bool _ _ k,b=>k b
 | _,_=>.fail
def Qy.Tu:Qy α->Option (Option Out)
 | .out _ o _=>some o
 | _=>none
def Qy.ofO:Qy α->Out->Qy α
 | .out _ _ k,x=>k x
 | _,_=>.fail
def Qy.Rf:Qy α->Option FuncId
 | .res g _ _ _ _=>some g
 | _=>none
def Qy.xJ:Qy α->List ac
 | .res _ a _ _ _=>a
 | _=>[]
def Qy.xm:Qy α->Nat
 | .res _ _ _ a _=>a
 | _=>0
def Qy.xo:Qy α->Heap
 | .res _ _ h _ _=>h
 | _=>[]
def Qy.ofR:Qy α->eX->Qy α
 | .res _ _ _ _ k,r=>k r
 | _,_=>.fail
def Qy.CT:Qy α->Option (Nat×Code)
 | .loop n c _ _=>some (n,c)
 | _=>none
def Qy.Gw:Qy α->ab
 | .loop _ _ f _=>f
 | _=>⟨[],[],[],0⟩
def Qy.ofL:Qy α->Exit×ab->Qy α
 | .loop _ _ _ k,r=>k r
 | _,_=>.fail
def Qy.left:Qy α->Option (Qy α)
 | .both a _=>some a
 | _=>none
def Qy.ofX:Qy α->Qy α
 | .both a _=>a
 | _=>.fail
def Qy.ofY:Qy α->Qy α
 | .both _ b=>b
 | _=>.fail
def Qy.QT:Qy α->Bool
 | .both _ _=>true
 | _=>false
theorem fX {q:Qy α} {a:α} (e:q.JL=some a) (h:T a):q.Ok P G T:=by
 cases q with
 | fin x=>simp only[Qy.JL,Option.some.injEq] at e;subst e;exact⟨h⟩
 | _=>grind[Qy.JL]
theorem bn {q:Qy α} {c b:Bool} (a:c=b) (e:q.Bo=some c) (h:(q.Z4 b).Ok P G T):q.Ok P G T:=by
 cases q with
 | bool _ x k=>simp only[Qy.Bo,Option.some.injEq] at e;subst e;subst a;exact⟨h.ok⟩
 | _=>grind[Qy.Bo]
theorem Gi {q:Qy α} {c:Bool} (e:q.Bo=some c) (b:c=true->(q.Z4 true).Ok P G T) (a:c=false->(q.Z4 false).Ok P G T):q.Ok P G T:=by
 cases c
 all_goals grind[bn]
theorem XB {q:Qy α} {o:Option Out} {x:Out} (O:o=some x) (e:q.Tu=some o) (h:(q.ofO x).Ok P G T):q.Ok P G T:=by
 cases q with
 | out _ y k=>simp only[Qy.Tu,Option.some.injEq] at e;subst e;exact⟨⟨x,O,h.ok⟩⟩
 | _=>grind[Qy.Tu]
theorem iF {q:Qy α} {n:Nat} {c:Code} {f:ab} {L:Exit->aa->Prop} (e:q.CT=some (n,c)) (i:q.Gw.al n=f.al n) (l:cL P G (.loop c) L (f.al n))
  (h:∀g s,L g s->∃d,s=d.al n/\(q.ofL (g,d)).Ok P G T):q.Ok P G T:=by
 cases q with
 | loop p j d k=>
  simp only[Qy.CT,Option.some.injEq,Prod.mk.injEq] at e;obtain⟨rfl,rfl⟩:=e;simp only[Qy.Gw] at i;refine⟨?_⟩;show cL P G (.loop j) _ (d.al p);rw[i];exact l.mono (fun e s o=>by obtain⟨m,a,b⟩:=h e s o;exact⟨m,a,b.ok⟩)
 | _=>grind[Qy.CT]
theorem bL {q:Qy α} (e:q.QT=true) (c:q.ofX.Ok P G T) (d:q.ofY.Ok P G T):q.Ok P G T:=by
 cases q with
 | both a b=>exact⟨⟨c.ok,d.ok⟩⟩
 | _=>grind[Qy.QT]
end
end Go.Tp
namespace Go.Tp
mutual
def Nz (p:Nat->Bool):ac->Bool
 | .ptr (.out o) _=>p o
 | .map (.out o)=>p o
 | .win (.out o) _ _ _=>p o
 | .fn _ a b=>mE p a&&mE p b
 | .agg c=>mE p c
 | .tup c=>mE p c
 | _=>true
def mE (p:Nat->Bool):List ac->Bool
 | []=>true
 | a::r=>Nz p a&&mE p r
end
def VN (p:Nat->Bool):aL->Bool
 | .cells c=>mE p c
 | .map _=>true
def Sr (p:Nat->Bool):Heap->Bool
 | []=>true
 |(.out m,o)::r=>p m&&VN p o&&Sr p r
 |(.loc _,o)::r=>VN p o&&Sr p r
section
variable {w:World} {R:Own} {M M2:Name->Option Nat} {ρ:Nat->Nat} {p:Nat->Bool}
mutual
theorem ai.HM (n:∀i b,M (.loc i)=some b->M2 (.loc i)=some b) (g:∀o b,p o=true->M (.out o)=some b->M2 (.out (ρ o))=some b):∀{a:ac} {v:Value} {B:List Nat},Nz p a=true->ai w R M a v B->ai w R M2 (fx ρ a) v B
 | .dat _,_,_,_,h=>by exact h
 | .own _,_,_,_,h=>by exact h
 | .ref _,_,_,_,h=>by exact h
 | .undef,_,_,_,h=>by exact h
 | .ptr (.loc i) _,_,_,_,h=>by grind[fx,ai]
 | .map (.loc i),_,_,_,h=>by grind[fx,ai]
 | .win (.loc i) _ _ _,_,_,_,h=>by grind[fx,ai]
 | .ptr (.out o) u,_,_,d,h=>by
  obtain⟨j,b,k,m⟩:=h;exact⟨j,b,g o b d k,m⟩
 | .map (.out o),_,_,d,h=>by
  obtain⟨j,b,k,m⟩:=h;exact⟨j,b,g o b d k,m⟩
 | .win (.out o) s u z,_,_,d,h=>by
  obtain⟨j,b,t,k,m⟩:=h;exact⟨j,b,t,g o b d k,m⟩
 | .fn f a b,_,_,d,h=>by
  simp only[Nz,Bool.and_eq_true] at d;obtain⟨j,l,A,e,k,m⟩:=h;exact⟨j,l,A,e,ah.HM n g d.1 k,ah.HM n g d.2 m⟩
 | .agg c,_,_,d,h=>by
  obtain⟨l,e,h⟩:=h;exact⟨l,e,ah.HM n g (by grind[Nz]) h⟩
 | .tup c,_,_,d,h=>by
  obtain⟨l,e,h⟩:=h;exact⟨l,e,ah.HM n g (by grind[Nz]) h⟩
theorem ah.HM (n:∀i b,M (.loc i)=some b->M2 (.loc i)=some b) (g:∀o b,p o=true->M (.out o)=some b->M2 (.out (ρ o))=some b):∀{as:List ac} {l:List Value} {B:List Nat},mE p as=true->ah w R M as l B->ah w R M2 (il ρ as) l B
 | [],_,_,_,h=>by exact h
 | a::r,_,_,d,h=>by
  simp only[mE,Bool.and_eq_true] at d;obtain⟨v,x,y,Q,E,F,j,k⟩:=h;exact⟨v,x,y,Q,E,F,ai.HM n g d.1 j,ah.HM n g d.2 k⟩
end
theorem Gj (l m:List ac):mE p (l++m)=(mE p l&&mE p m):=by
 induction l <;> grind[mE]
theorem Ak:∀j:Nat,mE p (List.replicate j .undef)=true
 | 0=>rfl
 | j+1=>by simp[List.replicate_succ,mE,Nz,Ak j]
theorem aI.HM (l:∀i b,M (.loc i)=some b->M2 (.loc i)=some b) (m:∀o b,p o=true->M (.out o)=some b->M2 (.out (ρ o))=some b) {o:aL} {b:Nat} {B:List Nat} (n:VN p o=true) (h:aI w R M o b B):aI w R M2 (pW ρ o) b B:=by
 cases o with
 | map r=>exact h
 | cells c=>
  simp only[VN] at n;obtain⟨q,d,j,a,k,f,g⟩:=h;refine⟨q,d,j,a,?_,f,by grind[qE]⟩
  have:=ah.HM (ρ:=ρ) l m (as:=c++List.replicate j .undef) (by grind[Gj,Ak]) k
  grind[lf,kO]
theorem aj.HM (d:∀i b,M (.loc i)=some b->M2 (.loc i)=some b) (g:∀o b,p o=true->M (.out o)=some b->M2 (.out (ρ o))=some b):∀{l:Heap} {B:List Nat},Sr p l=true->aj w R M l B->aj w R M2 (jJ ρ l) B
 | [],_,_,h=>h
 |(.loc i,o)::r,_,c,⟨b,j,Q,e,a,k,f⟩=>by
  simp only[Sr,Bool.and_eq_true] at c;exact⟨b,j,Q,e,d i b a,k.HM d g c.1,aj.HM d g c.2 f⟩
 |(.out m,o)::r,_,c,⟨b,j,Q,e,a,k,f⟩=>by
  simp only[Sr,Bool.and_eq_true] at c;exact⟨b,j,Q,e,g m b c.1.1 a,k.HM d g c.1.2,aj.HM d g c.2 f⟩
end
section
variable {P:Program} {G:bA}
end
def AI (o:Nat):List Nat->Nat->Nat
 | [],_=>o
 | q::r,k=>match Nat.beq q o with|true=>k|false=>AI o r (k+1)
def dN (q:Nat->Bool):Heap->Heap
 | []=>[]
 |(.out m,o)::r=>(match q m with|true=>(.out m,o)::dN q r|false=>dN q r)
 |(.loc m,o)::r=>(.loc m,o)::dN q r
theorem mD {w:World} {R:Own} {M:Name->Option Nat} (q:Nat->Bool):∀{c:Heap} {B:List Nat},aj w R M c B->∃a,aj w R M (dN q c) a/\a.Sublist B
 | [],B,h=>⟨B,h,.refl _⟩
 |(.out m,o)::c,_,⟨b,r,Q,e,N,O,d⟩=>by
  subst e;obtain⟨a,f,K⟩:=mD q d;simp only[dN]
  split
  ·exact⟨b::(r++a),⟨b,r,a,rfl,N,O,f⟩,(List.Sublist.append (.refl _) K).cons_cons _⟩
  grind
 |(.loc m,o)::c,_,⟨b,r,Q,e,N,O,d⟩=>by
  subst e;obtain⟨a,f,K⟩:=mD q d;exact⟨b::(r++a),⟨b,r,a,rfl,N,O,f⟩,(List.Sublist.append (.refl _) K).cons_cons _⟩
theorem LG {o:Nat}:∀{ps:List Nat} {k:Nat},ot o ps=true->k<=AI o ps k/\AI o ps k < k+ps.length/\ps[AI o ps k - k]?=some o
 | [],k,h=>by grind[ot]
 | q::r,k,h=>by
  simp only[AI]
  cases a:Nat.beq q o with
  | true=>
   simp_all
  | false=>
   have b:ot o r=true:=by
    grind[ot]
   obtain⟨f,g,G⟩:=LG (ps:=r) (k:=k+1) b;grind
end Go.Tp
namespace Go.Tp
open Go.Deep
section
variable {X:lH} {E:bz} {G:bA} {H:Hints} {n:Nat} {live:Nat->Nat} {fuel:Nat}
end
def xl:Own:=fun _ _=>False
theorem agU {P:Program} {W:World} {a:String} {g n:Nat} {c:Array Value} (J:P.globalNamed a=some g) (b:W.var? P a=some c) (N:c.size=n):g < W.heap.size/\eD W g=n:=by
 simp only[World.var?,J,Option.bind_some] at b;grind[eD]
theorem jm {P:Program} {W:World} {q:String} {g:Nat} {t e:TypeId} {l:List (List UInt8)} (J:P.globalNamed q=some g) (S:(P.globals[g]?).map (·.type)=some t) (T:P.underlying t=some (.slice e)) (he:P.underlying e=some .string) (C:P.cellsOf e=1)
  (H:l.length<=lim) (h:∃g t B u p,P.globalNamed q=some g/\(P.globals[g]?).map (·.type)=some t/\W.var? P q=some B/\DataW.trod (fun _=>()) P W 0 (fun _=>true) false u t B.toList=some (.slice (l.map fun b=>.lit (.string b)) [],p)) :
  aed W xl g [.slice (l.map fun b=>.flat (.string ⟨⟨b⟩⟩))]:=by
 obtain⟨g',t',B,u,p,M,R,v,r⟩:=h;obtain rfl:=Option.some.inj (J.symm.trans M);obtain rfl:=Option.some.inj (S.symm.trans R);have y:=World.var?_cell J v 0
 rcases open_slice1 T C r with⟨_,o⟩|⟨a,n,w,m,k,V,D,Pl,G,_,hl,hm,Q,X,N⟩
 ·grind
 refine⟨⟨?_,trivial⟩,agU J v (by rw[←Array.length_toList,G];rfl)⟩;have o:B[0]?=some (.slice (some a) n w):=by
  have:B.toList[0]?=some (.slice (some a) n w):=by grind
  grind
 refine⟨_,y.trans o,fun h=>h,?_⟩;simp only[Prod.mk.injEq,DataW.slice.injEq] at X;obtain⟨⟨K,_⟩,_⟩:=X;have O:l.length=n:=by have:=congrArg List.length K;simpa using this
 have ad:n<=m:=by rw[Q];split <;> omega
 have L:∀(i:Nat) b,l[i]?=some b->V i=.string ⟨⟨b⟩⟩/\b.length<=maxLen:=by
  intro i b A;have z:i < n:=by rw[←O];exact (List.getElem?_eq_some_iff.1 A).1
  obtain⟨_,h2⟩:=N i (by omega);obtain⟨s,E,F,Z⟩:=DataW.trod_string he h2;have f:((List.range n).map D)[i]?=(l.map fun b=>(DataW.lit (.string b):DataW Unit))[i]?:=by rw[K]
  rw[List.getElem?_map,List.getElem?_map,A,List.getElem?_range z] at f;simp only[Option.map_some,Option.some.injEq] at f;simp only[List.cons.injEq,and_true] at E;simp only[Prod.mk.injEq] at F;rw[f] at F;simp at F;obtain⟨⟨sl⟩⟩:=s;simp at F;rw[E,F.1];exact⟨rfl,Z⟩
 cases hz:n with
 | zero=>
  have:l=[]:=List.length_eq_zero_iff.1 (by omega)
  subst this;exact .nil _ _
 | succ k0=>
  have I:a.spot=none:=by
   have:=(N 0 (by omega)).1
   have:=World.cell?_spot this
   simpa [Addr.add] using this
  obtain⟨b,U,Y⟩:=a;simp only at I;subst I;have e:k0+1=(l.map fun b=>(ak.flat (.string ⟨⟨b⟩⟩):ak)).length:=by simp;omega
  rw[e];refine .slice b U w 1 _ (fun i _=>V i) (by omega) ?_ (by simp;omega) (by simpa using H) ?_ ?_
  ·intro d r;obtain⟨x,_,rfl⟩:=List.mem_map.1 r;rfl
  ·intro i j z hj;obtain rfl:j=0:=by omega
   simp at z;refine⟨?_,fun h=>h⟩
   have:=(N i (by omega)).1
   simp only[Addr.add] at this;simp only[Nat.mul_one,Nat.add_zero]
   split at this
   ·rename_i o;subst o;exact this
   exact this
  intro i j d c r C;rw[List.getElem?_map] at r
  cases A:l[i]? with
  | none=>rw[A] at r;simp at r
  | some x=>
   rw[A] at r;simp at r;subst r;obtain⟨E,F⟩:=L i x A
   have:c=.flat (.string ⟨⟨x⟩⟩):=by
    cases j with
    | zero=>simp[ak.cells] at C;exact C.symm
    | succ j=>simp[ak.cells] at C
   subst this;rw[E];refine .flat ?_;simp only[bJ,decide_eq_true_eq]
   have:(ByteArray.mk ⟨x⟩).size=x.length:=rfl
   rw[this];unfold maxLen at F;omega
theorem xY {W a:World} {b:Own} (h:Step W xl a b):W.keptBut a (fun _=>False):=by
 refine⟨h.os,h.output,fun i c=>?_⟩;rw[(h.block i c (fun _ h=>h)).1]
 grind
end Go.Tp
namespace Go.Tp
section
variable {X:lH} {E:bz} {G:bA} {H:Hints} {n:Nat}
theorem uA {t:TypeId} {b:TI} {m:Name} {s off a k:Nat} (c:elemOf E t=some b) (e:s=b.size) (d:k < a) :
  ap E t [.win m s off a,.dat (.flat (.int .i64 (ofNat k)))]=some ⟨.ptr m (off+k*s),.keep⟩:=by
 simp_all[ap]
theorem vS {t:TypeId} {i:TI} {m:Name} {a:Nat} {c:List ac} {v:Value} {b:Bool} (T:E.ty t=some i) (A:i.isAgg=false) (h:c[a]?=some (.dat (.flat v))) :
  eB E b t [.ptr m a] (some (.cells c))=some ⟨.dat (.flat v),.keep⟩:=by
 simp_all[eB,loadCells,xj]
theorem yW {t:TypeId} {i:TI} {m:Name} {off:Nat} {cs:List ac} {v:Value} (T:E.ty t=some i) (s:i.size=1) (h:off < cs.length) (d:cd (bI off [.dat (.flat v)] cs)=false) :
  cG E t [.ptr m off,.dat (.flat v)] (some (.cells cs))=some ⟨.undef,.set (.cells (bI off [.dat (.flat v)] cs))⟩:=by
 simp only[cG,T];rw[if_pos]
 ·rfl
 refine⟨by rw[s];rfl,by grind,rfl,by grind,?_⟩;show (!cd (bI off [.dat (.flat v)] cs)||cd cs)=true;grind
theorem Rj {a:List ak} {i:Nat} {d:ak} (h:a[i]?=some d):bW.nA.elt a (ofNat i)=some d:=by
 show Ex a i=some d;grind[uC]
end
end Go.Tp
namespace Go.Tp
variable {E:bz}
variable {i:Nat}
theorem uX {t:TypeId} {i:TI} {b ds:List ak} {j:Option aL} {a:Bool} {k:Nat} (f:elemOf E t=some i) (w:E.pr=bW.nA) (m:i.size=k+1) (D:sizedB (k+1) ds=true) (g:sizedB (k+1) b=true)
  (d:Nat.blt 0 i.bytes=true) (l:(b.length+ds.length)*i.bytes<=140737488355328) (h:b.length+ds.length<=lim) (e:amL E t (b++ds)=true) (c:(a&&b.isEmpty&&AH (.dat (.slice ds)))=false) :
  bB E a t [.own b,.dat (.slice ds)] j=some ⟨.own (b++ds),.keep⟩:=by
 simp only[bB,f];rw[if_neg (by grind)];grind[gS,bW.nA,gC]
theorem pd {t:TypeId} {a:TI} {b:List ak} {d:ak} (c:elemOf E t=some a) (w:E.pr=bW.nA) (h:b[i]?=some d) (s:d.cells.length=a.size) (o:0 < a.size) :
  ap E t [.dat (.slice b),.dat (.flat (.int .i64 (ofNat i)))]=some ⟨.ref d.cells,.keep⟩:=by
 grind[Rj,ap]
theorem Ur {α:Type} {l:List α} {a:α} (h:l[i]?=some a):Ex l i=some a:=by grind[uC]
theorem kM {k:Nat} {l:List ak} (h:∀d∈l,d.cells.length=k):sizedB k l=true:=gm.2 h
theorem gv {L:Nat}:aF (ofNat i) (ofNat L)=decide (i < L):=by grind[dA]
theorem br {L:Nat} (h:i < L):aF (ofNat i) (ofNat L)=true:=by grind[gv]
theorem cj {L:Nat} (h:¬i < L):aF (ofNat i) (ofNat L)=false:=by grind[gv]
theorem bb (h:i < 9223372036854775807):an .i64 (ofNat i+1)=ofNat (i+1):=by
 grind[cQ,wrap_i64]
theorem A0 {L:Nat}:aB (ofNat i) (ofNat L)=decide (i=L):=by
 grind[cN]
end Go.Tp
namespace Go.Tp
noncomputable def TG (c:Code):List Code:=
 Code.rec (motive:=fun _=>List Code)
  (skip:=[]) (region:=fun _ _ _=>[]) (seq:=fun _ _ x b=>x++b) (cond:=fun _ _ _ x b=>x++b) (block:=fun _ _ a=>a) (loop:=fun c a=>c::a)
  (rangeFunc:=fun _ _ _ _ _ _=>[]) (exit:=fun _=>[]) (scope:=fun _ a=>a) (label:=fun _=>[]) (goto:=fun _=>[]) (ret:=[]) (refuse:=fun _=>[]) c
noncomputable def roundOf (a:Func) (k:Nat):Code:=match (TG (match a.body with|some c=>c|none=>.skip))[k]? with|some c=>c|none=>.skip
def Sv (l:List Nat) (t:Nat):Bool:=ot t l
mutual
def NA:ac->ac
 | .ptr _ _=>.undef
 | .map _=>.undef
 | .win _ _ _ _=>.undef
 | .fn f a b=>.fn f (MI a) (MI b)
 | .agg c=>.agg (MI c)
 | .tup c=>.tup (MI c)
 | a=>a
def MI:List ac->List ac
 | []=>[]
 | a::r=>NA a::MI r
end
section
variable {w:World} {R:Own} {M M2:Name->Option Nat}
mutual
theorem ai.np:∀{a:ac} {v:Value} {B:List Nat},ai w R M a v B->ai w R M2 (NA a) v B
 | .dat _,_,_,h=>by exact h
 | .own _,_,_,h=>by exact h
 | .ref _,_,_,h=>by exact h
 | .undef,_,_,h=>by exact h
 | .ptr _ _,_,_,h=>by exact h.1
 | .map _,_,_,h=>by exact h.1
 | .win _ _ _ _,_,_,h=>by exact h.1
 | .fn f a b,_,_,h=>by
  obtain⟨g,d,o,e,i,n⟩:=h;exact⟨g,d,o,e,ah.np i,ah.np n⟩
 | .agg c,_,_,h=>by
  obtain⟨d,e,h⟩:=h;exact⟨d,e,ah.np h⟩
 | .tup c,_,_,h=>by
  obtain⟨d,e,h⟩:=h;exact⟨d,e,ah.np h⟩
theorem ah.np:∀{k:List ac} {d:List Value} {B:List Nat},ah w R M k d B->ah w R M2 (MI k) d B
 | [],_,_,h=>by exact h
 | a::r,_,_,h=>by
  obtain⟨v,j,m,Q,E,F,g,i⟩:=h;exact⟨v,j,m,Q,E,F,ai.np g,ah.np i⟩
end
end
section
variable {P:Program} {G:bA} {α:Type} {T:α->Prop}
variable {g:FuncId}
theorem Gl {i:List ac} {Q:ac->Prop} (D:∀v,Q v->NB v=true) (h:ay P G g (MI i) [] 0 (fun v h m=>Q v/\h=[]/\m=0)) (a:Heap) (f:Nat):ay P G g i a f (fun v h m=>Q v/\h=a/\m=f):=by
 intro w R N j p H z l c E t n I;have C:=h w R (fun _=>none) j p [] (H++z) l.np (by simp[aj]) (by grind) (by grind) n (by
  intro b d
  rcases List.mem_append.1 d with d|d
  ·exact c.lt b d
  grind)
 refine C.mono ?_;rintro e K ⟨v,B,s,u,A,F,q,o,rfl,⟨y,rfl,rfl⟩,V,J,x,_,k,_⟩;have r:o=[]:=by grind[aj]
 exact⟨_,B,a,f,A,N,q,H,rfl,⟨y,rfl,rfl⟩,V.nm (D _ y),c.keep (k.sub (by grind)),by grind,t,k.sub (by grind),fun _ _ h=>h⟩
theorem abS {q:Qy α} {b:List ac} {v:ac} (j:ay P G g b [] 0 (XQ ⟨v,[],0⟩)) (e:q.Rf=some g) (A:MI q.xJ=b) (o:NB v=true)
  (h:nH v->(q.ofR ⟨v,q.xo,q.xm⟩).Ok P G T):q.Ok P G T:=by
 cases q with
 | res i c f d k=>
  simp only[Qy.Rf,Option.some.injEq] at e;subst e;refine⟨?_⟩;subst A;have a:ay P G i (MI c) [] 0 (fun u h m=>u=v/\h=[]/\m=0):=j.mono (by rintro u h m ⟨rfl,rfl,rfl⟩;grind);refine (Gl (Q:=fun u=>u=v) (by grind) a f d).mono ?_;rintro p n m ⟨rfl,rfl,rfl⟩ r l;exact (h r).ok
 | _=>grind[Qy.Rf]
theorem Ja {q:Qy α} {a:List ac} {Q:ac->Prop} (i:ay P G g a [] 0 (fun v h m=>Q v/\h=[]/\m=0)) (e:q.Rf=some g) (A:MI q.xJ=a) (f:∀v,Q v->NB v=true)
  (h:∀v,Q v->nH v->(q.ofR ⟨v,q.xo,q.xm⟩).Ok P G T):q.Ok P G T:=by
 cases q with
 | res o d c b k=>
  simp only[Qy.Rf,Option.some.injEq] at e;subst e;refine⟨?_⟩;subst A;refine (Gl f i c b).mono ?_;rintro l p m ⟨j,rfl,rfl⟩ r n;exact (h l j r).ok
 | _=>grind[Qy.Rf]
theorem TB {q:Qy α} {a:List ac} {b:Heap} {c:Nat} {r:eX} (j:ay P G g a b c (XQ r)) (e:q.Rf=some g) (A:q.xJ=a) (l:q.xo=b) (N:q.xm=c)
  (h:(q.ofR r).Ok P G T):q.Ok P G T:=by
 cases q with
 | res o d f i k=>
  simp only[Qy.Rf,Option.some.injEq] at e;subst e;subst A;subst l;subst N;refine⟨?_⟩;refine j.mono ?_;rintro v p m ⟨rfl,rfl,rfl⟩ n Q;exact h.ok
 | _=>grind[Qy.Rf]
theorem Du {a:List ac} {b:Heap} {c:Nat} {r:eX} (h:ay P G g a b c (fun v h m=>(⟨v,h,m⟩:eX)=r)):ay P G g a b c (XQ r):=by
 refine h.mono ?_;rintro v h m e;subst e;exact⟨rfl,rfl,rfl⟩
theorem RL {E:bz} {H:Hints} {n:Nat} {X:lH} (W:E.Ok P) (g:Kg P G X) {b:Nat->Nat} (a:Nat) {c:Code} (i:dh H c=true) {f d:ab} {e:Exit} (h:iO X E G H n b a c f=some (e,d)) :
  cL P G c (fun F s=>F=e/\s=d.al n) (f.al n):=by grind[fj]
def Qy.UI:Qy (Exit×ab)->Option Exit
 | .fin r=>some r.1
 | _=>none
def Qy.Zv:Qy (Exit×ab)->ab
 | .fin r=>r.2
 | _=>⟨[],[],[],0⟩
theorem bS {q:Qy (Exit×ab)} {T:Exit->aa->Prop} {n:Nat} {ex:Exit} (f:ab) (e:q.UI=some ex) (s:q.Zv.al n=f.al n) (h:T ex (f.al n)):q.Ok P G (fun r=>T r.1 (r.2.al n)):=by
 cases q with
 | fin r=>
  simp only[Qy.UI,Option.some.injEq] at e;simp only[Qy.Zv] at s;refine⟨?_⟩;show T r.1 (r.2.al n);grind
 | _=>grind[Qy.UI]
theorem cA {c:Code} {T:Exit->aa->Prop} (St:Nat->aa) (L:Nat) (a:∀i,i < L->cL P G c (xU (fun s=>s=St (i+1)) T) (St i))
  (d:cL P G c (xU (fun _=>False) T) (St L)) {i:Nat} (f:i<=L):cL P G (.loop c) T (St i):=by
 refine CS (I:=fun m s=>∃j,j<=L/\m=L - j/\s=St j) ?_ (m:=L - i) ⟨i,f,rfl,rfl⟩;rintro m s ⟨j,g,rfl,rfl⟩
 by_cases h:j < L
 ·refine (a j h).mono ?_;intro e s b
  cases e with
  | normal=>
   exact⟨L - (j+1),by omega,j+1,by omega,rfl,b⟩
  | _=>exact b
 grind
theorem cV {c:Code} {T:Exit->aa->Prop} (St:Nat->aa) (Inv:Nat->Prop) (L:Nat) (a:∀i,i < L->Inv i->cL P G c (xU (fun s=>s=St (i+1)/\Inv (i+1)) T) (St i))
  (d:Inv L->cL P G c (xU (fun _=>False) T) (St L)) {i:Nat} (g:i<=L) (o:Inv i):cL P G (.loop c) T (St i):=by
 refine CS (I:=fun m s=>∃j,j<=L/\m=L - j/\s=St j/\Inv j) ?_ (m:=L - i) ⟨i,g,rfl,rfl,o⟩;rintro m s ⟨j,k,rfl,rfl,f⟩
 by_cases h:j < L
 ·refine (a j h f).mono ?_;intro e s b
  cases e with
  | normal=>
   exact⟨L - (j+1),by omega,j+1,by omega,rfl,b⟩
  | _=>exact b
 grind
end
end Go.Tp
namespace Go.Tp
section
variable {P:Program} {G:bA} {α:Type} {T:α->Prop}
theorem oh {q:Qy α} {g:FuncId} {a:List ac} {b:Heap} {c:Nat} {r:eX} (d:ay P G g a b c (XQ r)) (h:(q.ofR r).Ok P G T) (e:q.Rf=some g:=by kernel_rfl) (A:q.xJ=a:=by kernel_rfl) (f:q.xo=b:=by kernel_rfl) (N:q.xm=c:=by kernel_rfl):q.Ok P G T:=
 by grind[TB]
theorem on {q:Qy α} {g:FuncId} {a:List ac} {v:ac} (b:ay P G g a [] 0 (XQ ⟨v,[],0⟩)) (h:(q.ofR ⟨v,q.xo,q.xm⟩).Ok P G T) (e:q.Rf=some g:=by kernel_rfl) (A:MI q.xJ=a:=by kernel_rfl) (c:NB v=true:=by exact rfl):q.Ok P G T:=
 by grind[abS]
theorem ob {q:Qy α} {c b:Bool} (a:c=b) (h:(q.Z4 b).Ok P G T) (e:q.Bo=some c:=by kernel_rfl):q.Ok P G T:=bn a e h
theorem ox {q:Qy α} {c b:Bool} (a:c=b) (h:(q.Z4 (!b)).Ok P G T) (e:q.Bo=some (!c):=by kernel_rfl):q.Ok P G T:=by grind[bn]
theorem oo {q:Qy α} {o:Option Out} {x:Out} (O:o=some x) (h:(q.ofO x).Ok P G T) (e:q.Tu=some o:=by kernel_rfl):q.Ok P G T:=XB O e h
theorem fi {q:Qy α} {a:α} (e:q.JL=some a:=by kernel_rfl):q.Ok P G (fun y=>y=a):=fX e rfl
theorem oe {q:Qy (Exit×ab)} {T:Exit->aa->Prop} {n:Nat} {a:Exit} {f:ab} (h:T a (f.al n)) (e:q.UI=some a:=by kernel_rfl) (s:q.Zv.al n=f.al n:=by kernel_rfl):q.Ok P G (fun r=>T r.1 (r.2.al n)):=bS f e s h
theorem lo {q:Qy α} {n:Nat} {c:Code} {f:ab} {L:Exit->aa->Prop} (l:cL P G (.loop c) L (f.al n)) (h:∀e s,L e s->∃a,s=a.al n/\(q.ofL (e,a)).Ok P G T) (e:q.CT=some (n,c):=by kernel_rfl) (b:q.Gw.al n=f.al n:=by kernel_rfl):q.Ok P G T:=iF e b l h
end
end Go.Tp
namespace Go.Tp
noncomputable def Pe (A B:Nat->Bool) (E:bz) (G:bA) (c b:FuncId->Bool) (x:qS) (g:FuncId) (a:List ac) (d:Heap) (e:Nat):Qy eX:=
 match Nat.ble a.length x.ntmps with
 | false=>.fail
 | true=>tL A B E G ⟨c,x.ord,b,rowsOf b g⟩ x.ntmps x.live x.code ⟨rG 0 a,[],d,e⟩ (fun r=>match r with
  |(.ret,f)=>(match sU E x.ntmps x.results f with|some r=>.fin r|none=>.fail)
  |(.normal,f)=>(match sU E x.ntmps x.results f with|some r=>.fin r|none=>.fail)
  | _=>.fail)
section
variable {P:Program} {E:bz} {G:bA}
theorem Pd {A B:Nat->Bool} {i j:FuncId->Bool} {F:FuncId->Option qS} (W:E.Ok P) (y:Z9 P i j F) {g:FuncId} {x:qS} (X:F g=some x) {c:List ac} {d:Heap} {k:Nat} {T:eX->Prop}
  (h:rN c->yc d->(Pe A B E G i j x g c d k).Ok P G T):ay P G g c d k (fun v h m=>T ⟨v,h,m⟩):=by
 obtain⟨z,a,b,f,w,C⟩:=y g x X;refine gX W a b ?_;intro u Q;have h:=(h u Q).ok;rw[f,w];unfold Pe at h
 split at h
 ·exact h.elim
 rename_i l;have l:=fD l;have n:(⟨rG 0 c,[],d,k⟩:ab).al x.ntmps=enter x.ntmps c d k:=by
  simp only[ab.al,enter];congr 1
  apply List.ext_getElem?
  grind[kq,pS,bq]
 rw[←n];refine (iE (H:=⟨i,x.ord,j,rowsOf j g⟩) W x.live x.code _ _ (by grind[eM]) h).mono ?_;rintro e s ⟨p,rfl,q⟩;have o:(match sU E x.ntmps x.results p with|some r=>(Qy.fin r:Qy eX)|none=>.fail).tg P G T->ye E x.results (fun v h m=>T ⟨v,h,m⟩) (p.al x.ntmps):=by
  intro t
  split at t
  ·rename_i r R
   have:=nL (E:=E) (rs:=x.results) (s:=p.al x.ntmps) (r:=r) (by grind[yz])
   exact Dr (by rintro v h m ⟨rfl,rfl,rfl⟩;exact t) this
  exact t.elim
 cases e with
 | ret=>exact o q
 | normal=>exact o q
 | _=>exact q.elim
def BP (b:Nat) (a:List Nat) (o:Nat):Nat:=match ot o a with|true=>AI o a b|false=>o
def lr (a:Nat) (b:List Nat) (o:Nat):Bool:=Nat.blt o a||ot o b
theorem ay.rn {g:FuncId} {d:List ac} {f:Heap} {a:Nat} {Q D:ac->Heap->Nat->Prop} (h:ay P G g d f a Q)
  (U:∀v q m,Q v q m->∃c,Nz (lr a c) v=true/\Sr (lr a c) (dN (lr a c) q)=true/\D (fx (BP a c) v) (jJ (BP a c) (dN (lr a c) q)) (a+c.length)):ay P G g d f a D:=by
 intro w R N j s H z A T y B J S;refine (h w R N j s H z A T y B J S).mono ?_;rintro e w' ⟨v,O,q,m,M,l,t,E,rfl,C,V,u,n,L,k,hN⟩;obtain⟨c,Y,Z,p3⟩:=U _ _ _ C
 let p:Name->Option Nat:=fun m=>match m with|.loc i=>l (.loc i)|.out x=>if x < a then l (.out x) else (match c[x - a]? with|some o=>l (.out o)|none=>none)
 have I:∀o b,lr a c o=true->outs l (.out o)=some b->outs p (.out (BP a c o))=some b:=by
  grind[outs,BP,LG,lr,oY]
 have F:∀i b,outs l (.loc i)=some b->outs p (.loc i)=some b:=fun i b h=>h
 obtain⟨r,W,K⟩:=mD (lr a c) u;refine⟨_,O,_,_,M,p,t,r,rfl,p3,V.HM F I Y,W.HM F I Z,?_,?_,k,?_⟩
 ·exact List.Nodup.sublist (List.Sublist.append (.refl _) (List.Sublist.append K (.refl _))) n
 ·intro x b X;dsimp only[p] at X
  split at X
  ·omega
  grind
 grind
end
end Go.Tp
namespace Go.Tp
mutual
def Sw (k:Nat):ac->Bool
 | .ptr (.out o) _=>Nat.ble k o
 | .map (.out o)=>Nat.ble k o
 | .win (.out o) _ _ _=>Nat.ble k o
 | .fn _ a b=>BI k a||BI k b
 | .agg c=>BI k c
 | .tup c=>BI k c
 | _=>false
def BI (k:Nat):List ac->Bool
 | []=>false
 | a::r=>Sw k a||BI k r
end
def Z5 (k:Nat):aL->Bool
 | .cells c=>BI k c
 | .map _=>false
def GM (k:Nat):Heap->Bool
 | []=>false
 |(.out o,x)::r=>Nat.ble k o||(Z5 k x||GM k r)
 |(.loc _,x)::r=>Z5 k x||GM k r
theorem AJ (k:Nat):∀(l m:List ac),BI k (l++m)=(BI k l||BI k m)
 | [],m=>by simp[BI]
 | a::l,m=>by simp[BI,AJ k l m,Bool.or_assoc]
theorem CZ (k:Nat):∀j:Nat,BI k (List.replicate j .undef)=false
 | 0=>rfl
 | j+1=>by simp[List.replicate_succ,BI,Sw,CZ k j]
theorem K0 {k o:Nat} (h:Nat.ble k o=false):o < k:=by
 grind[gC]
section
variable {w:World} {R:Own} {M M2:Name->Option Nat} {ρ:Nat->Nat}
mutual
theorem ai.It (k:∀m b,M m=some b->M2 (wX ρ m)=some b):∀{a:ac} {v:Value} {B:List Nat},ai w R M a v B->ai w R M2 (fx ρ a) v B
 | .dat _,_,_,h=>by exact h
 | .own _,_,_,h=>by exact h
 | .ref _,_,_,h=>by exact h
 | .undef,_,_,h=>by exact h
 | .ptr (.loc i) _,_,_,h=>by
  obtain⟨d,b,g,j⟩:=h;exact⟨d,b,k _ b g,j⟩
 | .map (.loc i),_,_,h=>by
  obtain⟨d,b,g,j⟩:=h;exact⟨d,b,k _ b g,j⟩
 | .win (.loc i) _ _ _,_,_,h=>by
  obtain⟨d,b,n,g,j⟩:=h;exact⟨d,b,n,k _ b g,j⟩
 | .ptr (.out o) q,_,_,h=>by
  obtain⟨d,b,g,j⟩:=h;exact⟨d,b,k _ b g,j⟩
 | .map (.out o),_,_,h=>by
  obtain⟨d,b,g,j⟩:=h;exact⟨d,b,k _ b g,j⟩
 | .win (.out o) s q x,_,_,h=>by
  obtain⟨d,b,n,g,j⟩:=h;exact⟨d,b,n,k _ b g,j⟩
 | .fn f a b,_,_,h=>by
  obtain⟨d,l,y,e,g,j⟩:=h;exact⟨d,l,y,e,ah.It k g,ah.It k j⟩
 | .agg c,_,_,h=>by
  obtain⟨l,e,h⟩:=h;exact⟨l,e,ah.It k h⟩
 | .tup c,_,_,h=>by
  obtain⟨l,e,h⟩:=h;exact⟨l,e,ah.It k h⟩
theorem ah.It (k:∀m b,M m=some b->M2 (wX ρ m)=some b):∀{as:List ac} {l:List Value} {B:List Nat},ah w R M as l B->ah w R M2 (il ρ as) l B
 | [],_,_,h=>by exact h
 | a::r,_,_,h=>by
  obtain⟨v,t,u,Q,E,F,d,g⟩:=h;exact⟨v,t,u,Q,E,F,ai.It k d,ah.It k g⟩
end
mutual
theorem ai.rnY {k:Nat} (l:∀i b,M2 (.loc i)=some b->M (.loc i)=some b) (m:∀o b,o < k->M2 (.out (ρ o))=some b->M (.out o)=some b):∀{a:ac} {v:Value} {B:List Nat},Sw k a=false->ai w R M2 (fx ρ a) v B->ai w R M a v B
 | .dat _,_,_,_,h=>by exact h
 | .own _,_,_,_,h=>by exact h
 | .ref _,_,_,_,h=>by exact h
 | .undef,_,_,_,h=>by exact h
 | .ptr (.loc i) _,_,_,_,h=>by
  grind[fx,ai]
 | .map (.loc i),_,_,_,h=>by
  grind[fx,ai]
 | .win (.loc i) _ _ _,_,_,_,h=>by
  grind[fx,ai]
 | .ptr (.out o) t,_,_,N,h=>by
  grind[Sw,fx,ai,K0]
 | .map (.out o),_,_,N,h=>by
  grind[Sw,fx,ai,K0]
 | .win (.out o) s t y,_,_,N,h=>by
  grind[Sw,fx,ai,K0]
 | .fn f a b,_,_,N,h=>by
  simp only[Sw,Bool.or_eq_false_iff] at N;simp only[fx,ai] at h ⊢;obtain⟨d,n,z,e,g,j⟩:=h;exact⟨d,n,z,e,ah.rnY l m N.1 g,ah.rnY l m N.2 j⟩
 | .agg c,_,_,N,h=>by
  simp only[Sw] at N;simp only[fx,ai] at h ⊢;obtain⟨n,e,h⟩:=h;exact⟨n,e,ah.rnY l m N h⟩
 | .tup c,_,_,N,h=>by
  simp only[Sw] at N;simp only[fx,ai] at h ⊢;obtain⟨n,e,h⟩:=h;exact⟨n,e,ah.rnY l m N h⟩
theorem ah.rnY {k:Nat} (l:∀i b,M2 (.loc i)=some b->M (.loc i)=some b) (m:∀o b,o < k->M2 (.out (ρ o))=some b->M (.out o)=some b):∀{as:List ac} {n:List Value} {B:List Nat},BI k as=false->ah w R M2 (il ρ as) n B->ah w R M as n B
 | [],_,_,_,h=>by simp only[il,ah] at h ⊢;exact h
 | a::r,_,_,N,h=>by
  simp only[BI,Bool.or_eq_false_iff] at N;simp only[il,ah] at h ⊢;obtain⟨v,u,x,Q,E,F,d,g⟩:=h;exact⟨v,u,x,Q,E,F,ai.rnY l m N.1 d,ah.rnY l m N.2 g⟩
end
theorem aI.It (k:∀m b,M m=some b->M2 (wX ρ m)=some b) {o:aL} {b:Nat} {B:List Nat} (h:aI w R M o b B):aI w R M2 (pW ρ o) b B:=by
 cases o with
 | map n=>exact h
 | cells c=>
  obtain⟨l,d,e,a,j,f,g⟩:=h;refine⟨l,d,e,a,?_,f,by grind[qE]⟩
  have:=ah.It (ρ:=ρ) k (as:=c++List.replicate e .undef) j
  grind[lf,kO]
theorem aI.rnY {k:Nat} (l:∀i b,M2 (.loc i)=some b->M (.loc i)=some b) (m:∀o b,o < k->M2 (.out (ρ o))=some b->M (.out o)=some b) {o:aL} {b:Nat} {B:List Nat} (N:Z5 k o=false) (h:aI w R M2 (pW ρ o) b B):aI w R M o b B:=by
 cases o with
 | map p=>exact h
 | cells c=>
  simp only[Z5] at N;obtain⟨n,d,j,a,q,f,g⟩:=h;refine⟨n,d,j,a,?_,f,by grind[qE]⟩;refine ah.rnY (ρ:=ρ) l m (as:=c++List.replicate j .undef) (by grind[AJ,CZ]) ?_;grind[lf,kO]
theorem aj.It (c:∀m b,M m=some b->M2 (wX ρ m)=some b):∀{d:Heap} {B:List Nat},aj w R M d B->aj w R M2 (jJ ρ d) B
 | [],_,h=>h
 |(m,o)::r,_,⟨b,i,Q,e,a,j,f⟩=>⟨b,i,Q,e,c m b a,j.It c,aj.It c f⟩
theorem aj.rnY {k:Nat} (l:∀i b,M2 (.loc i)=some b->M (.loc i)=some b) (c:∀o b,o < k->M2 (.out (ρ o))=some b->M (.out o)=some b):∀{j:Heap} {B:List Nat},GM k j=false->aj w R M2 (jJ ρ j) B->aj w R M j B
 | [],_,_,h=>h
 |(.loc i,o)::r,_,N,⟨b,d,Q,e,a,g,f⟩=>by
  simp only[GM,Bool.or_eq_false_iff] at N;exact⟨b,d,Q,e,l i b a,g.rnY l c N.1,aj.rnY l c N.2 f⟩
 |(.out m,o)::r,_,N,⟨b,d,Q,e,a,g,f⟩=>by
  simp only[GM,Bool.or_eq_false_iff] at N;exact⟨b,d,Q,e,c m b (K0 N.1) a,g.rnY l c N.2.1,aj.rnY l c N.2.2 f⟩
end
def Sq (ρ:Nat->Nat) (a:Nat) (s:aa):aa:=⟨il ρ s.tmps,jJ ρ s.locs,jJ ρ s.heap,a⟩
def UH (s:aa):Bool:=!BI s.next s.tmps&&(!GM s.next s.locs&&(!GM s.next s.heap&&aeQ s.heap s.next))
variable {P:Program} {G:bA}
theorem aj.Jg {w:World} {R:Own} {M:Name->Option Nat} {ρ:Nat->Nat} {o:Nat}:∀{c:Heap} {B:List Nat},hasName o c=true->aj w R M (jJ ρ c) B->∃b,M (.out (ρ o))=some b
 | [],_,h,_=>by grind[hasName]
 |(.out m,x)::r,_,h,⟨b,d,Q,e,a,g,f⟩=>by
  simp only[hasName,Bool.or_eq_true] at h
  rcases h with h|h
  ·rw[Nat.beq_eq] at h;subst h;exact⟨b,a⟩
  exact aj.Jg h f
 |(.loc i,x)::r,_,h,⟨b,d,Q,e,a,g,f⟩=>by
  simp only[hasName] at h;exact aj.Jg h f
theorem cL.rn {c:Code} {Q:Exit->aa->Prop} {u:aa} (hc:cL P G c Q u) (ρ:Nat->Nat) (f:Nat) (S:UH u=true) :
  cL P G c (fun e s=>∃v,Q e v/\s=Sq (ig ρ u.next f) (f+(v.next - u.next)) v) (Sq ρ f u):=by
 intro w R N A Z U H z r D hd;unfold UH at S;simp at S;obtain⟨f1,f2,f3,f4⟩:=S;generalize V:u.next=k at *
 let t:Name->Option Nat:=fun m=>match m with|.loc i=>N (.loc i)|.out o=>if o < k then N (.out (ρ o)) else none
 have I:∀i b,N (.loc i)=some b->t (.loc i)=some b:=fun i b h=>h
 have g:∀o b,o < k->N (.out (ρ o))=some b->t (.out o)=some b:=by
  grind
 have n:∀o b,o < k->outs N (.out (ρ o))=some b->outs t (.out o)=some b:=fun o b O d=>g o b O d
 have W:dw G w R t A.tmps.toList u undef .undef [] Z U H z:=by
  refine⟨aJ _,r.tmps.rnY I g f1,r.locs.rnY I g f2,r.heap.rnY (by grind[outs]) n f3,r.nodup,?_,r.glob,r.frame⟩;grind
 refine lp (hc w R t A Z U H z W hd) ?_;rintro e a w' ⟨v,R',y,E,C,B,hq,j,L,hk,hN⟩
 let p:Name->Option Nat:=fun m=>match m with|.loc i=>y (.loc i)|.out x=>if x < f then N (.out x) else y (.out (x - f+k))
 have K:∀o b,N (.out o)=some b->o < f:=fun o b h=>r.next o b h
 have q:∀o b,y (.out o)=some b->p (.out (ig ρ k f o))=some b:=by
  intro o b d;unfold ig
  cases J:Nat.blt o k with
  | true=>
   have O:=oY J;dsimp only;obtain⟨Y,l⟩:=aj.Jg (M:=outs N) (ρ:=ρ) (qI f4 o O) r.heap;simp only[outs] at l;have h5:=hN o Y (g o Y O l);rw[d] at h5;simp only[p];rw[if_pos (K _ _ l),l,h5]
  | false=>
   dsimp only;have O:¬o < k:=fun h=>by rw[←Nat.blt_eq,J] at h;simp at h
   simp only[p];rw[if_neg (by omega),show f+(o - k) - f+k=o by omega];exact d
 have F:∀m b,y m=some b->p (wX (ig ρ k f) m)=some b:=by
  intro m b h
  cases m with
  | loc i=>exact h
  | out o=>exact q o b h
 have T:∀m b,outs y m=some b->outs p (wX (ig ρ k f) m)=some b:=by
  intro m b h
  cases m with
  | loc i=>simp[outs] at h
  | out o=>exact q o b h
 refine⟨_,R',p,E,C,B,⟨v,hq,rfl⟩,⟨aJ _,j.tmps.It F,j.locs.It F,j.heap.It T,j.nodup,?_,j.glob,j.frame⟩,L,hk,?_⟩
 ·intro x b X;simp only[p] at X;show x < f+(v.next - k)
  split at X
  ·omega
  have:=j.next _ _ X
  omega
 intro x b X;simp only[p];rw[if_pos (K x b X)];exact X
theorem dw.less {w:World} {R:Own} {N:Name->Option Nat} {c:List Value} {s:aa} {Z U H z:List Nat} {b i:Heap} (d:dw G w R N c s undef .undef [] Z U H z) (k:s.heap.Perm (b++i)) :
  ∃g,dw G w R N c ⟨s.tmps,s.locs,b,s.next⟩ undef .undef [] Z U g z:=by
 obtain⟨j,l,K⟩:=d.heap.perm k;obtain⟨r,Q,e,a,_⟩:=aj.append l;subst e;refine⟨r,aJ _,d.tmps,d.locs,a,?_,d.next,d.glob,d.frame⟩;have h:=d.nodup;have f:(Z++(U++((r++Q)++z))).Nodup:=(List.Perm.append_left _ (List.Perm.append_left _ (List.Perm.append_right _ K))).nodup_iff.1 h;refine List.Nodup.sublist ?_ f;simp_all
theorem cL.ab4 {c:Code} {Q o:Exit->aa->Prop} {s:aa} (v:cL P G c Q s) (B:∀e f,Q e f->∃b d,f.heap.Perm (b++d)/\o e ⟨f.tmps,f.locs,b,f.next⟩):cL P G c o s:=by
 intro w R N j Z U H z C D x;refine lp (v w R N j Z U H z C x) ?_;rintro e a E ⟨f,r,q,i,h,p,u,m,k,y,t⟩;obtain⟨b,d,A,l⟩:=B e f u;obtain⟨g,n⟩:=m.less A;exact⟨_,r,q,i,h,g,l,n,k,y,t⟩
mutual
theorem avw:∀a:ac,fx (fun o=>o) a=a
 | .dat _=>rfl
 | .own _=>rfl
 | .ref _=>rfl
 | .undef=>rfl
 | .ptr (.loc _) _=>rfl
 | .ptr (.out _) _=>rfl
 | .map (.loc _)=>rfl
 | .map (.out _)=>rfl
 | .win (.loc _) _ _ _=>rfl
 | .win (.out _) _ _ _=>rfl
 | .fn f a b=>by simp only[fx,aps]
 | .agg c=>by simp only[fx,aps]
 | .tup c=>by simp only[fx,aps]
theorem aps:∀l:List ac,il (fun o=>o) l=l
 | []=>rfl
 | a::r=>by simp only[il,avw a,aps r]
end
theorem atP (o:aL):pW (fun o=>o) o=o:=by
 cases o <;> grind[pW,aps]
theorem apO:∀h:Heap,jJ (fun o=>o) h=h
 | []=>rfl
 |(.loc i,o)::r=>by simp only[jJ,wX,atP,apO r]
 |(.out i,o)::r=>by simp only[jJ,wX,atP,apO r]
theorem cL.low {c:Code} {Q x:Exit->aa->Prop} {s:aa} (I:cL P G c Q s)
  (S:∀e g,Q e g->BI s.next g.tmps=false/\GM s.next g.locs=false/\GM s.next g.heap=false/\x e ⟨g.tmps,g.locs,g.heap,s.next⟩):cL P G c x s:=by
 intro w R N r Z U H z A D J;refine lp (I w R N r Z U H z A J) ?_;rintro e a X ⟨g,B,j,q,p,n,C,f,v,L,W⟩;obtain⟨T,K,M,V⟩:=S e g C
 let k:Name->Option Nat:=fun m=>match m with|.loc i=>j (.loc i)|.out o=>if o < s.next then j (.out o) else none
 have l:∀i b,j (.loc i)=some b->k (.loc i)=some b:=fun _ _ h=>h
 have t:∀o b,o < s.next->j (.out ((fun o=>o) o))=some b->k (.out o)=some b:=by
  grind
 have u:∀o b,o < s.next->outs j (.out ((fun o=>o) o))=some b->outs k (.out o)=some b:=fun o b O d=>t o b O d
 have E:=f.tmps;have F:=f.locs;have y:=f.heap;rw[←aps g.tmps] at E;rw[←apO g.locs] at F;rw[←apO g.heap] at y;refine⟨_,B,k,q,p,n,V,⟨aJ _,E.rnY l t T,F.rnY l t K,y.rnY (by grind[outs]) u M,f.nodup,?_,f.glob,f.frame⟩,v,L,?_⟩
 ·grind
 intro o b O;simp only[k];rw[if_pos (A.next o b O)];grind
end Go.Tp
