/- HierarchyLookup returns true and changes nothing, for arguments of bulk at most 1048576 (the card of the second form; conditions: those of the given row). Names are shortened by a program, for the claim's bound. Part 1. -/
import Derived.Laws.MakeOwn
import Derived.Orders
import Derived.Test.YtiihadmgkoamoaaGreatDoorQ00
set_option linter.unusedVariables false
set_option linter.unusedSimpArgs false
set_option maxRecDepth 100000
set_option maxHeartbeats 4000000
namespace Go.Tp
section
variable {P:Program} {E:bG} {G:bJ} {w:World} {R:Own} {N:Name->Option Nat}
theorem pX {s:aa} {act:Act} {bsT:List Nat} (ht:ak w R N s.tmps act.tmps.toList bsT) (hg:∀g cs,G g=some cs->dX w R g 0 cs) (x:Operand) :
  ∃bs,al w R N (eT G s x) (act.eval x) bs:=by
 cases x with
 | tmp t=>
  simp only[eT,bC,Act.eval]
  cases h:s.tmps[t]? with
  | none=>exact⟨[],aW _⟩
  | some a=>
   obtain⟨v,b',e1,e2,_⟩:=eD ht h
   have:act.tmps.getD t undef=v:=by simp at e1;simp[e1]
   exact⟨b',by rw[this];exact e2⟩
 | const v=>exact⟨[],gp v⟩
 | global g=>
  simp only[eT,Act.eval]
  cases h:G g with
  | none=>exact⟨[],aW _⟩
  | some cs=>exact⟨[],by simp only[al];exact⟨trivial,g,0,rfl,hg g cs h⟩⟩
 | func f=>exact⟨[],by simp only[eT,Act.eval,al];exact⟨trivial,[],[],rfl,aX,aX⟩⟩
theorem CJ {s:aa} {act:Act} {bsT:List Nat} (ht:ak w R N s.tmps act.tmps.toList bsT) (hg:∀g cs,G g=some cs->dX w R g 0 cs) (x:Operand) :
  al w R N (cQ (eT G s x)) (act.eval x) []:=by
 obtain⟨bs,h⟩:=pX ht hg x;exact qv h
theorem kR {s:aa} {act:Act} {bsT:List Nat} (ht:ak w R N s.tmps act.tmps.toList bsT) (hg:∀g cs,G g=some cs->dX w R g 0 cs) (mv:Option Nat):∀(k:Nat) (xs:List Operand),
  (∀j,mv=some j->j < k∨k+xs.length<=j)->ak w R N (aP G s mv k xs) (xs.map act.eval) []
 | _,[],_=>by simpa [aP] using aX
 | k,x::xs,h=>by
  have hne:mv≠some k:=fun e=>by rcases h k e with h|h <;> simp at h <;> omega
  simp only[aP,if_neg hne,List.map_cons];exact aH (b1:=[]) (b2:=[]) (CJ ht hg x) (kR ht hg mv (k+1) xs (fun j hj=>by have:=h j hj;simp only[List.length_cons] at this;omega))
theorem qZ {s:aa} {act:Act} {bsT:List Nat} (ht:ak w R N s.tmps act.tmps.toList bsT) (hg:∀g cs,G g=some cs->dX w R g 0 cs) (mv:Option Nat) (xs:List Operand) (rest:List Nat) (hnd:(bsT++rest).Nodup) :
  ∃bsM bsT',ak w R N (aP G s mv 0 xs) (xs.map act.eval) bsM/\ak w R N (bO s mv xs).tmps act.tmps.toList bsT'/\(bsM++(bsT'++rest)).Nodup/\(mv=none->bsM=[]):=by
 cases mv with
 | none=>exact⟨[],bsT,kR ht hg none 0 xs (by simp),by simpa [bO] using ht,by simpa using hnd,fun _=>rfl⟩
 | some k=>
  -- the part with operand k
  have key:∀(xs:List Operand) (j:Nat),j<=k->∀bk,(∀x,xs[k - j]?=some x->al w R N (eT G s x) (act.eval x) bk)->(xs.length<=k - j->bk=[])->ak w R N (aP G s (some k) j xs) (xs.map act.eval) bk:=by
   intro xs
   induction xs with
   | nil=>intro j _ bk _ h0;rw[h0 (by simp)];simpa [aP] using aX
   | cons x xs ih=>
    intro j hj bk hx h0
    by_cases hjk:k=j
    ·subst hjk;simp only[aP,if_true,List.map_cons];have h1:=hx x (by simp);have h2:=kR ht hg (some k) (k+1) xs (fun j hj=>by simp at hj;omega);simpa using aH h1 h2
    have hne:(some k:Option Nat)≠some j:=by simpa using hjk
    simp only[aP,if_neg hne,List.map_cons];have e:k - j=(k - (j+1))+1:=by omega
    exact aH (b1:=[]) (CJ ht hg x) (ih (j+1) (by omega) bk (fun y hy=>hx y (by rw[e];simpa using hy)) (fun hl=>h0 (by simp;omega)))
  cases hk:xs[k]? with
  | none=>
   have hl:xs.length<=k:=by simpa using hk
   exact⟨[],bsT,key xs 0 (by omega) [] (fun x hx=>by rw[Nat.sub_zero,hk] at hx;simp at hx) (fun _=>rfl),by simpa [bO,hk] using ht,by simpa using hnd,by simp⟩
  | some x=>
   have hnl:¬xs.length<=k - 0:=fun hl=>by rw[List.getElem?_eq_none (by simpa using hl)] at hk;simp at hk
   cases x with
   | tmp t=>
    cases hg2:s.tmps[t]? with
    | none=>
     have hu:bC s.tmps t=.undef:=by simp[bC,hg2]
     refine⟨[],bsT,key xs 0 (by omega) [] (fun y hy=>?_) (fun hl=>absurd hl hnl),?_,by simpa using hnd,by simp⟩
     ·rw[Nat.sub_zero,hk] at hy;simp at hy;subst hy;simp only[eT,hu];exact aW _
     have:s.tmps.set t (cQ (bC s.tmps t))=s.tmps:=List.set_eq_of_length_le (by simpa using hg2)
     simp only[bO,hk,this];exact ht
    | some a=>
     obtain⟨pre,bt,post,v,e1,e2,e3,e4⟩:=ak.split ht hg2;have hgt:bC s.tmps t=a:=by simp[bC,hg2]
     have hev:act.eval (.tmp t)=v:=by simp at e2;simp[Act.eval,e2]
     refine⟨bt,pre++[]++post,key xs 0 (by omega) bt (fun y hy=>?_) (fun hl=>absurd hl hnl),?_,?_,by simp⟩
     ·rw[Nat.sub_zero,hk] at hy;simp at hy;subst hy;rw[hev];simp only[eT,hgt];exact e3
     ·have:=e4 w R (cQ a) v [] (bj _) (qv e3)
      have hset:act.tmps.toList.set t v=act.tmps.toList:=by
       apply List.ext_getElem?
       intro j;rw[List.getElem?_set]
       split
       ·rename_i htj;subst htj;split
        ·exact e2.symm
        rename_i hl;rw[List.getElem?_eq_none (by omega)]
       rfl
      rw[hset] at this;simp only[bO,hk,hgt];exact this
     subst e1;have hp:(bt++((pre++[]++post)++rest)).Perm ((pre++bt++post)++rest):=by
      simp only[List.append_nil,←List.append_assoc];refine List.Perm.append_right _ (List.Perm.append_right _ ?_);exact List.perm_append_comm
     exact hp.nodup_iff.2 hnd
   | const v=>exact⟨[],bsT,key xs 0 (by omega) [] (fun y hy=>by rw[Nat.sub_zero,hk] at hy;simp at hy;subst hy;exact gp v) (fun hl=>absurd hl hnl),by simpa [bO,hk] using ht,by simpa using hnd,by simp⟩
   | global g=>
    refine⟨[],bsT,key xs 0 (by omega) [] (fun y hy=>?_) (fun hl=>absurd hl hnl),by simpa [bO,hk] using ht,by simpa using hnd,by simp⟩;rw[Nat.sub_zero,hk] at hy;simp at hy;subst hy;simp only[eT,Act.eval]
    cases h:G g with
    | none=>exact aW _
    | some cs=>simp only[al];exact⟨trivial,g,0,rfl,hg g cs h⟩
   | func f=>
    refine⟨[],bsT,key xs 0 (by omega) [] (fun y hy=>?_) (fun hl=>absurd hl hnl),by simpa [bO,hk] using ht,by simpa using hnd,by simp⟩;rw[Nat.sub_zero,hk] at hy;simp at hy;subst hy;simp only[eT,Act.eval,al];exact⟨trivial,[],[],rfl,aX,aX⟩
def wC (w:World) (bs:List Nat) (xs:List Nat):Prop:=xs.Nodup/\∀b∈xs,b∈bs∨w.heap.size<=b
def tL:Option (Nat×List Nat)->List Nat
 | none=>[]
 | some (b,b1)=>b::b1
def Ml (w:World) (R:Own) (N:Name->Option Nat) (ob:Option aT) (nm:Option (Nat×List Nat)) (bsM rest:List Nat) (out:Out) (cv:Value) (w':World) (R':Own):Prop:=
 bA w R w' R' rest ∧
 match out.eff with
 | .keep=>∃bsV,al w' R' N out.val cv bsV/\wC w bsM bsV/\(∀b b1 o,nm=some (b,b1)->ob=some o->aU w' R' N o b b1)/\(nm=none∨(w'=w/\R'=R))
 | .set o'=>∃b b1 b1' bsV,nm=some (b,b1)/\aU w' R' N o' b b1'/\al w' R' N out.val cv bsV/\wC w (bsM++b1) (bsV++b1')
 | .grow o' sz len=>∃b' b1' cap,aU w' R' N o' b' b1'/\wC w (bsM++tL nm) (b'::b1')/\cv=.slice (some ⟨b',0,none⟩) len cap/\len<=cap/\(0 < sz/\cap<=gX)/\b' < w'.heap.size/\cap*sz=ey w' b'
 | .fresh o'=>nm=none/\∃b1',aU w' R' N o' w.heap.size b1'/\(b1'.Nodup/\∀b∈b1',b∈bsM)/\w.heap.size < w'.heap.size/\cv=(match o' with|.cells _=>.pointer (some ⟨w.heap.size,0,none⟩)|.map _=>.map (some w.heap.size))
 | .row o' sz len=>nm=none/\∃b1',aU w' R' N o' w.heap.size b1'/\(b1'.Nodup/\∀b∈b1',b∈bsM)/\w.heap.size < w'.heap.size/\∃cap,cv=.slice (some ⟨w.heap.size,0,none⟩) len cap/\len<=cap/\(0 < sz/\cap<=gX)/\cap*sz=ey w' w.heap.size
 | .new o'=>nm=none/\∃b1',aU w' R' N o' w.heap.size b1'/\(b1'.Nodup/\∀b∈b1',b∈bsM)/\w.heap.size < w'.heap.size/\cv=(match o' with|.cells _=>.pointer (some ⟨w.heap.size,0,none⟩)|.map _=>.map (some w.heap.size))
theorem wC.nil {bs:List Nat}:wC w bs []:=⟨List.nodup_nil,by simp⟩
theorem wC.aem {bs:List Nat} (h:bs.Nodup):wC w bs bs:=⟨h,fun _ hb=>.inl hb⟩
theorem Ml.pure {out:Out} {cv:Value} {ob:Option aT} {nm:Option (Nat×List Nat)} {bsM rest bsV:List Nat} (he:out.eff=.keep) (hv:al w R N out.val cv bsV) (hf:wC w bsM bsV)
  (hob:∀b b1 o,nm=some (b,b1)->ob=some o->aU w R N o b b1):Ml w R N ob nm bsM rest out cv w R:=by
 refine⟨bj _,?_⟩;rw[he];exact⟨bsV,hv,hf,hob,.inr ⟨rfl,rfl⟩⟩
theorem og (hE:E.Ok P) {i:TI} {len:Nat} {cs:List ac} {x:ac} {out:Out} (h:jG E i len cs x=some out) :
  ∃ds,x=.dat (.slice ds)/\0 < i.size/\(∀d∈ds,d.cells.length=i.size)/\(len+ds.length)*i.bytes<=140737488355328/\len+ds.length<=lim/\len*i.size<=cs.length/\cN (cs.take (len*i.size)++(ds.flatMap aq.cells).map .dat)=false ∧
   out=⟨.undef,.grow (.cells (cs.take (len*i.size)++(ds.flatMap aq.cells).map .dat)) i.size (len+ds.length)⟩:=by
 unfold jG at h
 split at h
 ·rename_i r hap;obtain⟨ds,rfl,hs0,hds,_,_,_,_,rfl⟩:=jI (by rw[hE.mL] at hap;exact hap)
  split at h
  ·rename_i hc;simp only[Bool.and_eq_true,Nat.ble_eq,List.nil_append] at hc;simp only[List.nil_append,Option.some.injEq] at h;exact⟨r,rfl,hs0,hds,hc.1.1.1,hc.1.1.2,hc.1.2,by have:=hc.2;rw[pc] at this;simpa using this,by rw[←h,pc]⟩
  simp at h
 simp at h
theorem eF:∀(us:List Value),ak w R N (List.replicate us.length .undef) us []
 | []=>by simpa using aX
 | u::us=>by
  rw[List.length_cons,List.replicate_succ];exact aH (aW u) (eF us)
theorem B7 (e:TypeId) {s n cap:Nat} {cs:List ac} {cells:List Value} {b1:List Nat} (hr:ak w R N cs cells b1) (hl:cells.length=n*s) (hcap:n<=cap) (rest:Array Value) (hrest:rest.size=(cap - n)*s) (hsh:cN cs=false) (bs:List Nat) :
  ∃R',bA w R (w.drew.alloc (.cells (cells.toArray++rest) e)) R' bs/\aU (w.drew.alloc (.cells (cells.toArray++rest) e)) R' N (.cells cs) w.heap.size b1 ∧
   w.heap.size < (w.drew.alloc (.cells (cells.toArray++rest) e)).heap.size/\cap*s=ey (w.drew.alloc (.cells (cells.toArray++rest) e)) w.heap.size:=by
 let R':Own:=fun b off=>b=w.heap.size∨R b off
 have hst:∀b off,b < w.heap.size->(R' b off↔R b off):=fun b off hb=>⟨fun h=>by rcases h with h|h;exact absurd h (by omega);exact h,fun h=>.inr h⟩
 have hk:=fun bs=>eE (w:=w) (R:=R) (.cells (cells.toArray++rest) e) hst bs
 have hh:(w.drew.alloc (.cells (cells.toArray++rest) e)).heap[w.heap.size]?=some (.cells (cells.toArray++rest) e (0,0)):=heap_alloc_new w.drew _;have hsz:cap*s=(cells.toArray++rest).size:=by
  simp only[Array.size_append,List.size_toArray,hrest,hl];rw[←Nat.add_mul];congr 1;omega
 refine⟨R',hk bs,⟨_,e,rest.size,hh,?_,fun j _=>.inl rfl,fun hb=>by rw[hsh] at hb;simp at hb⟩,bw hh,by rw[di hh];exact hsz⟩
 have:=cA (hr.keep (hk b1)) (eF (w:=w.drew.alloc (.cells (cells.toArray++rest) e)) (R:=R') (N:=N) rest.toList)
 simpa using this
theorem zd (hE:E.Ok P) {t ty:TypeId} {i:TI} {x:ac} {u:Value} {base:Option Addr} {out:Out} (hel:elemOf E t=some i) (h:jG E i 0 [] x=some out) (hm:Ay x=true) (hx:al w R N x u [])
  (hbase:base=none∨∃b,base=some ⟨b,0,none⟩) (bs:List Nat) :
  ∃o' len cv w' R' cap,out=⟨.undef,.grow o' i.size len⟩/\(Builtin.append_ #[t,t] ty #[.slice base 0 0,u]).run P w=.ok cv w'/\bA w R w' R' bs/\aU w' R' N o' w.heap.size [] ∧
   cv=.slice (some ⟨w.heap.size,0,none⟩) len cap/\len<=cap/\(0 < i.size/\cap<=gX)/\w.heap.size < w'.heap.size/\cap*i.size=ey w' w.heap.size:=by
 obtain⟨e,hu,hty⟩:=fe hE hel;obtain⟨⟨ie,k1,k2,k3,k4,k5⟩,_⟩:=hE.ty e i hty;obtain⟨ds,rfl,hs0,hds,hbytes,hlim,_,hbl,rfl⟩:=og hE h;obtain⟨_,hxr⟩:=dI hx;have hne:ds≠[]:=by intro e;subst e;simp[Ay] at hm
 obtain⟨b2,off2,cap2,news,rfl,_,hnr,hnc⟩:=mO hxr hne hds;have hnl:=cO hnr;rw[dK hds] at hnl;have hnews:∀(j:Nat) u,news[j]?=some u->w.cell? ((⟨b2,off2,none⟩:Addr).add j)=some u:=fun j u hj=>by rw[add_plain];exact (hnc j u hj).1
 have hdl:0 < ds.length:=by cases ds with|nil=>exact absurd rfl hne|cons _ _=>simp
 simp only[Nat.zero_add] at hbytes hlim;have h63:ds.length<=9223372036854775807:=by unfold lim at hlim;omega
 have hzc:∀(z:Array Value) (n:Nat),(Builtin.zeroCells z n).size=n*z.size:=fun z n=>size_zeroCells z n
 have hge:=grownCap_ge w ds.length 0 e;obtain⟨R',g1,g2,g3,g4⟩:=B7 (N:=N) (s:=i.size) (n:=ds.length) e (jl (N:=N) hnr) hnl hge (Builtin.zeroCells i.zero.cells (grownCap w ds.length 0 e - ds.length)) (by rw[hzc,k5]) (by simpa using hbl) bs;refine⟨_,_,_,_,R',grownCap w ds.length 0 e,rfl,?_,g1,by simpa using g2,by rw[Nat.zero_add],by simpa using hge,⟨hs0,Nat.le_trans (grownCap_le_maxLen w ds.length 0 e h63) (by decide)⟩,g3,g4⟩
 rcases hbase with rfl|⟨b,rfl⟩
 ·exact run_append_nil (P:=P) w t ty e ie i.zero hu k1 k4 ⟨b2,off2,none⟩ ds.length cap2 news (by rw[k2];exact hnl) hnews hdl (by omega) (by rw[k3];omega)
 have hrun:=run_append_grow (P:=P) w t ty e ie i.zero hu k1 k4 ⟨b,0,none⟩ 0 0 [] (by simp) (by simp) ⟨b2,off2,none⟩ ds.length cap2 news (by rw[k2];exact hnl) hnews (by omega) (by omega) (growslice_fits (by omega) (by rw[k3];simpa using hbytes));simpa using hrun
theorem zc (hE:E.Ok P) {t ty:TypeId} {i:TI} {len b cap:Nat} {b1:List Nat} {cs:List ac} {x:ac} {u:Value} {out:Out} (hel:elemOf E t=some i) (h:jG E i len cs x=some out) (hx:al w R N x u [])
  (hobj:aU w R N (.cells cs) b b1) (hcap:len<=cap) (hcm:cap<=gX) (hrow:cap*i.size=ey w b) (hnd:(b::b1).Nodup) (bs:List Nat) (hb:b∉bs) :
  ∃o' len' cv w' R' b' b1' cap',out=⟨.undef,.grow o' i.size len'⟩/\(Builtin.append_ #[t,t] ty #[.slice (some ⟨b,0,none⟩) len cap,u]).run P w=.ok cv w'/\bA w R w' R' bs/\aU w' R' N o' b' b1' ∧
   wC w (b::b1) (b'::b1')/\cv=.slice (some ⟨b',0,none⟩) len' cap'/\len'<=cap'/\(0 < i.size/\cap'<=gX)/\b' < w'.heap.size/\cap'*i.size=ey w' b':=by
 obtain⟨e,hu,hty⟩:=fe hE hel;obtain⟨⟨ie,k1,k2,k3,k4,k5⟩,_⟩:=hE.ty e i hty;obtain⟨ds,rfl,hs0,hds,hbytes,hlim,hcl,hbl,rfl⟩:=og hE h;obtain⟨_,hxr⟩:=dI hx;obtain⟨vs,el,sp,hblk,hr,hR,_⟩:=hobj;have hsz:=di hblk;rw[hsz] at hrow;have hmul:len*i.size<=cap*i.size:=Nat.mul_le_mul_right _ hcap;have hsplit:cs++List.replicate sp ac.undef=cs.take (len*i.size)++(cs.drop (len*i.size)++List.replicate sp ac.undef):=by rw[←List.append_assoc,List.take_append_drop]
 rw[hsplit] at hr;obtain⟨olds,others,c1,c2,hvs,rfl,hr1,hr2⟩:=cV hr;have hol:olds.length=len*i.size:=by rw[hr1.length,List.length_take];omega
 have hnd1:=List.nodup_cons.1 hnd;have hbc:b∉c1:=fun hh=>hnd1.1 (by simp[hh])
 have hnc1:c1.Nodup:=(List.nodup_append.1 hnd1.2).1;have hfrom1:wC w (b::(c1++c2)) (b::c1):=⟨List.nodup_cons.2 ⟨hbc,hnc1⟩,fun c hc=>.inl (by simp at hc ⊢;rcases hc with h|h <;> simp[h])⟩;have holt:olds=vs.toList.take (len*i.size):=by rw[hvs,←hol];simp
 by_cases hne:ds=[]
 ·subst hne;have hu0:∃a' c,u=.slice a' 0 c:=by cases hxr with|nil a c=>exact⟨a,c,rfl⟩|slice b off cap s es vs=>exact⟨_,_,rfl⟩
  obtain⟨a',c,rfl⟩:=hu0;refine⟨_,_,_,w,R,b,c1,cap,rfl,xR t ty e ie hu k1 (some ⟨b,0,none⟩) a' len cap c hcap,bj _,⟨vs,el,others.length,hblk,?_,hR,fun hb=>by rw[hbl] at hb;simp at hb⟩,hfrom1,by simp,by simpa using hcap,⟨hs0,hcm⟩,bw hblk,by rw[hsz];exact hrow⟩;rw[hvs];simpa using cA hr1 (eF (w:=w) (R:=R) (N:=N) others)
 obtain⟨b2,off2,cap2,news,rfl,_,hnr,hnc⟩:=mO hxr hne hds;have hnl:=cO hnr;rw[dK hds] at hnl;have hnews:∀(j:Nat) u,news[j]?=some u->w.cell? ((⟨b2,off2,none⟩:Addr).add j)=some u:=fun j u hj=>by rw[add_plain];exact (hnc j u hj).1
 have hdl:0 < ds.length:=by cases ds with|nil=>exact absurd rfl hne|cons _ _=>simp
 have h63:len+ds.length<=9223372036854775807:=by unfold lim at hlim;omega
 have hzc:∀(z:Array Value) (n:Nat),(Builtin.zeroCells z n).size=n*z.size:=fun z n=>size_zeroCells z n
 have hmul':(len+ds.length)*i.size=len*i.size+ds.length*i.size:=Nat.add_mul ..;have hdpos:0 < ds.length*i.size:=Nat.mul_pos hdl hs0
 by_cases hroom:len+ds.length<=cap
 ·have hmulr:(len+ds.length)*i.size<=cap*i.size:=Nat.mul_le_mul_right _ hroom;have hrun:=vn (P:=P) (w:=w) t ty e el ie hu k1 b len cap vs hblk ⟨b2,off2,none⟩ ds.length cap2 news (by rw[k2];exact hnl) hnews (vq hnr) hroom (by rw[k2,hnl];omega);rw[k2,←holt] at hrun;have hlen:(olds++news++vs.toList.drop (len*i.size+news.length)).length=vs.size:=by simp[hol];omega
  have hkeep:=fun bs hb=>jL (R:=R) (R':=R) hblk (olds++news++vs.toList.drop (len*i.size+news.length)).toArray (by simpa using hlen) (fun c x h=>h) (fun c x _ h=>h) (fun off hnR=>by
   have h1:vs.size<=off:=by
    rcases Nat.lt_or_ge off vs.size with h'|h'
    ·exact absurd (hR off h') hnR
    exact h'
   rw[Array.getElem?_eq_none h1,Array.getElem?_eq_none (by simp only[List.size_toArray];omega)]) ⟨0,hR 0 (by omega)⟩ bs hb
  have hblk':=setRow_heap w b vs (olds++news++vs.toList.drop (len*i.size+news.length)).toArray el (0,0) hblk;refine⟨_,_,_,_,R,b,c1,cap,rfl,hrun,hkeep bs hb,⟨_,el,(vs.toList.drop (len*i.size+news.length)).length,hblk',?_,fun j hj=>hR j (by simp only[List.size_toArray] at hj;omega),fun hb=>by rw[hbl] at hb;simp at hb⟩,hfrom1,rfl,hroom,⟨hs0,hcm⟩,bw hblk',?_⟩
  ·have q1:=hr1.keep (hkeep c1 hbc);have q2:=(jl (N:=N) hnr).keep (hkeep [] (by simp));have q3:=cA (cA q1 q2) (eF (w:=w.setRow b (olds++news++vs.toList.drop (len*i.size+news.length)).toArray) (R:=R) (N:=N) (vs.toList.drop (len*i.size+news.length)));simpa only[List.append_nil] using q3
  rw[di hblk'];simp only[List.size_toArray];omega
 have holds:∀(j:Nat) z,olds[j]?=some z->w.cell? ((⟨b,0,none⟩:Addr).add j)=some z:=fun j z hj=>by
  rw[add_plain,cell_of_row w b (0+j) vs el (0,0) hblk,Nat.zero_add];have hj':vs.toList[j]?=some z:=by
   rw[hvs,List.getElem?_append_left]
   ·exact hj
   rcases Nat.lt_or_ge j olds.length with h'|h'
   ·exact h'
   rw[List.getElem?_eq_none h'] at hj;simp at hj
  simpa using hj'
 have hrun:=run_append_grow (P:=P) w t ty e ie i.zero hu k1 k4 ⟨b,0,none⟩ len cap olds (by rw[k2];exact hol) holds ⟨b2,off2,none⟩ ds.length cap2 news (by rw[k2];exact hnl) hnews (by omega) (by omega) (growslice_fits (by omega) (by rw[k3];exact hbytes));have hge:=grownCap_ge w (len+ds.length) cap e;have hrr:=cA hr1 (jl (N:=N) hnr);obtain⟨R',g1,g2,g3,g4⟩:=B7 (N:=N) (s:=i.size) (n:=len+ds.length) e hrr (by rw[List.length_append,hol,hnl];omega) hge (Builtin.zeroCells i.zero.cells (grownCap w (len+ds.length) cap e - (len+ds.length))) (by rw[hzc,k5]) hbl bs;refine⟨_,_,_,_,R',w.heap.size,c1,grownCap w (len+ds.length) cap e,rfl,?_,g1,by simpa using g2,⟨?_,?_⟩,rfl,hge,⟨hs0,Nat.le_trans (grownCap_le_maxLen w (len+ds.length) cap e h63) (by decide)⟩,g3,g4⟩
 ·simpa using hrun
 ·refine List.nodup_cons.2 ⟨fun hh=>?_,hnc1⟩
  have:=hr1.lt _ hh
  omega
 intro c hc
 rcases List.mem_cons.1 hc with rfl|hc
 ·exact .inr (Nat.le_refl _)
 exact .inl (by simp[hc])
theorem Ni (z:Array Value) (c:Nat) (hz:0 < z.size):(madeCells z ((c+1)*z.size)).toList=z.toList++(madeCells z (c*z.size)).toList:=by
 apply List.ext_getElem?
 intro k;have hget:∀n k:Nat,(madeCells z n).toList[k]?=if k < n then some (z[k % z.size]!) else none:=by
  intro n k;simp only[madeCells,Array.toList_map,List.getElem?_map,Array.toList_range]
  by_cases h:k < n
  ·rw[if_pos h,List.getElem?_range h];rfl
  rw[if_neg h,List.getElem?_eq_none (by simpa using h)];rfl
 rw[hget,List.getElem?_append,hget,Nat.add_mul,Nat.one_mul];simp only[Array.length_toList]
 by_cases h:k < z.size
 ·rw[if_pos h,if_pos (by omega),Nat.mod_eq_of_lt h];simp[h]
 rw[if_neg h]
 by_cases h2:k < c*z.size+z.size
 ·rw[if_pos h2,if_pos (by omega)];congr 2;exact (Nat.mod_eq_sub_mod (by omega))
 rw[if_neg h2,if_neg (by omega)]
theorem zy {zs:List ac} {z:Array Value} (hz:0 < z.size) (h:ak w R N zs z.toList []):∀c:Nat,ak w R N (KG zs c) (madeCells z (c*z.size)).toList []
 | 0=>by
  have:(madeCells z (0*z.size)).toList=[]:=by simp[madeCells]
  rw[this];exact aX
 | c+1=>by
  rw[Ni z c hz];exact cA h (zy hz h c)
theorem xN (hE:E.Ok P) {t:TypeId} {a b:ac} {x y:Value} {out:Out} (h:sT E t [a,b]=some out) (ha:al w R N a x []) (hb:al w R N b y []) (bs:List Nat) :
  ∃o' len cv w' R' cap s,out=⟨.undef,.grow o' s len⟩/\(Instr.makeSlice t x y).run P w=.ok cv w'/\bA w R w' R' bs/\aU w' R' N o' w.heap.size [] ∧
   cv=.slice (some ⟨w.heap.size,0,none⟩) len cap/\len<=cap/\(0 < s/\cap<=gX)/\w.heap.size < w'.heap.size/\cap*s=ey w' w.heap.size:=by
 unfold sT at h
 split at h
 ·rename_i k1 l k2 c heq;simp at heq;obtain⟨rfl,rfl⟩:=heq;obtain⟨_,rfl,_⟩:=aL ha;obtain⟨_,rfl,_⟩:=aL hb
  split at h
  ·rename_i i l c hel _ _
   split at h
   ·rename_i hc;simp only[Bool.and_eq_true,Nat.ble_eq,Nat.blt_eq] at hc;obtain⟨⟨⟨⟨⟨h1,h2⟩,h3⟩,h4⟩,h5⟩,h6⟩:=hc;simp at h;subst h;obtain⟨e,hu,hty⟩:=fe hE hel;obtain⟨⟨ie,k1,k2,k3,k4,k5⟩,_⟩:=hE.ty e i hty;have hb':(ie.bytes:Int)*(c:Int)<=281474976710656:=by
     have h:((ie.bytes*c:Nat):Int)<=281474976710656:=by rw[k3];omega
     rwa [Int.natCast_mul] at h
    have hrun:=fun q1 q2=>run_make (P:=P) w t e ie i.zero hu k1 k4 q1 q2 (l:Int) (c:Int) (by omega) (by omega) hb' (by unfold lim at h3;omega)
    simp only[Int.toNat_natCast] at hrun
    let R':Own:=fun b off=>b=w.heap.size∨R b off
    have hst:∀b off,b < w.heap.size->(R' b off↔R b off):=fun b off hb=>⟨fun h=>by rcases h with h|h;exact absurd h (by omega);exact h,fun h=>.inr h⟩
    have hk:=fun bs=>fE (w:=w) (R:=R) (.cells (madeCells i.zero.cells (c*ie.size)) e) hst bs
    have hh:(w.alloc (.cells (madeCells i.zero.cells (c*ie.size)) e)).heap[w.heap.size]?=some (.cells (madeCells i.zero.cells (c*ie.size)) e (0,0)):=heap_alloc_new w _;have hz:=(ir (gp (w:=w) (R:=R) (N:=N) i.zero) h5).keep (hk []);refine⟨_,l,_,_,R',c,i.size,rfl,hrun _ _,hk bs,⟨_,e,0,hh,?_,fun j _=>.inl rfl,fun hb=>by rw[hb] at h6;simp at h6⟩,rfl,h1,⟨h4,by unfold lim at h3;unfold gX;omega⟩,bw hh,?_⟩
    ·have hsz:c*ie.size=c*i.zero.cells.size:=by rw[k2,k5]
     have:=zy (by rw[k5];exact h4) hz c
     rw[←hsz] at this;simpa using this
    rw[di hh,size_madeCells,k2]
   simp at h
  simp at h
 simp at h
theorem cq {s:Sem Value} {cv:Value} {w':World} (h:s.run P w=.ok cv w'):(do pure (Next.value (←s)):Sem Next).run P w=.ok (.value cv) w':=by
 simp[h]
theorem zg {s:Sem Unit} {w':World} (h:s.run P w=.ok () w'):(do s;pure Next.skip:Sem Next).run P w=.ok .skip w':=by
 simp[h]
end
end Go.Tp
namespace Go.Tp
section
variable {P:Program} {E:bG} {w:World} {R:Own} {N:Name->Option Nat}
theorem dB {vals:List ac} {x:Value} {bs:List Nat} (h:ak w R N vals [x] bs):∃a,vals=[a]/\al w R N a x bs:=by
 cases vals with
 | nil=>simp[ak] at h
 | cons a vals=>
  obtain⟨v,vs',b1,b2,e1,rfl,h1,h2⟩:=az h;simp at e1;obtain⟨rfl,rfl⟩:=e1
  cases vals with
  | nil=>obtain⟨_,rfl⟩:=aR h2;exact⟨a,rfl,by simpa using h1⟩
  | cons _ _=>simp[ak] at h2
theorem eC {vals:List ac} {x y:Value} {bs:List Nat} (h:ak w R N vals [x,y] bs):∃a b b1 b2,vals=[a,b]/\bs=b1++b2/\al w R N a x b1/\al w R N b y b2:=by
 cases vals with
 | nil=>simp[ak] at h
 | cons a vals=>
  obtain⟨v,vs',b1,b2,e1,rfl,h1,h2⟩:=az h;simp at e1;obtain⟨rfl,rfl⟩:=e1;obtain⟨b,rfl,h3⟩:=dB h2;exact⟨a,b,b1,b2,rfl,rfl,h1,h3⟩
theorem pk {vals:List ac} {x y z:Value} {bs:List Nat} (h:ak w R N vals [x,y,z] bs) :
  ∃a b c b1 b2 b3,vals=[a,b,c]/\bs=b1++(b2++b3)/\al w R N a x b1/\al w R N b y b2/\al w R N c z b3:=by
 cases vals with
 | nil=>simp[ak] at h
 | cons a vals=>
  obtain⟨v,vs',b1,b2,e1,rfl,h1,h2⟩:=az h;simp at e1;obtain⟨rfl,rfl⟩:=e1;obtain⟨b,c,c1,c2,rfl,rfl,h3,h4⟩:=eC h2;exact⟨a,b,c,b1,c1,c2,rfl,rfl,h1,h3,h4⟩
theorem fJ {a b:List Nat} (h:a++b=[]):a=[]/\b=[]:=List.append_eq_nil_iff.1 h
def eA (w:World) (R:Own) (N:Name->Option Nat) (o:Op) (vals:List ac) (ob:Option aT) (nm:Option (Nat×List Nat)):Prop:=
 match looks o vals with
 | none=>ob=none/\nm=none
 | some n=>(ob=none/\nm=none)∨∃b b1 obj,ob=some obj/\nm=some (b,b1)/\N n=some b/\aU w R N obj b b1
abbrev Zo (P:Program) (w:World) (ρ:Operand->Value) (o:Oper) (cv:Value) (w':World):Prop:=
 (execOp ρ o).run P w=.ok (.value cv) w'∨((execOp ρ o).run P w=.ok .skip w'/\cv=undef)
theorem Ak {args:Array Operand} {tys:Array TypeId} {a x:ac} {ob:Option aT} {nm:Option (Nat×List Nat)} (h:eA w R N (.call ⟨.builtin .append,args,tys⟩) [a,x] ob nm) :
  eA w R N (.call ⟨.builtin .append,args,tys⟩) [Dt a,nz x] ob nm:=by
 have e:looks (.call ⟨.builtin .append,args,tys⟩) [a,x]=looks (.call ⟨.builtin .append,args,tys⟩) [Dt a,nz x]:=by
  unfold Dt
  split
  ·rfl
  cases a <;> rfl
 unfold eA at h ⊢;rw[←e];exact h
theorem bq {o:Op} {vals:List ac} {ob:Option aT} {nm:Option (Nat×List Nat)} (h:eA w R N o vals ob nm) (hl:looks o vals=none):ob=none/\nm=none:=by
 unfold eA at h;rw[hl] at h;exact h
theorem fw {o:Op} {vals:List ac} {ob:Option aT} {nm:Option (Nat×List Nat)} {n:Name} {obj:aT} (h:eA w R N o vals ob nm) (hl:looks o vals=some n) (ho:ob=some obj) :
  ∃b b1,nm=some (b,b1)/\N n=some b/\aU w R N obj b b1:=by
 unfold eA at h;rw[hl] at h
 rcases h with⟨h,_⟩|⟨b,b1,obj',h1,h2,h3,h4⟩
 ·rw[ho] at h;simp at h
 rw[ho] at h1;simp at h1;subst h1;exact⟨b,b1,h2,h3,h4⟩
theorem nu (hE:E.Ok P) {take:Bool} {o:Oper} {ρ:Operand->Value} {vals:List ac} {ob:Option aT} {nm:Option (Nat×List Nat)} {out:Out} (h:jJ E take o.op vals ob=some out)
  {bsM rest:List Nat} (hv:ak w R N vals ((opsL o.op).map ρ) bsM) (hmv:Ll o.op=none->bsM=[]) (hlk:eA w R N o.op vals ob nm) (hnd:(bsM++(tL nm++rest)).Nodup)
  (hc:∀v,ρ (.const v)=v) :
  ∃cv w' R',Zo P w ρ o cv w'/\Ml w R N ob nm bsM rest out cv w' R':=by
 obtain⟨dst,op,type,pos,after,guard⟩:=o;have hndM:bsM.Nodup:=(List.nodup_append.1 hnd).1
 cases op with
 | move x=>
  obtain⟨a,rfl,ha⟩:=dB hv;simp only[jJ,C4,Option.some.injEq] at h;subst h;obtain⟨rfl,rfl⟩:=bq hlk rfl;exact⟨ρ x,w,R,.inl rfl,.pure rfl ha (.aem hndM) (by simp)⟩
 | assign x=>
  obtain⟨a,rfl,ha⟩:=dB hv;simp only[jJ,C4,Option.some.injEq] at h;subst h;obtain⟨rfl,rfl⟩:=bq hlk rfl;exact⟨ρ x,w,R,.inl rfl,.pure rfl ha (.aem hndM) (by simp)⟩
 | pick c x y=>
  obtain rfl:=hmv rfl;obtain⟨a,b,d,b1,b2,b3,rfl,e,ha,hb,hd⟩:=pk hv;obtain⟨rfl,e'⟩:=fJ e.symm;obtain⟨rfl,rfl⟩:=fJ e';obtain⟨rfl,rfl⟩:=bq hlk rfl;simp only[jJ,Zn] at h
  split at h
  ·rename_i cb a' b' heq;simp at heq;obtain⟨rfl,rfl,rfl⟩:=heq;simp at h;subst h;obtain⟨_,e,_⟩:=aL ha;refine⟨if cb then ρ x else ρ y,w,R,.inl ?_,.pure (bsV:=[]) rfl ?_ .nil (by simp)⟩
   ·simp[execOp,e,asBool]
   cases cb
   ·simpa using hd
   simpa using hb
  simp at h
 | binOp bo t x y ty=>
  obtain rfl:=hmv rfl;obtain⟨a,b,b1,b2,rfl,e,ha,hb⟩:=eC hv;obtain⟨rfl,rfl⟩:=fJ e.symm;obtain⟨rfl,rfl⟩:=bq hlk rfl;simp only[jJ] at h
  split at h
  ·rename_i hy;unfold Ax at hy
   split at hy
   ·obtain⟨he,cv,h1,h2⟩:=yZ (w:=w) hE h ha x (.const (.slice none 0 0));rw[←hc (.slice none 0 0)] at h1;exact⟨cv,w,R,.inl (cq h1),.pure he h2 .nil (by simp)⟩
   simp at hy
  obtain⟨he,cv,h1,h2⟩:=MI (w:=w) hE h ha hb x y;exact⟨cv,w,R,.inl (cq h1),.pure he h2 .nil (by simp)⟩
 | unOp uo t x=>
  obtain rfl:=hmv rfl;obtain⟨a,rfl,ha⟩:=dB hv;obtain⟨rfl,rfl⟩:=bq hlk rfl;obtain⟨he,cv,h1,h2⟩:=Pz (P:=P) (w:=w) hE h ha;exact⟨cv,w,R,.inl (cq h1),.pure he h2 .nil (by simp)⟩
 | convert s d x=>
  obtain rfl:=hmv rfl;obtain⟨a,rfl,ha⟩:=dB hv;obtain⟨rfl,rfl⟩:=bq hlk rfl;obtain⟨he,cv,h1,h2⟩:=Bz (w:=w) hE h (lK ha);exact⟨cv,w,R,.inl (cq h1),.pure he h2 .nil (by simp)⟩
 | nilCheck x=>
  obtain rfl:=hmv rfl;obtain⟨a,rfl,ha⟩:=dB hv;obtain⟨rfl,rfl⟩:=bq hlk rfl;simp only[jJ,agf] at h
  split at h
  ·rename_i n off heq;simp at heq;subst heq;simp at h;subst h;have ha':=ha;simp only[al] at ha';obtain⟨_,b,_,e⟩:=ha';refine⟨ρ x,w,R,.inl ?_,.pure rfl ha .nil (by simp)⟩;simp[execOp,e]
  ·rename_i cs heq;simp at heq;subst heq;simp at h;subst h;have ha':=ha;simp only[al] at ha';obtain⟨_,b,of,e,_⟩:=ha';refine⟨ρ x,w,R,.inl ?_,.pure rfl ha .nil (by simp)⟩;simp[execOp,e]
  simp at h
 | fieldAddr st x f=>
  obtain rfl:=hmv rfl;obtain⟨a,rfl,ha⟩:=dB hv;obtain⟨rfl,rfl⟩:=bq hlk rfl;obtain⟨he,cv,h1,h2⟩:=xP (w:=w) hE h ha;exact⟨cv,w,R,.inl (cq h1),.pure he h2 .nil (by simp)⟩
 | field st x f=>
  obtain rfl:=hmv rfl;obtain⟨a,rfl,ha⟩:=dB hv;obtain⟨rfl,rfl⟩:=bq hlk rfl;obtain⟨he,cv,h1,h2⟩:=Ff (w:=w) hE h ha;exact⟨cv,w,R,.inl (cq h1),.pure he h2 .nil (by simp)⟩
 | indexAddr t x y=>
  obtain rfl:=hmv rfl;obtain⟨a,b,b1,b2,rfl,e,ha,hb⟩:=eC hv;obtain⟨rfl,rfl⟩:=fJ e.symm;obtain⟨rfl,rfl⟩:=bq hlk rfl;obtain⟨he,cv,h1,h2⟩:=xO (w:=w) hE h (lK ha) (lK hb);exact⟨cv,w,R,.inl (cq h1),.pure he h2 .nil (by simp)⟩
 | index t x y=>
  obtain rfl:=hmv rfl;obtain⟨a,b,b1,b2,rfl,e,ha,hb⟩:=eC hv;obtain⟨rfl,rfl⟩:=fJ e.symm;obtain⟨rfl,rfl⟩:=bq hlk rfl;obtain⟨he,cv,h1,h2⟩:=Fe (w:=w) hE h ha hb;exact⟨cv,w,R,.inl (cq h1),.pure he h2 .nil (by simp)⟩
 | slice t x lo hi mx=>
  obtain rfl:=hmv rfl;simp only[opsL,List.map_cons] at hv
  cases vals with
  | nil=>simp[ak] at hv
  | cons a vals=>
   obtain⟨v,vs',b1,b2,e1,e2,h1,h2⟩:=az hv;simp at e1;obtain⟨rfl,e1⟩:=e1;obtain⟨rfl,rfl⟩:=fJ e2.symm;obtain⟨rfl,rfl⟩:=bq hlk rfl;rw[←e1] at h2;obtain⟨he,rfl,cv,k1,k2⟩:=Fc (ρ:=ρ) (w:=w) hE h (lK h1) (Fw (by simpa using h2));exact⟨cv,w,R,.inl (cq k1),.pure he k2 .nil (by simp)⟩
 | build t ps=>
  obtain rfl:=hmv rfl;obtain⟨rfl,rfl⟩:=bq hlk rfl;obtain⟨he,cv,h1,h2⟩:=Fg (w:=w) hE h hv;exact⟨cv,w,R,.inl (cq h1),.pure he h2 .nil (by simp)⟩
 | buildSlice t len ps=>
  obtain rfl:=hmv rfl;obtain⟨rfl,rfl⟩:=bq hlk rfl;simp only[jJ] at h
  split at h
  ·obtain⟨o',s,w',R',rfl,h1,h2,h3,h4,h5,h6⟩:=ze (w:=w) hE h hv rest;refine⟨_,w',R',.inl (cq h1),h2,?_⟩;dsimp only
   cases Nat.beq len 1 with
   | true=>exact⟨rfl,[],h3,⟨by simp,by simp⟩,h5,len,rfl,Nat.le_refl _,h4,h6⟩
   | false=>exact⟨w.heap.size,[],len,h3,⟨by simp,by simp⟩,rfl,Nat.le_refl _,h4,h5,h6⟩
  obtain⟨he,cv,w',R',h1,h2,h3⟩:=vi (w:=w) hE h hv rest;refine⟨cv,w',R',.inl (cq h1),h2,?_⟩;rw[he];exact⟨_,h3,⟨by simp,by simp⟩,by simp⟩
 | makeFunc f first captured=>
  obtain rfl:=hmv rfl;obtain⟨rfl,rfl⟩:=bq hlk rfl;simp only[opsL,List.map_append] at hv;have hlen:first.size=(first.toList.map ρ).length:=by simp
  simp only[jJ,hlen] at h;obtain⟨he,cv,h1,h2⟩:=za (P:=P) (w:=w) h hv;refine⟨cv,w,R,.inl ?_,.pure he h2 .nil (by simp)⟩;have e1:(first.toList.map ρ).toArray=first.map ρ:=by rw[←Array.toList_map]
  have e2:(captured.toList.map ρ).toArray=captured.map ρ:=by rw[←Array.toList_map]
  rw[e1,e2] at h1;exact cq h1
 | extract x i=>
  obtain⟨a,rfl,ha⟩:=dB hv;obtain⟨rfl,rfl⟩:=bq hlk rfl;obtain⟨he,cv,b',h1,h2,h3⟩:=By (P:=P) (w:=w) h ha;exact⟨cv,w,R,.inl (cq h1),.pure he h2 ⟨h3.nodup hndM,fun b hb=>.inl (h3.subset hb)⟩ (by simp)⟩
 | load t x=>
  obtain rfl:=hmv rfl;obtain⟨a,rfl,ha⟩:=dB hv;simp only[jJ,lr] at h
  split at h
  ·rename_i cs heq;simp at heq;subst heq;obtain⟨rfl,rfl⟩:=bq hlk rfl
   split at h
   ·rename_i i hty
    cases hl:ld i cs with
    | none=>simp[hl,uZ] at h
    | some v=>
     simp[hl,uZ] at h;subst h;simp only[al] at ha;obtain⟨_,b,off,e,hat⟩:=ha;obtain⟨cv,h1,h2⟩:=DO (N:=N) hE hty hl hat;refine⟨cv,w,R,.inl ?_,.pure rfl h2 .nil (by simp)⟩
     have:(Instr.loadAt t (ρ x)).run P w=.ok cv w:=by rw[e];simp[Instr.loadAt,Instr.sureAddr,h1]
     exact cq this
   simp at h
  ·rename_i n off heq;simp at heq;subst heq;simp only[al] at ha;obtain⟨_,b,hb,e⟩:=ha
   split at h
   ·rename_i i cs hty;obtain⟨b',b1,rfl,hb',hobj⟩:=fw hlk rfl rfl;rw[hb] at hb';simp at hb';subst hb';have hobj':=hobj;obtain⟨vs,elem,sp,hblk,hr,hR⟩:=hobj';have plain:∀v,loadCells i off cs=some v->out=⟨v,.keep⟩->∃cv w' R',Zo P w ρ ⟨dst,.load t x,type,pos,after,guard⟩ cv w'/\Ml w R N (some (.cells cs)) (some (b,b1)) [] rest out cv w' R':=by
     intro v hl ho;subst ho;obtain⟨cv,h1,h2⟩:=nF (N:=N) hE hty hblk hr (mu hl);rw[←e] at h1;refine⟨cv,w,R,.inl (cq h1),.pure rfl h2 .nil ?_⟩;intro b2 c1 o hnm ho;simp at hnm;obtain⟨rfl,rfl⟩:=hnm;simp at ho;subst ho;exact hobj
    split at h
    ·rename_i htk
     split at h
     ·rename_i es hes;simp at h;subst h;obtain⟨pre,bt,post,cv,f1,f2,f3,f4⟩:=ak.split hr (yB hes);have hag:i.isAgg=false:=by simp at htk;exact htk.2
      have hcell:w.cell? ⟨b,off,none⟩=some cv:=by
       rw[cell_of_row w b off vs elem (0,0) hblk];simpa using f2
      have h1:(Instr.loadAt t (ρ x)).run P w=.ok cv w:=by
       rw[e];simp[Instr.loadAt,Instr.sureAddr,loadVar,hE.kJ hty,hag,hcell]
      refine⟨cv,w,R,.inl (cq h1),bj _,?_⟩;refine⟨b,b1,pre++[]++post,bt,rfl,?_,f3,?_⟩
      ·have hset:=f4 w R (.dat (.slice es)) cv [] (bj _) (bX (d:=.slice es) (ct f3).rep);have e1:vs.toList.set off cv=vs.toList:=by
        apply List.ext_getElem?
        intro j;rw[List.getElem?_set]
        split
        ·rename_i hj;subst hj;split
         ·exact f2.symm
         rename_i hl;rw[List.getElem?_eq_none (by omega)]
        rfl
       have e2:dx off [ac.dat (.slice es)] cs=cs.set off (.dat (.slice es)):=by
        apply List.ext_getElem?
        intro j;rw[jP,List.getElem?_set]
        by_cases hj:off=j
        ·subst hj
         by_cases hl:off < cs.length
         ·rw[if_pos ⟨Nat.le_refl _,by simp,hl⟩,if_pos rfl,if_pos hl];simp
         rw[if_neg (by omega),if_pos rfl,if_neg hl];exact List.getElem?_eq_none (by omega)
        rw[if_neg (by simp;omega),if_neg hj]
       rw[e1] at hset;rw[List.set_append_left (h:=(List.getElem?_eq_some_iff.1 hes).1)] at hset;exact⟨vs,elem,sp,hblk,by rw[e2];exact hset,hR.1,fun hb=>hR.2 (xD hes hb)⟩
      have hb1:b1.Nodup:=by
       have:=(List.nodup_append.1 hnd).2.1
       have:=(List.nodup_append.1 this).1
       simp[tL] at this;exact this.2
      subst f1
      constructor
      ·have hp:(bt++(pre++[]++post)).Perm (pre++bt++post):=by
        simp only[List.append_nil,←List.append_assoc];exact List.Perm.append_right _ List.perm_append_comm
       exact hp.nodup_iff.2 hb1
      intro c hc;left;simp at hc ⊢
      rcases hc with h|h|h <;> simp[h]
     cases hl:loadCells i off cs with
     | none=>simp[hl,uZ] at h
     | some v=>simp[hl,uZ] at h;exact plain v hl h.symm
    cases hl:loadCells i off cs with
    | none=>simp[hl,uZ] at h
    | some v=>simp[hl,uZ] at h;exact plain v hl h.symm
   simp at h
  simp at h
 | store t x y=>
  obtain⟨a,v,b1,b2,rfl,rfl,ha,hb⟩:=eC hv;have hcase:∃n off,a=.ptr n off:=by
   cases a <;> simp[jJ,sS] at h
   exact⟨_,_,rfl⟩
  obtain⟨n,off,rfl⟩:=hcase;have hcs:∃cs,ob=some (.cells cs):=by
   simp only[jJ,sS] at h
   split at h
   ·exact⟨_,rfl⟩
   simp at h
  obtain⟨cs,hob⟩:=hcs;obtain⟨b,c1,rfl,hN,hobj⟩:=fw hlk rfl hob;simp only[al] at ha;obtain⟨rfl,b',hb',e⟩:=ha;rw[hN] at hb';simp at hb';subst hb';subst hob;simp only[List.nil_append,tL] at hnd;have nd:=hnd;simp only[List.cons_append] at nd;have hbV:b∉b2:=fun hc=>(List.nodup_append.1 nd).2.2 b hc b (by simp) rfl
  have nd2:=(List.nodup_append.1 nd).2.1;have hbc:b∉c1++rest:=(List.nodup_cons.1 nd2).1;obtain⟨hval,cs',heff,w',pre,mid,post,h1,h2,h3,h4⟩:=Fb (w:=w) (n:=n) hE h hobj hb rest (by simp at hbc;exact hbc.2) (by simp at hbc;exact hbc.1) hbV;rw[←e] at h1;refine⟨undef,w',R,.inr ⟨zg h1,rfl⟩,h2,?_⟩;rw[heff];refine⟨b,c1,pre++b2++post,[],rfl,h4,by rw[hval];exact aW _,?_⟩;subst h3
  constructor
  ·have nd3:(b2++(pre++mid++post)).Nodup:=by
    have h5:=(List.nodup_append.1 nd);refine List.nodup_append.2 ⟨h5.1,?_,?_⟩
    ·exact (List.nodup_append.1 (List.nodup_cons.1 nd2).2).1
    intro p hp q hq;exact h5.2.2 p hp q (by simp at hq ⊢;rcases hq with h|h|h <;> simp[h])
   have hsub:(b2++(pre++post)).Nodup:=by
    refine List.Nodup.sublist ?_ nd3;refine List.Sublist.append (.refl _) ?_;rw[List.append_assoc];exact List.Sublist.append (.refl _) (List.sublist_append_right _ _)
   have hp:([]++(pre++b2++post)).Perm (b2++(pre++post)):=by
    simp only[List.nil_append];rw[←List.append_assoc];exact List.Perm.append_right _ List.perm_append_comm
   exact hp.nodup_iff.2 hsub
  intro c hc;left;simp at hc ⊢
  rcases hc with h|h|h <;> simp[h]
 | alloc t=>
  obtain⟨rfl,rfl⟩:=bq hlk rfl;simp only[opsL,List.map_nil] at hv
  cases vals with
  | cons _ _=>simp[ak] at hv
  | nil=>
   obtain⟨_,rfl⟩:=aR hv;simp only[jJ,Km] at h
   split at h
   ·rename_i i hty
    split at h
    ·rename_i hok;simp at h;subst h;have hz:=ir (gp (w:=w) (R:=R) (N:=N) i.zero) hok.1;obtain⟨k1,k2⟩:=Cr hz t (fun hb=>by have:=hok.2;rw[hb] at this;exact Nat.eq_of_beq_eq_true (by simpa using this)) rest;refine⟨.pointer (some ⟨w.heap.size,0,none⟩),_,_,.inl ?_,k1,rfl,_,k2,⟨List.nodup_nil,by simp⟩,by simp,rfl⟩
     have:(Instr.alloc t true (.tuple #[])).run P w=.ok (.pointer (some ⟨w.heap.size,0,none⟩)) (w.alloc (.cells i.zero.cells t)):=by
      simp[Instr.alloc,hE.zp hty,newVar,newRow]
     exact cq this
    simp at h
   simp at h
 | box t x=>
  obtain⟨a,rfl,ha⟩:=dB hv;obtain⟨rfl,rfl⟩:=bq hlk rfl;simp only[jJ,Yp] at h
  split at h
  ·rename_i hok;simp at h;subst h;have hc:=ir ha hok.1;obtain⟨k1,k2⟩:=Cr hc t (fun hb=>by have:=hok.2;rw[hb] at this;simp at this) rest;refine⟨.pointer (some ⟨w.heap.size,0,none⟩),_,_,.inl ?_,k1,rfl,_,k2,⟨hndM,fun _ h=>h⟩,by simp,rfl⟩
   have:(Instr.box t (ρ x)).run P w=.ok (.pointer (some ⟨w.heap.size,0,none⟩)) (w.alloc (.cells (ρ x).cells t)):=by
    simp[Instr.box,newVar,newRow]
   exact cq this
  simp at h
 | makeMap t r=>
  obtain⟨rfl,rfl⟩:=bq hlk rfl;simp only[opsL,List.map_nil] at hv
  cases vals with
  | cons _ _=>simp[ak] at hv
  | nil=>
   obtain⟨_,rfl⟩:=aR hv;simp only[jJ,HH,C5] at h
   cases r with
   | some _=>split at h <;> simp at h
   | none=>
    have hrun:(Instr.makeMap t none).run P w=.ok (.map (some w.heap.size)) (w.alloc (.map #[] 0)):=by
     simp[Instr.makeMap]
    obtain⟨k1,k2⟩:=VX (w:=w) (R:=R) (N:=N) rest
    split at h
    ·simp at h;subst h;exact⟨.map (some w.heap.size),_,_,.inl (cq hrun),k1,rfl,_,k2,⟨List.nodup_nil,by simp⟩,by simp,rfl⟩
    simp at h;subst h;exact⟨.map (some w.heap.size),_,_,.inl (cq hrun),k1,rfl,_,k2,⟨List.nodup_nil,by simp⟩,by simp,rfl⟩
 | lookup t x y ok=>
  obtain rfl:=hmv rfl;obtain⟨a,b,b1,b2,rfl,e,ha,hb⟩:=eC hv;obtain⟨rfl,rfl⟩:=fJ e.symm;have hob:∀n es,a=.map n->ob=some (.map es)->∃bl ents clock,ρ x=.map (some bl)/\w.heap[bl]?=some (.map ents clock)/\df w R es ents.toList:=by
   intro n es hn ho;subst hn;obtain⟨bl,c1,_,hN,hobj⟩:=fw hlk rfl ho;simp only[al] at ha;obtain⟨_,b',hb',e⟩:=ha;rw[hN] at hb';simp at hb';subst hb';obtain⟨_,_,ents,clock,hblk,hr,_⟩:=hobj;exact⟨bl,ents,clock,e,hblk,hr⟩
  obtain⟨he,cv,h1,h2⟩:=Dg (w:=w) hE h hb ha hob;refine⟨cv,w,R,.inl (cq h1),.pure he h2 .nil ?_⟩;intro bl c1 obj hnm ho;unfold eA at hlk
  split at hlk
  ·rw[hlk.2] at hnm;simp at hnm
  rcases hlk with⟨_,h⟩|⟨b',c',obj',k1,k2,k3,k4⟩
  ·rw[h] at hnm;simp at hnm
  rw[k2] at hnm;simp at hnm;obtain⟨rfl,rfl⟩:=hnm;rw[k1] at ho;simp at ho;subst ho;exact k4
 | mapUpdate t x y z=>
  obtain rfl:=hmv rfl;obtain⟨a,b,d,b1,b2,b3,rfl,e,ha,hb,hd⟩:=pk hv;obtain⟨rfl,e'⟩:=fJ e.symm;obtain⟨rfl,rfl⟩:=fJ e';have hcase:∃n,a=.map n:=by
   simp only[jJ,cM] at h
   split at h
   ·rename_i n k v heq;simp at heq;exact⟨n,heq.1⟩
   simp at h
  obtain⟨n,rfl⟩:=hcase;have hes:∃es,ob=some (.map es):=by
   simp only[jJ,cM] at h
   split at h
   ·split at h
    ·exact⟨_,rfl⟩
    simp at h
   simp at h
  obtain⟨es,hob⟩:=hes;obtain⟨bl,c1,rfl,hN,hobj⟩:=fw hlk rfl hob;simp only[al] at ha;obtain⟨_,b',hb',e⟩:=ha;rw[hN] at hb';simp at hb';subst hb';subst hob;have hc1:c1=[]:=hobj.1;subst hc1;have hbr:bl∉rest:=by simp[tL] at hnd;exact hnd.1
  obtain⟨hval,es',heff,w',h1,h2,h3⟩:=oK (w:=w) (n:=n) hE h hobj hb hd rest hbr;rw[←e] at h1;refine⟨undef,w',R,.inr ⟨zg h1,rfl⟩,h2,?_⟩;rw[heff];exact⟨bl,[],[],[],rfl,h3,by rw[hval];exact aW _,by simp,by simp⟩
 | makeSlice t x y=>
  obtain rfl:=hmv rfl;obtain⟨a,b,b1,b2,rfl,e,ha,hb⟩:=eC hv;obtain⟨rfl,rfl⟩:=fJ e.symm;obtain⟨rfl,rfl⟩:=bq hlk rfl;obtain⟨o',len,cv,w',R',cap,s,rfl,h1,h2,h3,rfl,h5,h6,h7,h8⟩:=xN (w:=w) hE h ha hb rest;exact⟨_,w',R',.inl (cq h1),h2,w.heap.size,[],cap,h3,⟨by simp,by simp⟩,rfl,h5,h6,h7,h8⟩
 | insert t x y z=>
  obtain rfl:=hmv rfl;obtain⟨a,b,d,b1,b2,b3,rfl,e,ha,hb,hd⟩:=pk hv;obtain⟨rfl,e'⟩:=fJ e.symm;obtain⟨rfl,rfl⟩:=fJ e';have hcase:∃n,a=.map n:=by
   simp only[jJ,cM] at h
   split at h
   ·rename_i n k v heq;simp at heq;exact⟨n,heq.1⟩
   simp at h
  obtain⟨n,rfl⟩:=hcase;have hes:∃es,ob=some (.map es):=by
   simp only[jJ,cM] at h
   split at h
   ·split at h
    ·exact⟨_,rfl⟩
    simp at h
   simp at h
  obtain⟨es,hob⟩:=hes;obtain⟨bl,c1,rfl,hN,hobj⟩:=fw hlk rfl hob;simp only[al] at ha;obtain⟨_,b',hb',e⟩:=ha;rw[hN] at hb';simp at hb';subst hb';subst hob;have hc1:c1=[]:=hobj.1;subst hc1;have hbr:bl∉rest:=by simp[tL] at hnd;exact hnd.1
  obtain⟨hval,es',heff,w',h1,h2,h3⟩:=oK (w:=w) (n:=n) hE h hobj hb hd rest hbr;rw[←e] at h1;refine⟨undef,w',R,.inr ⟨zg h1,rfl⟩,h2,?_⟩;rw[heff];exact⟨bl,[],[],[],rfl,h3,by rw[hval];exact aW _,by simp,by simp⟩
 | call c=>
  obtain⟨callee,args,argTypes⟩:=c
  cases callee with
  | value _=>simp[jJ] at h
  | invoke _ _=>simp[jJ] at h
  | builtin b=>
   simp only[jJ,lv] at h;obtain⟨cbs,hex⟩:∃cs:Array Bool,(execOp ρ ⟨dst,.call ⟨.builtin b,args,argTypes⟩,type,pos,after,guard⟩).run P w=(builtin b argTypes type cs (args.map ρ)).run P w:=⟨_,rfl⟩;have hargs:args.map ρ=((args.toList).map ρ).toArray:=by rw[←Array.toList_map]
   split at h
   ·simp at h
   ·rename_i t ts hts;have hat:argTypes[0]?=some t:=by
     have:argTypes.toList[0]?=some t:=by rw[hts];simp
     simpa using this
    cases b with
    | len=>
     dsimp only at h;obtain rfl:=hmv rfl;have hsh:∃a x,vals=[a]/\args.toList.map ρ=[x]/\al w R N a x []:=by
      have hl:=hv.length;simp only[opsL] at hv hl
      cases vals with
      | nil=>simp[qt,UI] at h
      | cons a vals=>
       cases vals with
       | cons _ _=>simp[qt,UI] at h
       | nil=>
        cases hm:args.toList.map ρ with
        | nil=>rw[hm] at hl;simp at hl
        | cons x xs=>
         rw[hm] at hl hv;simp at hl;subst hl;obtain⟨a',e,ha⟩:=dB hv;simp at e;subst e;exact⟨a,x,rfl,rfl,ha⟩
     obtain⟨a,x,rfl,hx,ha⟩:=hsh;rw[hx] at hargs
     cases hlo:looks (.call ⟨.builtin .len,args,argTypes⟩) [a] with
     | none=>
      obtain⟨rfl,rfl⟩:=bq hlk hlo;obtain⟨he,cv,h1,h2⟩:=zb (ty:=type) (w:=w) hE hat h (lK ha);refine⟨cv,w,R,.inl ?_,.pure he h2 .nil (by simp)⟩;rw[hex,hargs];simp[builtin,h1]
     | some n=>
      have han:a=.map n:=by cases a <;> simp[looks] at hlo;subst hlo;rfl
      subst han;have hes:∃es,ob=some (.map es):=by
       simp only[UI,nz,qt] at h
       split at h
       ·exact⟨_,rfl⟩
       simp at h
      obtain⟨es,hob⟩:=hes;obtain⟨bl,c1,rfl,hN,hobj⟩:=fw hlk hlo hob;simp only[al] at ha;obtain⟨_,b',hb',e⟩:=ha;rw[hN] at hb';simp at hb';subst hb';subst hob;have hobj':=hobj;obtain⟨hc1,_,ents,clock,hblk,hr,_⟩:=hobj';subst hc1;obtain⟨he,cv,h1,h2⟩:=Bx (N:=N) (ty:=type) (w:=w) hE hat h hblk hr;refine⟨cv,w,R,.inl ?_,.pure he h2 .nil ?_⟩
      ·rw[hex,hargs,e];simp[builtin,h1]
      intro b2 c2 o hnm ho;simp at hnm ho;obtain⟨rfl,rfl⟩:=hnm;subst ho;exact hobj
    | append=>
     dsimp only at h
     split at h
     ·rename_i t1 t2 hts2
      split at h
      ·rename_i ht2;subst ht2;have hts3:argTypes=#[t2,t2]:=by
        apply Array.toList_inj.1
        have h12:=hts.symm.trans hts2;simp only[List.cons.injEq] at h12;rw[hts2,←h12.1]
       simp only[opsL] at hv;have hsh:∃a x,vals=[a,x]:=by
        match vals,h with
        | [],h=>simp[Kh,cj] at h
        | [_],h=>simp[Kh,cj] at h
        | [a,x],_=>exact⟨a,x,rfl⟩
        | _::_::_::_,h=>simp[Kh,cj] at h
       obtain⟨a,x,rfl⟩:=hsh;have hl:=hv.length
       cases hm:args.toList.map ρ with
       | nil=>rw[hm] at hl;simp at hl
       | cons y ys=>
        cases ys with
        | nil=>rw[hm] at hl;simp at hl
        | cons z zs=>
         rw[hm] at hl hv hargs;simp at hl;subst hl;obtain⟨a',x',c1,c2,e0,rfl,ha,hx⟩:=eC hv;simp at e0;obtain⟨rfl,rfl⟩:=e0;have hlk:=Ak hlk;replace ha:=B9 ha;replace hx:=lK hx;simp only[Kh] at h;clear hv;generalize Dt a=a at *;generalize nz x=x at *;have hran:∀{cv w'},(Builtin.append_ #[t2,t2] type #[y,z]).run P w=.ok cv w'->Zo P w ρ ⟨dst,.call ⟨.builtin .append,args,argTypes⟩,type,pos,after,guard⟩ cv w':=by
          intro cv w' h1;refine .inl ?_;rw[hex,hargs,hts3];simp[builtin,h1]
         unfold cj at h
         split at h
         ·rename_i es x2 heq;simp at heq;obtain⟨rfl,rfl⟩:=heq;obtain⟨rfl,rfl⟩:=bq hlk rfl
          split at h
          ·rename_i i hel
           split at h
           ·rename_i hc;simp only[Bool.and_eq_true,List.isEmpty_iff] at hc;obtain⟨⟨_,rfl⟩,hmo⟩:=hc;have hc2:c2=[]:=by
             unfold Ay at hmo
             split at hmo
             ·exact (cB hx).1
             simp at hmo
            subst hc2;have hb:∃base,y=.slice base 0 0/\(base=none∨∃b,base=some ⟨b,0,none⟩):=by
             rcases kX (ct ha) with⟨rfl,_,_⟩|⟨b,cap,s,vs,t',rfl,_,_,_,_,_,he,_⟩
             ·exact⟨_,rfl,.inl rfl⟩
             have:=he rfl
             subst this;exact⟨_,rfl,.inr ⟨b,rfl⟩⟩
            obtain⟨base,rfl,hbase⟩:=hb;obtain⟨o',len,cv,w',R',cap,rfl,h1,h2,h3,rfl,h5,h6,h7,h8⟩:=zd (ty:=type) (w:=w) hE hel h hmo hx hbase rest;exact⟨_,w',R',hran h1,h2,w.heap.size,[],cap,h3,⟨by simp,by simp⟩,rfl,h5,h6,h7,h8⟩
           ·split at h
            ·rename_i r hap
             split at h
             rotate_left
             ·simp at h
             rename_i hbo;simp at h;subst h;have hc2:c2=[]:=by
              obtain⟨ds,rfl,_⟩:=jI (by rw[hE.mL] at hap;exact hap);exact (cB hx).1
             subst hc2;simp only[List.append_nil,tL,List.nil_append] at hnd;obtain⟨cv,w',R',bsV,h1,h2,h3,h4,h5⟩:=Di (ty:=type) (w:=w) hE hel hap hbo ha hx rest (fun b hb hr=>(List.nodup_append.1 hnd).2.2 b hb b hr rfl);exact⟨cv,w',R',hran h1,h2,bsV,h3,⟨h4,by simpa using h5⟩,by simp,.inl rfl⟩
            simp at h
          simp at h
         ·rename_i n s off len x2 heq;simp at heq;obtain⟨rfl,rfl⟩:=heq
          split at h
          ·rename_i i cs hel hob'
           split at h
           ·rename_i hc;simp only[Bool.and_eq_true,Nat.beq_eq] at hc;obtain⟨⟨_,rfl⟩,rfl⟩:=hc;obtain⟨bl,b1,rfl,hN,hobj⟩:=fw (n:=n) (obj:=.cells cs) hlk rfl (by first|rfl|assumption);simp only[al] at ha;obtain⟨rfl,b',cap,hb',rfl,hcap,hs0,_,hsz⟩:=ha;rw[hN] at hb';simp at hb';subst hb';have hc2:c2=[]:=by
             obtain⟨ds,rfl,_⟩:=og hE h;exact (cB hx).1
            subst hc2;have hnd':((bl::b1)++rest).Nodup:=by simpa [tL] using hnd
            have hd:=List.nodup_append.1 hnd';obtain⟨o',len',cv,w',R',b',b1',cap',rfl,h1,h2,h3,hf,rfl,h5,h6,h7,h8⟩:=zc (ty:=type) (w:=w) hE hel h hx hobj hcap hs0.2 (by simpa using hsz) hd.1 rest (fun hh=>hd.2.2 bl (by simp) bl hh rfl);exact⟨_,w',R',hran h1,h2,b',b1',cap',h3,by simpa [tL] using hf,rfl,h5,h6,h7,h8⟩
           simp at h
          simp at h
         simp at h
      have hts3:argTypes=#[t,t2]:=by
       apply Array.toList_inj.1
       have h12:=hts.symm.trans hts2;simp only[List.cons.injEq] at h12;rw[hts2,←h12.1]
      simp only[opsL] at hv;have hsh:∃a x,vals=[a,x]:=by
       match vals,h with
       | [],h=>simp[Kh,dD] at h
       | [_],h=>simp[Kh,dD] at h
       | [a,x],_=>exact⟨a,x,rfl⟩
       | _::_::_::_,h=>simp[Kh,dD] at h
      obtain⟨a,x,rfl⟩:=hsh;simp only[Kh] at h;obtain⟨es,s,ha0,hx0⟩:∃es s,Dt a=.own es/\nz x=.dat (.flat (.string s)):=by
       unfold dD at h
       split at h
       ·rename_i heq;simp at heq;exact⟨_,_,heq.1,heq.2⟩
       simp at h
      rw[ha0,hx0] at h;have hl:=hv.length
      cases hm:args.toList.map ρ with
      | nil=>rw[hm] at hl;simp at hl
      | cons y ys=>
       cases ys with
       | nil=>rw[hm] at hl;simp at hl
       | cons z zs=>
        rw[hm] at hl hv hargs;simp at hl;subst hl;obtain⟨a',x',c1,c2,e0,rfl,ha,hx⟩:=eC hv;simp at e0;obtain⟨rfl,rfl⟩:=e0;have hlk:=Ak hlk;replace ha:=B9 ha;replace hx:=lK hx;rw[ha0] at ha hlk;rw[hx0] at hx hlk;obtain⟨rfl,rfl⟩:=bq hlk rfl;have hc2:c2=[]:=(cB hx).1;subst hc2;simp only[List.append_nil,tL,List.nil_append] at hnd;obtain⟨cv,w',R',bsV,h1,h2,h3,h6,h4,h5⟩:=vj (ty:=type) (w:=w) hE h ha hx rest (fun b hb hr=>(List.nodup_append.1 hnd).2.2 b hb b hr rfl);refine⟨cv,w',R',.inl ?_,h2,?_⟩
        ·rw[hex,hargs,hts3];simp[builtin,h1]
        rw[h6];exact⟨bsV,h3,⟨h4,by simpa using h5⟩,by simp,.inl rfl⟩
     simp at h
    | max=>
     dsimp only at h;obtain rfl:=hmv rfl;obtain⟨rfl,rfl⟩:=bq hlk rfl;simp only[opsL] at hv;have hsh:∃a x,vals=[a,x]:=by
      unfold Yo at h
      split at h
      ·exact⟨_,_,rfl⟩
      simp at h
     obtain⟨a,x,rfl⟩:=hsh;have hl:=hv.length
     cases hm:args.toList.map ρ with
     | nil=>rw[hm] at hl;simp at hl
     | cons y ys=>
      cases ys with
      | nil=>rw[hm] at hl;simp at hl
      | cons z zs=>
       rw[hm] at hl hv;simp at hl;subst hl;obtain⟨a',x',c1,c2,e0,e,ha,hx⟩:=eC hv;simp at e0;obtain⟨rfl,rfl⟩:=e0;obtain⟨rfl,rfl⟩:=fJ e.symm;obtain⟨he,cv,h1,h2⟩:=MH (P:=P) (w:=w) hE h ha hx argTypes type;rw[hm] at hargs;refine⟨cv,w,R,.inl ?_,.pure he h2 .nil (by simp)⟩;rw[hex,hargs];simp[builtin,h1]
    | min=>
     dsimp only at h;obtain rfl:=hmv rfl;obtain⟨rfl,rfl⟩:=bq hlk rfl;simp only[opsL] at hv;have hsh:∃a x,vals=[a,x]:=by
      unfold Yn at h
      split at h
      ·exact⟨_,_,rfl⟩
      simp at h
     obtain⟨a,x,rfl⟩:=hsh;have hl:=hv.length
     cases hm:args.toList.map ρ with
     | nil=>rw[hm] at hl;simp at hl
     | cons y ys=>
      cases ys with
      | nil=>rw[hm] at hl;simp at hl
      | cons z zs=>
       rw[hm] at hl hv;simp at hl;subst hl;obtain⟨a',x',c1,c2,e0,e,ha,hx⟩:=eC hv;simp at e0;obtain⟨rfl,rfl⟩:=e0;obtain⟨rfl,rfl⟩:=fJ e.symm;obtain⟨he,cv,h1,h2⟩:=MG (P:=P) (w:=w) hE h ha hx argTypes type;rw[hm] at hargs;refine⟨cv,w,R,.inl ?_,.pure he h2 .nil (by simp)⟩;rw[hex,hargs];simp[builtin,h1]
    | delete=>
     dsimp only at h;obtain rfl:=hmv rfl;simp only[opsL] at hv;have hsh:∃n x,vals=[.map n,x]:=by
      unfold mg at h
      split at h
      ·exact⟨_,_,rfl⟩
      simp at h
     obtain⟨n,x,rfl⟩:=hsh;have hl:=hv.length
     cases hm:args.toList.map ρ with
     | nil=>rw[hm] at hl;simp at hl
     | cons y ys=>
      cases ys with
      | nil=>rw[hm] at hl;simp at hl
      | cons z zs=>
       rw[hm] at hl hv;simp at hl;subst hl;obtain⟨a',x',c1,c2,e0,e,ha,hx⟩:=eC hv;simp at e0;obtain⟨rfl,rfl⟩:=e0;obtain⟨rfl,rfl⟩:=fJ e.symm;have hes:∃es,ob=some (.map es):=by
        unfold mg at h
        split at h
        ·split at h
         ·exact⟨_,rfl⟩
         simp at h
        simp at h
       obtain⟨es,hob⟩:=hes;obtain⟨bl,d1,rfl,hN,hobj⟩:=fw hlk rfl hob;simp only[al] at ha;obtain⟨_,b',hb',e⟩:=ha;rw[hN] at hb';simp at hb';subst hb';subst hob;have hc1:d1=[]:=hobj.1;subst hc1;have hbr:bl∉rest:=by simp[tL] at hnd;exact hnd.1
       obtain⟨cv,w',h1,h2,h3,h4⟩:=Dh (ty:=type) (w:=w) (n:=n) hE hat h hobj hx rest hbr;rw[hm,e] at hargs;refine⟨cv,w',R,.inl ?_,h2,?_⟩
       ·rw[hex,hargs];simp[builtin,h1]
       obtain⟨es',he,ho⟩:=h4;rw[he];exact⟨bl,[],[],[],rfl,ho,h3,by simp,by simp⟩
    | _=>simp at h
 | _=>simp[jJ] at h
end
end Go.Tp
namespace Go.Tp
section
variable {P:Program} {E:bG} {G:bJ} {w:World} {R:Own} {N N':Name->Option Nat}
mutual
theorem al.ext:∀{a:ac} {v:Value} {bs:List Nat},al w R N a v bs->(∀m b,N m=some b->N' m=some b)->al w R N' a v bs
 | .dat _,_,_,h,_=>by simp only[al] at h ⊢;exact h
 | .own _,_,_,h,_=>by simp only[al] at h ⊢;exact h
 | .ref _,_,_,h,_=>by simp only[al] at h ⊢;exact h
 | .ptr m _,_,_,h,hN=>by simp only[al] at h ⊢;obtain⟨h1,b,h2,h3⟩:=h;exact⟨h1,b,hN m b h2,h3⟩
 | .map m,_,_,h,hN=>by simp only[al] at h ⊢;obtain⟨h1,b,h2,h3⟩:=h;exact⟨h1,b,hN m b h2,h3⟩
 | .win m _ _ _,_,_,h,hN=>by simp only[al] at h ⊢;obtain⟨h1,b,cap,h2,h3⟩:=h;exact⟨h1,b,cap,hN m b h2,h3⟩
 | .fn _ x y,_,_,h,hN=>by
  simp only[al] at h ⊢;obtain⟨h1,vs,us,e,h2,h3⟩:=h;exact⟨h1,vs,us,e,ak.ext (as:=x) h2 hN,ak.ext (as:=y) h3 hN⟩
 | .agg cs,_,_,h,hN=>by simp only[al] at h ⊢;obtain⟨vs,e,h⟩:=h;exact⟨vs,e,ak.ext (as:=cs) h hN⟩
 | .tup cs,_,_,h,hN=>by simp only[al] at h ⊢;obtain⟨vs,e,h⟩:=h;exact⟨vs,e,ak.ext (as:=cs) h hN⟩
 | .undef,_,_,h,_=>by simp only[al] at h ⊢;exact h
theorem ak.ext:∀{as:List ac} {vs:List Value} {bs:List Nat},ak w R N as vs bs->(∀m b,N m=some b->N' m=some b)->ak w R N' as vs bs
 | [],_,_,h,_=>by simp only[ak] at h ⊢;exact h
 | a::as,_,_,h,hN=>by
  simp only[ak] at h ⊢;obtain⟨v,vs',b1,b2,e1,e2,h1,h2⟩:=h;exact⟨v,vs',b1,b2,e1,e2,al.ext (a:=a) h1 hN,ak.ext (as:=as) h2 hN⟩
end
theorem aU.ext {o:aT} {b:Nat} {bs:List Nat} (h:aU w R N o b bs) (hN:∀m b,N m=some b->N' m=some b):aU w R N' o b bs:=by
 cases o with
 | cells cs=>obtain⟨vs,e,sp,hb,hr,hR⟩:=h;exact⟨vs,e,sp,hb,hr.ext hN,hR⟩
 | map es=>exact h
theorem ao.ext:∀{os:List (Name×aT)} {bs:List Nat},ao w R N os bs->(∀m b,N m=some b->N' m=some b)->ao w R N' os bs
 | [],_,h,_=>h
 |(_,_)::_,_,⟨b,b1,b2,e,hn,h1,h2⟩,hN=>⟨b,b1,b2,e,hN _ _ hn,h1.ext hN,ao.ext h2 hN⟩
theorem ao.qn:∀{os:List (Name×aT)} {bs:List Nat} (n:Name),ao w R N os bs->∃bs',ao w R N (kd n os) bs'/\bs'.Sublist bs
 | [],_,_,h=>⟨_,h,.refl _⟩
 |(m,o)::os,_,n,⟨b,b1,b2,e,hn,h1,h2⟩=>by
  subst e;obtain⟨bs',g1,g2⟩:=ao.qn n h2;simp only[kd]
  split
  ·exact⟨bs',g1,g2.trans ((List.sublist_append_right b1 b2).cons _)⟩
  exact⟨b::(b1++bs'),⟨b,b1,bs',rfl,hn,h1,g1⟩,(List.Sublist.append (.refl _) g2).cons_cons _⟩
theorem ao.qy:∀{os:List (Name×aT)} {bs:List Nat} {n:Name} {o:aT},ao w R N os bs->ev n os=some o->
  ∃pre b b1 post,bs=pre++(b::b1)++post/\N n=some b/\aU w R N o b b1 ∧
   (∀(w':World) (R':Own) (o':aT) (b1':List Nat),bA w R w' R' (pre++post)->aU w' R' N o' b b1'->ao w' R' N (jb n o' os) (pre++(b::b1')++post)) ∧
   ∃bs',ao w R N (kd n os) bs'/\bs'.Sublist (pre++post)
 | [],_,_,_,_,h=>by simp[ev] at h
 |(m,x)::os,bs,n,o,h,hg=>by
  obtain⟨b,b1,b2,e,hN,h1,h2⟩:=h;simp only[ev] at hg;simp only[kd]
  split at hg
  ·rename_i hm;subst hm;simp at hg;subst hg;obtain⟨bs',g1,g2⟩:=ao.qn m h2;refine⟨[],b,b1,b2,by simp[e],hN,h1,fun w' R' o' b1' k hr=>?_,bs',by simpa using g1,by simpa using g2⟩;simp only[jb,if_true];exact⟨b,b1',b2,by simp,hN,hr,h2.keep (k.sub (by simp))⟩
  rename_i hm;rw[if_neg hm];obtain⟨pre,c,c1,post,f1,f2,f3,f4,bs',f5,f6⟩:=ao.qy h2 hg;refine⟨b::(b1++pre),c,c1,post,by simp[e,f1],f2,f3,fun w' R' o' b1' k hr=>?_,b::(b1++bs'),⟨b,b1,bs',rfl,hN,h1,f5⟩,?_⟩
  ·simp only[jb,if_neg hm];exact⟨b,b1,pre++(c::b1')++post,by simp,hN,h1.keep (k.sub (by intro y hy;simp at hy ⊢;rcases hy with h|h <;> simp[h])),
    f4 w' R' o' b1' (k.sub (by intro y hy;simp at hy ⊢;rcases hy with h|h <;> simp[h])) hr⟩
  simp only[List.cons_append,List.append_assoc];exact (List.Sublist.append (.refl _) f6).cons_cons _
theorem fF {bsM xs rest:List Nat} (h:(bsM++rest).Nodup) (hl:∀b∈rest,b < w.heap.size) (hf:wC w bsM xs):(xs++rest).Nodup:=by
 refine List.nodup_append.2 ⟨hf.1,(List.nodup_append.1 h).2.1,?_⟩;intro a ha b hb hab;subst hab
 rcases hf.2 a ha with h1|h1
 ·exact (List.nodup_append.1 h).2.2 a h1 a hb rfl
 have:=hl a hb;omega
theorem mQ {as:List ac} {vs:List Value} {bs b X:List Nat} {a:ac} {v:Value} (d:Nat) (h:ak w R N as vs bs) (hv:al w R N a v b) (hnd:(b++(bs++X)).Nodup) :
  ∃bs',ak w R N (as.set d a) (vs.set d v) bs'/\(bs'++X).Nodup:=by
 cases hd:as[d]? with
 | none=>
  have hl:as.length<=d:=by simpa using hd
  have hl2:=h.length;rw[List.set_eq_of_length_le hl,List.set_eq_of_length_le (by omega)];exact⟨bs,h,(List.nodup_append.1 hnd).2.1⟩
 | some x=>
  obtain⟨pre,bt,post,u,e1,e2,e3,e4⟩:=ak.split h hd;refine⟨pre++b++post,e4 w R a v b (bj _) hv,?_⟩;subst e1;have hsub:(b++(pre++post++X)).Nodup:=by
   refine List.Nodup.sublist ?_ hnd;refine List.Sublist.append (.refl _) (List.Sublist.append ?_ (.refl _));rw[List.append_assoc];exact List.Sublist.append (.refl _) (List.sublist_append_right _ _)
  have hp:(pre++b++post++X).Perm (b++(pre++post++X)):=by
   simp only[←List.append_assoc];refine List.Perm.append_right _ (List.Perm.append_right _ ?_);exact List.perm_append_comm
  exact hp.nodup_iff.2 hsub
theorem gG (act:Act) (dst:Option Tmp) (v:Value):(act.put dst v).tmps.toList=(match dst with|some d=>act.tmps.toList.set d v|none=>act.tmps.toList)/\(act.put dst v).defers=act.defers:=by
 cases dst with
 | none=>exact⟨rfl,rfl⟩
 | some d=>exact⟨by simp[Act.put],rfl⟩
theorem fP {s:aa} {tmps:List Value} {bs b X:List Nat} {a:ac} {v:Value} (dst:Option Tmp) (h:ak w R N s.tmps tmps bs) (hv:al w R N a v b) (hnd:(b++(bs++X)).Nodup) :
  ∃bs',ak w R N (s.put dst a).tmps (match dst with|some d=>tmps.set d v|none=>tmps) bs'/\(bs'++X).Nodup:=by
 cases dst with
 | none=>exact⟨bs,h,(List.nodup_append.1 hnd).2.1⟩
 | some d=>exact mQ d h hv hnd
theorem db (s:aa) (dst:Option Tmp) (a:ac):(s.put dst a).locs=s.locs/\(s.put dst a).heap=s.heap/\(s.put dst a).next=s.next:=by cases dst <;> exact⟨rfl,rfl,rfl⟩
theorem qU (s:aa) (mv:Option Nat) (xs:List Operand):(bO s mv xs).locs=s.locs/\(bO s mv xs).heap=s.heap/\(bO s mv xs).next=s.next:=by
 unfold bO;split
 ·exact⟨rfl,rfl,rfl⟩
 split <;> exact⟨rfl,rfl,rfl⟩
theorem wj:∀{os:List (Name×aT)} {n:Name} {o:aT},ev n os=some o->jb n o os=os
 | [],_,_,h=>by simp[ev] at h
 |(m,x)::os,n,o,h=>by
  simp only[ev] at h;simp only[jb]
  split at h
  ·rename_i hm;simp at h;subst h;simp[hm]
  rename_i hm;rw[if_neg hm,wj h]
theorem Cg (n:Name):∀(l:List ac),(de n l).length=l.length
 | []=>rfl
 | _::l=>by simp[de,Cg n l]
def bK (N:Name->Option Nat) (n:Name) (b:Nat):Name->Option Nat:=fun m=>if m=n then some b else N m
theorem nH {n:Name} {b':Nat} {o:aT} {b:Nat} {bs:List Nat} (h:aU w R N o b bs) (hm:∀cs,o=.cells cs->bg n cs=false):aU w R (bK N n b') o b bs:=by
 cases o with
 | cells cs=>
  obtain⟨vs,e,sp,hb,hr,hR⟩:=h;exact⟨vs,e,sp,hb,ak.other hr (by rw[BD];exact hm cs rfl) (fun m hm=>by simp[bK,hm]),hR⟩
 | map es=>exact h
structure Stepped (P:Program) (G:bJ) (w:World) (R:Own) (N:Name->Option Nat) (act:Act) (bsF:List Nat) (o:Oper) (s':aa) (nx:Nat) (cv:Value) (w':World):Prop where
 ran:Zo P w act.eval o cv w'
 rel:∃R' N' bsT bsL bsH,dh G w' R' N' (act.put o.dst cv).tmps.toList s' undef .undef [] bsT bsL bsH bsF/\bA w R w' R' bsF/\(∀k b,N (.out k)=some b->N' (.out k)=some b)/\∀i,o.dst≠some i->N' (.loc i)=N (.loc i)
 next:nx<=s'.next
theorem qj (hE:E.Ok P) {q take:Bool} {o:Oper} {s s':aa} (h:cY E G q take o s=some s') {act:Act} {bsT bsL bsH bsF:List Nat}
  (hr:dh G w R N act.tmps.toList s undef .undef [] bsT bsL bsH bsF):∃cv w',Stepped P G w R N act bsF o s' s.next cv w':=by
 unfold cY at h;have hnd0:(bsT++(bsL++(bsH++bsF))).Nodup:=by simpa using hr.nodup
 obtain⟨bsM,bsT',ha,ht',hnd,hmv⟩:=qZ hr.tmps hr.glob (kN q o.op) (opsL o.op) (bsL++(bsH++bsF)) hnd0;generalize hvals:aP G s (kN q o.op) 0 (opsL o.op)=vals at h ha;obtain⟨dl1,dl2,dl3⟩:=qU s (kN q o.op) (opsL o.op);generalize hs1:bO s (kN q o.op) (opsL o.op)=s1 at h ht' dl1 dl2 dl3;have hltT:=ht'.lt;have hltL:=hr.locs.lt;have hltH:=hr.heap.lt;have hltF:=hr.frame;have hltX:∀b∈bsL++(bsH++bsF),b < w.heap.size:=fun b hb=>by
  simp at hb
  rcases hb with h|h|h
  ·exact hltL b h
  ·exact hltH b h
  exact hltF b h
 split at h
 ·simp at h
 rename_i out hop
 -- the object that is looked at
 have hlook:∃nm rest,eA w R N o.op vals (bp s o.op vals) nm/\(bsM++(tL nm++rest)).Nodup/\(∀b∈rest,b < w.heap.size)/\(∀b∈bsF,b∈rest)/\(∀b∈bsT',b∈rest) ∧
   ((nm=none/\rest=bsT'++(bsL++(bsH++bsF))) ∨
    (∃i b b1 pre post obj,looks o.op vals=some (.loc i)/\bp s o.op vals=some obj/\nm=some (b,b1)/\bsL=pre++(b::b1)++post/\rest=bsT'++((pre++post)++(bsH++bsF))/\N (.loc i)=some b/\(∃bs',ao w R N (kd (.loc i) s.locs) bs'/\bs'.Sublist (pre++post)) ∧
     ∀(w':World) (R':Own) (o':aT) (b1':List Nat),bA w R w' R' (pre++post)->aU w' R' N o' b b1'->ao w' R' N (jb (.loc i) o' s.locs) (pre++(b::b1')++post)) ∨
    (∃k b b1 pre post obj,looks o.op vals=some (.out k)/\bp s o.op vals=some obj/\nm=some (b,b1)/\bsH=pre++(b::b1)++post/\rest=bsT'++(bsL++((pre++post)++bsF))/\N (.out k)=some b/\dj obj=true/\(∃bs',ao w R (outs N) (kd (.out k) s.heap) bs'/\bs'.Sublist (pre++post)) ∧
     ∀(w':World) (R':Own) (o':aT) (b1':List Nat),bA w R w' R' (pre++post)->aU w' R' (outs N) o' b b1'->ao w' R' (outs N) (jb (.out k) o' s.heap) (pre++(b::b1')++post))):=by
  have plain:bp s o.op vals=none->∃nm rest,eA w R N o.op vals (bp s o.op vals) nm/\(bsM++(tL nm++rest)).Nodup/\(∀b∈rest,b < w.heap.size)/\(∀b∈bsF,b∈rest)/\(∀b∈bsT',b∈rest)/\(nm=none/\rest=bsT'++(bsL++(bsH++bsF))):=by
   intro hn;refine⟨none,bsT'++(bsL++(bsH++bsF)),?_,by simpa [tL] using hnd,?_,?_,?_,rfl,rfl⟩
   ·unfold eA
    split
    ·exact⟨hn,rfl⟩
    exact .inl ⟨hn,rfl⟩
   ·intro b hb
    rcases List.mem_append.1 hb with h|h
    ·exact hltT b h
    exact hltX b h
   ·intro b hb;simp[hb]
   intro b hb;simp[hb]
  cases hlo:bp s o.op vals with
  | none=>
   obtain⟨nm,rest,k1,k2,k3,k4,k5,k6⟩:=plain hlo;rw[hlo] at k1;exact⟨nm,rest,k1,k2,k3,k4,k5,.inl k6⟩
  | some obj=>
   have hlo':=hlo;unfold bp at hlo'
   split at hlo'
   ·rename_i n hn
    cases n with
    | loc i=>
     simp only[aa.obj] at hlo';obtain⟨pre,b,b1,post,e1,e2,e3,e4,e5⟩:=ao.qy hr.locs hlo';refine⟨some (b,b1),bsT'++((pre++post)++(bsH++bsF)),?_,?_,?_,?_,?_,.inr (.inl ⟨i,b,b1,pre,post,obj,hn,rfl,rfl,e1,rfl,e2,e5,e4⟩)⟩
     ·unfold eA;rw[hn];exact .inr ⟨b,b1,obj,rfl,rfl,e2,e3⟩
     ·subst e1;have hp:(bsM++(tL (some (b,b1))++(bsT'++((pre++post)++(bsH++bsF))))).Perm (bsM++(bsT'++((pre++(b::b1)++post)++(bsH++bsF)))):=by rw[List.perm_iff_count];intro q;simp only[tL,List.count_append,List.count_cons];omega
      exact hp.nodup_iff.2 hnd
     ·intro c hc;subst e1;simp at hc
      rcases hc with h|h|h|h|h
      ·exact hltT c h
      ·exact hltL c (by simp[h])
      ·exact hltL c (by simp[h])
      ·exact hltH c h
      exact hltF c h
     ·intro c hc;simp[hc]
     intro c hc;simp[hc]
    | out k=>
     simp only[aa.obj] at hlo';obtain⟨pre,b,b1,post,e1,e2,e3,e4,e5⟩:=ao.qy hr.heap hlo';have hno:dj obj=true:=by
      cases obj with
      | cells cs=>obtain⟨vs,e,sp,hb,hrr,hR⟩:=e3;have:=hrr.cy;rw[jq] at this;exact this
      | map es=>rfl
     have e3':aU w R N obj b b1:=e3.yh hno (fun _=>rfl);refine⟨some (b,b1),bsT'++(bsL++((pre++post)++bsF)),?_,?_,?_,?_,?_,.inr (.inr ⟨k,b,b1,pre,post,obj,hn,rfl,rfl,e1,rfl,by simpa [outs] using e2,hno,e5,e4⟩)⟩
     ·unfold eA;rw[hn];exact .inr ⟨b,b1,obj,rfl,rfl,by simpa [outs] using e2,e3'⟩
     ·subst e1;have hp:(bsM++(tL (some (b,b1))++(bsT'++(bsL++((pre++post)++bsF))))).Perm (bsM++(bsT'++(bsL++((pre++(b::b1)++post)++bsF)))):=by rw[List.perm_iff_count];intro q;simp only[tL,List.count_append,List.count_cons];omega
      exact hp.nodup_iff.2 hnd
     ·intro c hc;subst e1;simp at hc
      rcases hc with h|h|h|h|h
      ·exact hltT c h
      ·exact hltL c h
      ·exact hltH c (by simp[h])
      ·exact hltH c (by simp[h])
      exact hltF c h
     ·intro c hc;simp[hc]
     intro c hc;simp[hc]
   simp at hlo'
 obtain⟨nm,rest,hlk,hndr,hlr,hFr,hTr,hwhich⟩:=hlook;obtain⟨cv,w',R',hran,hkeep,hout⟩:=nu (rest:=rest) hE hop ha (fun h=>hmv (by unfold kN;split <;> simp[h])) hlk hndr (fun _=>rfl);have hglob:∀g cs,G g=some cs->dX w' R' g 0 cs:=fun g cs hg=>(hr.glob g cs hg).step hkeep.step
 have hkF:bA w R w' R' bsF:=hkeep.sub hFr;have hframe:∀b∈bsF,b < w'.heap.size:=fun b hb=>Nat.lt_of_lt_of_le (hltF b hb) hkeep.step.size
 have ht2:ak w' R' N s1.tmps act.tmps.toList bsT':=ht'.keep (hkeep.sub hTr);unfold dL at h;obtain⟨pa1,pa2⟩:=gG act o.dst cv
 cases heff:out.eff with
 | keep=>
  rw[heff] at h hout;simp at h;subst h;obtain⟨bsV,hv,hf,hobj,_⟩:=hout
  -- the objects as they were
  have hobjs:∃bsL' bsH',ao w' R' N s.locs bsL'/\ao w' R' (outs N) s.heap bsH'/\bsL'=bsL/\bsH'=bsH:=by
   rcases hwhich with⟨_,e⟩|⟨i,b,b1,pre,post,obj,h1,h2,h3,h4,h5,h6,_,h7⟩|⟨k,b,b1,pre,post,obj,h1,h2,h3,h4,h5,h6,h6',_,h7⟩
   ·subst e;exact⟨bsL,bsH,hr.locs.keep (hkeep.sub (by intro b hb;simp[hb])),hr.heap.keep (hkeep.sub (by intro b hb;simp[hb])),rfl,rfl⟩
   ·subst h5;have ho:=hobj b b1 obj h3 h2;have hL:=h7 w' R' obj b1 (hkeep.sub (by intro b hb;simp at hb ⊢;rcases hb with h|h <;> simp[h])) ho;unfold bp at h2;rw[h1] at h2;simp only[aa.obj] at h2;rw[wj h2] at hL;exact⟨_,bsH,hL,hr.heap.keep (hkeep.sub (by intro b hb;simp[hb])),h4.symm,rfl⟩
   subst h5;have ho:=hobj b b1 obj h3 h2;have hH:=h7 w' R' obj b1 (hkeep.sub (by intro b hb;simp at hb ⊢;rcases hb with h|h <;> simp[h])) (ho.yh h6' (fun _=>rfl));unfold bp at h2;rw[h1] at h2;simp only[aa.obj] at h2;rw[wj h2] at hH;exact⟨bsL,_,hr.locs.keep (hkeep.sub (by intro b hb;simp[hb])),hH,rfl,h4.symm⟩
  obtain⟨bsL',bsH',hL,hH,rfl,rfl⟩:=hobjs;have hndV:(bsV++(bsT'++(bsL'++(bsH'++bsF)))).Nodup:=by
   refine fF hnd ?_ hf;intro b hb
   rcases List.mem_append.1 hb with h|h
   ·exact hltT b h
   exact hltX b h
  obtain⟨bsT'',hp1,hp2⟩:=fP o.dst ht2 hv hndV;obtain⟨q1,q2,q3⟩:=db s1 o.dst out.val;refine⟨cv,w',hran,⟨R',N,bsT'',bsL',bsH',⟨aW _,?_,?_,?_,by simpa using hp2,?_,hglob,hframe⟩,hkF,fun _ _ h=>h,fun _ _=>rfl⟩,?_⟩
  ·rw[pa1];exact hp1
  ·rw[q1,dl1];exact hL
  ·rw[q2,dl2];exact hH
  ·rw[q3,dl3];exact hr.next
  rw[q3,dl3];exact Nat.le_refl _
 | set o'=>
  rw[heff] at h hout;obtain⟨b,b1,b1',bsV,hnm,hobj,hv,hf⟩:=hout
  rcases hwhich with⟨e,_⟩|⟨i,b0,c1,pre,post,obj,h1,h2,h3,h4,h5,h6,_,h7⟩|⟨k,b0,c1,pre,post,obj,h1,h2,h3,h4,h5,h6,h6',_,h7⟩
  ·rw[e] at hnm;simp at hnm
  ·rw[h3] at hnm;simp at hnm;obtain⟨rfl,rfl⟩:=hnm;rw[h1] at h;simp only[aa.setObj,Option.some.injEq] at h;subst h;subst h5;subst h3;have hL:=h7 w' R' o' b1' (hkeep.sub (by intro b hb;simp at hb ⊢;rcases hb with h|h <;> simp[h])) hobj;have hH:=hr.heap.keep (hkeep.sub (by intro b hb;simp[hb]))
   -- nodup
   have hnd2:((bsV++b1')++(b0::(bsT'++((pre++post)++(bsH++bsF))))).Nodup:=by
    refine fF (bsM:=bsM++c1) ?_ ?_ hf
    ·have hp:((bsM++c1)++(b0::(bsT'++((pre++post)++(bsH++bsF))))).Perm (bsM++(tL (some (b0,c1))++(bsT'++((pre++post)++(bsH++bsF))))):=by rw[List.perm_iff_count];intro q;simp only[tL,List.count_append,List.count_cons];omega
     exact hp.nodup_iff.2 hndr
    intro c hc
    rcases List.mem_cons.1 hc with rfl|hc
    ·exact hltL c (by rw[h4];simp)
    exact hlr c hc
   have hnd3:(bsV++(bsT'++((pre++(b0::b1')++post)++(bsH++bsF)))).Nodup:=by
    have hp:(bsV++(bsT'++((pre++(b0::b1')++post)++(bsH++bsF)))).Perm ((bsV++b1')++(b0::(bsT'++((pre++post)++(bsH++bsF))))):=by rw[List.perm_iff_count];intro q;simp only[List.count_append,List.count_cons];omega
    exact hp.nodup_iff.2 hnd2
   obtain⟨bsT'',hp1,hp2⟩:=fP o.dst ht2 hv hnd3;have e0:(({s1 with locs:=jb (.loc i) o' s1.locs }:aa).put o.dst out.val).tmps=(s1.put o.dst out.val).tmps:=by cases o.dst <;> rfl
   obtain⟨q1,q2,q3⟩:=db ({s1 with locs:=jb (.loc i) o' s1.locs }:aa) o.dst out.val;refine⟨cv,w',hran,⟨R',N,bsT'',pre++(b0::b1')++post,bsH,⟨aW _,?_,?_,?_,by simpa using hp2,?_,hglob,hframe⟩,hkF,fun _ _ h=>h,fun _ _=>rfl⟩,?_⟩
   ·rw[pa1,e0];exact hp1
   ·rw[q1];dsimp only;rw[dl1];exact hL
   ·rw[q2];dsimp only;rw[dl2];exact hH
   ·rw[q3];dsimp only;rw[dl3];exact hr.next
   rw[q3];exact Nat.le_of_eq dl3.symm
  rw[h3] at hnm;simp at hnm;obtain⟨rfl,rfl⟩:=hnm;rw[h1] at h;simp only[aa.setObj] at h
  split at h
  ·rename_i s2 hs2
   split at hs2
   ·rename_i hno;simp only[Option.some.injEq] at h hs2;subst h;subst hs2;subst h5;subst h3;have hH:=h7 w' R' o' b1' (hkeep.sub (by intro b hb;simp at hb ⊢;rcases hb with h|h <;> simp[h])) (hobj.yh hno (fun _=>rfl));have hL:=hr.locs.keep (hkeep.sub (by intro b hb;simp[hb]));have hnd2:((bsV++b1')++(b0::(bsT'++(bsL++((pre++post)++bsF))))).Nodup:=by
     refine fF (bsM:=bsM++c1) ?_ ?_ hf
     ·have hp:((bsM++c1)++(b0::(bsT'++(bsL++((pre++post)++bsF))))).Perm (bsM++(tL (some (b0,c1))++(bsT'++(bsL++((pre++post)++bsF))))):=by rw[List.perm_iff_count];intro q;simp only[tL,List.count_append,List.count_cons];omega
      exact hp.nodup_iff.2 hndr
     intro c hc
     rcases List.mem_cons.1 hc with rfl|hc
     ·exact hltH c (by rw[h4];simp)
     exact hlr c hc
    have hnd3:(bsV++(bsT'++(bsL++((pre++(b0::b1')++post)++bsF)))).Nodup:=by
     have hp:(bsV++(bsT'++(bsL++((pre++(b0::b1')++post)++bsF)))).Perm ((bsV++b1')++(b0::(bsT'++(bsL++((pre++post)++bsF))))):=by rw[List.perm_iff_count];intro q;simp only[List.count_append,List.count_cons];omega
     exact hp.nodup_iff.2 hnd2
    obtain⟨bsT'',hp1,hp2⟩:=fP o.dst ht2 hv hnd3;have e0:(({s1 with heap:=jb (.out k) o' s1.heap }:aa).put o.dst out.val).tmps=(s1.put o.dst out.val).tmps:=by cases o.dst <;> rfl
    obtain⟨q1,q2,q3⟩:=db ({s1 with heap:=jb (.out k) o' s1.heap }:aa) o.dst out.val;refine⟨cv,w',hran,⟨R',N,bsT'',bsL,pre++(b0::b1')++post,⟨aW _,?_,?_,?_,by simpa using hp2,?_,hglob,hframe⟩,hkF,fun _ _ h=>h,fun _ _=>rfl⟩,?_⟩
    ·rw[pa1,e0];exact hp1
    ·rw[q1];dsimp only;rw[dl1];exact hL
    ·rw[q2];dsimp only;rw[dl2];exact hH
    ·rw[q3];dsimp only;rw[dl3];exact hr.next
    rw[q3];exact Nat.le_of_eq dl3.symm
   simp at hs2
  simp at h
 | grow o' sz len=>
  rw[heff] at h hout;obtain⟨b',b1',cap,hobj,hf,rfl,hcap,hsz0,hlt',hrow⟩:=hout;have hN:∀m b,N m=some b->bK N (.out s.next) b' m=some b:=fun m b hm=>by
   simp only[bK];rw[if_neg]
   ·exact hm
   rintro rfl
   have:=hr.next _ _ hm
   omega
  have hfin:∀(locs' heap':List (Name×aT)) (bsL' bsH':List Nat),dj o'=true->ao w' R' N locs' bsL'->ao w' R' (outs N) heap' bsH'->(∀c∈bsL'++bsH',c < w.heap.size)->(bsM++(tL nm++(bsT'++(bsL'++(bsH'++bsF))))).Nodup->
    s'=({s1 with locs:=locs',heap:=(.out s1.next,o')::heap',next:=s1.next+1 }:aa).put o.dst (.win (.out s1.next) sz 0 len)->
    ∃cv w',Stepped P G w R N act bsF o s' s.next cv w':=by
   intro locs' heap' bsL' bsH' hno hL hH hltLH hndx hs';have hwin:al w' R' (bK N (.out s.next) b') (.win (.out s.next) sz 0 len) (.slice (some ⟨b',0,none⟩) len cap) []:=by
    simp only[al];exact⟨trivial,b',cap,by simp[bK],rfl,hcap,hsz0,hlt',by rw[Nat.zero_add];exact hrow⟩
   have hob:aU w' R' (outs (bK N (.out s.next) b')) o' b' b1':=(hobj.ext hN).yh hno (fun _=>rfl);have hH2:ao w' R' (outs (bK N (.out s.next) b')) heap' bsH':=hH.ext (fun m b hm=>by
    cases m with
    | loc i=>simp[outs] at hm
    | out k=>simp only[outs] at hm ⊢;exact hN _ _ hm)
   -- nodup
   have hnd4:((bsM++tL nm)++(bsT'++(bsL'++(bsH'++bsF)))).Nodup:=by simpa only[List.append_assoc] using hndx
   have hnd5:((b'::b1')++(bsT'++(bsL'++(bsH'++bsF)))).Nodup:=by
    refine fF (w:=w) hnd4 ?_ hf;intro c hc
    rcases List.mem_append.1 hc with h|h
    ·exact hltT c h
    rcases List.mem_append.1 h with h|h
    ·exact hltLH c (List.mem_append_left _ h)
    rcases List.mem_append.1 h with h|h
    ·exact hltLH c (List.mem_append_right _ h)
    exact hltF c h
   have hnd6:([]++(bsT'++(bsL'++((b'::(b1'++bsH'))++bsF)))).Nodup:=by
    have hp:([]++(bsT'++(bsL'++((b'::(b1'++bsH'))++bsF)))).Perm ((b'::b1')++(bsT'++(bsL'++(bsH'++bsF)))):=by rw[List.perm_iff_count];intro q;simp only[List.count_append,List.count_cons,List.count_nil];omega
    exact hp.nodup_iff.2 hnd5
   obtain⟨bsT'',hp1,hp2⟩:=fP o.dst (ht2.ext hN) hwin hnd6;subst hs';have e0:(({s1 with locs:=locs',heap:=(.out s1.next,o')::heap',next:=s1.next+1 }:aa).put o.dst (.win (.out s1.next) sz 0 len)).tmps=(s1.put o.dst (.win (.out s.next) sz 0 len)).tmps:=by rw[←dl3];cases o.dst <;> rfl
   obtain⟨q1,q2,q3⟩:=db ({s1 with locs:=locs',heap:=(.out s1.next,o')::heap',next:=s1.next+1 }:aa) o.dst (.win (.out s1.next) sz 0 len);refine⟨_,w',hran,⟨R',bK N (.out s.next) b',bsT'',bsL',b'::(b1'++bsH'),⟨aW _,?_,?_,?_,by simpa using hp2,?_,hglob,hframe⟩,hkF,fun k b hk=>hN _ _ hk,fun i _=>by simp[bK]⟩,?_⟩
   ·rw[pa1,e0];exact hp1
   ·rw[q1];exact hL.ext hN
   ·rw[q2];dsimp only;rw[dl3];exact⟨b',b1',bsH',rfl,by simp[outs,bK],hob,hH2⟩
   ·rw[q3];dsimp only;rw[dl3];intro k b hk;simp only[bK] at hk
    split at hk
    ·rename_i he;simp at he;omega
    have:=hr.next k b hk;omega
   rw[q3];dsimp only;rw[dl3];omega
  simp only[dl2] at h
  rcases hwhich with⟨hn0,e⟩|⟨i,b0,c1,pre,post,obj,h1,h2,h3,h4,h5,h6,⟨bs',g1,g2⟩,h7⟩|⟨k,b0,c1,pre,post,obj,h1,h2,h3,h4,h5,h6,h6',⟨bs',g1,g2⟩,h7⟩
  ·subst hn0;subst e;have kL:bA w R w' R' bsL:=hkeep.sub (by intro b hb;simp[hb]);have kH:bA w R w' R' bsH:=hkeep.sub (by intro b hb;simp[hb])
   split at h
   ·rename_i k hk
    split at h
    ·rename_i hno;simp only[Option.some.injEq] at h;obtain⟨bs',g1,g2⟩:=ao.qn (.loc k) (hr.locs.keep kL);refine hfin (kd (.loc k) s.locs) s.heap bs' bsH hno g1 (hr.heap.keep kH) ?_ ?_ (by rw[←h,dl1])
     ·intro c hc
      rcases List.mem_append.1 hc with h|h
      ·exact hltL c (g2.mem h)
      exact hltH c h
     refine List.Nodup.sublist ?_ hndr;exact List.Sublist.append (.refl _) (List.Sublist.append (.refl _) (List.Sublist.append (.refl _) (List.Sublist.append g2 (.refl _))))
    simp at h
   ·rename_i k hk
    split at h
    ·rename_i hno;simp only[Option.some.injEq] at h;obtain⟨bs',g1,g2⟩:=ao.qn (.out k) (hr.heap.keep kH);refine hfin s.locs (kd (.out k) s.heap) bsL bs' hno (hr.locs.keep kL) g1 ?_ ?_ (by rw[←h,←dl1])
     ·intro c hc
      rcases List.mem_append.1 hc with h|h
      ·exact hltL c h
      exact hltH c (g2.mem h)
     refine List.Nodup.sublist ?_ hndr;exact List.Sublist.append (.refl _) (List.Sublist.append (.refl _) (List.Sublist.append (.refl _) (List.Sublist.append (.refl _) (List.Sublist.append g2 (.refl _)))))
    simp at h
   split at h
   ·rename_i hno;simp only[Option.some.injEq] at h;refine hfin s.locs s.heap bsL bsH hno (hr.locs.keep kL) (hr.heap.keep kH) ?_ hndr (by rw[←h,←dl1]);intro c hc
    rcases List.mem_append.1 hc with h|h
    ·exact hltL c h
    exact hltH c h
   simp at h
  ·rw[h1] at h;dsimp only at h
   split at h
   ·rename_i hno;simp only[Option.some.injEq] at h;subst h5;subst h3;have hmem:∀c∈pre++post,c∈bsL:=fun c hc=>by rw[h4];simp at hc ⊢;rcases hc with h|h <;> simp[h]
    refine hfin (kd (.loc i) s.locs) s.heap bs' bsH hno (g1.keep (hkeep.sub (fun b hb=>?_))) (hr.heap.keep (hkeep.sub (by intro b hb;simp[hb]))) ?_ ?_ (by rw[←h,dl1])
    ·have:=g2.mem hb
     simp at this ⊢;rcases this with h|h <;> simp[h]
    ·intro c hc
     rcases List.mem_append.1 hc with h|h
     ·exact hltL c (hmem c (g2.mem h))
     exact hltH c h
    refine List.Nodup.sublist ?_ hndr;exact List.Sublist.append (.refl _) (List.Sublist.append (.refl _) (List.Sublist.append (.refl _) (List.Sublist.append g2 (.refl _))))
   simp at h
  rw[h1] at h;dsimp only at h
  split at h
  ·rename_i hno;simp only[Option.some.injEq] at h;subst h5;subst h3;have hmem:∀c∈pre++post,c∈bsH:=fun c hc=>by rw[h4];simp at hc ⊢;rcases hc with h|h <;> simp[h]
   refine hfin s.locs (kd (.out k) s.heap) bsL bs' hno (hr.locs.keep (hkeep.sub (by intro b hb;simp[hb]))) (g1.keep (hkeep.sub (fun b hb=>?_))) ?_ ?_ (by rw[←h,←dl1])
   ·have:=g2.mem hb
    simp at this ⊢;rcases this with h|h <;> simp[h]
   ·intro c hc
    rcases List.mem_append.1 hc with h|h
    ·exact hltL c h
    exact hltH c (hmem c (g2.mem h))
   refine List.Nodup.sublist ?_ hndr;exact List.Sublist.append (.refl _) (List.Sublist.append (.refl _) (List.Sublist.append (.refl _) (List.Sublist.append (.refl _) (List.Sublist.append g2 (.refl _)))))
  simp at h
 | fresh o'=>
  rw[heff] at h hout;obtain⟨hnone,b1',hobj,hf,hsz,hcv⟩:=hout;simp only at h
  split at h
  ·rename_i hno;simp only[Option.some.injEq] at h;subst h;have hall:ao w' R' N s.locs bsL/\ao w' R' (outs N) s.heap bsH:=by
    rcases hwhich with⟨_,e⟩|⟨i,b,b1,pre,post,obj,h1,h2,h3,h4,h5,h6,_,h7⟩|⟨k,b,b1,pre,post,obj,h1,h2,h3,h4,h5,h6,h6',_,h7⟩
    ·subst e;exact⟨hr.locs.keep (hkeep.sub (by intro b hb;simp[hb])),hr.heap.keep (hkeep.sub (by intro b hb;simp[hb]))⟩
    ·rw[hnone] at h3;simp at h3
    rw[hnone] at h3;simp at h3
   obtain⟨hL,hH⟩:=hall;have hN:∀m b,N m=some b->bK N (.out s.next) w.heap.size m=some b:=fun m b hm=>by
    simp only[bK];rw[if_neg]
    ·exact hm
    rintro rfl
    have:=hr.next _ _ hm
    omega
   have hpv:al w' R' (bK N (.out s.next) w.heap.size) (sr s.next o') cv []:=by
    subst hcv
    cases o' <;> simp[al,bK,sr]
   have hob:aU w' R' (outs (bK N (.out s.next) w.heap.size)) o' w.heap.size b1':=(hobj.ext hN).yh hno (fun _=>rfl);have hH2:ao w' R' (outs (bK N (.out s.next) w.heap.size)) s.heap bsH:=hH.ext (fun m b hm=>by
    cases m with
    | loc i=>simp[outs] at hm
    | out k=>simp only[outs] at hm ⊢;exact hN _ _ hm)
   have hnd2:(b1'++(bsT'++(bsL++(bsH++bsF)))).Nodup:=by
    refine fF (w:=w) hnd ?_ ⟨hf.1,fun b hb=>.inl (hf.2 b hb)⟩;intro b hb
    rcases List.mem_append.1 hb with h|h
    ·exact hltT b h
    exact hltX b h
   have hnew:w.heap.size∉b1'++(bsT'++(bsL++(bsH++bsF))):=by
    intro hc
    rcases List.mem_append.1 hc with h|h
    ·have:=ha.lt _ (hf.2 _ h);omega
    rcases List.mem_append.1 h with h|h
    ·have:=hltT _ h;omega
    have:=hltX _ h;omega
   have hnd3:([]++(bsT'++(bsL++((w.heap.size::(b1'++bsH))++bsF)))).Nodup:=by
    have h1:(w.heap.size::(b1'++(bsT'++(bsL++(bsH++bsF))))).Nodup:=List.nodup_cons.2 ⟨hnew,hnd2⟩;have hp:([]++(bsT'++(bsL++((w.heap.size::(b1'++bsH))++bsF)))).Perm (w.heap.size::(b1'++(bsT'++(bsL++(bsH++bsF))))):=by rw[List.perm_iff_count];intro q;simp only[List.count_append,List.count_cons,List.count_nil];omega
    exact hp.nodup_iff.2 h1
   obtain⟨bsT'',hp1,hp2⟩:=fP o.dst (ht2.ext hN) hpv hnd3;have e0:(({s1 with heap:=(.out s1.next,o')::s1.heap,next:=s1.next+1 }:aa).put o.dst (sr s1.next o')).tmps=(s1.put o.dst (sr s.next o')).tmps:=by rw[←dl3];cases o.dst <;> rfl
   obtain⟨q1,q2,q3⟩:=db ({s1 with heap:=(.out s1.next,o')::s1.heap,next:=s1.next+1 }:aa) o.dst (sr s1.next o');refine⟨cv,w',hran,⟨R',bK N (.out s.next) w.heap.size,bsT'',bsL,w.heap.size::(b1'++bsH),⟨aW _,?_,?_,?_,by simpa using hp2,?_,hglob,hframe⟩,hkF,fun k b hk=>hN _ _ hk,fun i _=>by simp[bK]⟩,?_⟩
   ·rw[pa1,e0];exact hp1
   ·rw[q1];dsimp only;rw[dl1];exact hL.ext hN
   ·rw[q2];dsimp only;rw[dl2,dl3];exact⟨w.heap.size,b1',bsH,rfl,by simp[outs,bK],hob,hH2⟩
   ·rw[q3];dsimp only;rw[dl3];intro k b hk;simp only[bK] at hk
    split at hk
    ·rename_i he;simp at he;omega
    have:=hr.next k b hk;omega
   rw[q3];dsimp only;rw[dl3];omega
  simp at h
 | row o' sz len=>
  rw[heff] at h hout;obtain⟨hnone,b1',hobj,hf,hsz,cap,hcv,hcap,hsz0,hrow⟩:=hout;simp only at h
  split at h
  ·rename_i d hd
   split at h
   ·rename_i hfresh;simp only[Option.some.injEq] at h;subst h
    -- nothing is looked at by such an operation: whichever it was, all stays
    have hall:ao w' R' N s.locs bsL/\ao w' R' (outs N) s.heap bsH:=by
     rcases hwhich with⟨_,e⟩|⟨i,b,b1,pre,post,obj,h1,h2,h3,h4,h5,h6,_,h7⟩|⟨k,b,b1,pre,post,obj,h1,h2,h3,h4,h5,h6,h6',_,h7⟩
     ·subst e;exact⟨hr.locs.keep (hkeep.sub (by intro b hb;simp[hb])),hr.heap.keep (hkeep.sub (by intro b hb;simp[hb]))⟩
     ·rw[hnone] at h3;simp at h3
     rw[hnone] at h3;simp at h3
    obtain⟨hL,hH⟩:=hall;have hN:∀m,m≠Name.loc d->bK N (.loc d) w.heap.size m=N m:=fun m hm=>by simp[bK,hm]
    obtain⟨bsT2,t1,t2⟩:=ak.pq hN ht2;obtain⟨bsL2,l1,l2⟩:=ao.pq hN hL;have hob2:aU w' R' (bK N (.loc d) w.heap.size) o' w.heap.size b1':=nH hobj (fun cs hcs=>by subst hcs;simpa [mX] using hfresh);have hH2:ao w' R' (outs (bK N (.loc d) w.heap.size)) s.heap bsH:=hH.tI (fun k=>by simp[bK]);have hpv:al w' R' (bK N (.loc d) w.heap.size) (.win (.loc d) sz 0 len) cv []:=by
     subst hcv;simp only[al];exact⟨trivial,w.heap.size,cap,by simp[bK],rfl,hcap,hsz0,hsz,by rw[Nat.zero_add];exact hrow⟩
    have hnd2:(b1'++(bsT'++(bsL++(bsH++bsF)))).Nodup:=by
     refine fF (w:=w) hnd ?_ ⟨hf.1,fun b hb=>.inl (hf.2 b hb)⟩;intro b hb
     rcases List.mem_append.1 hb with h|h
     ·exact hltT b h
     exact hltX b h
    have hnew:w.heap.size∉b1'++(bsT'++(bsL++(bsH++bsF))):=by
     intro hc
     rcases List.mem_append.1 hc with h|h
     ·have:=ha.lt _ (hf.2 _ h);omega
     rcases List.mem_append.1 h with h|h
     ·have:=hltT _ h;omega
     have:=hltX _ h;omega
    have hnd3:([]++(bsT2++((w.heap.size::(b1'++bsL2))++(bsH++bsF)))).Nodup:=by
     have h1:(w.heap.size::(b1'++(bsT'++(bsL++(bsH++bsF))))).Nodup:=List.nodup_cons.2 ⟨hnew,hnd2⟩;have hp:([]++(bsT2++((w.heap.size::(b1'++bsL2))++(bsH++bsF)))).Perm (w.heap.size::(b1'++(bsT2++(bsL2++(bsH++bsF))))):=by rw[List.perm_iff_count];intro q;simp only[List.count_append,List.count_cons,List.count_nil];omega
     refine hp.nodup_iff.2 (List.Nodup.sublist ?_ h1);exact (List.Sublist.append (.refl _) (List.Sublist.append t2 (List.Sublist.append l2 (.refl _)))).cons_cons _
    obtain⟨bsT'',hp1,hp2⟩:=mQ d t1 hpv hnd3;rw[hd] at pa1;refine⟨cv,w',hran,⟨R',bK N (.loc d) w.heap.size,bsT'',w.heap.size::(b1'++bsL2),bsH,⟨aW _,?_,?_,?_,by simpa using hp2,?_,hglob,hframe⟩,hkF,fun k b hk=>by simpa [bK] using hk,fun i hi=>by
     have:Name.loc i≠Name.loc d:=fun e=>hi (by rw[hd];simp at e;rw[e])
     simp[bK,this]⟩,?_⟩
    ·rw[hd,pa1];exact hp1
    ·simp only[nL];rw[dl1];exact⟨w.heap.size,b1',bsL2,rfl,by simp[bK],hob2,l1⟩
    ·simp only[nL];rw[dl2];exact hH2
    ·intro k b hk;simp[bK] at hk;simp only[nL];rw[dl3];exact hr.next k b hk
    ·simp only[nL];exact Nat.le_of_eq dl3.symm
   simp at h
  simp at h
 | new o'=>
  rw[heff] at h hout;obtain⟨hnone,b1',hobj,hf,hsz,hcv⟩:=hout;simp only at h
  split at h
  ·rename_i d hd
   split at h
   ·rename_i hfresh;simp only[Option.some.injEq] at h;subst h
    -- nothing is looked at by such an operation: whichever it was, all stays
    have hall:ao w' R' N s.locs bsL/\ao w' R' (outs N) s.heap bsH:=by
     rcases hwhich with⟨_,e⟩|⟨i,b,b1,pre,post,obj,h1,h2,h3,h4,h5,h6,_,h7⟩|⟨k,b,b1,pre,post,obj,h1,h2,h3,h4,h5,h6,h6',_,h7⟩
     ·subst e;exact⟨hr.locs.keep (hkeep.sub (by intro b hb;simp[hb])),hr.heap.keep (hkeep.sub (by intro b hb;simp[hb]))⟩
     ·rw[hnone] at h3;simp at h3
     rw[hnone] at h3;simp at h3
    obtain⟨hL,hH⟩:=hall;have hN:∀m,m≠Name.loc d->bK N (.loc d) w.heap.size m=N m:=fun m hm=>by simp[bK,hm]
    obtain⟨bsT2,t1,t2⟩:=ak.pq hN ht2;obtain⟨bsL2,l1,l2⟩:=ao.pq hN hL;have hob2:aU w' R' (bK N (.loc d) w.heap.size) o' w.heap.size b1':=nH hobj (fun cs hcs=>by subst hcs;simpa [mX] using hfresh);have hH2:ao w' R' (outs (bK N (.loc d) w.heap.size)) s.heap bsH:=hH.tI (fun k=>by simp[bK]);have hpv:al w' R' (bK N (.loc d) w.heap.size) (Ag d o') cv []:=by
     subst hcv
     cases o' <;> simp[al,bK,Ag]
    have hnd2:(b1'++(bsT'++(bsL++(bsH++bsF)))).Nodup:=by
     refine fF (w:=w) hnd ?_ ⟨hf.1,fun b hb=>.inl (hf.2 b hb)⟩;intro b hb
     rcases List.mem_append.1 hb with h|h
     ·exact hltT b h
     exact hltX b h
    have hnew:w.heap.size∉b1'++(bsT'++(bsL++(bsH++bsF))):=by
     intro hc
     rcases List.mem_append.1 hc with h|h
     ·have:=ha.lt _ (hf.2 _ h);omega
     rcases List.mem_append.1 h with h|h
     ·have:=hltT _ h;omega
     have:=hltX _ h;omega
    have hnd3:([]++(bsT2++((w.heap.size::(b1'++bsL2))++(bsH++bsF)))).Nodup:=by
     have h1:(w.heap.size::(b1'++(bsT'++(bsL++(bsH++bsF))))).Nodup:=List.nodup_cons.2 ⟨hnew,hnd2⟩;have hp:([]++(bsT2++((w.heap.size::(b1'++bsL2))++(bsH++bsF)))).Perm (w.heap.size::(b1'++(bsT2++(bsL2++(bsH++bsF))))):=by rw[List.perm_iff_count];intro q;simp only[List.count_append,List.count_cons,List.count_nil];omega
     refine hp.nodup_iff.2 (List.Nodup.sublist ?_ h1);exact (List.Sublist.append (.refl _) (List.Sublist.append t2 (List.Sublist.append l2 (.refl _)))).cons_cons _
    obtain⟨bsT'',hp1,hp2⟩:=mQ d t1 hpv hnd3;rw[hd] at pa1;refine⟨cv,w',hran,⟨R',bK N (.loc d) w.heap.size,bsT'',w.heap.size::(b1'++bsL2),bsH,⟨aW _,?_,?_,?_,by simpa using hp2,?_,hglob,hframe⟩,hkF,fun k b hk=>by simpa [bK] using hk,fun i hi=>by
     have:Name.loc i≠Name.loc d:=fun e=>hi (by rw[hd];simp at e;rw[e])
     simp[bK,this]⟩,?_⟩
    ·rw[hd,pa1];exact hp1
    ·simp only[newObj];rw[dl1];exact⟨w.heap.size,b1',bsL2,rfl,by simp[bK],hob2,l1⟩
    ·simp only[newObj];rw[dl2];exact hH2
    ·intro k b hk;simp[bK] at hk;simp only[newObj];rw[dl3];exact hr.next k b hk
    ·simp only[newObj];exact Nat.le_of_eq dl3.symm
   simp at h
  simp at h
end
end Go.Tp
namespace Go.Tp
def aC (P:Program) (G:bJ) (f:FuncId) (args:List ac) (heap:List (Name×aT)) (next:Nat) (Q:ac->List (Name×aT)->Nat->Prop):Prop:=
 ∀(w:World) (R:Own) (N:Name->Option Nat) (cargs:List Value) (bsA bsH bsF:List Nat),
  ak w R (outs N) args cargs bsA->ao w R (outs N) heap bsH->(bsA++(bsH++bsF)).Nodup->(∀o b,N (.out o)=some b->o < next)->
  (∀g cs,G g=some cs->dX w R g 0 cs)->(∀b∈bsF,b < w.heap.size)->
  Calls P f cargs.toArray w fun e w'=>∃v cv heap' next' R' N' bsV bsH',e=.returned cv/\Q v heap' next'/\al w' R' (outs N') v cv bsV/\ao w' R' (outs N') heap' bsH' ∧
   (bsV++(bsH'++bsF)).Nodup/\(∀o b,N' (.out o)=some b->o < next')/\bA w R w' R' bsF/\(∀o b,N (.out o)=some b->N' (.out o)=some b)
theorem aC.mono {P:Program} {G:bJ} {f:FuncId} {args:List ac} {heap:List (Name×aT)} {next:Nat} {Q Q':ac->List (Name×aT)->Nat->Prop} (h:aC P G f args heap next Q)
  (hq:∀v h n,Q v h n->Q' v h n):aC P G f args heap next Q':=by
 intro w R N cargs bsA bsH bsF h1 h2 h3 h4 h5 h6;refine (h w R N cargs bsA bsH bsF h1 h2 h3 h4 h5 h6).mono ?_;rintro e w' ⟨v,cv,heap',next',R',N',bsV,bsH',k1,k2,k3⟩;exact⟨v,cv,heap',next',R',N',bsV,bsH',k1,hq _ _ _ k2,k3⟩
def cL (G:bJ):aa->List Operand->List ac×aa
 | s,[]=>([],s)
 | s,x::r=>
  match cL G (bO s (some 0) [x]) r with
  |(vs,s')=>(eT G s x::vs,s')
mutual
def xX (n:Name) (ds:List aq):ac->ac
 | .ptr m off=>if m=n then .ref (ds.drop off) else .ptr m off
 | .win m s off len=>if m=n then .undef else .win m s off len
 | .fn f first captured=>.fn f (il n ds first) (il n ds captured)
 | .agg cs=>.agg (il n ds cs)
 | .tup cs=>.tup (il n ds cs)
 | a=>a
def il (n:Name) (ds:List aq):List ac->List ac
 | []=>[]
 | a::r=>xX n ds a::il n ds r
end
def sx (f:List ac->List ac):List (Name×aT)->List (Name×aT)
 | []=>[]
 |(m,.cells cs)::r=>(m,.cells (f cs))::sx f r
 |(m,.map es)::r=>(m,.map es)::sx f r
mutual
def tz (n m:Name):ac->ac
 | .ptr k off=>if k=n then .ptr m off else .ptr k off
 | .map k=>if k=n then .map m else .map k
 | .win k s off len=>if k=n then .win m s off len else .win k s off len
 | .fn f first captured=>.fn f (eG n m first) (eG n m captured)
 | .agg cs=>.agg (eG n m cs)
 | .tup cs=>.tup (eG n m cs)
 | a=>a
def eG (n m:Name):List ac->List ac
 | []=>[]
 | a::r=>tz n m a::eG n m r
end
def OL (n:Name):List ac->Bool
 | []=>false
 | .fn _ first captured::r=>bg n first||bg n captured||OL n r
 | _::r=>OL n r
def uu (fz:Bool) (n:Name) (args cs:List ac):Option (List aq):=if (fz&&OL n args)=true then gC (bu cs) else none
def tG (fz:Bool) (n:Name) (s:aa) (args:List ac):Option (aa×List ac):=
 match n,ev n s.locs with
 | .loc _,some (.cells cs)=>
  match uu fz n args cs with
  | some ds=>some ({s with tmps:=il n ds s.tmps,locs:=sx (il n ds) (kd n s.locs)},il n ds args)
  | none=>if bS (eG n (.out s.next) cs)=true then
   some ({tmps:=eG n (.out s.next) s.tmps,locs:=sx (eG n (.out s.next)) (kd n s.locs),heap:=(.out s.next,.cells (eG n (.out s.next) cs))::s.heap,next:=s.next+1 },eG n (.out s.next) args)
  else none
 | .loc _,some (.map es)=>
  some ({tmps:=eG n (.out s.next) s.tmps,locs:=sx (eG n (.out s.next)) (kd n s.locs),heap:=(.out s.next,.map es)::s.heap,next:=s.next+1 },eG n (.out s.next) args)
 | _,_=>none
def vv (fz:Bool):List Name->aa->List ac->aa×List ac
 | [],s,args=>(s,args)
 | n::ns,s,args=>
  match tG fz n s args with
  | some (s',args')=>vv fz ns s' args'
  | none=>vv fz ns s args
mutual
def Sc:ac->List Name
 | .ptr (.loc i) _=>[.loc i]
 | .map (.loc i)=>[.loc i]
 | .win (.loc i) _ _ _=>[.loc i]
 | .fn _ first captured=>py first++py captured
 | .agg cs=>py cs
 | .tup cs=>py cs
 | _=>[]
def py:List ac->List Name
 | []=>[]
 | a::r=>Sc a++py r
end
def sR:List Name->List Name->List Name
 | [],l=>l
 | n::ns,l=>if l.contains n then sR ns l else sR ns (n::l)
def R6 (locs:List (Name×aT)) (n:Name):List Name:=
 match ev n locs with
 | some (.cells cs)=>py cs
 | _=>[]
def AZ (locs:List (Name×aT)):Nat->List Name->List Name
 | 0,l=>l
 | k+1,l=>AZ locs k (l.foldl (fun a n=>sR (R6 locs n) a) l)
def Yt (l:List Name):List Name:=l++l
def I1 (s:aa) (args:List ac):List Name:=
 match sR (py args) [] with
 | []=>[]
 | l=>Yt (AZ s.locs s.locs.length l)
def mU:List (Name×aT)->List Name
 | []=>[]
 |(n,_)::r=>n::mU r
structure ay where
 pre:List (Nat×Bool)
 nw:Option Nat
 tk:List Nat
 tail:List Nat
 deriving Inhabited
structure Hints where
 moves:FuncId->Bool
 ord:Nat->ay
 caps:FuncId->Bool
 rows:Bool
def Hints.at (H:Hints) (id:Nat):Hints:=⟨H.moves,H.ord,H.caps,match (H.ord id).nw with|none=>H.rows|some _=>false⟩
def rowsOf (caps:FuncId->Bool) (f:FuncId):Bool:=caps (1000000+f)
def Gs:Op->Bool
 | .call {callee:=.builtin .append,.. }=>true
 | _=>false
def mf (E:bG) (G:bJ) (H:Hints) (c:Call) (s:aa):Option (FuncId×List ac×aa):=
 match c.callee with
 | .value f=>(match eT G s f with
  | .fn (.func g) first captured=>
   if E.fn g=true then
    match (if H.moves g=true then cL G s c.args.toList else (aP G s none 0 c.args.toList,s)) with
    |(vs,s1)=>(match vv (!H.caps g) (I1 s1 (first++vs++captured)) s1 (first++vs++captured) with
     |(s2,args)=>if bS args=true then some (g,args,s2) else none)
   else none
  | _=>none)
 | _=>none
def dq:Op->Option Call
 | .call c=>(match c.callee with|.builtin _=>none|_=>some c)
 | _=>none
def dy (t:Tmp):Operand->Bool
 | .tmp u=>Nat.beq u t
 | _=>false
def U4 (moves:FuncId->Bool) (ops:List Oper) (d:Option Tmp):Bool:=
 match d with
 | none=>false
 | some t=>ops.any fun o=>match o.op with
  | .call c=>(match c.callee with
   | .builtin .append=>(match c.args.toList with|.tmp u::_=>Nat.beq u t|_=>false)
   | .value (.func g)=>moves g&&c.args.toList.any (dy t)
   | _=>false)
  | _=>false
def UR (moves:FuncId->Bool) (ops:List Oper) (d:Option Tmp):Bool:=
 match d with
 | none=>false
 | some t=>ops.any fun o=>match o.op with
  | .call c=>(match c.callee with
   | .builtin .append=>(match c.args.toList with|.tmp u::_=>Nat.beq u t|_=>false)
   | .value (.func g)=>moves g&&c.args.toList.any (dy t)
   | _=>false)
  | .move x=>dy t x
  | .assign x=>dy t x
  | .box _ x=>dy t x
  | .extract x _=>dy t x
  | .store _ _ x=>dy t x
  | _=>false
def U5 (moves:FuncId->Bool) (ops:List Oper) (o:Oper):Bool:=
 match o.op with
 | .load _ _=>U4 moves ops o.dst
 | _=>false
def appended (ops:List Oper) (d:Option Tmp):Bool:=
 match d with
 | none=>false
 | some d=>ops.any fun o=>match o.op with
  | .call c=>Gs o.op&&(match c.args.toList with|[_,.tmp u]=>Nat.beq u d|_=>false)
  | _=>false
def lF (H:Hints) (ops:List Oper) (o:Oper):Bool:=match o.op with
 | .buildSlice _ _ _=>H.rows&&!appended ops o.dst
 | .makeMap _ _=>H.rows
 | _=>(match Gs o.op with|true=>H.rows|false=>U5 H.moves ops o)
def readOnly (moves:FuncId->Bool) (ops:List Oper) (o:Oper):Bool:=
 match o.op with
 | .move _=>!UR moves ops o.dst
 | _=>false
def dF (ops:List Oper) (s:aa) (g:Option (Nat×Bool)):Option Bool:=
 match g with
 | none=>some true
 | some (j,want)=>(match ops[j]? with
  | some o=>(match o.dst with
   | some t=>(match bC s.tmps t with
    | .dat (.flat (.bool b))=>some (b==want)
    | .tup []=>some false
    | _=>none)
   | none=>none)
  | none=>none)
mutual
def yb:aq->Prop
 | .flat v=>bE v=true
 | .slice es=>es.length<=lim/\rL es
 | .agg cs=>rL cs
def rL:List aq->Prop
 | []=>True
 | d::r=>yb d/\rL r
end
mutual
def nq:ac->Prop
 | .dat d=>yb d
 | .own es=>es.length<=lim/\rL es
 | .ref cs=>rL cs
 | .fn _ a b=>rq a/\rq b
 | .agg cs=>rq cs
 | .tup cs=>rq cs
 | .ptr _ _=>True
 | .map _=>True
 | .win _ _ _ _=>True
 | .undef=>True
def rq:List ac->Prop
 | []=>True
 | a::r=>nq a/\rq r
end
def adg:List (Value×aq)->Prop
 | []=>True
 |(_,d)::r=>yb d/\adg r
def ya:List (Name×aT)->Prop
 | []=>True
 |(_,.cells cs)::r=>rq cs/\ya r
 |(_,.map es)::r=>adg es/\ya r
abbrev EM:=FuncId->List ac->List (Name×aT)->Nat->(ac->List (Name×aT)->Nat->Prop)->Prop
abbrev Zp:=Code->(Exit->aa->Prop)->aa->Prop
section
variable (A:EM) (E:bG) (G:bJ) (H:Hints)
def mE (all:List Oper) (o:Oper) (K:aa->Prop) (s:aa):Prop:=
 match dF all s o.guard with
 | none=>False
 | some b=>
  if b=true then
   (match dq o.op with
    | some c=>(match mf E G H c s with
     | some (f,args,s2)=>A f args s2.heap s2.next (fun v heap n=>nq v->ya heap->K (({s2 with heap:=heap,next:=n }:aa).put o.dst v))
     | none=>False)
    | none=>(match cY E G (readOnly H.moves all o) (lF H all o) o s with
     | some s'=>K s'
     | none=>False))
  else K (s.put o.dst (.tup []))
def Ut (d:Option Tmp) (K:aa->Prop) (s:aa):Prop:=
 match d with
 | none=>K s
 | some t=>(match s.tmps[t]? with
  | some (.dat (.flat (.bool b)))=>(match b with
   | true=>K {s with tmps:=s.tmps.set t (.dat (.flat (.bool true)))}
   | false=>K {s with tmps:=s.tmps.set t (.dat (.flat (.bool false)))})
  | _=>K s)
theorem zn {α:Type}:∀{l:List α} {t:Nat} {v:α},l[t]?=some v->l.set t v=l
 | [],_,_,h=>by simp at h
 | _::_,0,_,h=>by simp at h;simp[h]
 | _::l,t+1,v,h=>by simp at h;simp[zn h]
theorem iX (d:Option Tmp) (K:aa->Prop):Ut d K=K:=by
 funext s
 unfold Ut
 cases d with
 | none=>rfl
 | some t=>
  dsimp only
  split
  ·rename_i b h
   have:=zn h
   cases b <;> simp only[this]
  rfl
def mD (all:List Oper) (Q:aa->Prop):List Oper->aa->Prop
 | [],s=>Q s
 | o::rest,s=>mE A E G H all o (Ut o.dst (mD all Q rest)) s
def pA (fh:Bool):Option Name->Bool
 | some (.out _)=>fh
 | _=>true
def jn:Op->Bool
 |.move _|.assign _|.pick _ _ _|.binOp _ _ _ _ _|.unOp _ _ _|.convert _ _ _|.nilCheck _|.fieldAddr _ _ _|.field _ _ _|.indexAddr _ _ _|.index _ _ _|.slice _ _ _ _ _|.build _ _
 | .buildSlice _ _ _|.makeFunc _ _ _|.extract _ _|.load _ _|.lookup _ _ _ _=>true
 | .call c=>(match c.callee with|.builtin .len=>true|.builtin .max=>true|_=>false)
 | _=>false
def nY:Op->Bool
 | .alloc _=>true
 | _=>false
def fp (fh:Bool) (all:List Oper) (o:Oper) (s:aa):Option ac:=
 match dF all s o.guard with
 | none=>none
 | some b=>
  if b=true then
   if nY o.op=true then (match jJ E false o.op [] none with|some _=>some .undef|none=>none)
   else (match dq o.op with
    | some _=>none
    | none=>
     if (jn o.op&&pA fh (looks o.op (aP G s none 0 (opsL o.op))))=true then
      (match jJ E false o.op (aP G s none 0 (opsL o.op)) (bp s o.op (aP G s none 0 (opsL o.op))) with
       | some out=>(match out.eff with|.keep=>some out.val|_=>none)
       | none=>none)
     else none)
  else some (.tup [])
def dM (c:Call) (s:aa):Option (FuncId×List ac×aa):=
 match c.callee with
 | .value f=>(match eT G s f with
  | .fn (.func g) first captured=>
   if E.fn g=true then
    match (if H.moves g=true then cL G s c.args.toList else (aP G s none 0 c.args.toList,s)) with
    |(vs,s1)=>if bS (first++vs++captured)=true then some (g,first++vs++captured,s1) else none
   else none
  | _=>none)
 | _=>none
def DK (fh:Bool):Name->Bool
 | .loc _=>true
 | .out _=>fh
def aa.km (s:aa) (n:Name) (o:aT):aa:=
 match n with
 | .loc i=>{s with locs:=jb (.loc i) o s.locs }
 | .out k=>{s with heap:=jb (.out k) o s.heap }
def dA (fh:Bool) (all:List Oper):List Nat->aa->Option aa
 | [],s=>some s
 | i::r,s=>
  match all[i]? with
  | some o=>(match o.op,o.dst,o.guard with
   | .load _ (.tmp u),some t,none=>(match bC s.tmps u with
    | .ptr n off=>if DK fh n=true then (match s.obj n with
     | some (.cells cs)=>(match cs[off]? with
      | some (.own es)=>(match bC s.tmps t with
       | .dat (.slice _)=>dA fh all r (({s with tmps:=s.tmps.set t (.own es)}:aa).km n (.cells (dx off [.dat (.slice es)] cs)))
       | _=>none)
      | _=>none)
     | _=>none) else none
    | _=>none)
   | _,_,_=>none)
  | none=>none
def fK:Op->Option Tmp
 | .call c=>(match c.callee with
  | .builtin .append=>(match c.args.toList with|.tmp t::_=>some t|_=>none)
  | _=>none)
 | _=>none
def gd (all:List Oper) (t:Tmp):List Nat->List Nat
 | []=>[]
 | i::r=>match all[i]? with
  | some o=>if o.dst=some t then i::gd all t r else gd all t r
  | none=>gd all t r
def lE (tk:List Nat) (t:Tmp) (s:aa):List Nat:=if Js (bC s.tmps t)=true then [] else tk
theorem mK {all:List Oper} {t:Tmp} {tk:List Nat} {s:aa} {k:Nat} (h:k∈gd all t (lE tk t s)):k∈gd all t tk:=by
 unfold lE at h
 split at h
 ·simp[gd] at h
 exact h
def ik (o:Oper):Bool:=
 match o.op with
 | .call c=>(match c.callee with|.value (.func g)=>H.caps (2000000+g)|_=>false)
 | _=>false
def mw (o:Oper):Bool:=
 match o.op with
 | .call c=>(match c.callee with|.value (.func g)=>H.caps (3000000+g)|_=>false)
 | _=>false
def UF (h h':List (Name×aT)):Prop:=∀n ob,ev n h=some ob->ev n h'=some ob
def ub (o:Oper):Bool:=
 match o.op,o.dst with
 | .move (.tmp _),some _=>true
 | _,_=>false
def ku:Op->Bool
 | .store _ _ _=>true
 | .move (.tmp _)=>true
 | .build _ _=>true
 | .buildSlice _ _ _=>true
 | _=>false
def Na (fh:Bool) (tk:List Nat) (all:List Oper) (o:Oper) (K:aa->Prop) (s:aa):Prop:=
 match dF all s o.guard with
 | none=>False
 | some b=>
  if b=true then
   (match dq o.op with
    | some c=>(match dM E G H c s with
     | some (f,args,s2)=>(match ik H o with
      | true=>A f args [] s2.next (fun v heap n=>nq v->ya heap->heap=[]/\K (({s2 with next:=n }:aa).put o.dst v))
      | false=>A f args s2.heap s2.next (fun v heap n=>nq v->ya heap->(mw H o=true->UF s2.heap heap)/\K (({s2 with heap:=heap,next:=n }:aa).put o.dst v)))
     | none=>False)
    | none=>(match fK o.op with
     | some t=>(match dA fh all (gd all t (lE tk t s)) s with
      | some s1=>(match cY E G false false o s1 with
       | some s'=>K s'
       | none=>False)
      | none=>False)
     | none=>(match ku o.op with
      | true=>(match cY E G (readOnly H.moves all o) (lF H all o) o s with
       | some s'=>K s'
       | none=>False)
      | false=>False)))
  else K (s.put o.dst (.tup []))
def aV (all:List Oper):List (Nat×Bool)->Bool
 | []=>true
 |(i,l)::r=>(!l||(match all[i]? with|some o=>(dq o.op).isNone||ik H o|none=>true))&&aV all r
def reach (all:List Oper):Nat->Nat->Nat->Bool
 | 0,_,_=>false
 | f+1,i,j=>match all[i]? with
  | some o=>o.after.toList.any fun e=>Region.binds .any e&&(Nat.beq e.on j||reach all f e.on j)
  | none=>false
def quietAt (all:List Oper) (pre:List (Nat×Bool)) (i:Nat):Bool:=
 pre.all fun p=>!p.2||(match all[p.1]? with|some o=>(dq o.op).isNone||ik H o||mw H o|none=>true)||reach all 6 i p.1||reach all 6 p.1 i
def mc (tk:List Nat) (fh:Bool) (fq:Nat->Bool) (all:List Oper) (T:aa->Prop):List (Nat×Bool)->aa->Prop
 | [],s=>T s
 |(i,lone)::r,s=>
  match all[i]? with
  | none=>False
  | some o=>
   if lone=true then Na A E G H fh tk all o (Ut o.dst (mc tk fh fq all T r)) s
   else (match fp E G (fh||fq i) all o s with
    | some a=>Ut o.dst (mc tk fh fq all T r) (s.put o.dst a)
    | none=>False)
def iE (all:List Oper) (mk:Option Nat) (s:aa):Option aa:=
 match mk with
 | none=>some s
 | some i=>(match all[i]? with
  | some o=>(match o.op,o.dst,o.guard with
   | .alloc t,some d,none=>(match E.ty t with
    | some ti=>if eV (bN (cI ti.zero))=true/\bg (.loc d) (bN (cI ti.zero))=false/\d < s.tmps.length/\bg (.loc d) s.tmps=false then some (newObj s d (.cells (bN (cI ti.zero)))) else none
    | none=>none)
   | _,_,_=>none)
  | none=>none)
def dO (all:List Oper):List Nat->List Oper
 | []=>[]
 | i::r=>match all[i]? with|some o=>o::dO all r|none=>dO all r
def bW (l:Array Bool) (i:Nat):Array Bool:=l.setIfInBounds i true
def Yq (k:Nat) (s0 s:aa):Prop:=
 ∀(w:World) (R:Own) (N:Name->Option Nat) (tmps:List Value) (bsT bsL bsH bsF:List Nat),dh G w R N tmps s undef .undef [] bsT bsL bsH bsF->
  ∃N' bsT' bsL' bsH',dh G w R N' tmps s0 undef .undef [] bsT' bsL' bsH' bsF/\∀o b,o < k->N (.out o)=some b->N' (.out o)=some b
def oV (all:List Oper) (Q:aa->Prop):Nat->Array Bool->aa->Prop
 | 0,listed,s=>Region.ready .any all.toArray listed=[]/\Q s
 | m+1,listed,s=>(Region.ready .any all.toArray listed=[]/\Q s) ∨
  (Region.ready .any all.toArray listed≠[]/\∀i∈Region.ready .any all.toArray listed,∃o,all[i]?=some o/\mE A E G H all o (oV all Q m (bW listed i)) s)
def gA (h:ay):Bool:=match h.tail with|[k]=>Nat.beq k 1000000|_=>false
def ee:List (Nat×Bool)->Array Bool->Array Bool
 | [],l=>l
 |(i,_)::r,l=>ee r (bW l i)
def bY:List (Nat×Bool)->List (Nat×Bool)
 |(i,false)::r=>(i,false)::bY r
 | _=>[]
def hC (h:ay):Bool:=match h.tail with|k::_=>Nat.beq k 2000000|[]=>false
def fY (h:ay):ay:=⟨h.pre,h.nw,h.tk,h.tail.drop 1⟩
def wq (h:ay) (all:List Oper) (p:Array Bool) (K:aa->Prop):Nat->Array Bool->aa->Prop
 | 0,listed,s=>listed=p/\K s
 | m+1,listed,s=>listed≠p/\Region.ready .any all.toArray listed≠[] ∧
  ∀i∈Region.ready .any all.toArray listed,(i,true)∈h.pre/\∃o,all[i]?=some o/\Na A E G H (aV H all h.pre) h.tk all o (wq h all p K m (bW listed i)) s
def Bn (all:List Oper) (h:ay) (Q:aa->Prop) (s:aa):Prop:=
 mc A E G H h.tk (aV H all h.pre) (quietAt H all h.pre) all
  (wq A E G H h all (ee h.pre (Array.replicate all.length false)) (fun s1=>match iE E all h.nw s1 with
   | some s2=>mD A E G H all Q (dO all h.tail) s2
   | none=>False) (h.pre.length - (bY h.pre).length) (ee (bY h.pre) (Array.replicate all.length false))) (bY h.pre) s
def Bo (all:List Oper) (h:ay) (Q:aa->Prop) (s:aa):Prop:=
 if gA h=true then oV A E G H all (fun s'=>∃s0,Q s0/\Yq G s.next s0 s') all.length (Array.replicate all.length false) s else
 if hC h=true then Bn A E G H all (fY h) Q s else
 mc A E G H h.tk (aV H all h.pre) (quietAt H all h.pre) all (fun s1=>match iE E all h.nw s1 with
  | some s2=>mD A E G H all Q (dO all h.tail) s2
  | none=>False) h.pre s
def oB (ops:Array Oper):List (Nat×Bool)->Array Bool->Bool
 | [],_=>true
 |(i,lone)::r,l=>(if lone=true then Region.ready .any ops l==[i] else (Region.ready .any ops l).contains i&&Region.free .any ops l i)&&oB ops r (bW l i)
def waited (ops:Array Oper) (p:Array Bool) (i:Nat):Bool:=
 (List.range ops.size).any fun d=>d != i&&p.getD d false&&(match ops[d]? with|some o=>o.after.any (fun e=>Region.binds .any e&&e.on==i)|none=>false)
def isApp:Op->Bool
 | .call {callee:=.builtin .append,.. }=>true
 | _=>false
def jz (o p:Oper):Bool:=
 o.guard.isNone&&p.guard.isNone&&(p.dst.isNone||isApp p.op)&&(dq p.op).isNone&&(match o.op,o.dst with
  | .extract (.tmp x) _,some d=>!(opsL p.op).any (dy x)&&!(opsL p.op).any (dy d)&&p.dst != some x&&p.dst != some d
  | .move (.tmp x),some d=>!(opsL p.op).any (dy x)&&!(opsL p.op).any (dy d)&&p.dst != some x&&p.dst != some d
  | _,_=>false)
def YS (ops:Array Oper) (i j:Nat) (l:Array Bool):Bool:=
 (Region.ready .any ops l==[i,j]||Region.ready .any ops l==[j,i])&&Region.ready .any ops (bW l i)==[j]&&Region.ready .any ops (bW l j)==[i] &&
 (match ops[i]?,ops[j]? with|some o,some p=>jz o p|_,_=>false)
def iW (ops:Array Oper):List Nat->Array Bool->Bool
 | [],l=>Region.ready .any ops l==[]
 | [i],l=>Region.ready .any ops l==[i]&&Region.ready .any ops (bW l i)==[]
 | i::j::r,l=>(Region.ready .any ops l==[i]&&iW ops (j::r) (bW l i))||(YS ops i j l&&iW ops r (bW (bW l i) j))
def pw (ops:Array Oper) (nw:Option Nat):Option Tmp:=match nw with|some k=>(match ops[k]? with|some q=>q.dst|none=>none)|none=>none
def nW (ops:Array Oper) (h:ay) (p:Array Bool) (i:Nat):Bool:=
 match h.tail with
 | []=>false
 | j::r=>(Region.ready .any ops (p.setIfInBounds i false)==[i,j]||Region.ready .any ops (p.setIfInBounds i false)==[j,i])&&Region.ready .any ops (bW (p.setIfInBounds i false) j)==[i] &&
  Region.ready .any ops p==[j]&&iW ops r (bW p j)&&h.pre.all (fun x=>x.1==i||(waited ops (p.setIfInBounds i false) x.1||!(Region.ready .any ops ((p.setIfInBounds i false).setIfInBounds x.1 false)).contains j)) &&
  !(h.nw.toList.contains i)&&!(h.tk.contains i) &&
  (match ops[i]?,ops[j]? with
   | some o,some q=>jz o q&&(opsL o.op).all (fun x=>!(o.dst.any fun d=>dy d x)&&!((pw ops h.nw).any fun d=>dy d x))&&pw ops h.nw != o.dst
   | _,_=>false)
def kE (ops:Array Oper) (h:ay) (p:Array Bool):List (Nat×Bool)->Bool
 | []=>true
 |(i,lone)::r=>(lone||(waited ops p i||Region.ready .any ops (p.setIfInBounds i false)==[i])||nW ops h p i)&&kE ops h p r
def dT (ops:Array Oper) (h:ay):Bool:=
 (h.nw.toList++h.tk).all fun i=>h.pre.contains (i,false)&&(match ops[i]? with
  | some o=>(match o.op with|.load _ (.tmp u)=>o.dst != some u|_=>true)&&h.pre.all fun p=>p.1==i||(match ops[p.1]? with
   | some q=>(match o.dst with|some d=>q.dst != some d&&(p.2||!(q.looksAt ops).contains d)|none=>false)&&(match o.op with|.load _ (.tmp u)=>q.dst != some u||o.after.any (fun e=>Region.binds .any e&&e.on==p.1)|_=>true)
   | none=>false)
  | none=>false)
def oC (ops:Array Oper) (h:ay):Bool:=
 h.pre.all fun p=>match ops[p.1]? with
  | some o=>(match fK o.op with
   | some t=>(gd ops.toList t h.tk).all fun i=>o.after.any fun e=>Region.binds .any e&&e.on==i
   | none=>true)
  | none=>true
def gK (ops:Array Oper) (h:ay):Bool:=
 h.pre.all fun p=>!p.2||(match ops[p.1]? with
  | some o=>!ku o.op||(h.nw.isNone&&h.tk.isEmpty&&o.guard.isNone&&h.pre.all fun q=>q.2||(match ops[q.1]? with
   | some oi=>ub o||jz oi o||reach ops.toList 12 q.1 p.1||reach ops.toList 12 p.1 q.1
   | none=>true))
  | none=>true)
def I0 (ops:Array Oper) (h:ay):Bool:=h.pre.isEmpty&&(match h.nw with|some k=>(ops[k]?).isNone|none=>false)
def T4 (ops:Array Oper) (h:ay):Bool:=
 oB ops (bY h.pre) (Array.replicate ops.size false)&&kE ops h (ee h.pre (Array.replicate ops.size false)) h.pre &&
 iW ops h.tail (ee h.pre (Array.replicate ops.size false))&&dT ops h&&oC ops h&&gK ops h&&decide (h.pre.length+h.tail.length<=ops.size)&&h.pre.all (fun x=>decide (x.1 < ops.size))
def ac5 (ops:Array Oper) (h:ay):Bool:=
 Region.noSelect ops&&oB ops h.pre (Array.replicate ops.size false)&&kE ops h (ee h.pre (Array.replicate ops.size false)) h.pre &&
 iW ops h.tail (ee h.pre (Array.replicate ops.size false))&&dT ops h&&oC ops h&&gK ops h&&decide (h.pre.length+h.tail.length<=ops.size)
end
section
variable (P:Program) (A:EM) (C:Zp) (E:bG) (G:bJ) (H:Hints)
def UG (D:List Deferred) (K:aa->Prop) (w:World) (R:Own) (N:Name->Option Nat) (bsF:List Nat) (act':Act) (w':World):Prop:=
 ∃s' R' N' bsT bsL bsH,K s'/\dh G w' R' N' act'.tmps.toList s' undef .undef [] bsT bsL bsH bsF/\act'.defers=D/\bA w R w' R' bsF/\(∀o b,N (.out o)=some b->N' (.out o)=some b)
def C6 (D:List Deferred) (Q:Exit->aa->Prop) (w:World) (R:Own) (N:Name->Option Nat) (bsF:List Nat):Exit->Act->World->Prop:=fun e act' w'=>
 ∃s' R' N' bsT bsL bsH,Q e s'/\dh G w' R' N' act'.tmps.toList s' undef .undef [] bsT bsL bsH bsF/\act'.defers=D/\bA w R w' R' bsF/\(∀o b,N (.out o)=some b->N' (.out o)=some b)
def dz (c:Code) (Q:Exit->aa->Prop) (s:aa):Prop:=
 ∀(w:World) (R:Own) (N:Name->Option Nat) (act:Act) (bsT bsL bsH bsF:List Nat),dh G w R N act.tmps.toList s undef .undef [] bsT bsL bsH bsF->∀{D:List Deferred},act.defers=D->
  c.wp P (C6 G D Q w R N bsF) act w
def iY (K:aa->Prop) (Q:Exit->aa->Prop) (e:Exit) (s:aa):Prop:=
 match e with
 | .normal=>K s
 | e=>Q e s
def cR:Code->Bool
 | .region id ops draw=>!draw||(gA (H.ord id)||(if hC (H.ord id)=true then T4 ops (fY (H.ord id)) else (ac5 ops (H.ord id)||I0 ops (H.ord id))))
 | .seq x y=>cR x&&cR y
 | .cond _ x y=>cR x&&cR y
 | .block _ c=>cR c
 | .loop c=>cR c
 | .scope c=>cR c
 | _=>true
end
def tidy:ac->ac
 | .agg cs=>cQ (.agg cs)
 | a=>a
def jK:List ac->List ac
 | []=>[]
 | a::r=>tidy a::jK r
def yG (E:bG) (s:aa) (a:Tmp) (t:TypeId):Option ac:=
 match bC s.tmps a with
 | .ptr n off=>(match s.obj n,E.ty t with
  | some (.cells cs),some i=>loadCells i off cs
  | _,_=>none)
 | _=>none
def ia (E:bG):aa->List ResultVar->Option (List ac)
 | _,[]=>some []
 | s,.tmp t::r=>(match ia E (bO s (some 0) [.tmp t]) r with|some vs=>some (bC s.tmps t::vs)|none=>none)
 | s,.cell a t::r=>(match yG E s a t,ia E s r with|some v,some vs=>some (v::vs)|_,_=>none)
def pack:List ac->ac
 | [v]=>v
 | vs=>.tup vs
def jS (n:Name):List (Name×aT)->Bool
 | []=>false
 |(_,.cells cs)::r=>bg n cs||jS n r
 |(_,.map _)::r=>jS n r
def im:List Name->aa->List ac->aa×List ac
 | [],s,args=>(s,args)
 | n::ns,s,args=>
  if (bg n args||jS n s.locs)=true then
   match tG true n s args with
   | some (s',args')=>im ns s' args'
   | none=>im ns s args
  else im ns s args
def repeatL:Nat->List Name->List Name
 | 0,_=>[]
 | k+1,l=>l++repeatL k l
def yc (E:bG) (rs:List ResultVar) (Q:ac->List (Name×aT)->Nat->Prop) (s:aa):Prop:=
 match ia E s rs with
 | none=>False
 | some vs=>
  if bS (jK vs)=true then Q (pack (jK vs)) s.heap s.next
  else match im (repeatL s.locs.length (mU s.locs)) s (jK vs) with
   |(s',vs')=>if bS vs'=true then Q (pack vs') s'.heap s'.next else False
def agd (E:bG) (rs:List ResultVar) (Q:ac->List (Name×aT)->Nat->Prop):Exit->aa->Prop
 | .ret,s=>yc E rs Q s
 | .normal,s=>yc E rs Q s
 | _,_=>False
def enter (ntmps:Nat) (args:List ac) (heap:List (Name×aT)) (next:Nat):aa:=⟨args++List.replicate (ntmps - args.length) .undef,[],heap,next⟩
theorem dW {m c:FuncId->Bool} {o:Nat->ay} {r r':Bool}:∀x:Code,cR ⟨m,o,c,r⟩ x=cR ⟨m,o,c,r'⟩ x
 | .region _ _ _=>rfl
 | .seq x y=>by simp only[cR];rw[dW x,dW y]
 | .cond _ x y=>by simp only[cR];rw[dW x,dW y]
 | .block _ x=>by simp only[cR];rw[dW x]
 | .loop x=>by simp only[cR];rw[dW x]
 | .scope x=>by simp only[cR];rw[dW x]
 | .skip|.exit _|.ret|.label ..|.goto ..|.refuse ..|.rangeFunc ..=>rfl
end Go.Tp
namespace Go.Tp
section
variable {P:Program} {E:bG} {G:bJ} {w:World} {R:Own} {N N':Name->Option Nat}
theorem ao.remove:∀{os:List (Name×aT)} {bs:List Nat} {n:Name} {o:aT},ao w R N os bs->ev n os=some o->
  ∃pre b b1 post bs',bs=pre++(b::b1)++post/\N n=some b/\aU w R N o b b1/\ao w R N (kd n os) bs'/\bs'.Sublist (pre++post)
 | [],_,_,_,_,h=>by simp[ev] at h
 |(m,x)::os,_,n,o,⟨b,b1,b2,e,hn,h1,h2⟩,hg=>by
  subst e;simp only[ev] at hg;simp only[kd]
  split at hg
  ·rename_i hm;subst hm;simp at hg;subst hg;obtain⟨bs',g1,g2⟩:=ao.qn m h2;exact⟨[],b,b1,b2,bs',by simp,hn,h1,by simpa using g1,by simpa using g2⟩
  rename_i hm;rw[if_neg hm];obtain⟨pre,c,c1,post,bs',f1,f2,f3,f4,f5⟩:=ao.remove h2 hg;refine⟨b::(b1++pre),c,c1,post,b::(b1++bs'),by simp[f1],f2,f3,⟨b,b1,bs',rfl,hn,h1,f4⟩,?_⟩;simp only[List.cons_append,List.append_assoc];exact (List.Sublist.append (.refl _) f5).cons_cons _
theorem xj (n:Name) (ds:List aq):∀(l m:List ac),il n ds (l++m)=il n ds l++il n ds m
 | [],m=>by simp[il]
 | a::l,m=>by simp[il,xj n ds l m]
theorem Td (n:Name) (ds:List aq) (cs:List ac) (k:Nat):il n ds (cs++List.replicate k .undef)=il n ds cs++List.replicate k .undef:=by
 rw[xj];congr 1
 induction k with
 | zero=>simp[il]
 | succ k ih=>simp[List.replicate_succ,il,xX,ih]
theorem wP (n m:Name):∀(l k:List ac),eG n m (l++k)=eG n m l++eG n m k
 | [],k=>by simp[eG]
 | a::l,k=>by simp[eG,wP n m l k]
theorem zF (n m:Name) (cs:List ac) (k:Nat):eG n m (cs++List.replicate k .undef)=eG n m cs++List.replicate k .undef:=by
 rw[wP];congr 1
 induction k with
 | zero=>simp[eG]
 | succ k ih=>simp[List.replicate_succ,eG,tz,ih]
theorem Xe {n:Name} {ds:List aq} {a:ac} (h:xV (xX n ds a)=true):xV a=true:=by
 cases a with
 | ptr m off=>rfl
 | dat d=>simpa [xX] using h
 | win m s off len=>
  simp only[xX] at h
  split at h <;> simp[xV] at h
 | _=>simp[xX,xV] at h
theorem Xc {n:Name} {ds:List aq} {a:ac} (h:fj (xX n ds a)=true):fj a=true:=by
 cases a with
 | ptr m off=>simp only[xX] at h;split at h <;> simp[fj] at h
 | win m s off len=>simp only[xX] at h;split at h <;> simp[fj] at h
 | own es'=>rfl
 | dat d=>simpa [xX] using h
 | _=>simp[xX,fj] at h
theorem Oi {n:Name} {ds:List aq} {cs:List ac} (h:cN (il n ds cs)=true):cN cs=true:=by
 obtain⟨p,q,e,hp,hq⟩:=gM.1 h
 match cs with
 | []=>simp[il] at e
 | [a]=>simp[il] at e
 | [a,b]=>
  simp only[il,List.cons.injEq,and_true] at e;obtain⟨rfl,rfl⟩:=e;exact gM.2 ⟨a,b,rfl,Xe hp,Xc hq⟩
 | _::_::_::_=>simp[il] at e
theorem Xd {n m:Name} {a:ac} (h:xV (tz n m a)=true):xV a=true:=by
 cases a with
 | ptr k off=>rfl
 | dat d=>simpa [tz] using h
 | win k s off len=>simp only[tz] at h;split at h <;> simp[xV] at h
 | map k=>simp only[tz] at h;split at h <;> simp[xV] at h
 | _=>simp[tz,xV] at h
theorem Xb {n m:Name} {a:ac} (h:fj (tz n m a)=true):fj a=true:=by
 cases a with
 | ptr k off=>simp only[tz] at h;split at h <;> simp[fj] at h
 | win k s off len=>simp only[tz] at h;split at h <;> simp[fj] at h
 | map k=>simp only[tz] at h;split at h <;> simp[fj] at h
 | own es'=>rfl
 | dat d=>simpa [tz] using h
 | _=>simp[tz,fj] at h
theorem wi {n m:Name} {cs:List ac} (h:cN (eG n m cs)=true):cN cs=true:=by
 obtain⟨p,q,e,hp,hq⟩:=gM.1 h
 match cs with
 | []=>simp[eG] at e
 | [a]=>simp[eG] at e
 | [a,b]=>
  simp only[eG,List.cons.injEq,and_true] at e;obtain⟨rfl,rfl⟩:=e;exact gM.2 ⟨a,b,rfl,Xd hp,Xb hq⟩
 | _::_::_::_=>simp[eG] at e
theorem ao.sx {f:List ac->List ac} (hsh:∀cs,cN (f cs)=true->cN cs=true) (hpad:∀cs k,f (cs++List.replicate k .undef)=f cs++List.replicate k .undef) (hf:∀cs vs bs,ak w R N cs vs bs->ak w R N' (f cs) vs bs) (hN:∀m b,N m=some b->N' m=some b) :
  ∀{os:List (Name×aT)} {bs:List Nat},ao w R N os bs->ao w R N' (Tp.sx f os) bs
 | [],_,h=>h
 |(_,.cells _)::_,_,⟨b,b1,b2,e,hn,⟨vs,el,sp,hb,hr,hR⟩,h2⟩=>⟨b,b1,b2,e,hN _ _ hn,⟨vs,el,sp,hb,by rw[←hpad];exact hf _ _ _ hr,hR.1,fun h=>hR.2 (hsh _ h)⟩,ao.sx hsh hpad hf hN h2⟩
 |(_,.map _)::_,_,⟨b,b1,b2,e,hn,h1,h2⟩=>⟨b,b1,b2,e,hN _ _ hn,h1,ao.sx hsh hpad hf hN h2⟩
mutual
theorem Xt {n:Name} {ds:List aq} {b:Nat} (hn:N n=some b) (hat:dX w R b 0 ds):∀{a:ac} {v:Value} {bs:List Nat},al w R N a v bs->al w R N (xX n ds a) v bs
 | .dat _,_,_,h=>by simp only[xX];exact h
 | .own _,_,_,h=>by simp only[xX];exact h
 | .ref _,_,_,h=>by simp only[xX];exact h
 | .ptr m off,_,_,h=>by
  simp only[xX]
  split
  ·rename_i hm;subst hm;simp only[al] at h ⊢;obtain⟨h1,b',h2,h3⟩:=h;rw[hn] at h2;simp at h2;subst h2;exact⟨h1,b,off,h3,by simpa using sd off hat⟩
  exact h
 | .map _,_,_,h=>by simp only[xX];exact h
 | .win m s off len,_,_,h=>by
  simp only[xX]
  split
  ·simp only[al] at h ⊢;exact h.1
  exact h
 | .fn _ x y,_,_,h=>by
  simp only[al,xX] at h ⊢;obtain⟨h1,vs,us,e,h2,h3⟩:=h;exact⟨h1,vs,us,e,jX hn hat (as:=x) h2,jX hn hat (as:=y) h3⟩
 | .agg cs,_,_,h=>by simp only[al,xX] at h ⊢;obtain⟨vs,e,h⟩:=h;exact⟨vs,e,jX hn hat (as:=cs) h⟩
 | .tup cs,_,_,h=>by simp only[al,xX] at h ⊢;obtain⟨vs,e,h⟩:=h;exact⟨vs,e,jX hn hat (as:=cs) h⟩
 | .undef,_,_,h=>by simp only[xX];exact h
theorem jX {n:Name} {ds:List aq} {b:Nat} (hn:N n=some b) (hat:dX w R b 0 ds):∀{as:List ac} {vs:List Value} {bs:List Nat},ak w R N as vs bs->ak w R N (il n ds as) vs bs
 | [],_,_,h=>by simp only[il];exact h
 | a::as,_,_,h=>by
  simp only[ak,il] at h ⊢;obtain⟨v,vs',b1,b2,e1,e2,h1,h2⟩:=h;exact⟨v,vs',b1,b2,e1,e2,Xt hn hat (a:=a) h1,jX hn hat (as:=as) h2⟩
end
mutual
theorem Vq {n m:Name} {b:Nat} (hn:N n=some b) (hm:N m=some b):∀{a:ac} {v:Value} {bs:List Nat},al w R N a v bs->al w R N (tz n m a) v bs
 | .dat _,_,_,h=>by simp only[tz];exact h
 | .own _,_,_,h=>by simp only[tz];exact h
 | .ref _,_,_,h=>by simp only[tz];exact h
 | .ptr k off,_,_,h=>by
  simp only[tz]
  split
  ·rename_i hk;subst hk;simp only[al] at h ⊢;obtain⟨h1,b',h2,h3⟩:=h;rw[hn] at h2;simp at h2;subst h2;exact⟨h1,b,hm,h3⟩
  exact h
 | .map k,_,_,h=>by
  simp only[tz]
  split
  ·rename_i hk;subst hk;simp only[al] at h ⊢;obtain⟨h1,b',h2,h3⟩:=h;rw[hn] at h2;simp at h2;subst h2;exact⟨h1,b,hm,h3⟩
  exact h
 | .win k _ _ _,_,_,h=>by
  simp only[tz]
  split
  ·rename_i hk;subst hk;simp only[al] at h ⊢;obtain⟨h1,b',cap,h2,h3⟩:=h;rw[hn] at h2;simp at h2;subst h2;exact⟨h1,b,cap,hm,h3⟩
  exact h
 | .fn _ x y,_,_,h=>by
  simp only[al,tz] at h ⊢;obtain⟨h1,vs,us,e,h2,h3⟩:=h;exact⟨h1,vs,us,e,kY hn hm (as:=x) h2,kY hn hm (as:=y) h3⟩
 | .agg cs,_,_,h=>by simp only[al,tz] at h ⊢;obtain⟨vs,e,h⟩:=h;exact⟨vs,e,kY hn hm (as:=cs) h⟩
 | .tup cs,_,_,h=>by simp only[al,tz] at h ⊢;obtain⟨vs,e,h⟩:=h;exact⟨vs,e,kY hn hm (as:=cs) h⟩
 | .undef,_,_,h=>by simp only[tz];exact h
theorem kY {n m:Name} {b:Nat} (hn:N n=some b) (hm:N m=some b):∀{as:List ac} {vs:List Value} {bs:List Nat},ak w R N as vs bs->ak w R N (eG n m as) vs bs
 | [],_,_,h=>by simp only[eG];exact h
 | a::as,_,_,h=>by
  simp only[ak,eG] at h ⊢;obtain⟨v,vs',b1,b2,e1,e2,h1,h2⟩:=h;exact⟨v,vs',b1,b2,e1,e2,Vq hn hm (a:=a) h1,kY hn hm (as:=as) h2⟩
end
theorem pn {b:Nat} {vs:Array Value} {el:TypeId} (hb:w.heap[b]?=some (.cells vs el (0,0))) {R':Own} (hR:∀x,¬R' b x):∀{ds:List aq} {us:List Value} (k:Nat),∀(rest:List Value),dc w R' us ds->vs.toList.drop k=us++rest->dX w R' b k ds
 | [],_,_,_,_,_=>trivial
 | d::ds,[],_,_,h,_=>h.elim
 | d::ds,u::us,k,rest,h,e=>by
  have hk:vs.toList[k]?=some u:=by
   have:=List.getElem?_drop (xs:=vs.toList) (i:=k) (j:=0)
   rw[e] at this;simpa using this.symm
  refine⟨⟨u,?_,hR k,h.1⟩,pn hb hR (k+1) rest h.2 ?_⟩
  ·rw[cell_of_row w b k vs el (0,0) hb];simpa using hk
  rw[←List.drop_drop,e];rfl
theorem wT {fz:Bool} {n:Name} {s s':aa} {args args':List ac} (h:tG fz n s args=some (s',args')) {tmps:List Value} {cargs:List Value} {bsV bsT bsL bsH bsF:List Nat}
  (hr:dh G w R N tmps s (.tuple cargs.toArray) (.tup args) bsV bsT bsL bsH bsF) :
  ∃R' N' bsV' bsT' bsL' bsH',dh G w R' N' tmps s' (.tuple cargs.toArray) (.tup args') bsV' bsT' bsL' bsH' bsF/\bA w R w R' bsF/\(∀o b,N (.out o)=some b->N' (.out o)=some b)/\(∀i,N' (.loc i)=N (.loc i)):=by
 have hv:=hr.val;simp only[al] at hv;obtain⟨cs0,ec,hargs⟩:=hv;simp at ec;subst ec;unfold tG at h
 split at h
 ·rename_i i cs hg;obtain⟨pre,b,b1,post,bsD,e1,hN,hobj,hdel,hsub⟩:=ao.remove hr.locs hg;have hnd:=hr.nodup;subst e1
  split at h
  ·
   ·rename_i ds hds0;have hds:gC (bu cs)=some ds:=by
     unfold uu at hds0
     split at hds0
     ·exact hds0
     simp at hds0
    simp at h;obtain⟨rfl,rfl⟩:=h;obtain⟨vs,el,sp,hblk,hrr,hR⟩:=hobj;obtain⟨us1,us2,c1,c2,hvs,hb12,hrr1,_⟩:=cV hrr
    let R':Own:=fun c x=>R c x/\c≠b
    have hst:Step w R w R':=⟨rfl,rfl,rfl,Nat.le_refl _,fun c _ hc=>⟨rfl,fun x h'=>hc x h'.1⟩,fun c x _ hc=>⟨fun h'=>hc h'.1,rfl⟩,fun _ _=>rfl⟩;have hk:∀bs:List Nat,b∉bs->bA w R w R' bs:=fun bs hb=>⟨hst,fun c hc _=>⟨rfl,fun x hx=>⟨hx,fun e=>hb (e ▸ hc)⟩⟩⟩
    have hbn:b∉bsV/\b∉bsT/\b∉pre++post/\b∉bsH/\b∉bsF:=by
     have hc:(bsV++(bsT++((pre++(b::b1)++post)++(bsH++bsF)))).Perm (b::(bsV++(bsT++(pre++post++(b1++(bsH++bsF)))))):=by
      rw[List.perm_iff_count];intro q;simp only[List.count_append,List.count_cons];omega
     have:=(List.nodup_cons.1 (hc.nodup_iff.1 hnd)).1
     simp at this ⊢;simp[this]
    obtain⟨n1,n2,n3,n4,n5⟩:=hbn;have hcs:=(iV (jf hrr1) hds).1;have hat:dX w R' b 0 ds:=pn hblk (fun x h'=>h'.2 rfl) 0 us2 (hcs.step hst) (by simpa using hvs);refine⟨R',N,bsV,bsT,bsD,bsH,⟨?_,?_,?_,?_,?_,hr.next,fun g cs hg=>(hr.glob g cs hg).step hst,hr.frame⟩,hk bsF n5,fun _ _ h=>h,fun _=>rfl⟩
    ·simp only[al];exact⟨cargs,rfl,jX hN hat (hargs.keep (hk bsV n1))⟩
    ·exact jX hN hat (hr.tmps.keep (hk bsT n2))
    ·exact ao.sx (fun _=>Oi) (Td _ _) (fun cs vs bs hr=>jX hN hat hr) (fun _ _ h=>h) (hdel.keep (hk bsD (fun hc=>n3 (hsub.subset hc))))
    ·exact hr.heap.keep (hk bsH n4)
    refine List.Nodup.sublist ?_ hnd;refine List.Sublist.append (.refl _) (List.Sublist.append (.refl _) (List.Sublist.append (hsub.trans ?_) (.refl _)));rw[List.append_assoc];exact List.Sublist.append (.refl _) (List.sublist_append_right _ _)
  -- handed over
  split at h
  ·rename_i hno;simp at h;obtain⟨rfl,rfl⟩:=h;have hfresh:N (.out s.next)=none:=by
    cases hn:N (.out s.next) with
    | none=>rfl
    | some c=>have:=hr.next _ _ hn;omega
   let N':Name->Option Nat:=bK N (.out s.next) b
   have hext:∀m c,N m=some c->N' m=some c:=fun m c hm=>by
    simp only[N',bK];split
    ·rename_i e;rw[e,hfresh] at hm;simp at hm
    exact hm
   have hn1:N' (.loc i)=some b:=hext _ _ hN;have hn2:N' (.out s.next)=some b:=by simp[N',bK]
   have hrl:∀cs vs bs,ak w R N cs vs bs->ak w R N' (eG (.loc i) (.out s.next) cs) vs bs:=fun cs vs bs h=>kY hn1 hn2 (h.ext hext)
   refine⟨R,N',bsV,bsT,bsD,b::(b1++bsH),⟨?_,hrl _ _ _ hr.tmps,ao.sx (fun _=>wi) (zF _ _) hrl hext hdel,?_,?_,?_,hr.glob,hr.frame⟩,bj _,fun o c h=>hext _ _ h,fun i=>by simp[N',bK]⟩
   ·simp only[al];exact⟨cargs,rfl,hrl _ _ _ hargs⟩
   ·refine⟨b,b1,bsH,rfl,by simp[outs,N',bK],?_,hr.heap.ext (fun m c hm=>?_)⟩
    ·obtain⟨vs,el,sp,hblk,hrr,hR⟩:=hobj;have hrr2:=hrl _ _ _ hrr;rw[zF] at hrr2;exact⟨vs,el,sp,hblk,hrr2.yh (by rw[jq];exact hno) (fun _=>rfl),hR.1,fun hb=>hR.2 (wi hb)⟩
    cases m with
    | loc j=>simp[outs] at hm
    | out k=>exact hext _ _ hm
   ·have hp:(bsV++(bsT++((pre++post)++((b::(b1++bsH))++bsF)))).Perm (bsV++(bsT++((pre++(b::b1)++post)++(bsH++bsF)))):=by
     rw[List.perm_iff_count];intro q;simp only[List.count_append,List.count_cons];omega
    refine List.Nodup.sublist ?_ (hp.nodup_iff.2 hnd);exact List.Sublist.append (.refl _) (List.Sublist.append (.refl _) (List.Sublist.append hsub (.refl _)))
   intro o c hc;simp only[N',bK] at hc
   split at hc
   ·rename_i e;simp at e;subst e;simp
   have:=hr.next o c hc;simp;omega
  simp at h
 ·rename_i i es hg;obtain⟨pre,b,b1,post,bsD,e1,hN,hobj,hdel,hsub⟩:=ao.remove hr.locs hg;have hnd:=hr.nodup;subst e1;simp at h;obtain⟨rfl,rfl⟩:=h;have hfresh:N (.out s.next)=none:=by
   cases hn:N (.out s.next) with
   | none=>rfl
   | some c=>have:=hr.next _ _ hn;omega
  let N':Name->Option Nat:=bK N (.out s.next) b
  have hext:∀m c,N m=some c->N' m=some c:=fun m c hm=>by
   simp only[N',bK];split
   ·rename_i e;rw[e,hfresh] at hm;simp at hm
   exact hm
  have hn1:N' (.loc i)=some b:=hext _ _ hN;have hn2:N' (.out s.next)=some b:=by simp[N',bK]
  have hrl:∀cs vs bs,ak w R N cs vs bs->ak w R N' (eG (.loc i) (.out s.next) cs) vs bs:=fun cs vs bs h=>kY hn1 hn2 (h.ext hext)
  refine⟨R,N',bsV,bsT,bsD,b::(b1++bsH),⟨?_,hrl _ _ _ hr.tmps,ao.sx (fun _=>wi) (zF _ _) hrl hext hdel,?_,?_,?_,hr.glob,hr.frame⟩,bj _,fun o c h=>hext _ _ h,fun i=>by simp[N',bK]⟩
  ·simp only[al];exact⟨cargs,rfl,hrl _ _ _ hargs⟩
  ·refine⟨b,b1,bsH,rfl,by simp[outs,N',bK],hobj,hr.heap.ext (fun m c hm=>?_)⟩
   cases m with
   | loc j=>simp[outs] at hm
   | out k=>exact hext _ _ hm
  ·have hp:(bsV++(bsT++((pre++post)++((b::(b1++bsH))++bsF)))).Perm (bsV++(bsT++((pre++(b::b1)++post)++(bsH++bsF)))):=by
    rw[List.perm_iff_count];intro q;simp only[List.count_append,List.count_cons];omega
   refine List.Nodup.sublist ?_ (hp.nodup_iff.2 hnd);exact List.Sublist.append (.refl _) (List.Sublist.append (.refl _) (List.Sublist.append hsub (.refl _)))
  intro o c hc;simp only[N',bK] at hc
  split at hc
  ·rename_i e;simp at e;subst e;simp
  have:=hr.next o c hc;simp;omega
 simp at h
end
end Go.Tp
namespace Go.Tp
section
variable {P:Program} {E:bG} {G:bJ} {H:Hints} {w:World} {R:Own} {N:Name->Option Nat}
theorem nK {fz:Bool}:∀{ns:List Name} {s s':aa} {args args':List ac} {R:Own} {N:Name->Option Nat},vv fz ns s args=(s',args')->∀{tmps:List Value} {cargs:List Value} {bsV bsT bsL bsH bsF:List Nat},
  dh G w R N tmps s (.tuple cargs.toArray) (.tup args) bsV bsT bsL bsH bsF->
  ∃R' N' bsV' bsT' bsL' bsH',dh G w R' N' tmps s' (.tuple cargs.toArray) (.tup args') bsV' bsT' bsL' bsH' bsF/\bA w R w R' bsF/\(∀o b,N (.out o)=some b->N' (.out o)=some b)/\(∀i,N' (.loc i)=N (.loc i))
 | [],s,s',args,args',R,N,h,tmps,cargs,bsV,bsT,bsL,bsH,bsF,hr=>by
  simp[vv] at h;obtain⟨rfl,rfl⟩:=h;exact⟨R,N,bsV,bsT,bsL,bsH,hr,bj _,fun _ _ h=>h,fun _=>rfl⟩
 | n::ns,s,s',args,args',R,N,h,tmps,cargs,bsV,bsT,bsL,bsH,bsF,hr=>by
  simp only[vv] at h
  split at h
  ·rename_i s1 args1 h1;obtain⟨R1,N1,v1,t1,l1,g1,hr1,hk1,hN1,hM1⟩:=wT h1 hr;obtain⟨R2,N2,v2,t2,l2,g2,hr2,hk2,hN2,hM2⟩:=nK h hr1;exact⟨R2,N2,v2,t2,l2,g2,hr2,⟨hk1.step.trans hk2.step,fun b hb hlt=>⟨rfl,fun off h=>(hk2.same b hb hlt).2 off ((hk1.same b hb hlt).2 off h)⟩⟩,fun o b h=>hN2 o b (hN1 o b h),fun i=>(hM2 i).trans (hM1 i)⟩
  exact nK h hr
theorem gf (G:bJ):∀(xs:List Operand) (s:aa),(cL G s xs).2.locs=s.locs/\(cL G s xs).2.heap=s.heap/\(cL G s xs).2.next=s.next
 | [],s=>⟨rfl,rfl,rfl⟩
 | x::r,s=>by
  simp only[cL];obtain⟨h1,h2,h3⟩:=gf G r (bO s (some 0) [x]);obtain⟨k1,k2,k3⟩:=qU s (some 0) [x];exact⟨h1.trans k1,h2.trans k2,h3.trans k3⟩
theorem kU {act:Act} (hg:∀g cs,G g=some cs->dX w R g 0 cs):∀(xs:List Operand) {s:aa} {bsT rest:List Nat},ak w R N s.tmps act.tmps.toList bsT->(bsT++rest).Nodup->
  ∃bsM bsT',ak w R N (cL G s xs).1 (xs.map act.eval) bsM/\ak w R N (cL G s xs).2.tmps act.tmps.toList bsT'/\(bsM++(bsT'++rest)).Nodup
 | [],s,bsT,rest,ht,hnd=>⟨[],bsT,by simpa [cL] using aX,ht,by simpa using hnd⟩
 | x::r,s,bsT,rest,ht,hnd=>by
  obtain⟨bM,bT,h1,h2,h3,_⟩:=qZ ht hg (some 0) [x] rest hnd;obtain⟨b0,e0,hb0⟩:=dB h1;simp only[aP,if_true,List.cons.injEq,and_true] at e0;subst e0;have hnd2:(bT++(bM++rest)).Nodup:=by
   have hp:(bT++(bM++rest)).Perm (bM++(bT++rest)):=List.perm_append_comm_assoc _ _ _;exact hp.nodup_iff.2 h3
  obtain⟨bM2,bT2,k1,k2,k3⟩:=kU hg r h2 hnd2;simp only[cL];refine⟨bM++bM2,bT2,aH hb0 k1,k2,?_⟩;have hp:((bM++bM2)++(bT2++rest)).Perm (bM2++(bT2++(bM++rest))):=by
   rw[List.perm_iff_count];intro q;simp only[List.count_append];omega
  exact hp.nodup_iff.2 k3
theorem BJ (hE:E.Ok P) {c:Call} {s s2:aa} {f:FuncId} {args:List ac} (h:mf E G H c s=some (f,args,s2)) {act:Act} {bsT bsL bsH bsF:List Nat}
  (hr:dh G w R N act.tmps.toList s undef .undef [] bsT bsL bsH bsF) (o:Oper) (ho:o.op=.call c) :
  ∃cargs:List Value,(execOp act.eval o).run P w=.ok (.enter f cargs.toArray) w/\∃R' N' bsA bsT' bsL' bsH',dh G w R' N' act.tmps.toList s2 (.tuple cargs.toArray) (.tup args) bsA bsT' bsL' bsH' bsF ∧
   bA w R w R' bsF/\(∀o b,N (.out o)=some b->N' (.out o)=some b)/\bS args=true/\(∀i,N' (.loc i)=N (.loc i)):=by
 obtain⟨callee,cargs0,argTypes⟩:=c
 cases callee with
 | builtin _=>simp[mf] at h
 | invoke _ _=>simp[mf] at h
 | value fo=>
  simp only[mf] at h;obtain⟨bf,hfv⟩:=pX hr.tmps hr.glob fo;generalize haf:eT G s fo=af at h hfv
  split at h
  ·rename_i g first captured;simp only[al] at hfv;obtain⟨_,vf,uf,ef,hfirst,hcap⟩:=hfv
   split at h
   ·rename_i hfn;obtain⟨fn,hf1,hf2,hf3⟩:=hE.fn g hfn
    -- the operands
    have hnd0:(bsT++(bsL++(bsH++bsF))).Nodup:=by simpa using hr.nodup
    have hops:∃(vs:List ac) (s1:aa) (bsM bsT':List Nat),(if H.moves g=true then cL G s cargs0.toList else (aP G s none 0 cargs0.toList,s))=(vs,s1) ∧
      ak w R N vs (cargs0.toList.map act.eval) bsM/\ak w R N s1.tmps act.tmps.toList bsT'/\(bsM++(bsT'++(bsL++(bsH++bsF)))).Nodup/\s1.locs=s.locs/\s1.heap=s.heap/\s1.next=s.next:=by
     split
     ·obtain⟨bsM,bsT',k1,k2,k3⟩:=kU hr.glob cargs0.toList hr.tmps hnd0;obtain⟨q1,q2,q3⟩:=gf G cargs0.toList s;exact⟨_,_,bsM,bsT',rfl,k1,k2,k3,q1,q2,q3⟩
     exact⟨_,_,[],bsT,rfl,kR hr.tmps hr.glob none 0 _ (by simp),hr.tmps,by simpa using hnd0,rfl,rfl,rfl⟩
    obtain⟨vs,s1,bsM,bsT',hpair,hvs,ht1,hnd1,q1,q2,q3⟩:=hops;rw[hpair] at h;simp only at h;generalize hprep:vv (!H.caps g) (I1 s1 (first++vs++captured)) s1 (first++vs++captured)=pr at h;obtain⟨s3,args3⟩:=pr
    ·simp only at h
     split at h
     ·rename_i hno;simp only[Option.some.injEq,Prod.mk.injEq] at h;obtain⟨rfl,rfl,rfl⟩:=h;have hall:ak w R N (first++vs++captured) (vf++cargs0.toList.map act.eval++uf) bsM:=by
       have:=cA (cA hfirst hvs) hcap
       simpa using this
      have hr1:dh G w R N act.tmps.toList s1 (.tuple (vf++cargs0.toList.map act.eval++uf).toArray) (.tup (first++vs++captured)) bsM bsT' bsL bsH bsF:=
       ⟨by simp only[al];exact⟨_,rfl,hall⟩,ht1,by rw[q1];exact hr.locs,by rw[q2];exact hr.heap,hnd1,by rw[q3];exact hr.next,hr.glob,hr.frame⟩
      obtain⟨R2,N2,v2,t2,l2,g2,hr2,hk2,hN2,hM2⟩:=nK hprep hr1;refine⟨vf++cargs0.toList.map act.eval++uf,?_,R2,N2,v2,t2,l2,g2,hr2,hk2,hN2,hno,hM2⟩;have hbody:fn.body.isNone=false:=by cases hb:fn.body <;> simp_all
      have hb2:¬fn.body=none:=by intro hb;simp[hb] at hbody
      have hn2:¬fn.name= "runtime.NumGoroutine":=by simpa using hf3
      simp[execOp,ho,resolve,ef,Deferred.ofValue,invoke,callFunc,hf1,hn2,hb2]
     simp at h
   simp at h
  simp at h
end
end Go.Tp
namespace Go.Tp
section
variable {P:Program} {E:bG} {G:bJ} {H:Hints}
theorem lC:∀(l:List ac),bu (bu l)=bu l
 | []=>rfl
 | a::r=>by cases a <;> simp[bu,lC r]
theorem jR (cs:List ac):(∃ds,kf cs=.dat (.agg ds))∨kf cs=.agg cs:=by
 unfold kf
 split
 ·exact .inl ⟨_,rfl⟩
 exact .inr rfl
theorem wD (cs:List ac):cQ (kf (bu cs))=kf (bu cs):=by
 rcases jR (bu cs) with⟨ds,h⟩|h
 ·rw[h];rfl
 rw[h];show kf (bu (bu cs))=_;rw[lC,h]
theorem lB:∀(l:List ac),fZ (fZ l)=fZ l
 | []=>rfl
 | a::r=>by
  cases a with
  | agg cs=>
   simp only[fZ]
   rcases jR (bu cs) with⟨ds,h⟩|h
   ·rw[h];simp[fZ,lB r]
   have:=wD cs
   rw[h] at this ⊢;simp only[fZ,lB r];rw[lC,h]
  | _=>simp[fZ,lB r]
theorem HS (a:ac):cQ (cQ a)=cQ a:=by
 cases a with
 | agg cs=>exact wD cs
 | tup vs=>simp[cQ,lB]
 | _=>rfl
def BL (x y:Option aT):Prop:=y=x∨∃cs cs',x=some (.cells cs)/\y=some (.cells cs')/\bu cs'=bu cs
theorem BL.refl (x:Option aT):BL x x:=.inl rfl
theorem BL.trans {x y z:Option aT} (h:BL x y) (k:BL y z):BL x z:=by
 rcases h with rfl|⟨cs,cs',rfl,rfl,h⟩
 ·exact k
 rcases k with rfl|⟨ds,ds',e1,rfl,k⟩
 ·exact .inr ⟨cs,cs',rfl,rfl,h⟩
 simp at e1;subst e1;exact .inr ⟨cs,ds',rfl,rfl,k.trans h⟩
theorem wE:∀(n:Nat) (l:List ac),bu (fm n l)=fm n (bu l)
 | 0,l=>by simp[fm,bu]
 | n+1,[]=>by simp[fm,bu]
 | n+1,a::l=>by cases a <;> simp[fm,bu,wE n l]
theorem wF:∀(n:Nat) (l:List ac),bu (hY n l)=hY n (bu l)
 | 0,l=>by simp[hY]
 | n+1,[]=>by simp[hY,bu]
 | n+1,a::l=>by cases a <;> simp[hY,bu,wF n l]
theorem ry:∀(l:List ac),(bu l).length=l.length
 | []=>rfl
 | a::l=>by cases a <;> simp[bu,ry l]
theorem yO:∀(l:List ac) (k:Nat),(bu l)[k]?=(l[k]?).map (fun a=>match a with|.own es=>.dat (.slice es)|.agg _=>.undef|.tup _=>.undef|a=>a)
 | [],_=>by simp[bu]
 | a::l,0=>by cases a <;> simp[bu]
 | a::l,k+1=>by cases a <;> simp[bu,yO l k]
theorem pC (i:TI) (off:Nat) (cs:List ac):loadCells i off (bu cs)=loadCells i off cs:=by
 unfold loadCells
 split
 ·dsimp only;rw[←wF,←wE,lC,ry]
 rw[yO]
 cases h:cs[off]? with
 | none=>rfl
 | some a=>cases a <;> rfl
theorem BG {i:TI} {off:Nat} {cs cs':List ac} (h:bu cs'=bu cs):loadCells i off cs'=loadCells i off cs:=by
 rw[←pC i off cs',h,pC]
theorem Ye {op:Op} (hq:jn op=true) (vals:List ac) {x y:Option aT} (h:BL x y):jJ E false op vals y=jJ E false op vals x:=by
 rcases h with rfl|⟨cs,cs',rfl,rfl,h⟩
 ·rfl
 cases op <;> simp only[jn,Bool.false_eq_true] at hq <;> simp only[jJ]
 ·
  rename_i t _;unfold lr
  split
  ·rfl
  ·cases E.ty t with
   | none=>rfl
   | some i=>simp only[Bool.false_and,Bool.false_eq_true,if_false,BG h]
  rfl
 ·
  simp only[eM,mapEntries]
 rename_i c
 split at hq <;> simp at hq
 ·rename_i hc;simp only[hc,lv]
  split
  ·rfl
  rename_i t _ _;unfold qt
  split
  ·rfl
  ·rfl
  ·rfl
  ·rfl
  ·cases E.desc t with
   | none=>rfl
   | some d=>cases d <;> rfl
  rfl
 rename_i hc;simp only[hc,lv]
def Bc:ac->Option (Option Bool)
 | .dat (.flat (.bool b))=>some (some b)
 | .tup []=>some none
 | _=>none
theorem uJ (a:ac):Bc (cQ a)=Bc a:=by
 cases a with
 | agg cs=>
  show Bc (kf (bu cs))=none
  rcases jR (bu cs) with⟨ds,h⟩|h <;> rw[h] <;> rfl
 | tup cs=>cases cs with
  | nil=>rfl
  | cons x r=>cases x <;> rfl
 | _=>rfl
theorem yM (all:List Oper) (s:aa) (g:Option (Nat×Bool)) :
  dF all s g=(match g with
   | none=>some true
   | some (j,want)=>(match all[j]? with
    | some o=>(match o.dst with
     | some t=>(Bc (bC s.tmps t)).map (·==some want)
     | none=>none)
    | none=>none)):=by
 unfold dF
 cases g with
 | none=>rfl
 | some jw=>
  obtain⟨j,want⟩:=jw;dsimp only
  cases all[j]? with
  | none=>rfl
  | some o=>
   dsimp only
   cases o.dst with
   | none=>rfl
   | some t=>
    dsimp only;unfold Bc
    split <;> simp_all
def sU (o:Oper) (all:List Oper) (s s':aa):Prop:=∀t∈o.looksAt all.toArray,cQ (bC s'.tmps t)=cQ (bC s.tmps t)
theorem oZ {o:Oper} {all:List Oper} {s s':aa} (h:sU o all s s'):dF all s' o.guard=dF all s o.guard:=by
 rw[yM,yM]
 cases hg:o.guard with
 | none=>rfl
 | some jw=>
  obtain⟨j,want⟩:=jw;dsimp only
  cases hj:all[j]? with
  | none=>rfl
  | some o'=>
   dsimp only
   cases hd:o'.dst with
   | none=>rfl
   | some t=>
    dsimp only
    have:t∈o.looksAt all.toArray:=by simp[Oper.looksAt,hg,hj,hd]
    have h1:=h t this;rw[←uJ (bC s'.tmps t),h1,uJ]
theorem R0 {o:Op} {x:Operand} (h:x∈opsL o):x∈o.operands:=by
 cases o
 case call c=>simp[opsL,Op.operands,Call.operands] at h ⊢;exact .inr h
 case slice t x l h' m=>
  simp[opsL,Op.operands] at h ⊢
  rcases h with h|h|h
  ·exact .inl h
  ·exact .inr (.inl h)
  exact .inr (.inr (.inl h))
 all_goals (simp[opsL,Op.operands] at h ⊢ <;> exact h)
theorem Ou {s s':aa} {x:Operand} (h:∀t,x=.tmp t->cQ (bC s'.tmps t)=cQ (bC s.tmps t)):cQ (eT G s' x)=cQ (eT G s x):=by
 cases x with
 | tmp t=>exact h t rfl
 | const v=>rfl
 | global g=>rfl
 | func f=>rfl
theorem ov {s s':aa}:∀(xs:List Operand) (k:Nat),(∀t,Operand.tmp t∈xs->cQ (bC s'.tmps t)=cQ (bC s.tmps t))->aP G s' none k xs=aP G s none k xs
 | [],_,_=>rfl
 | x::r,k,h=>by
  simp only[aP,reduceCtorEq,if_false];rw[Ou (fun t ht=>h t (by simp[ht])),ov r (k+1) (fun t ht=>h t (by simp[ht]))]
theorem iO {o:Oper} {all:List Oper} {t:Tmp} (h:Operand.tmp t∈opsL o.op):t∈o.looksAt all.toArray:=by
 have:=R0 h
 unfold Oper.looksAt;refine List.mem_append_left _ (List.mem_filterMap.2 ⟨.tmp t,by simpa using this,rfl⟩)
def yd (fh:Bool) (s s':aa):Prop:=∀n,DK fh n=true->BL (s.obj n) (s'.obj n)
theorem yd.of_eq {fh:Bool} {s s':aa} (h:s'.locs=s.locs) (hh:fh=true->s'.heap=s.heap):yd fh s s':=fun n hn=>by
 cases n with
 | loc i=>simp only[aa.obj,h];exact .refl _
 | out k=>simp only[DK] at hn;simp only[aa.obj,hh hn];exact .refl _
theorem yd.trans {fh:Bool} {s s' s'':aa} (h:yd fh s s') (k:yd fh s' s''):yd fh s s'':=fun n hn=>(h n hn).trans (k n hn)
theorem DN {fh:Bool} {s s':aa} {o:Op} {vals:List ac} (hl:yd fh s s') (hp:pA fh (looks o vals)=true):BL (bp s o vals) (bp s' o vals):=by
 unfold bp
 cases hn:looks o vals with
 | none=>exact .refl _
 | some n=>
  refine hl n ?_;rw[hn] at hp
  cases n with
  | loc i=>rfl
  | out k=>simpa [pA,DK] using hp
theorem jg {fh:Bool} {all:List Oper} {o:Oper} {s s':aa} (h:sU o all s s') (hl:yd fh s s'):fp E G fh all o s'=fp E G fh all o s:=by
 unfold fp;rw[oZ h,ov (s:=s) (s':=s') (opsL o.op) 0 (fun t ht=>h t (iO ht))]
 cases dF all s o.guard with
 | none=>rfl
 | some b=>
  dsimp only
  split
  ·split
   ·rfl
   cases dq o.op with
   | some _=>rfl
   | none=>
    dsimp only
    split
    ·rename_i hp;simp only[Bool.and_eq_true] at hp;rw[Ye hp.1 _ (DN hl hp.2)]
    rfl
  rfl
theorem Uz {op:Op} (hq:jn op=true) {vals:List ac} {n:Name} (hn:looks op vals=some n):jJ E false op vals none=none:=by
 unfold looks at hn
 split at hn <;> simp[jn] at hq hn
 ·simp[jJ,lr]
 ·simp only[jJ,eM]
  split
  ·rename_i heq;simp only[List.cons.injEq] at heq;obtain⟨rfl,_⟩:=heq
   split
   ·simp[mapEntries]
   rfl
  rfl
 have e:∀t,qt E t [.map n] none=none:=by
  intro t;simp only[qt,UI,nz]
  cases E.desc t with
  | none=>rfl
  | some d=>cases d <;> rfl
 subst hn;simp only[jJ,lv]
 split
 ·rfl
 exact e _
theorem H7 {fh:Bool} {all:List Oper} {o:Oper} {s s':aa} {a:ac} (h:sU o all s s') (hl:∀n ob,s.obj n=some ob->s'.obj n=some ob) (hy:fp E G fh all o s=some a):fp E G fh all o s'=some a:=by
 unfold fp at hy ⊢;rw[oZ h,ov (s:=s) (s':=s') (opsL o.op) 0 (fun t ht=>h t (iO ht))]
 cases hw:dF all s o.guard with
 | none=>rw[hw] at hy;exact hy
 | some b=>
  rw[hw] at hy;dsimp only at hy ⊢
  split
  ·rename_i hb;rw[if_pos hb] at hy
   split
   ·rename_i ha;rw[if_pos ha] at hy;exact hy
   rename_i ha;rw[if_neg ha] at hy
   cases hc:dq o.op with
   | some _=>rw[hc] at hy;exact hy
   | none=>
    rw[hc] at hy;dsimp only at hy ⊢
    split
    ·rename_i hp;rw[if_pos hp] at hy;simp only[Bool.and_eq_true] at hp;have e:bp s' o.op (aP G s none 0 (opsL o.op))=bp s o.op (aP G s none 0 (opsL o.op)):=by
      unfold bp at hy ⊢
      cases hlk:looks o.op (aP G s none 0 (opsL o.op)) with
      | none=>rfl
      | some n=>
       rw[hlk] at hy;dsimp only at hy ⊢
       cases hob:s.obj n with
       | some ob=>exact hl n ob hob
       | none=>rw[hob,Uz hp.1 hlk] at hy;simp at hy
     rw[e];exact hy
    rename_i hp;rw[if_neg hp] at hy;exact hy
  rename_i hb;rw[if_neg hb] at hy;exact hy
theorem cd {l:List ac} {d t:Nat} {v:ac} (h:d≠t):bC (l.set d v) t=bC l t:=by
 unfold bC;rw[List.getElem?_set_ne h]
theorem cW {s:aa} {dst:Option Tmp} {t:Nat} {v:ac} (h:dst≠some t):bC (s.put dst v).tmps t=bC s.tmps t:=by
 cases dst with
 | none=>rfl
 | some d=>exact cd (fun e=>h (by rw[e]))
theorem put_comm {s:aa} {d1 d2:Option Tmp} {v1 v2:ac} (h:∀d,d1=some d->d2≠some d):(s.put d1 v1).put d2 v2=(s.put d2 v2).put d1 v1:=by
 cases d1 with
 | none=>rfl
 | some a=>
  cases d2 with
  | none=>rfl
  | some b=>
   have hne:a≠b:=fun e=>h a rfl (by rw[e])
   simp only[aa.put];rw[List.set_comm _ _ hne]
theorem Qs {s:aa} {dst:Option Tmp} {v:ac} {h:List (Name×aT)} {n:Nat}:({s.put dst v with heap:=h,next:=n }:aa)=({s with heap:=h,next:=n }:aa).put dst v:=by
 cases dst <;> rfl
theorem Fh {o:Oper} {all:List Oper} {s:aa} {dst:Option Tmp} {v:ac} (h:∀d,dst=some d->d∉o.looksAt all.toArray):sU o all s (s.put dst v):=by
 intro t ht;rw[cW];intro e;exact h t e ht
theorem sU.trans {o:Oper} {all:List Oper} {s s' s'':aa} (h:sU o all s s') (k:sU o all s' s''):sU o all s s'':=fun t ht=>(k t ht).trans (h t ht)
theorem rc {s:aa} {dst:Option Tmp} {v:ac} {x:Operand} (h:∀d,dst=some d->x≠.tmp d):eT G (s.put dst v) x=eT G s x:=by
 cases x with
 | tmp t=>exact cW (fun e=>h t e rfl)
 | _=>rfl
theorem Hc {s:aa} {dst:Option Tmp} {v:ac} {x:Operand} (h:∀d,dst=some d->x≠.tmp d):bO (s.put dst v) (some 0) [x]=(bO s (some 0) [x]).put dst v:=by
 cases x with
 | tmp t=>
  cases dst with
  | none=>rfl
  | some d=>
   have hne:d≠t:=fun e=>h d rfl (by rw[e])
   simp only[bO,List.getElem?_cons_zero,aa.put];rw[cd hne,List.set_comm _ _ hne]
 | _=>simp[bO]
theorem te {dst:Option Tmp} {v:ac}:∀(xs:List Operand) (s:aa),(∀d,dst=some d->Operand.tmp d∉xs)->cL G (s.put dst v) xs=((cL G s xs).1,(cL G s xs).2.put dst v)
 | [],s,_=>rfl
 | x::r,s,h=>by
  have hx:∀d,dst=some d->x≠.tmp d:=fun d hd e=>h d hd (by simp[e])
  simp only[cL];rw[Hc hx,te r _ (fun d hd hm=>h d hd (by simp[hm])),rc hx]
theorem uC {dst:Option Tmp} {v:ac}:∀(xs:List Operand) (k:Nat) (s:aa),(∀d,dst=some d->Operand.tmp d∉xs)->aP G (s.put dst v) none k xs=aP G s none k xs
 | [],_,_,_=>rfl
 | x::r,k,s,h=>by
  simp only[aP,reduceCtorEq,if_false];rw[rc (fun d hd e=>h d hd (by simp[e])),uC r (k+1) s (fun d hd hm=>h d hd (by simp[hm]))]
theorem EL {c:Call} {s:aa} {dst:Option Tmp} {v:ac} (h:∀d,dst=some d->Operand.tmp d∉c.operands) :
  dM E G H c (s.put dst v)=(dM E G H c s).map fun x=>(x.1,x.2.1,x.2.2.put dst v):=by
 obtain⟨callee,args,argTypes⟩:=c
 cases callee with
 | builtin _=>rfl
 | invoke _ _=>rfl
 | value f=>
  have hf:∀d,dst=some d->f≠.tmp d:=fun d hd e=>h d hd (by simp[Call.operands,e])
  have ha:∀d,dst=some d->Operand.tmp d∉args.toList:=fun d hd hm=>h d hd (by simp at hm;simp[Call.operands,hm])
  simp only[dM];rw[rc hf]
  split
  ·rename_i g first captured
   split
   ·split
    ·rw[te _ _ ha];dsimp only
     split <;> rfl
    rw[uC _ _ _ ha];dsimp only
    split <;> rfl
   rfl
  rfl
theorem kB {s:aa} {x:Operand} (t:Nat):cQ (bC (bO s (some 0) [x]).tmps t)=cQ (bC s.tmps t):=by
 cases x with
 | tmp u=>
  simp only[bO,List.getElem?_cons_zero]
  by_cases hu:u=t
  ·subst hu
   by_cases hl:u < s.tmps.length
   ·have:bC (s.tmps.set u (cQ (bC s.tmps u))) u=cQ (bC s.tmps u):=by
     conv=>lhs;unfold bC
     simp only[List.getElem?_set_self hl];rfl
    rw[this,HS]
   rw[List.set_eq_of_length_le (Nat.le_of_not_lt hl)]
  rw[cd hu]
 | _=>simp[bO]
theorem rz:∀(xs:List Operand) (s:aa) (t:Nat),cQ (bC (cL G s xs).2.tmps t)=cQ (bC s.tmps t)
 | [],_,_=>rfl
 | x::r,s,t=>by
  simp only[cL];exact (rz r _ t).trans (kB t)
theorem mG {c:Call} {s s2:aa} {f:FuncId} {args:List ac} (h:dM E G H c s=some (f,args,s2)):(∀t,cQ (bC s2.tmps t)=cQ (bC s.tmps t))/\s2.locs=s.locs:=by
 unfold dM at h
 split at h
 ·split at h
  ·split at h
   ·dsimp only at h
    split at h
    ·split at h
     ·simp at h;rw[←h.2.2];exact⟨rz _ _,(gf G _ s).1⟩
     simp at h
    split at h
    ·simp at h;rw[←h.2.2];exact⟨fun _=>rfl,rfl⟩
    simp at h
   simp at h
  simp at h
 simp at h
theorem mH {c:Call} {s s2:aa} {f:FuncId} {args:List ac} (h:dM E G H c s=some (f,args,s2)):s2.heap=s.heap:=by
 unfold dM at h
 split at h
 ·split at h
  ·split at h
   ·dsimp only at h
    split at h
    ·split at h
     ·simp at h;rw[←h.2.2];exact (gf G _ s).2.1
     simp at h
    split at h
    ·simp at h;rw[←h.2.2]
    simp at h
   simp at h
  simp at h
 simp at h
theorem EK {c:Call} {s s2:aa} {f:FuncId} {args:List ac} (h:dM E G H c s=some (f,args,s2)) (o:Oper) (all:List Oper):sU o all s s2/\s2.locs=s.locs:=
 ⟨fun t _=>(mG h).1 t,(mG h).2⟩
theorem oE {o:Op} {t:Tmp} (h:fK o=some t):∃c r,o=.call c/\c.callee=.builtin .append/\c.args.toList=.tmp t::r:=by
 unfold fK at h
 split at h
 ·rename_i c
  split at h
  ·split at h
   ·simp at h;subst h;exact⟨c,_,rfl,by assumption,by assumption⟩
   simp at h
  simp at h
 simp at h
theorem Cu {args:Array Operand} {tys:Array TypeId} {vals:List ac} {es:List aq} {x:ac} (h:Kh vals=[.own es,x]):looks (.call ⟨.builtin .append,args,tys⟩) vals=none:=by
 match vals,h with
 | [a,y],h=>cases a <;> first|rfl|(simp[Kh,Dt] at h)
 | [],h=>simp[Kh] at h
 | [_],h=>simp[Kh] at h
 | _::_::_::_,h=>simp[Kh] at h
theorem ql {o:Op} {t:Tmp} (h:fK o=some t) {vals:List ac} {ob:Option aT} {out:Out} (ho:jJ E false o vals ob=some out):out.eff=.keep/\looks o vals=none:=by
 obtain⟨c,r,rfl,hc,_⟩:=oE h;obtain⟨callee,args,tys⟩:=c;simp only at hc;subst hc;simp only[jJ,lv] at ho
 split at ho
 ·simp at ho
 split at ho
 ·split at ho
  ·unfold cj at ho
   split at ho
   ·rename_i heq
    split at ho
    ·simp only[Bool.false_and,Bool.false_eq_true,if_false] at ho
     split at ho
     ·split at ho
      ·simp at ho;exact⟨by rw[←ho],Cu heq⟩
      simp at ho
     simp at ho
    simp at ho
   ·split at ho
    ·simp at ho
    simp at ho
   simp at ho
  unfold dD at ho
  split at ho
  ·rename_i heq
   split at ho
   ·split at ho
    ·split at ho
     ·split at ho
      ·simp at ho;exact⟨by rw[←ho],Cu heq⟩
      simp at ho
     simp at ho
    simp at ho
   simp at ho
  simp at ho
 simp at ho
theorem tO {o:Op} {t:Tmp} (h:fK o=some t):kN false o=some 0/\∃r,opsL o=.tmp t::r:=by
 obtain⟨c,r,rfl,hc,ha⟩:=oE h;obtain⟨callee,args,tys⟩:=c;simp only at hc ha;subst hc;exact⟨rfl,r,by simp[opsL,ha]⟩
theorem my {dst:Option Tmp} {v:ac} (mv:Option Nat):∀(xs:List Operand) (k:Nat) (s:aa),(∀d,dst=some d->Operand.tmp d∉xs)->aP G (s.put dst v) mv k xs=aP G s mv k xs
 | [],_,_,_=>rfl
 | x::r,k,s,h=>by
  simp only[aP];rw[rc (fun d hd e=>h d hd (by simp[e])),my mv r (k+1) s (fun d hd hm=>h d hd (by simp[hm]))]
theorem uL {o:Oper} {t:Tmp} (h:fK o.op=some t) {s s':aa} (hs:cY E G false false o s=some s'):∃v,s'=({s with tmps:=s.tmps.set t (cQ (bC s.tmps t))}:aa).put o.dst v ∧
  ∀(dst:Option Tmp) (u:ac),(∀d,dst=some d->Operand.tmp d∉opsL o.op)->(∀d,dst=some d->o.dst≠some d)->cY E G false false o (s.put dst u)=some (s'.put dst u):=by
 obtain⟨hm,r,hops⟩:=tO h;unfold cY at hs
 split at hs
 ·simp at hs
 rename_i out hout;obtain⟨hk,hl⟩:=ql h hout;unfold dL at hs;rw[hk] at hs;simp only[Option.some.injEq] at hs;have hd:bO s (kN false o.op) (opsL o.op)={s with tmps:=s.tmps.set t (cQ (bC s.tmps t))}:=by
  rw[hm,hops];simp[bO]
 rw[hd] at hs;refine⟨out.val,hs.symm,?_⟩;intro dst u h1 h2;have hne:∀d,dst=some d->d≠t:=fun d hd' e=>h1 d hd' (by rw[hops,e];simp)
 have hd2:bO (s.put dst u) (kN false o.op) (opsL o.op)=({s with tmps:=s.tmps.set t (cQ (bC s.tmps t))}:aa).put dst u:=by
  rw[hm,hops];simp only[bO,List.getElem?_cons_zero]
  cases dst with
  | none=>rfl
  | some d=>
   simp only[aa.put];rw[cd (hne d rfl),List.set_comm _ _ (hne d rfl)]
 have hlk:∀s':aa,bp s' o.op (aP G s (kN false o.op) 0 (opsL o.op))=none:=fun s'=>by unfold bp;rw[hl]
 unfold cY;rw[my _ _ _ _ h1,hlk,←hlk s,hout];simp only[dL,hk,hd2,Option.some.injEq];rw[←hs];exact put_comm h2
theorem FL {s:aa} {dst:Option Tmp} {v:ac} {n:Name} {o:aT}:(s.put dst v).km n o=(s.km n o).put dst v:=by
 cases n <;> cases dst <;> rfl
theorem Cc {s:aa} {n:Name} {o:aT}:(s.km n o).tmps=s.tmps:=by cases n <;> rfl
theorem Cd {s:aa} {n:Name} {o:aT}:(s.km n o).next=s.next:=by cases n <;> rfl
theorem lN {s:aa} {dst:Option Tmp} {v:ac} {n:Name}:(s.put dst v).obj n=s.obj n:=by
 cases n <;> cases dst <;> rfl
theorem gh {fh:Bool} {all:List Oper} {i:Nat} {r:List Nat} {s s':aa} (h:dA fh all (i::r) s=some s'):∃o T u t n off cs es es2,all[i]?=some o/\o.op=.load T (.tmp u)/\o.dst=some t/\o.guard=none/\bC s.tmps u=.ptr n off ∧
  DK fh n=true/\s.obj n=some (.cells cs)/\cs[off]?=some (.own es)/\bC s.tmps t=.dat (.slice es2) ∧
  dA fh all r (({s with tmps:=s.tmps.set t (.own es)}:aa).km n (.cells (dx off [.dat (.slice es)] cs)))=some s':=by
 simp only[dA] at h
 split at h
 ·rename_i o ho
  split at h
  ·rename_i T u t hop hd hg
   split at h
   ·rename_i n off hu
    split at h
    ·rename_i hok
     split at h
     ·rename_i cs hob
      split at h
      ·rename_i es hes
       split at h
       ·rename_i es2 ht;exact⟨o,T,u,t,n,off,cs,es,es2,ho,hop,hd,hg,hu,hok,hob,hes,ht,h⟩
       simp at h
      simp at h
     simp at h
    simp at h
   simp at h
  simp at h
 simp at h
theorem zj {fh:Bool} {all:List Oper} {dst:Option Tmp} {v:ac}:∀(tk:List Nat) (s s':aa),(∀i∈tk,∀o,all[i]?=some o->o.dst≠none->dst≠o.dst)->(∀i∈tk,∀o T u,all[i]?=some o->o.op=.load T (.tmp u)->dst≠some u)->
  dA fh all tk s=some s'->dA fh all tk (s.put dst v)=some (s'.put dst v)
 | [],s,s',_,_,h=>by simp[dA] at h ⊢;rw[h]
 | i::r,s,s',h1,h2,h=>by
  obtain⟨o,T,u,t,n,off,cs,es,es2,ho,hop,hd,hg,hu,hok,hob,hes,ht,hrest⟩:=gh h;have hdt:dst≠some t:=by have:=h1 i (by simp) o ho (by simp[hd]);rwa [hd] at this
  have hdu:=h2 i (by simp) o T u ho hop;have ih:=zj (v:=v) r _ _ (fun i hi=>h1 i (by simp[hi])) (fun i hi=>h2 i (by simp[hi])) hrest;simp only[dA,ho,hop,hd,hg];rw[cW hdu,hu];dsimp only;rw[if_pos hok,lN,hob];dsimp only;rw[hes];dsimp only;rw[cW hdt,ht];dsimp only;rw[←ih];congr 1;rw[←FL];congr 1
  cases dst with
  | none=>rfl
  | some d=>
   have hne:d≠t:=fun e=>hdt (by rw[e])
   simp only[aa.put];rw[List.set_comm _ _ hne]
theorem Ce:∀(off:Nat) (cs:List ac) (es:List aq),cs[off]?=some (.own es)->bu (dx off [.dat (.slice es)] cs)=bu cs
 | _,[],_,h=>by simp at h
 | 0,a::cs,es,h=>by simp at h;subst h;cases cs <;> simp[dx,bu]
 | off+1,a::cs,es,h=>by
  simp at h
  have:=Ce off cs es h
  cases a <;> simp[dx,bu,this]
theorem mF:∀{os:List (Name×aT)} {n:Name} {cs cs':List ac},ev n os=some (.cells cs)->bu cs'=bu cs->∀m,BL (ev m os) (ev m (jb n (.cells cs') os))
 | [],_,_,_,h,_,_=>by simp[ev] at h
 |(k,x)::os,n,cs,cs',h,hu,m=>by
  simp only[ev] at h;simp only[jb]
  split
  ·rename_i hk;rw[if_pos hk] at h;simp at h;subst h;simp only[ev]
   split
   ·exact .inr ⟨cs,cs',rfl,rfl,hu⟩
   exact .refl _
  rename_i hk;rw[if_neg hk] at h;simp only[ev]
  split
  ·exact .refl _
  exact mF h hu m
theorem Qt {fh:Bool} {s:aa} {tmps:List ac} {n:Name} {cs cs':List ac} (h:s.obj n=some (.cells cs)) (hu:bu cs'=bu cs):yd fh s (({s with tmps:=tmps }:aa).km n (.cells cs')):=by
 intro m _
 cases n with
 | loc i=>
  cases m with
  | loc j=>simp only[aa.obj,aa.km] at h ⊢;exact mF h hu _
  | out j=>simp only[aa.obj,aa.km];exact .refl _
 | out i=>
  cases m with
  | loc j=>simp only[aa.obj,aa.km];exact .refl _
  | out j=>simp only[aa.obj,aa.km] at h ⊢;exact mF h hu _
theorem zi {fh fh':Bool} {all:List Oper}:∀(tk:List Nat) (s s':aa),dA fh all tk s=some s'->yd fh' s s'/\s'.next=s.next/\∀t,(∀i∈tk,∀o,all[i]?=some o->o.dst≠some t)->bC s'.tmps t=bC s.tmps t
 | [],s,s',h=>by simp[dA] at h;subst h;exact⟨.of_eq rfl (fun _=>rfl),rfl,fun _ _=>rfl⟩
 | i::r,s,s',h=>by
  obtain⟨o,T,u,t,n,off,cs,es,es2,ho,hop,hd,hg,hu,hok,hob,hes,ht,hrest⟩:=gh h;obtain⟨h1,h3,h4⟩:=zi r _ _ hrest;refine⟨yd.trans (Qt hob (Ce off cs es hes)) h1,by rw[h3,Cd],fun t' ht'=>?_⟩;rw[h4 t' (fun j hj=>ht' j (by simp[hj])),Cc];have hne:t≠t':=fun e=>ht' i (by simp) o ho (by rw[hd,e])
  exact cd hne
theorem kG {all:List Oper} {t:Tmp}:∀{tk:List Nat} {i:Nat},i∈gd all t tk->i∈tk/\∃o,all[i]?=some o/\o.dst=some t
 | [],_,h=>by simp[gd] at h
 | j::r,i,h=>by
  simp only[gd] at h
  split at h
  ·rename_i o ho
   split at h
   ·rename_i hd
    rcases List.mem_cons.1 h with rfl|h
    ·exact⟨by simp,o,ho,hd⟩
    obtain⟨h1,h2⟩:=kG h;exact⟨by simp[h1],h2⟩
   obtain⟨h1,h2⟩:=kG h;exact⟨by simp[h1],h2⟩
  obtain⟨h1,h2⟩:=kG h;exact⟨by simp[h1],h2⟩
theorem mA {ops:Array Oper} {h:ay} (hc:dT ops h=true) {i:Nat} (hi:i∈h.nw.toList++h.tk) {o:Oper} (ho:ops[i]?=some o):∀{j:Nat} {l:Bool} {q:Oper},(j,l)∈h.pre->j≠i->ops[j]?=some q->
  (∃d,o.dst=some d/\q.dst≠some d/\(l=false->d∉q.looksAt ops))/\∀T u,o.op=.load T (.tmp u)->q.dst≠some u∨∃e∈o.after,Region.binds .any e=true/\e.on=j:=by
 intro j l q hj hne hq;unfold dT at hc;have h1:=List.all_eq_true.1 hc i hi;rw[ho] at h1;simp only[Bool.and_eq_true] at h1;have h2:=List.all_eq_true.1 h1.2.2 (j,l) hj;simp only[Bool.or_eq_true,beq_iff_eq,hne,false_or,hq,Bool.and_eq_true] at h2;obtain⟨h3,h4⟩:=h2
 constructor
 ·cases hd:o.dst with
  | none=>rw[hd] at h3;simp at h3
  | some d=>
   rw[hd] at h3;simp only[Bool.and_eq_true,Bool.or_eq_true] at h3;refine⟨d,rfl,by simpa using h3.1,fun hl=>?_⟩
   rcases h3.2 with h5|h5
   ·rw[hl] at h5;simp at h5
   simpa using h5
 intro T u hop;rw[hop] at h4;simp only[Bool.or_eq_true] at h4
 rcases h4 with h4|h4
 ·exact .inl (by simpa using h4)
 obtain⟨e,he1,he2⟩:=Array.any_eq_true'.1 h4;simp only[Bool.and_eq_true,beq_iff_eq] at he2;exact .inr ⟨e,he1,he2.1,he2.2⟩
theorem vJ {o:Op} {c:Call} (h:dq o=some c):o=.call c:=by
 unfold dq at h
 split at h
 ·split at h
  ·simp at h
  simp at h;rw[h]
 simp at h
end
end Go.Tp
namespace Go.Tp
theorem wh:∀{l:List aq},rL l↔∀d∈l,yb d
 | []=>by simp[rL]
 | d::r=>by simp[rL,wh (l:=r)]
theorem Kd {e:aq} (h:∀(j:Nat) (c:aq),e.cells[j]?=some c->yb c):yb e:=by
 cases e with
 | flat v=>exact h 0 (.flat v) rfl
 | slice es=>exact h 0 (.slice es) rfl
 | agg cs=>
  simp only[yb];rw[wh];intro d hd;obtain⟨j,hj⟩:=List.getElem?_of_mem hd;exact h j d hj
theorem dN.oY {w:World} {R:Own} {v:Value} {d:aq} (h:dN w R v d):yb d:=by
 induction h with
 | flat h=>exact h
 | nil a cap=>exact⟨Nat.zero_le _,trivial⟩
 | slice b off cap s es vs hs hlen hcap hb hcell hrep ih=>
  simp only[yb];refine⟨hb,wh.2 fun e he=>?_⟩;obtain⟨i,hi⟩:=List.getElem?_of_mem he;exact Kd fun j c hj=>ih i j e c hi hj
theorem dc.oY {w:World} {R:Own}:∀{vs:List Value} {cs:List aq},dc w R vs cs->rL cs
 | [],[],_=>trivial
 | _::_,_::_,h=>⟨h.1.oY,dc.oY h.2⟩
 | [],_::_,h=>h.elim
 | _::_,[],h=>h.elim
theorem sV.oY {w:World} {R:Own} {v:Value}:∀{d:aq},sV w R v d->yb d
 | .agg _,⟨_,_,h⟩=>h.oY
 | .flat _,h=>dN.oY h
 | .slice _,h=>dN.oY h
theorem dX.oY {w:World} {R:Own} {b:Nat}:∀{off:Nat} {cs:List aq},dX w R b off cs->rL cs
 | _,[],_=>trivial
 | _,_::_,⟨⟨_,_,_,hr⟩,ht⟩=>⟨hr.oY,dX.oY ht⟩
section
variable {w:World} {R:Own} {N:Name->Option Nat}
mutual
theorem al.oY:∀{a:ac} {v:Value} {bs:List Nat},al w R N a v bs->nq a
 | .dat _,_,_,h=>by simp only[al] at h;simp only[nq];exact h.2.oY
 | .own _,_,_,h=>by
  simp only[al] at h;simp only[nq]
  cases h with
  | nil=>exact⟨Nat.zero_le _,trivial⟩
  | row b cap s es vs t hblk hs0 hs hcap he hin h hsp=>have:=h.oY;simpa only[yb] using this
 | .ref _,_,_,h=>by
  simp only[al] at h;simp only[nq];obtain⟨_,b,off,_,h2⟩:=h;exact h2.oY
 | .ptr _ _,_,_,_=>by simp[nq]
 | .map _,_,_,_=>by simp[nq]
 | .win _ _ _ _,_,_,_=>by simp[nq]
 | .fn _ first captured,_,_,h=>by
  simp only[al] at h;obtain⟨_,vs,us,_,h2,h3⟩:=h;simp only[nq];exact⟨ak.oY (as:=first) h2,ak.oY (as:=captured) h3⟩
 | .agg cs,_,_,h=>by
  simp only[al] at h;obtain⟨vs,_,h2⟩:=h;simp only[nq];exact ak.oY (as:=cs) h2
 | .tup cs,_,_,h=>by
  simp only[al] at h;obtain⟨vs,_,h2⟩:=h;simp only[nq];exact ak.oY (as:=cs) h2
 | .undef,_,_,_=>by simp[nq]
theorem ak.oY:∀{as:List ac} {vs:List Value} {bs:List Nat},ak w R N as vs bs->rq as
 | [],_,_,_=>by simp[rq]
 | a::as,_,_,h=>by
  simp only[ak] at h;obtain⟨v,vs',b1,b2,_,_,h1,h2⟩:=h;simp only[rq];exact⟨al.oY (a:=a) h1,ak.oY (as:=as) h2⟩
end
theorem df.oY:∀{es:List (Value×aq)} {ents:List MapEntry},df w R es ents->adg es
 | [],_,_=>trivial
 |(_,_)::_,_,⟨_,_,_,_,h3,h4⟩=>⟨h3.oY,df.oY h4⟩
theorem CY:∀{l m:List ac},rq (l++m)->rq l
 | [],_,_=>by simp[rq]
 | a::l,m,h=>by simp only[List.cons_append,rq] at h ⊢;exact⟨h.1,CY h.2⟩
theorem ao.oY:∀{os:List (Name×aT)} {bs:List Nat},ao w R N os bs->ya os
 | [],_,_=>trivial
 |(_,.cells _)::_,_,⟨_,_,_,_,_,⟨_,_,_,_,h1,_⟩,h2⟩=>⟨CY h1.oY,ao.oY h2⟩
 |(_,.map _)::_,_,⟨_,_,_,_,_,⟨_,_,_,_,_,h1⟩,h2⟩=>⟨h1.1.oY,ao.oY h2⟩
end
section
variable {P:Program} {E:bG} {G:bJ} {H:Hints} {D:List Deferred}
theorem bA.trans {w w1 w2:World} {R R1 R2:Own} {bs:List Nat} (h:bA w R w1 R1 bs) (k:bA w1 R1 w2 R2 bs):bA w R w2 R2 bs:=
 ⟨h.step.trans k.step,fun b hb hlt=>by
  obtain⟨e1,f1⟩:=h.same b hb hlt;obtain⟨e2,f2⟩:=k.same b hb (Nat.lt_of_lt_of_le hlt h.step.size);exact⟨e2.trans e1,fun off hr=>f2 off (f1 off hr)⟩⟩
theorem UG.trans {K:aa->Prop} {w w1:World} {R R1:Own} {N N1:Name->Option Nat} {bsF:List Nat} (hk:bA w R w1 R1 bsF) (hN:∀o b,N (.out o)=some b->N1 (.out o)=some b) {a:Act} {w2:World}
  (h:UG G D K w1 R1 N1 bsF a w2):UG G D K w R N bsF a w2:=by
 obtain⟨s',R',N',bsT,bsL,bsH,hq,hr,hd,hk',hN'⟩:=h;exact⟨s',R',N',bsT,bsL,bsH,hq,hr,hd,hk.trans hk',fun o b h=>hN' o b (hN o b h)⟩
theorem kg {ops:Array Oper} {s:aa} {act:Act} {w:World} {R:Own} {N:Name->Option Nat} {bsT:List Nat} (ht:ak w R N s.tmps act.tmps.toList bsT) {o:Oper} {b:Bool} (h:dF ops.toList s o.guard=some b) :
  Region.wanted o (yielded ops act.tmps)=b:=by
 unfold dF at h;unfold Region.wanted
 cases hg:o.guard with
 | none=>rw[hg] at h;simp at h;simp[←h]
 | some jw=>
  obtain⟨j,want⟩:=jw;rw[hg] at h;simp only at h ⊢
  split at h
  ·rename_i o' ho'
   split at h
   ·rename_i t ht'
    split at h
    ·rename_i b' hb';simp at h;have hget:s.tmps[t]?=some (.dat (.flat (.bool b'))):=by
      unfold bC at hb'
      cases hs:s.tmps[t]? with
      | none=>rw[hs] at hb';simp at hb'
      | some v=>rw[hs] at hb';simp at hb';rw[hb']
     obtain⟨v,bs',e1,e2,_⟩:=eD ht hget;obtain⟨_,rfl,_⟩:=aL e2;have ho2:ops[j]?=some o':=by simpa using ho'
     have hy:yielded ops act.tmps j=some b':=by
      unfold yielded;simp at e1;simp[ho2,ht',e1]
     rw[hy];rw[←h]
     cases b' <;> cases want <;> rfl
    ·rename_i hb';simp at h;have hget:s.tmps[t]?=some (.tup []):=by
      unfold bC at hb'
      cases hs:s.tmps[t]? with
      | none=>rw[hs] at hb';simp at hb'
      | some v=>rw[hs] at hb';simp at hb';rw[hb']
     obtain⟨v,bs',e1,e2,_⟩:=eD ht hget;simp only[al,ak] at e2;obtain⟨vs,rfl,rfl,_⟩:=e2;have ho2:ops[j]?=some o':=by simpa using ho'
     have hy:yielded ops act.tmps j=none:=by
      unfold yielded;simp at e1;simp[ho2,ht',e1]
     rw[hy,h];rfl
    simp at h
   simp at h
  simp at h
theorem vt {o:Oper} {act:Act} {w w':World} {cv:Value} {K:Act->World->Prop} {Qx:Exit->Act->World->Prop} (hran:Zo P w act.eval o cv w') (h:K (act.put o.dst cv) w'):o.wp P act w K Qx:=by
 unfold Oper.wp
 rcases hran with hran|⟨hran,rfl⟩
 ·rw[hran,Oper.upon_value];exact h
 rw[hran,Oper.upon_skip];exact h
theorem A3 {f:FuncId} {args:List ac} {s2:aa} {o:Oper} {cargs:List Value} {act:Act} {w:World} {R:Own} {N:Name->Option Nat} {bsA bsT bsL bsH bsF:List Nat} {K:aa->Prop} {Qx:Exit->Act->World->Prop} {Kx:Act->World->Prop}
  (hrun:(execOp act.eval o).run P w=.ok (.enter f cargs.toArray) w) (hr2:dh G w R N act.tmps.toList s2 (.tuple cargs.toArray) (.tup args) bsA bsT bsL bsH bsF) (hno:bS args=true) (hd:act.defers=D)
  (h:aC P G f args s2.heap s2.next (fun v heap n=>nq v->ya heap->K (({s2 with heap:=heap,next:=n }:aa).put o.dst v)))
  (hK:∀(v:ac) (cv:Value) (heap:List (Name×aT)) (n:Nat) (w':World) (R':Own) (N':Name->Option Nat) (bsT' bsH':List Nat),K (({s2 with heap:=heap,next:=n }:aa).put o.dst v)->
   dh G w' R' N' (act.put o.dst cv).tmps.toList (({s2 with heap:=heap,next:=n }:aa).put o.dst v) undef .undef [] bsT' bsL bsH' bsF->bA w R w' R' (bsL++bsF)->(∀m c,N m=some c->N' m=some c)->(∀i,N' (.loc i)=N (.loc i))->Kx (act.put o.dst cv) w') :
  o.wp P act w Kx Qx:=by
 unfold Oper.wp;rw[hrun,Oper.upon_enter];have hv:=hr2.val;simp only[al] at hv;obtain⟨cs0,ec,hargs⟩:=hv;simp at ec;subst ec;have hndA:(bsA++(bsH++(bsT++(bsL++bsF)))).Nodup:=by
  have hp:(bsA++(bsH++(bsT++(bsL++bsF)))).Perm (bsA++(bsT++(bsL++(bsH++bsF)))):=by
   rw[List.perm_iff_count];intro q;simp only[List.count_append];omega
  exact hp.nodup_iff.2 hr2.nodup
 refine (h w R N cargs bsA bsH (bsT++(bsL++bsF)) (hargs.yh hno (fun _=>rfl)) hr2.heap hndA hr2.next hr2.glob ?_).mono ?_
 ·intro b hb;simp at hb
  rcases hb with h|h|h
  ·exact hr2.tmps.lt b h
  ·exact hr2.locs.lt b h
  exact hr2.frame b h
 rintro e w' ⟨v,cv,heap',next',R'',N'',bsV,bsH'',rfl,hQ,hv2,hh2,hnd2,hnx2,hk3,hN3⟩
 -- the caller's names beside the callee's
 let N3:Name->Option Nat:=fun m=>match m with|.loc i=>N (.loc i)|.out o=>N'' (.out o)
 have hext:∀m c,N m=some c->N3 m=some c:=fun m c hm=>by cases m with|loc i=>exact hm|out o=>exact hN3 o c hm
 have hkT:bA w R w' R'' bsT:=hk3.sub (by intro b hb;simp[hb]);have hkL:bA w R w' R'' bsL:=hk3.sub (by intro b hb;simp[hb]);have hkF:bA w R w' R'' (bsL++bsF):=hk3.sub (by intro b hb;simp at hb;rcases hb with h|h <;> simp[h]);have ht3:ak w' R'' N3 s2.tmps act.tmps.toList bsT:=(hr2.tmps.keep hkT).ext hext;have hl3:ao w' R'' N3 s2.locs bsL:=(hr2.locs.keep hkL).ext hext;have hh3:ao w' R'' (outs N3) heap' bsH'':=hh2.tI (N:=N'') (N':=N3) (fun _=>rfl);have hv3:al w' R'' N3 v cv bsV:=hv2.yh hv2.cy (fun _=>rfl);have hnd3:(bsV++(bsT++(bsL++(bsH''++bsF)))).Nodup:=by
  have hp:(bsV++(bsT++(bsL++(bsH''++bsF)))).Perm (bsV++(bsH''++(bsT++(bsL++bsF)))):=by
   rw[List.perm_iff_count];intro q;simp only[List.count_append];omega
  exact hp.nodup_iff.2 hnd2
 let s3:aa:={s2 with heap:=heap',next:=next' }
 obtain⟨bsT2,hp1,hp2⟩:=fP (s:=s3) o.dst ht3 hv3 hnd3;obtain⟨q1,q2,q3⟩:=db s3 o.dst v;obtain⟨pa1,pa2⟩:=gG act o.dst cv;have hr4:dh G w' R'' N3 (act.put o.dst cv).tmps.toList (s3.put o.dst v) undef .undef [] bsT2 bsL bsH'' bsF:=
  ⟨aW _,by rw[pa1];exact hp1,by rw[q1];exact hl3,by rw[q2];exact hh3,by simpa using hp2,by rw[q3];exact hnx2,
   fun g cs hg=>(hr2.glob g cs hg).step hk3.step,fun b hb=>Nat.lt_of_lt_of_le (hr2.frame b hb) hk3.step.size⟩
 exact hK v cv heap' next' w' R'' N3 bsT2 bsH'' (hQ hv2.oY hh2.oY) hr4 hkF hext (fun _=>rfl)
theorem xT {f:FuncId} {args:List ac} {s2:aa} {o:Oper} {cargs:List Value} {act:Act} {w:World} {R:Own} {N:Name->Option Nat} {bsA bsT bsL bsH bsF:List Nat} {K:aa->Prop} {Qx:Exit->Act->World->Prop} {Kx:Act->World->Prop}
  (hrun:(execOp act.eval o).run P w=.ok (.enter f cargs.toArray) w) (hr2:dh G w R N act.tmps.toList s2 (.tuple cargs.toArray) (.tup args) bsA bsT bsL bsH bsF) (hno:bS args=true) (hd:act.defers=D)
  (h:aC P G f args [] s2.next (fun v heap n=>nq v->ya heap->heap=[]/\K (({s2 with next:=n }:aa).put o.dst v)))
  (hK:∀(v:ac) (cv:Value) (n:Nat) (w':World) (R':Own) (N':Name->Option Nat) (bsT':List Nat),K (({s2 with next:=n }:aa).put o.dst v)->
   dh G w' R' N' (act.put o.dst cv).tmps.toList (({s2 with next:=n }:aa).put o.dst v) undef .undef [] bsT' bsL bsH bsF->bA w R w' R' (bsL++(bsH++bsF))->(∀m c,N m=some c->N' m=some c)->(∀i,N' (.loc i)=N (.loc i))->Kx (act.put o.dst cv) w') :
  o.wp P act w Kx Qx:=by
 unfold Oper.wp;rw[hrun,Oper.upon_enter];have hv:=hr2.val;simp only[al] at hv;obtain⟨cs0,ec,hargs⟩:=hv;simp at ec;subst ec;have hndA:(bsA++([]++(bsH++(bsT++(bsL++bsF))))).Nodup:=by
  have hp:(bsA++([]++(bsH++(bsT++(bsL++bsF))))).Perm (bsA++(bsT++(bsL++(bsH++bsF)))):=by
   rw[List.perm_iff_count];intro q;simp only[List.count_append,List.count_nil];omega
  exact hp.nodup_iff.2 hr2.nodup
 refine (h w R N cargs bsA [] (bsH++(bsT++(bsL++bsF))) (hargs.yh hno (fun _=>rfl)) rfl hndA hr2.next hr2.glob ?_).mono ?_
 ·intro b hb;simp at hb
  rcases hb with h|h|h|h
  ·exact hr2.heap.lt b h
  ·exact hr2.tmps.lt b h
  ·exact hr2.locs.lt b h
  exact hr2.frame b h
 rintro e w' ⟨v,cv,heap',next',R'',N'',bsV,bsH'',rfl,hQ,hv2,hh2,hnd2,hnx2,hk3,hN3⟩;obtain⟨rfl,hQ2⟩:=hQ hv2.oY hh2.oY;obtain rfl:bsH''=[]:=hh2
 let N3:Name->Option Nat:=fun m=>match m with|.loc i=>N (.loc i)|.out o=>N'' (.out o)
 have hext:∀m c,N m=some c->N3 m=some c:=fun m c hm=>by cases m with|loc i=>exact hm|out o=>exact hN3 o c hm
 have hkT:bA w R w' R'' bsT:=hk3.sub (by intro b hb;simp[hb]);have hkL:bA w R w' R'' bsL:=hk3.sub (by intro b hb;simp[hb]);have hkH:bA w R w' R'' bsH:=hk3.sub (by intro b hb;simp[hb]);have hkF:bA w R w' R'' (bsL++(bsH++bsF)):=hk3.sub (by intro b hb;simp at hb;rcases hb with h|h|h <;> simp[h]);have ht3:ak w' R'' N3 s2.tmps act.tmps.toList bsT:=(hr2.tmps.keep hkT).ext hext;have hl3:ao w' R'' N3 s2.locs bsL:=(hr2.locs.keep hkL).ext hext;have hh3:ao w' R'' (outs N3) s2.heap bsH:=(hr2.heap.keep hkH).ext (fun m c hm=>by
  cases m with
  | loc i=>simp[outs] at hm
  | out k=>simp only[outs] at hm ⊢;exact hext _ _ hm)
 have hv3:al w' R'' N3 v cv bsV:=hv2.yh hv2.cy (fun _=>rfl);have hnd3:(bsV++(bsT++(bsL++(bsH++bsF)))).Nodup:=by
  have hp:(bsV++(bsT++(bsL++(bsH++bsF)))).Perm (bsV++([]++(bsH++(bsT++(bsL++bsF))))):=by
   rw[List.perm_iff_count];intro q;simp only[List.count_append,List.count_nil];omega
  exact hp.nodup_iff.2 hnd2
 let s3:aa:={s2 with next:=next' }
 obtain⟨bsT2,hp1,hp2⟩:=fP (s:=s3) o.dst ht3 hv3 hnd3;obtain⟨q1,q2,q3⟩:=db s3 o.dst v;obtain⟨pa1,pa2⟩:=gG act o.dst cv;have hr4:dh G w' R'' N3 (act.put o.dst cv).tmps.toList (s3.put o.dst v) undef .undef [] bsT2 bsL bsH bsF:=
  ⟨aW _,by rw[pa1];exact hp1,by rw[q1];exact hl3,by rw[q2];exact hh3,by simpa using hp2,by rw[q3];exact hnx2,
   fun g cs hg=>(hr2.glob g cs hg).step hk3.step,fun b hb=>Nat.lt_of_lt_of_le (hr2.frame b hb) hk3.step.size⟩
 exact hK v cv next' w' R'' N3 bsT2 hQ2 hr4 hkF hext (fun _=>rfl)
theorem nB {s:aa} {act:Act} {w:World} {R:Own} {N:Name->Option Nat} {bsT bsL bsH bsF:List Nat} (hr:dh G w R N act.tmps.toList s undef .undef [] bsT bsL bsH bsF) (dst:Option Tmp) :
  ∃bsT',dh G w R N (act.put dst undef).tmps.toList (s.put dst (.tup [])) undef .undef [] bsT' bsL bsH bsF:=by
 obtain⟨bsT',hp1,hp2⟩:=fP (a:=.tup []) (v:=undef) (b:=[]) dst hr.tmps (by simp[al,ak,undef]) (by simpa using hr.nodup);obtain⟨q1,q2,q3⟩:=db s dst (.tup []);exact⟨bsT',aW _,by rw[(gG act dst undef).1];exact hp1,by rw[q1];exact hr.locs,by rw[q2];exact hr.heap,by simpa using hp2,by rw[q3];exact hr.next,hr.glob,hr.frame⟩
theorem jA (hE:E.Ok P) (ops:Array Oper) {i:Nat} {o:Oper} (hi:ops[i]?=some o) {K:aa->Prop} {s:aa} (h:mE (aC P G) E G H ops.toList o K s) {Qx:Exit->Act->World->Prop}
  {w:World} {R:Own} {N:Name->Option Nat} {act:Act} {bsT bsL bsH bsF:List Nat} (hr:dh G w R N act.tmps.toList s undef .undef [] bsT bsL bsH bsF) (hd:act.defers=D) :
  wpOp P ops Qx i (UG G D K w R N bsF) act w:=by
 unfold wpOp;simp only[hi];unfold mE at h
 split at h
 ·exact h.elim
 rename_i b hw;have hwt:=kg hr.tmps hw;rw[hwt]
 split at h
 ·rename_i hb;rw[if_pos hb];left
  split at h
  ·rename_i c hc;have hop:=vJ hc
   split at h
   ·rename_i f args s2 hcal;obtain⟨cargs,hrun,R',N',bsA,bsT',bsL',bsH',hr2,hk2,hN2,hno,_⟩:=BJ hE hcal hr o hop;refine A3 hrun hr2 hno hd h ?_;intro v cv heap n w' R'' N'' bsT2 bsH2 hK hr4 hk3 hext _;exact⟨_,R'',N'',bsT2,bsL',bsH2,hK,hr4,by rw[(gG act o.dst cv).2];exact hd,hk2.trans (hk3.sub (by intro b hb;simp[hb])),fun o b h=>hext _ _ (hN2 o b h)⟩
   exact h.elim
  split at h
  ·rename_i s' hst;obtain⟨cv,w',hran,⟨R',N',bsT',bsL',bsH',hr',hk',hN',_⟩,_⟩:=qj hE hst hr;exact vt hran ⟨s',R',N',bsT',bsL',bsH',h,hr',by rw[(gG act o.dst cv).2];exact hd,hk',fun o b h=>hN' _ _ h⟩
  exact h.elim
 rename_i hb;rw[if_neg hb];obtain⟨bsT',hr'⟩:=nB hr o.dst;exact⟨_,R,N,bsT',bsL,bsH,h,hr',by rw[(gG act o.dst undef).2];exact hd,bj _,fun _ _ h=>h⟩
theorem Bi (hE:E.Ok P) (ops:Array Oper) (Q:aa->Prop) (Kx:Exit->Act->World->Prop) :
  ∀(rest:List Oper) (k:Nat) (s:aa),ops.toList.drop k=rest->mD (aC P G) E G H ops.toList Q rest s->∀(w:World) (R:Own) (N:Name->Option Nat) (act:Act) (bsT bsL bsH bsF:List Nat),
   dh G w R N act.tmps.toList s undef .undef [] bsT bsL bsH bsF->act.defers=D->(∀a' w',UG G D Q w R N bsF a' w'->Kx .normal a' w')->wpOps P ops Kx (List.range' k rest.length) act w
 | [],k,s,_,h,w,R,N,act,bsT,bsL,bsH,bsF,hr,hd,hK=>by
  simp only[List.length_nil,List.range'_zero,wpOps];exact hK _ _ ⟨s,R,N,bsT,bsL,bsH,h,hr,hd,bj _,fun _ _ h=>h⟩
 | o::rest,k,s,hdrop,h,w,R,N,act,bsT,bsL,bsH,bsF,hr,hd,hK=>by
  have hok:ops[k]?=some o:=by
   have:=List.getElem?_drop (xs:=ops.toList) (i:=k) (j:=0)
   rw[hdrop] at this;simpa using this.symm
  have hdrop':ops.toList.drop (k+1)=rest:=by rw[←List.drop_drop,hdrop];rfl
  simp only[mD,iX] at h;simp only[List.length_cons,List.range'_succ];rw[wpOps_cons];refine wpOp_mono ?_ (jA hE ops hok (K:=mD (aC P G) E G H ops.toList Q rest) h hr hd);rintro a' w' ⟨s',R',N',bsT',bsL',bsH',hq,hr',hd',hk',hN'⟩;exact Bi hE ops Q Kx rest (k+1) s' hdrop' hq w' R' N' a' bsT' bsL' bsH' bsF hr' hd' (fun a2 w2 h2=>hK a2 w2 (h2.trans hk' hN'))
theorem uT (hE:E.Ok P) {id:Nat} {ops:Array Oper} {Q:Exit->aa->Prop} {s:aa} (h:mD (aC P G) E G H ops.toList (Q .normal) ops.toList s):dz P G (.region id ops false) Q s:=by
 intro w R N act bsT bsL bsH bsF hr D hd
 apply wp_region
 rw[List.range_eq_range',←Array.length_toList];exact Bi hE ops (Q .normal) _ ops.toList 0 s (by simp) h w R N act bsT bsL bsH bsF hr hd (fun _ _ h=>h)
def fN (T:List ac) (mv:Option Nat) (xs:List Operand):List ac:=
 match mv with
 | none=>T
 | some k=>match xs[k]? with
  | some (.tmp t)=>T.set t (cQ (bC T t))
  | _=>T
theorem oy (s:aa) (mv:Option Nat) (xs:List Operand):bO s mv xs={s with tmps:=fN s.tmps mv xs }:=by
 unfold bO fN
 cases mv with
 | none=>rfl
 | some k=>
  dsimp only
  cases xs[k]? with
  | none=>rfl
  | some x=>cases x <;> rfl
theorem lZ (T:List ac) (mv:Option Nat) (xs:List Operand):(∃t,xs.any (dy t)=true/\∀T',fN T' mv xs=T'.set t (cQ (bC T' t)))∨∀T',fN T' mv xs=T':=by
 unfold fN
 cases mv with
 | none=>exact .inr fun _=>rfl
 | some k=>
  dsimp only
  cases hx:xs[k]? with
  | none=>exact .inr fun _=>rfl
  | some x=>
   cases x with
   | tmp t=>
    refine .inl ⟨t,?_,fun _=>rfl⟩;rw[List.any_eq_true];exact⟨.tmp t,List.mem_of_getElem? hx,Nat.beq_refl t⟩
   | _=>exact .inr fun _=>rfl
theorem Kk (s:aa) (T:List ac) {x:Operand} (h:∀t,dy t x=true->bC T t=bC s.tmps t):eT G {s with tmps:=T } x=eT G s x:=by
 cases x with
 | tmp t=>exact h t (Nat.beq_refl t)
 | _=>rfl
theorem rG (s:aa) (T:List ac) (mv:Option Nat):∀(k:Nat) {xs:List Operand},(∀t,xs.any (dy t)=true->bC T t=bC s.tmps t)->aP G {s with tmps:=T } mv k xs=aP G s mv k xs
 | _,[],_=>rfl
 | k,x::r,h=>by
  simp only[aP];rw[Kk s T (fun t ht=>h t (by simp[ht])),rG s T mv (k+1) (fun t ht=>h t (by simp[ht]))]
theorem R5 (s:aa) (T:List ac) (n:Name):aa.obj {s with tmps:=T } n=s.obj n:=by cases n <;> rfl
theorem BF (s:aa) (T:List ac) (o:Op) (vals:List ac):bp {s with tmps:=T } o vals=bp s o vals:=by
 unfold bp
 cases looks o vals with
 | none=>rfl
 | some n=>exact R5 s T n
theorem rN {o:Oper} (hd:o.dst=none) {n:Option Name} {s s':aa} {out:Out} (T:List ac) (h:dL o n s out=some s'):dL o n {s with tmps:=T } out=some {s' with tmps:=T }/\s'.tmps=s.tmps:=by
 unfold dL at h ⊢
 cases he:out.eff with
 | keep=>rw[he] at h;simp only[hd,aa.put] at h ⊢;cases h;exact⟨rfl,rfl⟩
 | set ob'=>
  rw[he] at h;simp only[hd,aa.put] at h ⊢
  cases n with
  | none=>simp at h
  | some n=>
   cases n with
   | loc i=>simp only[aa.setObj] at h ⊢;cases h;exact⟨rfl,rfl⟩
   | out k=>
    simp only[aa.setObj] at h ⊢
    by_cases hn:dj ob'=true
    ·simp only[hn,if_true] at h ⊢;cases h;exact⟨rfl,rfl⟩
    simp[hn] at h
 | new ob'=>rw[he] at h;simp[hd] at h
 | row ob' sz len=>rw[he] at h;simp[hd] at h
 | fresh ob'=>
  rw[he] at h;simp only[hd,aa.put] at h ⊢
  by_cases hn:dj ob'=true
  ·simp only[hn,if_true] at h ⊢;cases h;exact⟨rfl,rfl⟩
  simp[hn] at h
 | grow ob' sz len=>
  rw[he] at h;simp only[hd,aa.put] at h ⊢
  cases n with
  | none=>
   by_cases hn:dj ob'=true
   ·simp only[hn,if_true] at h ⊢;cases h;exact⟨rfl,rfl⟩
   simp[hn] at h
  | some n=>
   cases n with
   | loc i=>
    by_cases hn:dj ob'=true
    ·simp only[hn,if_true] at h ⊢;cases h;exact⟨rfl,rfl⟩
    simp[hn] at h
   | out k=>
    by_cases hn:dj ob'=true
    ·simp only[hn,if_true] at h ⊢;cases h;exact⟨rfl,rfl⟩
    simp[hn] at h
def iq (T:List ac) (d:Option Tmp) (v:ac):List ac:=match d with|some d=>T.set d v|none=>T
def TF:Eff->Bool
 | .new _=>false
 | .row _ _ _=>false
 | _=>true
theorem ym (s:aa) (d:Option Tmp) (v:ac):s.put d v={s with tmps:=iq s.tmps d v }:=by cases d <;> rfl
theorem Bg {o:Oper} {n:Option Name} {s s':aa} {out:Out} (hd:o.dst=none∨TF out.eff=true) (h:dL o n s out=some s') :
  ∃v,(∀T,dL o n {s with tmps:=T } out=some {s' with tmps:=iq T o.dst v })/\s'.tmps=iq s.tmps o.dst v:=by
 rcases hd with hd|hd
 ·refine⟨.undef,fun T=>?_,?_⟩
  ·rw[hd];exact (rN hd T h).1
  rw[hd];exact (rN hd s.tmps h).2
 unfold dL at h ⊢
 cases he:out.eff with
 | new ob'=>rw[he] at hd;simp[TF] at hd
 | row ob' sz len=>rw[he] at hd;simp[TF] at hd
 | keep=>
  rw[he] at h;simp only[ym] at h ⊢
  cases h
  exact⟨out.val,fun T=>rfl,rfl⟩
 | set ob'=>
  rw[he] at h;simp only[ym] at h ⊢
  cases n with
  | none=>simp at h
  | some n=>
   cases n with
   | loc i=>simp only[aa.setObj] at h ⊢;cases h;exact⟨out.val,fun T=>rfl,rfl⟩
   | out k=>
    simp only[aa.setObj] at h ⊢
    by_cases hn:dj ob'=true
    ·simp only[hn,if_true] at h ⊢;cases h;exact⟨out.val,fun T=>rfl,rfl⟩
    simp[hn] at h
 | fresh ob'=>
  rw[he] at h;simp only[ym] at h ⊢
  by_cases hn:dj ob'=true
  ·simp only[hn,if_true] at h ⊢;cases h;exact⟨_,fun T=>rfl,rfl⟩
  simp[hn] at h
 | grow ob' sz len=>
  rw[he] at h;simp only[ym] at h ⊢
  by_cases hn:dj ob'=true
  ·simp only[hn,if_true] at h ⊢
   cases n with
   | none=>cases h;exact⟨_,fun T=>rfl,rfl⟩
   | some n=>cases n with
    | loc k=>cases h;exact⟨_,fun T=>rfl,rfl⟩
    | out k=>cases h;exact⟨_,fun T=>rfl,rfl⟩
  simp only[hn] at h
  cases n with
  | none=>simp at h
  | some n=>cases n <;> simp at h
theorem GG {i:TI} {len:Nat} {cs:List ac} {x:ac} {out:Out} (h:jG E i len cs x=some out):TF out.eff=true:=by
 unfold jG at h
 repeat' split at h
 all_goals first
  |(simp at h;done)
  |(cases h;rfl)
theorem Yc {take:Bool} {op:Op} (hop:isApp op=true) {vals:List ac} {ob:Option aT} {out:Out} (h:jJ E take op vals ob=some out):TF out.eff=true:=by
 unfold isApp at hop
 split at hop
 ·rename_i args tys;simp only[jJ,lv] at h
  split at h
  ·simp at h
  ·split at h
   ·split at h
    ·unfold cj at h
     repeat' split at h
     all_goals first
      |(simp at h;done)
      |exact GG h
      |(cases h;rfl)
    ·unfold dD at h
     repeat' split at h
     all_goals first
      |(simp at h;done)
      |(cases h;rfl)
   simp at h
 simp at hop
theorem sQ {q take:Bool} {o:Oper} (hd:o.dst=none∨isApp o.op=true) {s s':aa} (h:cY E G q take o s=some s') :
  ∃v,(∀T:List ac,(∀t,(opsL o.op).any (dy t)=true->bC T t=bC s.tmps t)->cY E G q take o {s with tmps:=T }=some {s' with tmps:=iq (fN T (kN q o.op) (opsL o.op)) o.dst v }) ∧
   s'.tmps=iq (fN s.tmps (kN q o.op) (opsL o.op)) o.dst v:=by
 unfold cY at h ⊢
 split at h
 ·simp at h
 rename_i out ho;rw[oy] at h;obtain⟨v,h1,h2⟩:=Bg (hd.imp id (fun hd=>Yc hd ho)) h;refine⟨v,fun T hT=>?_,h2⟩;rw[rG s T (kN q o.op) 0 hT,BF,ho];dsimp only;rw[oy];exact h1 _
theorem Bf {q take:Bool} {o:Oper} {x d:Tmp} (hx:opsL o.op=[.tmp x]) (hl:∀vals,looks o.op vals=none) (hk:∀vals ob out,jJ E take o.op vals ob=some out->out.eff=.keep) (hd:o.dst=some d) {s s':aa}
  (h:cY E G q take o s=some s') :
  ∃val,s'={s with tmps:=(fN s.tmps (kN q o.op) [.tmp x]).set d val }/\∀s2:aa,bC s2.tmps x=bC s.tmps x->cY E G q take o s2=some {s2 with tmps:=(fN s2.tmps (kN q o.op) [.tmp x]).set d val }:=by
 unfold cY at h
 split at h
 ·simp at h
 rename_i out ho;have hke:=hk _ _ _ ho;refine⟨out.val,?_,?_⟩
 ·unfold dL at h;rw[hke,oy,hd,hx] at h;simp only[aa.put] at h
  cases h
  rfl
 intro s2 h2;have hv:aP G s2 (kN q o.op) 0 (opsL o.op)=aP G s (kN q o.op) 0 (opsL o.op):=by
  rw[hx];simp only[aP,eT,h2]
 unfold cY;have hla:∀s3:aa,∀vals,bp s3 o.op vals=none:=fun s3 vals=>by unfold bp;rw[hl]
 rw[hla] at ho;rw[hv,hla,ho];dsimp only;unfold dL;rw[hke,oy,hd,hx];rfl
theorem Jk {take:Bool} {x:Operand} (vals:List ac) (ob:Option aT) (out:Out) (h:jJ E take (.move x) vals ob=some out):out.eff=.keep:=by
 simp only[jJ,C4] at h
 split at h
 ·cases h;rfl
 simp at h
theorem BH {take:Bool} {x:Operand} {k:Nat} (vals:List ac) (ob:Option aT) (out:Out) (h:jJ E take (.extract x k) vals ob=some out):out.eff=.keep:=by
 simp only[jJ,uV] at h
 split at h
 ·split at h
  ·cases h;rfl
  simp at h
 simp at h
theorem Ie {T:List ac} {x d:Tmp} {val:ac} {mi mj:Option Nat} {xs:List Operand} (hx:xs.any (dy x)=false) (hd:xs.any (dy d)=false) :
  (fN (fN T mj xs) mi [.tmp x]).set d val=fN ((fN T mi [.tmp x]).set d val) mj xs:=by
 rcases lZ T mj xs with⟨t,ht,e⟩|e
 ·have htx:t≠x:=fun h=>by rw[h,hx] at ht;simp at ht
  have htd:t≠d:=fun h=>by rw[h,hd] at ht;simp at ht
  simp only[e]
  rcases lZ T mi [.tmp x] with⟨u,hu,e2⟩|e2
  ·have hux:u=x:=((show x=u by simpa [dy] using hu)).symm;subst hux;simp only[e2];rw[cd htx,cd (Ne.symm htd),cd (Ne.symm htx),List.set_comm _ _ htx,List.set_comm _ _ htd]
  simp only[e2];rw[cd (Ne.symm htd),List.set_comm _ _ htd]
 simp only[e]
theorem iU {T:List ac} {t:Tmp} {mi:Option Nat} {xs:List Operand} (h:xs.any (dy t)=false):bC (fN T mi xs) t=bC T t:=by
 rcases lZ T mi xs with⟨u,hu,e⟩|e
 ·rw[e,cd (fun h2=>by rw[h2,h] at hu;simp at hu)]
 rw[e]
theorem age {x t:Nat} (h:x≠t):[Operand.tmp x].any (dy t)=false:=by
 cases hb:[Operand.tmp x].any (dy t) with
 | false=>rfl
 | true=>exact absurd (by simpa [dy] using hb) h
theorem qV {T:List ac} {d:Tmp} {a:ac} {mv:Option Nat} {xs:List Operand} (h:xs.any (dy d)=false):fN (T.set d a) mv xs=(fN T mv xs).set d a:=by
 rcases lZ T mv xs with⟨t,ht,e⟩|e
 ·have htd:t≠d:=fun h'=>by rw[h',h] at ht;simp at ht
  rw[e,e,cd (Ne.symm htd),List.set_comm _ _ htd]
 rw[e,e]
theorem sM {T:List ac} {dp:Option Tmp} {v:ac} {x:Tmp} (h:dp≠some x):bC (iq T dp v) x=bC T x:=by
 cases dp with
 | none=>rfl
 | some e=>exact cd (fun h2=>h (by rw[h2]))
theorem sL {T:List ac} {dp:Option Tmp} {v a:ac} {d:Tmp} (h:dp≠some d):(iq T dp v).set d a=iq (T.set d a) dp v:=by
 cases dp with
 | none=>rfl
 | some e=>exact List.set_comm _ _ (fun h2=>h (by rw[h2]))
theorem Hb {T:List ac} {dp:Option Tmp} {v:ac} {x:Tmp} {mi:Option Nat} (h:dp≠some x):fN (iq T dp v) mi [.tmp x]=iq (fN T mi [.tmp x]) dp v:=by
 cases dp with
 | none=>rfl
 | some e=>exact qV (age (fun h2=>h (by rw[h2])))
theorem Kf {q q2 take take2:Bool} {o p:Oper} {x d:Tmp} (hx:opsL o.op=[.tmp x]) (hl:∀vals,looks o.op vals=none) (hk:∀vals ob out,jJ E take o.op vals ob=some out->out.eff=.keep) (hd:o.dst=some d) (hp:p.dst=none∨isApp p.op=true)
  (h1:(opsL p.op).any (dy x)=false) (h2:(opsL p.op).any (dy d)=false) (hpx:p.dst≠some x) (hpd:p.dst≠some d) {s s1 s2:aa} (ho:cY E G q take o s=some s1) (hs:cY E G q2 take2 p s1=some s2) :
  ∃s3,cY E G q2 take2 p s=some s3/\cY E G q take o s3=some s2:=by
 obtain⟨val,rfl,hag⟩:=Bf hx hl hk hd ho;obtain⟨v,k1,k2⟩:=sQ hp hs;refine⟨_,k1 s.tmps (by
  intro t ht;have htx:x≠t:=fun h=>by rw[←h,h1] at ht;simp at ht
  have htd:d≠t:=fun h=>by rw[←h,h2] at ht;simp at ht
  dsimp only;rw[cd htd,iU (age htx)]),?_⟩
 rw[hag _ (by dsimp only;rw[sM hpx,iU h1])];dsimp only at k2 ⊢;rw[Hb hpx,sL hpd,Ie h1 h2,←k2]
theorem On {A:EM} {all:List Oper} {o p:Oper} (ha:jz o p=true) {K:aa->Prop} {s:aa} (h:mE A E G H all o (mE A E G H all p K) s):mE A E G H all p (mE A E G H all o K) s:=by
 unfold jz at ha;simp only[Bool.and_eq_true,Bool.or_eq_true,Option.isNone_iff_eq_none] at ha;obtain⟨⟨⟨⟨g1,g2⟩,g3⟩,g4⟩,g5⟩:=ha;have plain:∀(r:Oper) (K:aa->Prop) (s:aa),r.guard=none->dq r.op=none->(mE A E G H all r K s↔∃s',cY E G (readOnly H.moves all r) (lF H all r) r s=some s'/\K s'):=by
  intro r K s hg hc;unfold mE;simp only[hg,dF,hc,if_true]
  cases cY E G (readOnly H.moves all r) (lF H all r) r s with
  | none=>simp
  | some s'=>simp
 have hof:dq o.op=none/\∃x d,opsL o.op=[.tmp x]/\(∀vals,looks o.op vals=none)/\(∀vals ob out,jJ E (lF H all o) o.op vals ob=some out->out.eff=.keep)/\o.dst=some d/\(opsL p.op).any (dy x)=false/\(opsL p.op).any (dy d)=false/\p.dst≠some x/\p.dst≠some d:=by
  split at g5
  ·rename_i x k d e1 e2;simp only[Bool.and_eq_true,Bool.not_eq_true',bne_iff_ne] at g5;rw[e1];exact⟨rfl,x,d,rfl,fun _=>rfl,BH,e2,g5.1.1.1,g5.1.1.2,g5.1.2,g5.2⟩
  ·rename_i x d e1 e2;simp only[Bool.and_eq_true,Bool.not_eq_true',bne_iff_ne] at g5;rw[e1];exact⟨rfl,x,d,rfl,fun _=>rfl,Jk,e2,g5.1.1.1,g5.1.1.2,g5.1.2,g5.2⟩
  simp at g5
 obtain⟨hc,x,d,hx,hl,hk,hd,h1,h2,hpx,hpd⟩:=hof;obtain⟨s1,e1,h⟩:=(plain o _ _ g1 hc).1 h;obtain⟨s2,e2,h⟩:=(plain p _ _ g2 g4).1 h;obtain⟨s3,e3,e4⟩:=Kf hx hl hk hd g3 h1 h2 hpx hpd e1 e2;exact (plain p _ _ g2 g4).2 ⟨s3,e3,(plain o _ _ g1 hc).2 ⟨s2,e4,h⟩⟩
theorem mb (hE:E.Ok P) (ops:Array Oper) (Q:aa->Prop) (Kx:Exit->Act->World->Prop) :
  ∀(tail:List Nat) (listed:Array Bool) (fuel:Nat) (s:aa),iW ops tail listed=true->tail.length<=fuel->mD (aC P G) E G H ops.toList Q (dO ops.toList tail) s->∀(w:World) (R:Own) (N:Name->Option Nat) (act:Act) (bsT bsL bsH bsF:List Nat),
   dh G w R N act.tmps.toList s undef .undef [] bsT bsL bsH bsF->act.defers=D->(∀a' w',UG G D Q w R N bsF a' w'->Kx .normal a' w')->wpAny P .any ops Kx fuel listed act w
 | [],listed,fuel,s,hc,_,h,w,R,N,act,bsT,bsL,bsH,bsF,hr,hd,hK=>by
  simp only[iW] at hc;exact wpAny_done (by simpa using hc) (hK _ _ ⟨s,R,N,bsT,bsL,bsH,h,hr,hd,bj _,fun _ _ h=>h⟩) fuel
 | _::_,_,0,_,_,hf,_,_,_,_,_,_,_,_,_,_,_,_=>by simp at hf
 | [i],listed,fuel+1,s,hc,hf,h,w,R,N,act,bsT,bsL,bsH,bsF,hr,hd,hK=>by
  simp only[iW,Bool.and_eq_true] at hc;have hrd:Region.ready .any ops listed=[i]:=by simpa using hc.1
  obtain⟨_,o,ho,_⟩:=mem_ready.1 (show i∈Region.ready .any ops listed by rw[hrd];simp);have ho':ops.toList[i]?=some o:=by simpa using ho
  simp only[dO,ho',mD,iX] at h;refine wpAny_all hrd (by simp) ?_;intro j hj;simp at hj;subst hj;refine wpOp_mono ?_ (jA hE ops ho (K:=Q) h hr hd);rintro a' w' h2;exact wpAny_done (by have:=hc.2;simpa [bW] using this) (hK _ _ h2) fuel
 | i::j::r,listed,fuel+1,s,hc,hf,h,w,R,N,act,bsT,bsL,bsH,bsF,hr,hd,hK=>by
  simp only[iW,Bool.or_eq_true] at hc
  rcases hc with hc|hc
  ·simp only[Bool.and_eq_true] at hc;have hrd:Region.ready .any ops listed=[i]:=by simpa using hc.1
   obtain⟨_,o,ho,_⟩:=mem_ready.1 (show i∈Region.ready .any ops listed by rw[hrd];simp);have ho':ops.toList[i]?=some o:=by simpa using ho
   rw[dO,ho'] at h;simp only[mD,iX] at h;refine wpAny_all hrd (by simp) ?_;intro k hk;simp at hk;subst hk;refine wpOp_mono ?_ (jA hE ops ho (K:=mD (aC P G) E G H ops.toList Q (dO ops.toList (j::r))) h hr hd);rintro a' w' ⟨s',R',N',bsT',bsL',bsH',hq,hr',hd',hk',hN'⟩;exact mb hE ops Q Kx (j::r) _ fuel s' hc.2 (by simp at hf ⊢;omega) hq w' R' N' a' bsT' bsL' bsH' bsF hr' hd' (fun a2 w2 h2=>hK a2 w2 (h2.trans hk' hN'))
  simp only[YS,Bool.and_eq_true,Bool.or_eq_true,beq_iff_eq] at hc;obtain⟨⟨⟨⟨hrd,hri⟩,hrj⟩,hap⟩,hct⟩:=hc
  split at hap
  ·rename_i o p ho hp;have ho':ops.toList[i]?=some o:=by simpa using ho
   have hp':ops.toList[j]?=some p:=by simpa using hp
   simp only[dO,ho',hp',mD,iX] at h;have hsw:=On hap h;have two:∀(a b:Nat) (oa ob:Oper),ops[a]?=some oa->ops[b]?=some ob->Region.ready .any ops (listed.setIfInBounds a true)=[b]->iW ops r ((listed.setIfInBounds a true).setIfInBounds b true)=true->
     mE (aC P G) E G H ops.toList oa (mE (aC P G) E G H ops.toList ob (mD (aC P G) E G H ops.toList Q (dO ops.toList r))) s->
     wpOp P ops Kx a (wpAny P .any ops Kx fuel (listed.setIfInBounds a true)) act w:=by
    intro a b oa ob hoa hob hb hcr h;refine wpOp_mono ?_ (jA hE ops hoa h hr hd);rintro a' w' ⟨s',R',N',bsT',bsL',bsH',hq,hr',hd',hk',hN'⟩
    cases fuel with
    | zero=>simp at hf
    | succ fuel=>
     refine wpAny_all hb (by simp) ?_;intro k hk;simp at hk;subst hk;refine wpOp_mono ?_ (jA hE ops hob hq hr' hd');rintro a2 w2 ⟨s2,R2,N2,bsT2,bsL2,bsH2,hq2,hr2,hd2,hk2,hN2⟩;exact mb hE ops Q Kx r _ fuel s2 hcr (by simp at hf;omega) hq2 w2 R2 N2 a2 bsT2 bsL2 bsH2 bsF hr2 hd2 (fun a3 w3 h3=>hK a3 w3 ((h3.trans hk2 hN2).trans hk' hN'))
   have hi:wpOp P ops Kx i (wpAny P .any ops Kx fuel (listed.setIfInBounds i true)) act w:=two i j o p ho hp hri hct h;have hcm:(listed.setIfInBounds j true).setIfInBounds i true=(listed.setIfInBounds i true).setIfInBounds j true:=by
    by_cases hij:i=j
    ·subst hij;rfl
    exact Array.setIfInBounds_comm _ _ (Ne.symm hij)
   have hj:wpOp P ops Kx j (wpAny P .any ops Kx fuel (listed.setIfInBounds j true)) act w:=two j i p o hp ho hrj (by rw[hcm];exact hct) hsw
   rcases hrd with hrd|hrd
   ·refine wpAny_all hrd (by simp) ?_;intro k hk;simp at hk
    rcases hk with rfl|rfl
    ·exact hi
    exact hj
   refine wpAny_all hrd (by simp) ?_;intro k hk;simp at hk
   rcases hk with rfl|rfl
   ·exact hj
   exact hi
  simp at hap
end
end Go.Tp
