/- HierarchyMonotone returns true and changes nothing, for arguments of bulk at most 1048576 (the card of the second form; conditions: those of the given row). Names are shortened by a program, for the claim's bound. Part 1. -/
import Derived.Laws.MakeOwn
import Derived.Orders
import Derived.Test.YtiihadmgkoamoaaGreatDoorQ00
set_option linter.unusedVariables false
set_option linter.unusedSimpArgs false
set_option maxRecDepth 100000
set_option maxHeartbeats 4000000
namespace Go.Tp
section
variable {P:Program} {E:bG} {G:bL} {w:World} {R:Own} {N:Name->Option Nat}
theorem pC {s:aa} {act:Act} {bsT:List Nat} (ht:ak w R N s.tmps act.tmps.toList bsT) (hg:∀g cs,G g=some cs->dY w R g 0 cs) (x:Operand) :
  ∃bs,al w R N (eR G s x) (act.eval x) bs:=by
 cases x with
 | tmp t=>
  simp only[eR,bB,Act.eval]
  cases h:s.tmps[t]? with
  | none=>exact⟨[],aW _⟩
  | some a=>
   obtain⟨v,b',e1,e2,_⟩:=eB ht h
   have:act.tmps.getD t undef=v:=by simp at e1;simp[e1]
   exact⟨b',by rw[this];exact e2⟩
 | const v=>exact⟨[],gq v⟩
 | global g=>
  simp only[eR,Act.eval]
  cases h:G g with
  | none=>exact⟨[],aW _⟩
  | some cs=>exact⟨[],by simp only[al];exact⟨trivial,g,0,rfl,hg g cs h⟩⟩
 | func f=>exact⟨[],by simp only[eR,Act.eval,al];exact⟨trivial,[],[],rfl,aX,aX⟩⟩
theorem CY {s:aa} {act:Act} {bsT:List Nat} (ht:ak w R N s.tmps act.tmps.toList bsT) (hg:∀g cs,G g=some cs->dY w R g 0 cs) (x:Operand) :
  al w R N (cP (eR G s x)) (act.eval x) []:=by
 obtain⟨bs,h⟩:=pC ht hg x;exact pY h
theorem kN {s:aa} {act:Act} {bsT:List Nat} (ht:ak w R N s.tmps act.tmps.toList bsT) (hg:∀g cs,G g=some cs->dY w R g 0 cs) (mv:Option Nat):∀(k:Nat) (xs:List Operand),
  (∀j,mv=some j->j < k∨k+xs.length<=j)->ak w R N (aM G s mv k xs) (xs.map act.eval) []
 | _,[],_=>by simpa [aM] using aX
 | k,x::xs,h=>by
  have hne:mv≠some k:=fun e=>by rcases h k e with h|h <;> simp at h <;> omega
  simp only[aM,if_neg hne,List.map_cons];exact aG (b1:=[]) (b2:=[]) (CY ht hg x) (kN ht hg mv (k+1) xs (fun j hj=>by have:=h j hj;simp only[List.length_cons] at this;omega))
theorem qE {s:aa} {act:Act} {bsT:List Nat} (ht:ak w R N s.tmps act.tmps.toList bsT) (hg:∀g cs,G g=some cs->dY w R g 0 cs) (mv:Option Nat) (xs:List Operand) (rest:List Nat) (hnd:(bsT++rest).Nodup) :
  ∃bsM bsT',ak w R N (aM G s mv 0 xs) (xs.map act.eval) bsM/\ak w R N (bR s mv xs).tmps act.tmps.toList bsT'/\(bsM++(bsT'++rest)).Nodup/\(mv=none->bsM=[]):=by
 cases mv with
 | none=>exact⟨[],bsT,kN ht hg none 0 xs (by simp),by simpa [bR] using ht,by simpa using hnd,fun _=>rfl⟩
 | some k=>
  -- the part with operand k
  have key:∀(xs:List Operand) (j:Nat),j<=k->∀bk,(∀x,xs[k - j]?=some x->al w R N (eR G s x) (act.eval x) bk)->(xs.length<=k - j->bk=[])->ak w R N (aM G s (some k) j xs) (xs.map act.eval) bk:=by
   intro xs
   induction xs with
   | nil=>intro j _ bk _ h0;rw[h0 (by simp)];simpa [aM] using aX
   | cons x xs ih=>
    intro j hj bk hx h0
    by_cases hjk:k=j
    ·subst hjk;simp only[aM,if_true,List.map_cons];have h1:=hx x (by simp);have h2:=kN ht hg (some k) (k+1) xs (fun j hj=>by simp at hj;omega);simpa using aG h1 h2
    have hne:(some k:Option Nat)≠some j:=by simpa using hjk
    simp only[aM,if_neg hne,List.map_cons];have e:k - j=(k - (j+1))+1:=by omega
    exact aG (b1:=[]) (CY ht hg x) (ih (j+1) (by omega) bk (fun y hy=>hx y (by rw[e];simpa using hy)) (fun hl=>h0 (by simp;omega)))
  cases hk:xs[k]? with
  | none=>
   have hl:xs.length<=k:=by simpa using hk
   exact⟨[],bsT,key xs 0 (by omega) [] (fun x hx=>by rw[Nat.sub_zero,hk] at hx;simp at hx) (fun _=>rfl),by simpa [bR,hk] using ht,by simpa using hnd,by simp⟩
  | some x=>
   have hnl:¬xs.length<=k - 0:=fun hl=>by rw[List.getElem?_eq_none (by simpa using hl)] at hk;simp at hk
   cases x with
   | tmp t=>
    cases hg2:s.tmps[t]? with
    | none=>
     have hu:bB s.tmps t=.undef:=by simp[bB,hg2]
     refine⟨[],bsT,key xs 0 (by omega) [] (fun y hy=>?_) (fun hl=>absurd hl hnl),?_,by simpa using hnd,by simp⟩
     ·rw[Nat.sub_zero,hk] at hy;simp at hy;subst hy;simp only[eR,hu];exact aW _
     have:s.tmps.set t (cP (bB s.tmps t))=s.tmps:=List.set_eq_of_length_le (by simpa using hg2)
     simp only[bR,hk,this];exact ht
    | some a=>
     obtain⟨pre,bt,post,v,e1,e2,e3,e4⟩:=ak.split ht hg2;have hgt:bB s.tmps t=a:=by simp[bB,hg2]
     have hev:act.eval (.tmp t)=v:=by simp at e2;simp[Act.eval,e2]
     refine⟨bt,pre++[]++post,key xs 0 (by omega) bt (fun y hy=>?_) (fun hl=>absurd hl hnl),?_,?_,by simp⟩
     ·rw[Nat.sub_zero,hk] at hy;simp at hy;subst hy;rw[hev];simp only[eR,hgt];exact e3
     ·have:=e4 w R (cP a) v [] (bi _) (pY e3)
      have hset:act.tmps.toList.set t v=act.tmps.toList:=by
       apply List.ext_getElem?
       intro j;rw[List.getElem?_set]
       split
       ·rename_i htj;subst htj;split
        ·exact e2.symm
        rename_i hl;rw[List.getElem?_eq_none (by omega)]
       rfl
      rw[hset] at this;simp only[bR,hk,hgt];exact this
     subst e1;have hp:(bt++((pre++[]++post)++rest)).Perm ((pre++bt++post)++rest):=by
      simp only[List.append_nil,←List.append_assoc];refine List.Perm.append_right _ (List.Perm.append_right _ ?_);exact List.perm_append_comm
     exact hp.nodup_iff.2 hnd
   | const v=>exact⟨[],bsT,key xs 0 (by omega) [] (fun y hy=>by rw[Nat.sub_zero,hk] at hy;simp at hy;subst hy;exact gq v) (fun hl=>absurd hl hnl),by simpa [bR,hk] using ht,by simpa using hnd,by simp⟩
   | global g=>
    refine⟨[],bsT,key xs 0 (by omega) [] (fun y hy=>?_) (fun hl=>absurd hl hnl),by simpa [bR,hk] using ht,by simpa using hnd,by simp⟩;rw[Nat.sub_zero,hk] at hy;simp at hy;subst hy;simp only[eR,Act.eval]
    cases h:G g with
    | none=>exact aW _
    | some cs=>simp only[al];exact⟨trivial,g,0,rfl,hg g cs h⟩
   | func f=>
    refine⟨[],bsT,key xs 0 (by omega) [] (fun y hy=>?_) (fun hl=>absurd hl hnl),by simpa [bR,hk] using ht,by simpa using hnd,by simp⟩;rw[Nat.sub_zero,hk] at hy;simp at hy;subst hy;simp only[eR,Act.eval,al];exact⟨trivial,[],[],rfl,aX,aX⟩
def wj (w:World) (bs:List Nat) (xs:List Nat):Prop:=xs.Nodup/\∀b∈xs,b∈bs∨w.heap.size<=b
def tA:Option (Nat×List Nat)->List Nat
 | none=>[]
 | some (b,b1)=>b::b1
def MD (w:World) (R:Own) (N:Name->Option Nat) (ob:Option aR) (nm:Option (Nat×List Nat)) (bsM rest:List Nat) (out:Out) (cv:Value) (w':World) (R':Own):Prop:=
 bz w R w' R' rest ∧
 match out.eff with
 | .keep=>∃bsV,al w' R' N out.val cv bsV/\wj w bsM bsV/\(∀b b1 o,nm=some (b,b1)->ob=some o->aT w' R' N o b b1)/\(nm=none∨(w'=w/\R'=R))
 | .set o'=>∃b b1 b1' bsV,nm=some (b,b1)/\aT w' R' N o' b b1'/\al w' R' N out.val cv bsV/\wj w (bsM++b1) (bsV++b1')
 | .grow o' sz len=>∃b' b1' cap,aT w' R' N o' b' b1'/\wj w (bsM++tA nm) (b'::b1')/\cv=.slice (some ⟨b',0,none⟩) len cap/\len<=cap/\(0 < sz/\cap<=gR)/\b' < w'.heap.size/\cap*sz=ev w' b'
 | .fresh o'=>nm=none/\∃b1',aT w' R' N o' w.heap.size b1'/\(b1'.Nodup/\∀b∈b1',b∈bsM)/\w.heap.size < w'.heap.size/\cv=(match o' with|.cells _=>.pointer (some ⟨w.heap.size,0,none⟩)|.map _=>.map (some w.heap.size))
 | .row o' sz len=>nm=none/\∃b1',aT w' R' N o' w.heap.size b1'/\(b1'.Nodup/\∀b∈b1',b∈bsM)/\w.heap.size < w'.heap.size/\∃cap,cv=.slice (some ⟨w.heap.size,0,none⟩) len cap/\len<=cap/\(0 < sz/\cap<=gR)/\cap*sz=ev w' w.heap.size
 | .new o'=>nm=none/\∃b1',aT w' R' N o' w.heap.size b1'/\(b1'.Nodup/\∀b∈b1',b∈bsM)/\w.heap.size < w'.heap.size/\cv=(match o' with|.cells _=>.pointer (some ⟨w.heap.size,0,none⟩)|.map _=>.map (some w.heap.size))
theorem wj.nil {bs:List Nat}:wj w bs []:=⟨List.nodup_nil,by simp⟩
theorem wj.adZ {bs:List Nat} (h:bs.Nodup):wj w bs bs:=⟨h,fun _ hb=>.inl hb⟩
theorem MD.pure {out:Out} {cv:Value} {ob:Option aR} {nm:Option (Nat×List Nat)} {bsM rest bsV:List Nat} (he:out.eff=.keep) (hv:al w R N out.val cv bsV) (hf:wj w bsM bsV)
  (hob:∀b b1 o,nm=some (b,b1)->ob=some o->aT w R N o b b1):MD w R N ob nm bsM rest out cv w R:=by
 refine⟨bi _,?_⟩;rw[he];exact⟨bsV,hv,hf,hob,.inr ⟨rfl,rfl⟩⟩
theorem nK (hE:E.Ok P) {i:TI} {len:Nat} {cs:List ac} {x:ac} {out:Out} (h:jB E i len cs x=some out) :
  ∃ds,x=.dat (.slice ds)/\0 < i.size/\(∀d∈ds,d.cells.length=i.size)/\(len+ds.length)*i.bytes<=140737488355328/\len+ds.length<=lim/\len*i.size<=cs.length/\cM (cs.take (len*i.size)++(ds.flatMap ap.cells).map .dat)=false ∧
   out=⟨.undef,.grow (.cells (cs.take (len*i.size)++(ds.flatMap ap.cells).map .dat)) i.size (len+ds.length)⟩:=by
 unfold jB at h
 split at h
 ·rename_i r hap;obtain⟨ds,rfl,hs0,hds,_,_,_,_,rfl⟩:=jD (by rw[hE.mz] at hap;exact hap)
  split at h
  ·rename_i hc;simp only[Bool.and_eq_true,Nat.ble_eq,List.nil_append] at hc;simp only[List.nil_append,Option.some.injEq] at h;exact⟨r,rfl,hs0,hds,hc.1.1.1,hc.1.1.2,hc.1.2,by have:=hc.2;rw[oK] at this;simpa using this,by rw[←h,oK]⟩
  simp at h
 simp at h
theorem eD:∀(us:List Value),ak w R N (List.replicate us.length .undef) us []
 | []=>by simpa using aX
 | u::us=>by
  rw[List.length_cons,List.replicate_succ];exact aG (aW u) (eD us)
theorem Ck (e:TypeId) {s n cap:Nat} {cs:List ac} {cells:List Value} {b1:List Nat} (hr:ak w R N cs cells b1) (hl:cells.length=n*s) (hcap:n<=cap) (rest:Array Value) (hrest:rest.size=(cap - n)*s) (hsh:cM cs=false) (bs:List Nat) :
  ∃R',bz w R (w.drew.alloc (.cells (cells.toArray++rest) e)) R' bs/\aT (w.drew.alloc (.cells (cells.toArray++rest) e)) R' N (.cells cs) w.heap.size b1 ∧
   w.heap.size < (w.drew.alloc (.cells (cells.toArray++rest) e)).heap.size/\cap*s=ev (w.drew.alloc (.cells (cells.toArray++rest) e)) w.heap.size:=by
 let R':Own:=fun b off=>b=w.heap.size∨R b off
 have hst:∀b off,b < w.heap.size->(R' b off↔R b off):=fun b off hb=>⟨fun h=>by rcases h with h|h;exact absurd h (by omega);exact h,fun h=>.inr h⟩
 have hk:=fun bs=>eC (w:=w) (R:=R) (.cells (cells.toArray++rest) e) hst bs
 have hh:(w.drew.alloc (.cells (cells.toArray++rest) e)).heap[w.heap.size]?=some (.cells (cells.toArray++rest) e (0,0)):=heap_alloc_new w.drew _;have hsz:cap*s=(cells.toArray++rest).size:=by
  simp only[Array.size_append,List.size_toArray,hrest,hl];rw[←Nat.add_mul];congr 1;omega
 refine⟨R',hk bs,⟨_,e,rest.size,hh,?_,fun j _=>.inl rfl,fun hb=>by rw[hsh] at hb;simp at hb⟩,bw hh,by rw[dh hh];exact hsz⟩
 have:=cD (hr.keep (hk b1)) (eD (w:=w.drew.alloc (.cells (cells.toArray++rest) e)) (R:=R') (N:=N) rest.toList)
 simpa using this
theorem yY (hE:E.Ok P) {t ty:TypeId} {i:TI} {x:ac} {u:Value} {base:Option Addr} {out:Out} (hel:elemOf E t=some i) (h:jB E i 0 [] x=some out) (hm:Az x=true) (hx:al w R N x u [])
  (hbase:base=none∨∃b,base=some ⟨b,0,none⟩) (bs:List Nat) :
  ∃o' len cv w' R' cap,out=⟨.undef,.grow o' i.size len⟩/\(Builtin.append_ #[t,t] ty #[.slice base 0 0,u]).run P w=.ok cv w'/\bz w R w' R' bs/\aT w' R' N o' w.heap.size [] ∧
   cv=.slice (some ⟨w.heap.size,0,none⟩) len cap/\len<=cap/\(0 < i.size/\cap<=gR)/\w.heap.size < w'.heap.size/\cap*i.size=ev w' w.heap.size:=by
 obtain⟨e,hu,hty⟩:=eZ hE hel;obtain⟨⟨ie,k1,k2,k3,k4,k5⟩,_⟩:=hE.ty e i hty;obtain⟨ds,rfl,hs0,hds,hbytes,hlim,_,hbl,rfl⟩:=nK hE h;obtain⟨_,hxr⟩:=dD hx;have hne:ds≠[]:=by intro e;subst e;simp[Az] at hm
 obtain⟨b2,off2,cap2,news,rfl,_,hnr,hnc⟩:=mD hxr hne hds;have hnl:=cO hnr;rw[dF hds] at hnl;have hnews:∀(j:Nat) u,news[j]?=some u->w.cell? ((⟨b2,off2,none⟩:Addr).add j)=some u:=fun j u hj=>by rw[add_plain];exact (hnc j u hj).1
 have hdl:0 < ds.length:=by cases ds with|nil=>exact absurd rfl hne|cons _ _=>simp
 simp only[Nat.zero_add] at hbytes hlim;have h63:ds.length<=9223372036854775807:=by unfold lim at hlim;omega
 have hzc:∀(z:Array Value) (n:Nat),(Builtin.zeroCells z n).size=n*z.size:=fun z n=>size_zeroCells z n
 have hge:=grownCap_ge w ds.length 0 e;obtain⟨R',g1,g2,g3,g4⟩:=Ck (N:=N) (s:=i.size) (n:=ds.length) e (jd (N:=N) hnr) hnl hge (Builtin.zeroCells i.zero.cells (grownCap w ds.length 0 e - ds.length)) (by rw[hzc,k5]) (by simpa using hbl) bs;refine⟨_,_,_,_,R',grownCap w ds.length 0 e,rfl,?_,g1,by simpa using g2,by rw[Nat.zero_add],by simpa using hge,⟨hs0,Nat.le_trans (grownCap_le_maxLen w ds.length 0 e h63) (by decide)⟩,g3,g4⟩
 rcases hbase with rfl|⟨b,rfl⟩
 ·exact run_append_nil (P:=P) w t ty e ie i.zero hu k1 k4 ⟨b2,off2,none⟩ ds.length cap2 news (by rw[k2];exact hnl) hnews hdl (by omega) (by rw[k3];omega)
 have hrun:=run_append_grow (P:=P) w t ty e ie i.zero hu k1 k4 ⟨b,0,none⟩ 0 0 [] (by simp) (by simp) ⟨b2,off2,none⟩ ds.length cap2 news (by rw[k2];exact hnl) hnews (by omega) (by omega) (growslice_fits (by omega) (by rw[k3];simpa using hbytes));simpa using hrun
theorem yX (hE:E.Ok P) {t ty:TypeId} {i:TI} {len b cap:Nat} {b1:List Nat} {cs:List ac} {x:ac} {u:Value} {out:Out} (hel:elemOf E t=some i) (h:jB E i len cs x=some out) (hx:al w R N x u [])
  (hobj:aT w R N (.cells cs) b b1) (hcap:len<=cap) (hcm:cap<=gR) (hrow:cap*i.size=ev w b) (hnd:(b::b1).Nodup) (bs:List Nat) (hb:b∉bs) :
  ∃o' len' cv w' R' b' b1' cap',out=⟨.undef,.grow o' i.size len'⟩/\(Builtin.append_ #[t,t] ty #[.slice (some ⟨b,0,none⟩) len cap,u]).run P w=.ok cv w'/\bz w R w' R' bs/\aT w' R' N o' b' b1' ∧
   wj w (b::b1) (b'::b1')/\cv=.slice (some ⟨b',0,none⟩) len' cap'/\len'<=cap'/\(0 < i.size/\cap'<=gR)/\b' < w'.heap.size/\cap'*i.size=ev w' b':=by
 obtain⟨e,hu,hty⟩:=eZ hE hel;obtain⟨⟨ie,k1,k2,k3,k4,k5⟩,_⟩:=hE.ty e i hty;obtain⟨ds,rfl,hs0,hds,hbytes,hlim,hcl,hbl,rfl⟩:=nK hE h;obtain⟨_,hxr⟩:=dD hx;obtain⟨vs,el,sp,hblk,hr,hR,_⟩:=hobj;have hsz:=dh hblk;rw[hsz] at hrow;have hmul:len*i.size<=cap*i.size:=Nat.mul_le_mul_right _ hcap;have hsplit:cs++List.replicate sp ac.undef=cs.take (len*i.size)++(cs.drop (len*i.size)++List.replicate sp ac.undef):=by rw[←List.append_assoc,List.take_append_drop]
 rw[hsplit] at hr;obtain⟨olds,others,c1,c2,hvs,rfl,hr1,hr2⟩:=cU hr;have hol:olds.length=len*i.size:=by rw[hr1.length,List.length_take];omega
 have hnd1:=List.nodup_cons.1 hnd;have hbc:b∉c1:=fun hh=>hnd1.1 (by simp[hh])
 have hnc1:c1.Nodup:=(List.nodup_append.1 hnd1.2).1;have hfrom1:wj w (b::(c1++c2)) (b::c1):=⟨List.nodup_cons.2 ⟨hbc,hnc1⟩,fun c hc=>.inl (by simp at hc ⊢;rcases hc with h|h <;> simp[h])⟩;have holt:olds=vs.toList.take (len*i.size):=by rw[hvs,←hol];simp
 by_cases hne:ds=[]
 ·subst hne;have hu0:∃a' c,u=.slice a' 0 c:=by cases hxr with|nil a c=>exact⟨a,c,rfl⟩|slice b off cap s es vs=>exact⟨_,_,rfl⟩
  obtain⟨a',c,rfl⟩:=hu0;refine⟨_,_,_,w,R,b,c1,cap,rfl,xJ t ty e ie hu k1 (some ⟨b,0,none⟩) a' len cap c hcap,bi _,⟨vs,el,others.length,hblk,?_,hR,fun hb=>by rw[hbl] at hb;simp at hb⟩,hfrom1,by simp,by simpa using hcap,⟨hs0,hcm⟩,bw hblk,by rw[hsz];exact hrow⟩;rw[hvs];simpa using cD hr1 (eD (w:=w) (R:=R) (N:=N) others)
 obtain⟨b2,off2,cap2,news,rfl,_,hnr,hnc⟩:=mD hxr hne hds;have hnl:=cO hnr;rw[dF hds] at hnl;have hnews:∀(j:Nat) u,news[j]?=some u->w.cell? ((⟨b2,off2,none⟩:Addr).add j)=some u:=fun j u hj=>by rw[add_plain];exact (hnc j u hj).1
 have hdl:0 < ds.length:=by cases ds with|nil=>exact absurd rfl hne|cons _ _=>simp
 have h63:len+ds.length<=9223372036854775807:=by unfold lim at hlim;omega
 have hzc:∀(z:Array Value) (n:Nat),(Builtin.zeroCells z n).size=n*z.size:=fun z n=>size_zeroCells z n
 have hmul':(len+ds.length)*i.size=len*i.size+ds.length*i.size:=Nat.add_mul ..;have hdpos:0 < ds.length*i.size:=Nat.mul_pos hdl hs0
 by_cases hroom:len+ds.length<=cap
 ·have hmulr:(len+ds.length)*i.size<=cap*i.size:=Nat.mul_le_mul_right _ hroom;have hrun:=uY (P:=P) (w:=w) t ty e el ie hu k1 b len cap vs hblk ⟨b2,off2,none⟩ ds.length cap2 news (by rw[k2];exact hnl) hnews (vd hnr) hroom (by rw[k2,hnl];omega);rw[k2,←holt] at hrun;have hlen:(olds++news++vs.toList.drop (len*i.size+news.length)).length=vs.size:=by simp[hol];omega
  have hkeep:=fun bs hb=>jG (R:=R) (R':=R) hblk (olds++news++vs.toList.drop (len*i.size+news.length)).toArray (by simpa using hlen) (fun c x h=>h) (fun c x _ h=>h) (fun off hnR=>by
   have h1:vs.size<=off:=by
    rcases Nat.lt_or_ge off vs.size with h'|h'
    ·exact absurd (hR off h') hnR
    exact h'
   rw[Array.getElem?_eq_none h1,Array.getElem?_eq_none (by simp only[List.size_toArray];omega)]) ⟨0,hR 0 (by omega)⟩ bs hb
  have hblk':=setRow_heap w b vs (olds++news++vs.toList.drop (len*i.size+news.length)).toArray el (0,0) hblk;refine⟨_,_,_,_,R,b,c1,cap,rfl,hrun,hkeep bs hb,⟨_,el,(vs.toList.drop (len*i.size+news.length)).length,hblk',?_,fun j hj=>hR j (by simp only[List.size_toArray] at hj;omega),fun hb=>by rw[hbl] at hb;simp at hb⟩,hfrom1,rfl,hroom,⟨hs0,hcm⟩,bw hblk',?_⟩
  ·have q1:=hr1.keep (hkeep c1 hbc);have q2:=(jd (N:=N) hnr).keep (hkeep [] (by simp));have q3:=cD (cD q1 q2) (eD (w:=w.setRow b (olds++news++vs.toList.drop (len*i.size+news.length)).toArray) (R:=R) (N:=N) (vs.toList.drop (len*i.size+news.length)));simpa only[List.append_nil] using q3
  rw[dh hblk'];simp only[List.size_toArray];omega
 have holds:∀(j:Nat) z,olds[j]?=some z->w.cell? ((⟨b,0,none⟩:Addr).add j)=some z:=fun j z hj=>by
  rw[add_plain,cell_of_row w b (0+j) vs el (0,0) hblk,Nat.zero_add];have hj':vs.toList[j]?=some z:=by
   rw[hvs,List.getElem?_append_left]
   ·exact hj
   rcases Nat.lt_or_ge j olds.length with h'|h'
   ·exact h'
   rw[List.getElem?_eq_none h'] at hj;simp at hj
  simpa using hj'
 have hrun:=run_append_grow (P:=P) w t ty e ie i.zero hu k1 k4 ⟨b,0,none⟩ len cap olds (by rw[k2];exact hol) holds ⟨b2,off2,none⟩ ds.length cap2 news (by rw[k2];exact hnl) hnews (by omega) (by omega) (growslice_fits (by omega) (by rw[k3];exact hbytes));have hge:=grownCap_ge w (len+ds.length) cap e;have hrr:=cD hr1 (jd (N:=N) hnr);obtain⟨R',g1,g2,g3,g4⟩:=Ck (N:=N) (s:=i.size) (n:=len+ds.length) e hrr (by rw[List.length_append,hol,hnl];omega) hge (Builtin.zeroCells i.zero.cells (grownCap w (len+ds.length) cap e - (len+ds.length))) (by rw[hzc,k5]) hbl bs;refine⟨_,_,_,_,R',w.heap.size,c1,grownCap w (len+ds.length) cap e,rfl,?_,g1,by simpa using g2,⟨?_,?_⟩,rfl,hge,⟨hs0,Nat.le_trans (grownCap_le_maxLen w (len+ds.length) cap e h63) (by decide)⟩,g3,g4⟩
 ·simpa using hrun
 ·refine List.nodup_cons.2 ⟨fun hh=>?_,hnc1⟩
  have:=hr1.lt _ hh
  omega
 intro c hc
 rcases List.mem_cons.1 hc with rfl|hc
 ·exact .inr (Nat.le_refl _)
 exact .inl (by simp[hc])
theorem Nz (z:Array Value) (c:Nat) (hz:0 < z.size):(madeCells z ((c+1)*z.size)).toList=z.toList++(madeCells z (c*z.size)).toList:=by
 apply List.ext_getElem?
 intro k;have hget:∀n k:Nat,(madeCells z n).toList[k]?=if k < n then some (z[k % z.size]!) else none:=by
  intro n k;simp only[madeCells,Array.toList_map,List.getElem?_map,Array.toList_range]
  by_cases h:k < n
  ·rw[if_pos h,List.getElem?_range h];rfl
  rw[if_neg h,List.getElem?_eq_none (by simpa using h)];rfl
 rw[hget,List.getElem?_append,hget,Nat.add_mul,Nat.one_mul];simp only[Array.length_toList]
 by_cases h:k < z.size
 ·rw[if_pos h,if_pos (by omega),Nat.mod_eq_of_lt h];simp[h]
 rw[if_neg h]
 by_cases h2:k < c*z.size+z.size
 ·rw[if_pos h2,if_pos (by omega)];congr 2;exact (Nat.mod_eq_sub_mod (by omega))
 rw[if_neg h2,if_neg (by omega)]
theorem zr {zs:List ac} {z:Array Value} (hz:0 < z.size) (h:ak w R N zs z.toList []):∀c:Nat,ak w R N (K1 zs c) (madeCells z (c*z.size)).toList []
 | 0=>by
  have:(madeCells z (0*z.size)).toList=[]:=by simp[madeCells]
  rw[this];exact aX
 | c+1=>by
  rw[Nz z c hz];exact cD h (zr hz h c)
theorem xF (hE:E.Ok P) {t:TypeId} {a b:ac} {x y:Value} {out:Out} (h:sC E t [a,b]=some out) (ha:al w R N a x []) (hb:al w R N b y []) (bs:List Nat) :
  ∃o' len cv w' R' cap s,out=⟨.undef,.grow o' s len⟩/\(Instr.makeSlice t x y).run P w=.ok cv w'/\bz w R w' R' bs/\aT w' R' N o' w.heap.size [] ∧
   cv=.slice (some ⟨w.heap.size,0,none⟩) len cap/\len<=cap/\(0 < s/\cap<=gR)/\w.heap.size < w'.heap.size/\cap*s=ev w' w.heap.size:=by
 unfold sC at h
 split at h
 ·rename_i k1 l k2 c heq;simp at heq;obtain⟨rfl,rfl⟩:=heq;obtain⟨_,rfl,_⟩:=aI ha;obtain⟨_,rfl,_⟩:=aI hb
  split at h
  ·rename_i i l c hel _ _
   split at h
   ·rename_i hc;simp only[Bool.and_eq_true,Nat.ble_eq,Nat.blt_eq] at hc;obtain⟨⟨⟨⟨⟨h1,h2⟩,h3⟩,h4⟩,h5⟩,h6⟩:=hc;simp at h;subst h;obtain⟨e,hu,hty⟩:=eZ hE hel;obtain⟨⟨ie,k1,k2,k3,k4,k5⟩,_⟩:=hE.ty e i hty;have hb':(ie.bytes:Int)*(c:Int)<=281474976710656:=by
     have h:((ie.bytes*c:Nat):Int)<=281474976710656:=by rw[k3];omega
     rwa [Int.natCast_mul] at h
    have hrun:=fun q1 q2=>run_make (P:=P) w t e ie i.zero hu k1 k4 q1 q2 (l:Int) (c:Int) (by omega) (by omega) hb' (by unfold lim at h3;omega)
    simp only[Int.toNat_natCast] at hrun
    let R':Own:=fun b off=>b=w.heap.size∨R b off
    have hst:∀b off,b < w.heap.size->(R' b off↔R b off):=fun b off hb=>⟨fun h=>by rcases h with h|h;exact absurd h (by omega);exact h,fun h=>.inr h⟩
    have hk:=fun bs=>fD (w:=w) (R:=R) (.cells (madeCells i.zero.cells (c*ie.size)) e) hst bs
    have hh:(w.alloc (.cells (madeCells i.zero.cells (c*ie.size)) e)).heap[w.heap.size]?=some (.cells (madeCells i.zero.cells (c*ie.size)) e (0,0)):=heap_alloc_new w _;have hz:=(ia (gq (w:=w) (R:=R) (N:=N) i.zero) h5).keep (hk []);refine⟨_,l,_,_,R',c,i.size,rfl,hrun _ _,hk bs,⟨_,e,0,hh,?_,fun j _=>.inl rfl,fun hb=>by rw[hb] at h6;simp at h6⟩,rfl,h1,⟨h4,by unfold lim at h3;unfold gR;omega⟩,bw hh,?_⟩
    ·have hsz:c*ie.size=c*i.zero.cells.size:=by rw[k2,k5]
     have:=zr (by rw[k5];exact h4) hz c
     rw[←hsz] at this;simpa using this
    rw[dh hh,size_madeCells,k2]
   simp at h
  simp at h
 simp at h
theorem ct {s:Sem Value} {cv:Value} {w':World} (h:s.run P w=.ok cv w'):(do pure (Next.value (←s)):Sem Next).run P w=.ok (.value cv) w':=by
 simp[h]
theorem zb {s:Sem Unit} {w':World} (h:s.run P w=.ok () w'):(do s;pure Next.skip:Sem Next).run P w=.ok .skip w':=by
 simp[h]
end
end Go.Tp
namespace Go.Tp
section
variable {P:Program} {E:bG} {w:World} {R:Own} {N:Name->Option Nat}
theorem dw {vals:List ac} {x:Value} {bs:List Nat} (h:ak w R N vals [x] bs):∃a,vals=[a]/\al w R N a x bs:=by
 cases vals with
 | nil=>simp[ak] at h
 | cons a vals=>
  obtain⟨v,vs',b1,b2,e1,rfl,h1,h2⟩:=az h;simp at e1;obtain⟨rfl,rfl⟩:=e1
  cases vals with
  | nil=>obtain⟨_,rfl⟩:=aS h2;exact⟨a,rfl,by simpa using h1⟩
  | cons _ _=>simp[ak] at h2
theorem eA {vals:List ac} {x y:Value} {bs:List Nat} (h:ak w R N vals [x,y] bs):∃a b b1 b2,vals=[a,b]/\bs=b1++b2/\al w R N a x b1/\al w R N b y b2:=by
 cases vals with
 | nil=>simp[ak] at h
 | cons a vals=>
  obtain⟨v,vs',b1,b2,e1,rfl,h1,h2⟩:=az h;simp at e1;obtain⟨rfl,rfl⟩:=e1;obtain⟨b,rfl,h3⟩:=dw h2;exact⟨a,b,b1,b2,rfl,rfl,h1,h3⟩
theorem oT {vals:List ac} {x y z:Value} {bs:List Nat} (h:ak w R N vals [x,y,z] bs) :
  ∃a b c b1 b2 b3,vals=[a,b,c]/\bs=b1++(b2++b3)/\al w R N a x b1/\al w R N b y b2/\al w R N c z b3:=by
 cases vals with
 | nil=>simp[ak] at h
 | cons a vals=>
  obtain⟨v,vs',b1,b2,e1,rfl,h1,h2⟩:=az h;simp at e1;obtain⟨rfl,rfl⟩:=e1;obtain⟨b,c,c1,c2,rfl,rfl,h3,h4⟩:=eA h2;exact⟨a,b,c,b1,c1,c2,rfl,rfl,h1,h3,h4⟩
theorem fH {a b:List Nat} (h:a++b=[]):a=[]/\b=[]:=List.append_eq_nil_iff.1 h
def ez (w:World) (R:Own) (N:Name->Option Nat) (o:Op) (vals:List ac) (ob:Option aR) (nm:Option (Nat×List Nat)):Prop:=
 match looks o vals with
 | none=>ob=none/\nm=none
 | some n=>(ob=none/\nm=none)∨∃b b1 obj,ob=some obj/\nm=some (b,b1)/\N n=some b/\aT w R N obj b b1
abbrev Zh (P:Program) (w:World) (ρ:Operand->Value) (o:Oper) (cv:Value) (w':World):Prop:=
 (execOp ρ o).run P w=.ok (.value cv) w'∨((execOp ρ o).run P w=.ok .skip w'/\cv=undef)
theorem Aj {args:Array Operand} {tys:Array TypeId} {a x:ac} {ob:Option aR} {nm:Option (Nat×List Nat)} (h:ez w R N (.call ⟨.builtin .append,args,tys⟩) [a,x] ob nm) :
  ez w R N (.call ⟨.builtin .append,args,tys⟩) [DO a,nz x] ob nm:=by
 have e:looks (.call ⟨.builtin .append,args,tys⟩) [a,x]=looks (.call ⟨.builtin .append,args,tys⟩) [DO a,nz x]:=by
  unfold DO
  split
  ·rfl
  cases a <;> rfl
 unfold ez at h ⊢;rw[←e];exact h
theorem bn {o:Op} {vals:List ac} {ob:Option aR} {nm:Option (Nat×List Nat)} (h:ez w R N o vals ob nm) (hl:looks o vals=none):ob=none/\nm=none:=by
 unfold ez at h;rw[hl] at h;exact h
theorem fu {o:Op} {vals:List ac} {ob:Option aR} {nm:Option (Nat×List Nat)} {n:Name} {obj:aR} (h:ez w R N o vals ob nm) (hl:looks o vals=some n) (ho:ob=some obj) :
  ∃b b1,nm=some (b,b1)/\N n=some b/\aT w R N obj b b1:=by
 unfold ez at h;rw[hl] at h
 rcases h with⟨h,_⟩|⟨b,b1,obj',h1,h2,h3,h4⟩
 ·rw[ho] at h;simp at h
 rw[ho] at h1;simp at h1;subst h1;exact⟨b,b1,h2,h3,h4⟩
theorem mZ (hE:E.Ok P) {take:Bool} {o:Oper} {ρ:Operand->Value} {vals:List ac} {ob:Option aR} {nm:Option (Nat×List Nat)} {out:Out} (h:jE E take o.op vals ob=some out)
  {bsM rest:List Nat} (hv:ak w R N vals ((opsL o.op).map ρ) bsM) (hmv:LG o.op=none->bsM=[]) (hlk:ez w R N o.op vals ob nm) (hnd:(bsM++(tA nm++rest)).Nodup)
  (hc:∀v,ρ (.const v)=v) :
  ∃cv w' R',Zh P w ρ o cv w'/\MD w R N ob nm bsM rest out cv w' R':=by
 obtain⟨dst,op,type,pos,after,guard⟩:=o;have hndM:bsM.Nodup:=(List.nodup_append.1 hnd).1
 cases op with
 | move x=>
  obtain⟨a,rfl,ha⟩:=dw hv;simp only[jE,Dp,Option.some.injEq] at h;subst h;obtain⟨rfl,rfl⟩:=bn hlk rfl;exact⟨ρ x,w,R,.inl rfl,.pure rfl ha (.adZ hndM) (by simp)⟩
 | assign x=>
  obtain⟨a,rfl,ha⟩:=dw hv;simp only[jE,Dp,Option.some.injEq] at h;subst h;obtain⟨rfl,rfl⟩:=bn hlk rfl;exact⟨ρ x,w,R,.inl rfl,.pure rfl ha (.adZ hndM) (by simp)⟩
 | pick c x y=>
  obtain rfl:=hmv rfl;obtain⟨a,b,d,b1,b2,b3,rfl,e,ha,hb,hd⟩:=oT hv;obtain⟨rfl,e'⟩:=fH e.symm;obtain⟨rfl,rfl⟩:=fH e';obtain⟨rfl,rfl⟩:=bn hlk rfl;simp only[jE,Zg] at h
  split at h
  ·rename_i cb a' b' heq;simp at heq;obtain⟨rfl,rfl,rfl⟩:=heq;simp at h;subst h;obtain⟨_,e,_⟩:=aI ha;refine⟨if cb then ρ x else ρ y,w,R,.inl ?_,.pure (bsV:=[]) rfl ?_ .nil (by simp)⟩
   ·simp[execOp,e,asBool]
   cases cb
   ·simpa using hd
   simpa using hb
  simp at h
 | binOp bo t x y ty=>
  obtain rfl:=hmv rfl;obtain⟨a,b,b1,b2,rfl,e,ha,hb⟩:=eA hv;obtain⟨rfl,rfl⟩:=fH e.symm;obtain⟨rfl,rfl⟩:=bn hlk rfl;simp only[jE] at h
  split at h
  ·rename_i hy;unfold Ay at hy
   split at hy
   ·obtain⟨he,cv,h1,h2⟩:=yU (w:=w) hE h ha x (.const (.slice none 0 0));rw[←hc (.slice none 0 0)] at h1;exact⟨cv,w,R,.inl (ct h1),.pure he h2 .nil (by simp)⟩
   simp at hy
  obtain⟨he,cv,h1,h2⟩:=M0 (w:=w) hE h ha hb x y;exact⟨cv,w,R,.inl (ct h1),.pure he h2 .nil (by simp)⟩
 | unOp uo t x=>
  obtain rfl:=hmv rfl;obtain⟨a,rfl,ha⟩:=dw hv;obtain⟨rfl,rfl⟩:=bn hlk rfl;obtain⟨he,cv,h1,h2⟩:=PL (P:=P) (w:=w) hE h ha;exact⟨cv,w,R,.inl (ct h1),.pure he h2 .nil (by simp)⟩
 | convert s d x=>
  obtain rfl:=hmv rfl;obtain⟨a,rfl,ha⟩:=dw hv;obtain⟨rfl,rfl⟩:=bn hlk rfl;obtain⟨he,cv,h1,h2⟩:=BL (w:=w) hE h (lA ha);exact⟨cv,w,R,.inl (ct h1),.pure he h2 .nil (by simp)⟩
 | nilCheck x=>
  obtain rfl:=hmv rfl;obtain⟨a,rfl,ha⟩:=dw hv;obtain⟨rfl,rfl⟩:=bn hlk rfl;simp only[jE,afO] at h
  split at h
  ·rename_i n off heq;simp at heq;subst heq;simp at h;subst h;have ha':=ha;simp only[al] at ha';obtain⟨_,b,_,e⟩:=ha';refine⟨ρ x,w,R,.inl ?_,.pure rfl ha .nil (by simp)⟩;simp[execOp,e]
  ·rename_i cs heq;simp at heq;subst heq;simp at h;subst h;have ha':=ha;simp only[al] at ha';obtain⟨_,b,of,e,_⟩:=ha';refine⟨ρ x,w,R,.inl ?_,.pure rfl ha .nil (by simp)⟩;simp[execOp,e]
  simp at h
 | fieldAddr st x f=>
  obtain rfl:=hmv rfl;obtain⟨a,rfl,ha⟩:=dw hv;obtain⟨rfl,rfl⟩:=bn hlk rfl;obtain⟨he,cv,h1,h2⟩:=xH (w:=w) hE h ha;exact⟨cv,w,R,.inl (ct h1),.pure he h2 .nil (by simp)⟩
 | field st x f=>
  obtain rfl:=hmv rfl;obtain⟨a,rfl,ha⟩:=dw hv;obtain⟨rfl,rfl⟩:=bn hlk rfl;obtain⟨he,cv,h1,h2⟩:=FJ (w:=w) hE h ha;exact⟨cv,w,R,.inl (ct h1),.pure he h2 .nil (by simp)⟩
 | indexAddr t x y=>
  obtain rfl:=hmv rfl;obtain⟨a,b,b1,b2,rfl,e,ha,hb⟩:=eA hv;obtain⟨rfl,rfl⟩:=fH e.symm;obtain⟨rfl,rfl⟩:=bn hlk rfl;obtain⟨he,cv,h1,h2⟩:=xG (w:=w) hE h (lA ha) (lA hb);exact⟨cv,w,R,.inl (ct h1),.pure he h2 .nil (by simp)⟩
 | index t x y=>
  obtain rfl:=hmv rfl;obtain⟨a,b,b1,b2,rfl,e,ha,hb⟩:=eA hv;obtain⟨rfl,rfl⟩:=fH e.symm;obtain⟨rfl,rfl⟩:=bn hlk rfl;obtain⟨he,cv,h1,h2⟩:=FI (w:=w) hE h ha hb;exact⟨cv,w,R,.inl (ct h1),.pure he h2 .nil (by simp)⟩
 | slice t x lo hi mx=>
  obtain rfl:=hmv rfl;simp only[opsL,List.map_cons] at hv
  cases vals with
  | nil=>simp[ak] at hv
  | cons a vals=>
   obtain⟨v,vs',b1,b2,e1,e2,h1,h2⟩:=az hv;simp at e1;obtain⟨rfl,e1⟩:=e1;obtain⟨rfl,rfl⟩:=fH e2.symm;obtain⟨rfl,rfl⟩:=bn hlk rfl;rw[←e1] at h2;obtain⟨he,rfl,cv,k1,k2⟩:=FH (ρ:=ρ) (w:=w) hE h (lA h1) (FZ (by simpa using h2));exact⟨cv,w,R,.inl (ct k1),.pure he k2 .nil (by simp)⟩
 | build t ps=>
  obtain rfl:=hmv rfl;obtain⟨rfl,rfl⟩:=bn hlk rfl;obtain⟨he,cv,h1,h2⟩:=FK (w:=w) hE h hv;exact⟨cv,w,R,.inl (ct h1),.pure he h2 .nil (by simp)⟩
 | buildSlice t len ps=>
  obtain rfl:=hmv rfl;obtain⟨rfl,rfl⟩:=bn hlk rfl;simp only[jE] at h
  split at h
  ·obtain⟨o',s,w',R',rfl,h1,h2,h3,h4,h5,h6⟩:=yZ (w:=w) hE h hv rest;refine⟨_,w',R',.inl (ct h1),h2,?_⟩;dsimp only
   cases Nat.beq len 1 with
   | true=>exact⟨rfl,[],h3,⟨by simp,by simp⟩,h5,len,rfl,Nat.le_refl _,h4,h6⟩
   | false=>exact⟨w.heap.size,[],len,h3,⟨by simp,by simp⟩,rfl,Nat.le_refl _,h4,h5,h6⟩
  obtain⟨he,cv,w',R',h1,h2,h3⟩:=uU (w:=w) hE h hv rest;refine⟨cv,w',R',.inl (ct h1),h2,?_⟩;rw[he];exact⟨_,h3,⟨by simp,by simp⟩,by simp⟩
 | makeFunc f first captured=>
  obtain rfl:=hmv rfl;obtain⟨rfl,rfl⟩:=bn hlk rfl;simp only[opsL,List.map_append] at hv;have hlen:first.size=(first.toList.map ρ).length:=by simp
  simp only[jE,hlen] at h;obtain⟨he,cv,h1,h2⟩:=yV (P:=P) (w:=w) h hv;refine⟨cv,w,R,.inl ?_,.pure he h2 .nil (by simp)⟩;have e1:(first.toList.map ρ).toArray=first.map ρ:=by rw[←Array.toList_map]
  have e2:(captured.toList.map ρ).toArray=captured.map ρ:=by rw[←Array.toList_map]
  rw[e1,e2] at h1;exact ct h1
 | extract x i=>
  obtain⟨a,rfl,ha⟩:=dw hv;obtain⟨rfl,rfl⟩:=bn hlk rfl;obtain⟨he,cv,b',h1,h2,h3⟩:=BK (P:=P) (w:=w) h ha;exact⟨cv,w,R,.inl (ct h1),.pure he h2 ⟨h3.nodup hndM,fun b hb=>.inl (h3.subset hb)⟩ (by simp)⟩
 | load t x=>
  obtain rfl:=hmv rfl;obtain⟨a,rfl,ha⟩:=dw hv;simp only[jE,lg] at h
  split at h
  ·rename_i cs heq;simp at heq;subst heq;obtain⟨rfl,rfl⟩:=bn hlk rfl
   split at h
   ·rename_i i hty
    cases hl:kU i cs with
    | none=>simp[hl,wM] at h
    | some v=>
     simp[hl,wM] at h;subst h;simp only[al] at ha;obtain⟨_,b,off,e,hat⟩:=ha;obtain⟨cv,h1,h2⟩:=Eb (N:=N) hE hty hl hat;refine⟨cv,w,R,.inl ?_,.pure rfl h2 .nil (by simp)⟩
     have:(Instr.loadAt t (ρ x)).run P w=.ok cv w:=by rw[e];simp[Instr.loadAt,Instr.sureAddr,h1]
     exact ct this
   simp at h
  ·rename_i n off heq;simp at heq;subst heq;simp only[al] at ha;obtain⟨_,b,hb,e⟩:=ha
   split at h
   ·rename_i i cs hty;obtain⟨b',b1,rfl,hb',hobj⟩:=fu hlk rfl rfl;rw[hb] at hb';simp at hb';subst hb';have hobj':=hobj;obtain⟨vs,elem,sp,hblk,hr,hR⟩:=hobj';have plain:∀v,loadCells i off cs=some v->out=⟨v,.keep⟩->∃cv w' R',Zh P w ρ ⟨dst,.load t x,type,pos,after,guard⟩ cv w'/\MD w R N (some (.cells cs)) (some (b,b1)) [] rest out cv w' R':=by
     intro v hl ho;subst ho;obtain⟨cv,h1,h2⟩:=ni (N:=N) hE hty hblk hr (mb hl);rw[←e] at h1;refine⟨cv,w,R,.inl (ct h1),.pure rfl h2 .nil ?_⟩;intro b2 c1 o hnm ho;simp at hnm;obtain⟨rfl,rfl⟩:=hnm;simp at ho;subst ho;exact hobj
    split at h
    ·rename_i htk
     split at h
     ·rename_i es hes;simp at h;subst h;obtain⟨pre,bt,post,cv,f1,f2,f3,f4⟩:=ak.split hr (yu hes);have hag:i.isAgg=false:=by simp at htk;exact htk.2
      have hcell:w.cell? ⟨b,off,none⟩=some cv:=by
       rw[cell_of_row w b off vs elem (0,0) hblk];simpa using f2
      have h1:(Instr.loadAt t (ρ x)).run P w=.ok cv w:=by
       rw[e];simp[Instr.loadAt,Instr.sureAddr,loadVar,hE.kF hty,hag,hcell]
      refine⟨cv,w,R,.inl (ct h1),bi _,?_⟩;refine⟨b,b1,pre++[]++post,bt,rfl,?_,f3,?_⟩
      ·have hset:=f4 w R (.dat (.slice es)) cv [] (bi _) (bZ (d:=.slice es) (cA f3).rep);have e1:vs.toList.set off cv=vs.toList:=by
        apply List.ext_getElem?
        intro j;rw[List.getElem?_set]
        split
        ·rename_i hj;subst hj;split
         ·exact f2.symm
         rename_i hl;rw[List.getElem?_eq_none (by omega)]
        rfl
       have e2:dr off [ac.dat (.slice es)] cs=cs.set off (.dat (.slice es)):=by
        apply List.ext_getElem?
        intro j;rw[jJ,List.getElem?_set]
        by_cases hj:off=j
        ·subst hj
         by_cases hl:off < cs.length
         ·rw[if_pos ⟨Nat.le_refl _,by simp,hl⟩,if_pos rfl,if_pos hl];simp
         rw[if_neg (by omega),if_pos rfl,if_neg hl];exact List.getElem?_eq_none (by omega)
        rw[if_neg (by simp;omega),if_neg hj]
       rw[e1] at hset;rw[List.set_append_left (h:=(List.getElem?_eq_some_iff.1 hes).1)] at hset;exact⟨vs,elem,sp,hblk,by rw[e2];exact hset,hR.1,fun hb=>hR.2 (xv hes hb)⟩
      have hb1:b1.Nodup:=by
       have:=(List.nodup_append.1 hnd).2.1
       have:=(List.nodup_append.1 this).1
       simp[tA] at this;exact this.2
      subst f1
      constructor
      ·have hp:(bt++(pre++[]++post)).Perm (pre++bt++post):=by
        simp only[List.append_nil,←List.append_assoc];exact List.Perm.append_right _ List.perm_append_comm
       exact hp.nodup_iff.2 hb1
      intro c hc;left;simp at hc ⊢
      rcases hc with h|h|h <;> simp[h]
     cases hl:loadCells i off cs with
     | none=>simp[hl,wM] at h
     | some v=>simp[hl,wM] at h;exact plain v hl h.symm
    cases hl:loadCells i off cs with
    | none=>simp[hl,wM] at h
    | some v=>simp[hl,wM] at h;exact plain v hl h.symm
   simp at h
  simp at h
 | store t x y=>
  obtain⟨a,v,b1,b2,rfl,rfl,ha,hb⟩:=eA hv;have hcase:∃n off,a=.ptr n off:=by
   cases a <;> simp[jE,sB] at h
   exact⟨_,_,rfl⟩
  obtain⟨n,off,rfl⟩:=hcase;have hcs:∃cs,ob=some (.cells cs):=by
   simp only[jE,sB] at h
   split at h
   ·exact⟨_,rfl⟩
   simp at h
  obtain⟨cs,hob⟩:=hcs;obtain⟨b,c1,rfl,hN,hobj⟩:=fu hlk rfl hob;simp only[al] at ha;obtain⟨rfl,b',hb',e⟩:=ha;rw[hN] at hb';simp at hb';subst hb';subst hob;simp only[List.nil_append,tA] at hnd;have nd:=hnd;simp only[List.cons_append] at nd;have hbV:b∉b2:=fun hc=>(List.nodup_append.1 nd).2.2 b hc b (by simp) rfl
  have nd2:=(List.nodup_append.1 nd).2.1;have hbc:b∉c1++rest:=(List.nodup_cons.1 nd2).1;obtain⟨hval,cs',heff,w',pre,mid,post,h1,h2,h3,h4⟩:=FG (w:=w) (n:=n) hE h hobj hb rest (by simp at hbc;exact hbc.2) (by simp at hbc;exact hbc.1) hbV;rw[←e] at h1;refine⟨undef,w',R,.inr ⟨zb h1,rfl⟩,h2,?_⟩;rw[heff];refine⟨b,c1,pre++b2++post,[],rfl,h4,by rw[hval];exact aW _,?_⟩;subst h3
  constructor
  ·have nd3:(b2++(pre++mid++post)).Nodup:=by
    have h5:=(List.nodup_append.1 nd);refine List.nodup_append.2 ⟨h5.1,?_,?_⟩
    ·exact (List.nodup_append.1 (List.nodup_cons.1 nd2).2).1
    intro p hp q hq;exact h5.2.2 p hp q (by simp at hq ⊢;rcases hq with h|h|h <;> simp[h])
   have hsub:(b2++(pre++post)).Nodup:=by
    refine List.Nodup.sublist ?_ nd3;refine List.Sublist.append (.refl _) ?_;rw[List.append_assoc];exact List.Sublist.append (.refl _) (List.sublist_append_right _ _)
   have hp:([]++(pre++b2++post)).Perm (b2++(pre++post)):=by
    simp only[List.nil_append];rw[←List.append_assoc];exact List.Perm.append_right _ List.perm_append_comm
   exact hp.nodup_iff.2 hsub
  intro c hc;left;simp at hc ⊢
  rcases hc with h|h|h <;> simp[h]
 | alloc t=>
  obtain⟨rfl,rfl⟩:=bn hlk rfl;simp only[opsL,List.map_nil] at hv
  cases vals with
  | cons _ _=>simp[ak] at hv
  | nil=>
   obtain⟨_,rfl⟩:=aS hv;simp only[jE,KO] at h
   split at h
   ·rename_i i hty
    split at h
    ·rename_i hok;simp at h;subst h;have hz:=ia (gq (w:=w) (R:=R) (N:=N) i.zero) hok.1;obtain⟨k1,k2⟩:=CG hz t (fun hb=>by have:=hok.2;rw[hb] at this;exact Nat.eq_of_beq_eq_true (by simpa using this)) rest;refine⟨.pointer (some ⟨w.heap.size,0,none⟩),_,_,.inl ?_,k1,rfl,_,k2,⟨List.nodup_nil,by simp⟩,by simp,rfl⟩
     have:(Instr.alloc t true (.tuple #[])).run P w=.ok (.pointer (some ⟨w.heap.size,0,none⟩)) (w.alloc (.cells i.zero.cells t)):=by
      simp[Instr.alloc,hE.zk hty,newVar,newRow]
     exact ct this
    simp at h
   simp at h
 | box t x=>
  obtain⟨a,rfl,ha⟩:=dw hv;obtain⟨rfl,rfl⟩:=bn hlk rfl;simp only[jE,Yl] at h
  split at h
  ·rename_i hok;simp at h;subst h;have hc:=ia ha hok.1;obtain⟨k1,k2⟩:=CG hc t (fun hb=>by have:=hok.2;rw[hb] at this;simp at this) rest;refine⟨.pointer (some ⟨w.heap.size,0,none⟩),_,_,.inl ?_,k1,rfl,_,k2,⟨hndM,fun _ h=>h⟩,by simp,rfl⟩
   have:(Instr.box t (ρ x)).run P w=.ok (.pointer (some ⟨w.heap.size,0,none⟩)) (w.alloc (.cells (ρ x).cells t)):=by
    simp[Instr.box,newVar,newRow]
   exact ct this
  simp at h
 | makeMap t r=>
  obtain⟨rfl,rfl⟩:=bn hlk rfl;simp only[opsL,List.map_nil] at hv
  cases vals with
  | cons _ _=>simp[ak] at hv
  | nil=>
   obtain⟨_,rfl⟩:=aS hv;simp only[jE,Ie,Dq] at h
   cases r with
   | some _=>split at h <;> simp at h
   | none=>
    have hrun:(Instr.makeMap t none).run P w=.ok (.map (some w.heap.size)) (w.alloc (.map #[] 0)):=by
     simp[Instr.makeMap]
    obtain⟨k1,k2⟩:=VS (w:=w) (R:=R) (N:=N) rest
    split at h
    ·simp at h;subst h;exact⟨.map (some w.heap.size),_,_,.inl (ct hrun),k1,rfl,_,k2,⟨List.nodup_nil,by simp⟩,by simp,rfl⟩
    simp at h;subst h;exact⟨.map (some w.heap.size),_,_,.inl (ct hrun),k1,rfl,_,k2,⟨List.nodup_nil,by simp⟩,by simp,rfl⟩
 | lookup t x y ok=>
  obtain rfl:=hmv rfl;obtain⟨a,b,b1,b2,rfl,e,ha,hb⟩:=eA hv;obtain⟨rfl,rfl⟩:=fH e.symm;have hob:∀n es,a=.map n->ob=some (.map es)->∃bl ents clock,ρ x=.map (some bl)/\w.heap[bl]?=some (.map ents clock)/\de w R es ents.toList:=by
   intro n es hn ho;subst hn;obtain⟨bl,c1,_,hN,hobj⟩:=fu hlk rfl ho;simp only[al] at ha;obtain⟨_,b',hb',e⟩:=ha;rw[hN] at hb';simp at hb';subst hb';obtain⟨_,_,ents,clock,hblk,hr,_⟩:=hobj;exact⟨bl,ents,clock,e,hblk,hr⟩
  obtain⟨he,cv,h1,h2⟩:=DA (w:=w) hE h hb ha hob;refine⟨cv,w,R,.inl (ct h1),.pure he h2 .nil ?_⟩;intro bl c1 obj hnm ho;unfold ez at hlk
  split at hlk
  ·rw[hlk.2] at hnm;simp at hnm
  rcases hlk with⟨_,h⟩|⟨b',c',obj',k1,k2,k3,k4⟩
  ·rw[h] at hnm;simp at hnm
  rw[k2] at hnm;simp at hnm;obtain⟨rfl,rfl⟩:=hnm;rw[k1] at ho;simp at ho;subst ho;exact k4
 | mapUpdate t x y z=>
  obtain rfl:=hmv rfl;obtain⟨a,b,d,b1,b2,b3,rfl,e,ha,hb,hd⟩:=oT hv;obtain⟨rfl,e'⟩:=fH e.symm;obtain⟨rfl,rfl⟩:=fH e';have hcase:∃n,a=.map n:=by
   simp only[jE,cL] at h
   split at h
   ·rename_i n k v heq;simp at heq;exact⟨n,heq.1⟩
   simp at h
  obtain⟨n,rfl⟩:=hcase;have hes:∃es,ob=some (.map es):=by
   simp only[jE,cL] at h
   split at h
   ·split at h
    ·exact⟨_,rfl⟩
    simp at h
   simp at h
  obtain⟨es,hob⟩:=hes;obtain⟨bl,c1,rfl,hN,hobj⟩:=fu hlk rfl hob;simp only[al] at ha;obtain⟨_,b',hb',e⟩:=ha;rw[hN] at hb';simp at hb';subst hb';subst hob;have hc1:c1=[]:=hobj.1;subst hc1;have hbr:bl∉rest:=by simp[tA] at hnd;exact hnd.1
  obtain⟨hval,es',heff,w',h1,h2,h3⟩:=ot (w:=w) (n:=n) hE h hobj hb hd rest hbr;rw[←e] at h1;refine⟨undef,w',R,.inr ⟨zb h1,rfl⟩,h2,?_⟩;rw[heff];exact⟨bl,[],[],[],rfl,h3,by rw[hval];exact aW _,by simp,by simp⟩
 | makeSlice t x y=>
  obtain rfl:=hmv rfl;obtain⟨a,b,b1,b2,rfl,e,ha,hb⟩:=eA hv;obtain⟨rfl,rfl⟩:=fH e.symm;obtain⟨rfl,rfl⟩:=bn hlk rfl;obtain⟨o',len,cv,w',R',cap,s,rfl,h1,h2,h3,rfl,h5,h6,h7,h8⟩:=xF (w:=w) hE h ha hb rest;exact⟨_,w',R',.inl (ct h1),h2,w.heap.size,[],cap,h3,⟨by simp,by simp⟩,rfl,h5,h6,h7,h8⟩
 | insert t x y z=>
  obtain rfl:=hmv rfl;obtain⟨a,b,d,b1,b2,b3,rfl,e,ha,hb,hd⟩:=oT hv;obtain⟨rfl,e'⟩:=fH e.symm;obtain⟨rfl,rfl⟩:=fH e';have hcase:∃n,a=.map n:=by
   simp only[jE,cL] at h
   split at h
   ·rename_i n k v heq;simp at heq;exact⟨n,heq.1⟩
   simp at h
  obtain⟨n,rfl⟩:=hcase;have hes:∃es,ob=some (.map es):=by
   simp only[jE,cL] at h
   split at h
   ·split at h
    ·exact⟨_,rfl⟩
    simp at h
   simp at h
  obtain⟨es,hob⟩:=hes;obtain⟨bl,c1,rfl,hN,hobj⟩:=fu hlk rfl hob;simp only[al] at ha;obtain⟨_,b',hb',e⟩:=ha;rw[hN] at hb';simp at hb';subst hb';subst hob;have hc1:c1=[]:=hobj.1;subst hc1;have hbr:bl∉rest:=by simp[tA] at hnd;exact hnd.1
  obtain⟨hval,es',heff,w',h1,h2,h3⟩:=ot (w:=w) (n:=n) hE h hobj hb hd rest hbr;rw[←e] at h1;refine⟨undef,w',R,.inr ⟨zb h1,rfl⟩,h2,?_⟩;rw[heff];exact⟨bl,[],[],[],rfl,h3,by rw[hval];exact aW _,by simp,by simp⟩
 | call c=>
  obtain⟨callee,args,argTypes⟩:=c
  cases callee with
  | value _=>simp[jE] at h
  | invoke _ _=>simp[jE] at h
  | builtin b=>
   simp only[jE,lj] at h;obtain⟨cbs,hex⟩:∃cs:Array Bool,(execOp ρ ⟨dst,.call ⟨.builtin b,args,argTypes⟩,type,pos,after,guard⟩).run P w=(builtin b argTypes type cs (args.map ρ)).run P w:=⟨_,rfl⟩;have hargs:args.map ρ=((args.toList).map ρ).toArray:=by rw[←Array.toList_map]
   split at h
   ·simp at h
   ·rename_i t ts hts;have hat:argTypes[0]?=some t:=by
     have:argTypes.toList[0]?=some t:=by rw[hts];simp
     simpa using this
    cases b with
    | len=>
     dsimp only at h;obtain rfl:=hmv rfl;have hsh:∃a x,vals=[a]/\args.toList.map ρ=[x]/\al w R N a x []:=by
      have hl:=hv.length;simp only[opsL] at hv hl
      cases vals with
      | nil=>simp[pW,UO] at h
      | cons a vals=>
       cases vals with
       | cons _ _=>simp[pW,UO] at h
       | nil=>
        cases hm:args.toList.map ρ with
        | nil=>rw[hm] at hl;simp at hl
        | cons x xs=>
         rw[hm] at hl hv;simp at hl;subst hl;obtain⟨a',e,ha⟩:=dw hv;simp at e;subst e;exact⟨a,x,rfl,rfl,ha⟩
     obtain⟨a,x,rfl,hx,ha⟩:=hsh;rw[hx] at hargs
     cases hlo:looks (.call ⟨.builtin .len,args,argTypes⟩) [a] with
     | none=>
      obtain⟨rfl,rfl⟩:=bn hlk hlo;obtain⟨he,cv,h1,h2⟩:=yW (ty:=type) (w:=w) hE hat h (lA ha);refine⟨cv,w,R,.inl ?_,.pure he h2 .nil (by simp)⟩;rw[hex,hargs];simp[builtin,h1]
     | some n=>
      have han:a=.map n:=by cases a <;> simp[looks] at hlo;subst hlo;rfl
      subst han;have hes:∃es,ob=some (.map es):=by
       simp only[UO,nz,pW] at h
       split at h
       ·exact⟨_,rfl⟩
       simp at h
      obtain⟨es,hob⟩:=hes;obtain⟨bl,c1,rfl,hN,hobj⟩:=fu hlk hlo hob;simp only[al] at ha;obtain⟨_,b',hb',e⟩:=ha;rw[hN] at hb';simp at hb';subst hb';subst hob;have hobj':=hobj;obtain⟨hc1,_,ents,clock,hblk,hr,_⟩:=hobj';subst hc1;obtain⟨he,cv,h1,h2⟩:=BJ (N:=N) (ty:=type) (w:=w) hE hat h hblk hr;refine⟨cv,w,R,.inl ?_,.pure he h2 .nil ?_⟩
      ·rw[hex,hargs,e];simp[builtin,h1]
      intro b2 c2 o hnm ho;simp at hnm ho;obtain⟨rfl,rfl⟩:=hnm;subst ho;exact hobj
    | append=>
     dsimp only at h
     split at h
     ·rename_i t1 t2 hts2
      split at h
      ·rename_i ht2;subst ht2;have hts3:argTypes=#[t2,t2]:=by
        apply Array.toList_inj.1
        have h12:=hts.symm.trans hts2;simp only[List.cons.injEq] at h12;rw[hts2,←h12.1]
       simp only[opsL] at hv;have hsh:∃a x,vals=[a,x]:=by
        match vals,h with
        | [],h=>simp[KJ,cJ] at h
        | [_],h=>simp[KJ,cJ] at h
        | [a,x],_=>exact⟨a,x,rfl⟩
        | _::_::_::_,h=>simp[KJ,cJ] at h
       obtain⟨a,x,rfl⟩:=hsh;have hl:=hv.length
       cases hm:args.toList.map ρ with
       | nil=>rw[hm] at hl;simp at hl
       | cons y ys=>
        cases ys with
        | nil=>rw[hm] at hl;simp at hl
        | cons z zs=>
         rw[hm] at hl hv hargs;simp at hl;subst hl;obtain⟨a',x',c1,c2,e0,rfl,ha,hx⟩:=eA hv;simp at e0;obtain⟨rfl,rfl⟩:=e0;have hlk:=Aj hlk;replace ha:=Cn ha;replace hx:=lA hx;simp only[KJ] at h;clear hv;generalize DO a=a at *;generalize nz x=x at *;have hran:∀{cv w'},(Builtin.append_ #[t2,t2] type #[y,z]).run P w=.ok cv w'->Zh P w ρ ⟨dst,.call ⟨.builtin .append,args,argTypes⟩,type,pos,after,guard⟩ cv w':=by
          intro cv w' h1;refine .inl ?_;rw[hex,hargs,hts3];simp[builtin,h1]
         unfold cJ at h
         split at h
         ·rename_i es x2 heq;simp at heq;obtain⟨rfl,rfl⟩:=heq;obtain⟨rfl,rfl⟩:=bn hlk rfl
          split at h
          ·rename_i i hel
           split at h
           ·rename_i hc;simp only[Bool.and_eq_true,List.isEmpty_iff] at hc;obtain⟨⟨_,rfl⟩,hmo⟩:=hc;have hc2:c2=[]:=by
             unfold Az at hmo
             split at hmo
             ·exact (cE hx).1
             simp at hmo
            subst hc2;have hb:∃base,y=.slice base 0 0/\(base=none∨∃b,base=some ⟨b,0,none⟩):=by
             rcases kQ (cA ha) with⟨rfl,_,_⟩|⟨b,cap,s,vs,t',rfl,_,_,_,_,_,he,_⟩
             ·exact⟨_,rfl,.inl rfl⟩
             have:=he rfl
             subst this;exact⟨_,rfl,.inr ⟨b,rfl⟩⟩
            obtain⟨base,rfl,hbase⟩:=hb;obtain⟨o',len,cv,w',R',cap,rfl,h1,h2,h3,rfl,h5,h6,h7,h8⟩:=yY (ty:=type) (w:=w) hE hel h hmo hx hbase rest;exact⟨_,w',R',hran h1,h2,w.heap.size,[],cap,h3,⟨by simp,by simp⟩,rfl,h5,h6,h7,h8⟩
           ·split at h
            ·rename_i r hap
             split at h
             rotate_left
             ·simp at h
             rename_i hbo;simp at h;subst h;have hc2:c2=[]:=by
              obtain⟨ds,rfl,_⟩:=jD (by rw[hE.mz] at hap;exact hap);exact (cE hx).1
             subst hc2;simp only[List.append_nil,tA,List.nil_append] at hnd;obtain⟨cv,w',R',bsV,h1,h2,h3,h4,h5⟩:=DC (ty:=type) (w:=w) hE hel hap hbo ha hx rest (fun b hb hr=>(List.nodup_append.1 hnd).2.2 b hb b hr rfl);exact⟨cv,w',R',hran h1,h2,bsV,h3,⟨h4,by simpa using h5⟩,by simp,.inl rfl⟩
            simp at h
          simp at h
         ·rename_i n s off len x2 heq;simp at heq;obtain⟨rfl,rfl⟩:=heq
          split at h
          ·rename_i i cs hel hob'
           split at h
           ·rename_i hc;simp only[Bool.and_eq_true,Nat.beq_eq] at hc;obtain⟨⟨_,rfl⟩,rfl⟩:=hc;obtain⟨bl,b1,rfl,hN,hobj⟩:=fu (n:=n) (obj:=.cells cs) hlk rfl (by first|rfl|assumption);simp only[al] at ha;obtain⟨rfl,b',cap,hb',rfl,hcap,hs0,_,hsz⟩:=ha;rw[hN] at hb';simp at hb';subst hb';have hc2:c2=[]:=by
             obtain⟨ds,rfl,_⟩:=nK hE h;exact (cE hx).1
            subst hc2;have hnd':((bl::b1)++rest).Nodup:=by simpa [tA] using hnd
            have hd:=List.nodup_append.1 hnd';obtain⟨o',len',cv,w',R',b',b1',cap',rfl,h1,h2,h3,hf,rfl,h5,h6,h7,h8⟩:=yX (ty:=type) (w:=w) hE hel h hx hobj hcap hs0.2 (by simpa using hsz) hd.1 rest (fun hh=>hd.2.2 bl (by simp) bl hh rfl);exact⟨_,w',R',hran h1,h2,b',b1',cap',h3,by simpa [tA] using hf,rfl,h5,h6,h7,h8⟩
           simp at h
          simp at h
         simp at h
      have hts3:argTypes=#[t,t2]:=by
       apply Array.toList_inj.1
       have h12:=hts.symm.trans hts2;simp only[List.cons.injEq] at h12;rw[hts2,←h12.1]
      simp only[opsL] at hv;have hsh:∃a x,vals=[a,x]:=by
       match vals,h with
       | [],h=>simp[KJ,dx] at h
       | [_],h=>simp[KJ,dx] at h
       | [a,x],_=>exact⟨a,x,rfl⟩
       | _::_::_::_,h=>simp[KJ,dx] at h
      obtain⟨a,x,rfl⟩:=hsh;simp only[KJ] at h;obtain⟨es,s,ha0,hx0⟩:∃es s,DO a=.own es/\nz x=.dat (.flat (.string s)):=by
       unfold dx at h
       split at h
       ·rename_i heq;simp at heq;exact⟨_,_,heq.1,heq.2⟩
       simp at h
      rw[ha0,hx0] at h;have hl:=hv.length
      cases hm:args.toList.map ρ with
      | nil=>rw[hm] at hl;simp at hl
      | cons y ys=>
       cases ys with
       | nil=>rw[hm] at hl;simp at hl
       | cons z zs=>
        rw[hm] at hl hv hargs;simp at hl;subst hl;obtain⟨a',x',c1,c2,e0,rfl,ha,hx⟩:=eA hv;simp at e0;obtain⟨rfl,rfl⟩:=e0;have hlk:=Aj hlk;replace ha:=Cn ha;replace hx:=lA hx;rw[ha0] at ha hlk;rw[hx0] at hx hlk;obtain⟨rfl,rfl⟩:=bn hlk rfl;have hc2:c2=[]:=(cE hx).1;subst hc2;simp only[List.append_nil,tA,List.nil_append] at hnd;obtain⟨cv,w',R',bsV,h1,h2,h3,h6,h4,h5⟩:=uV (ty:=type) (w:=w) hE h ha hx rest (fun b hb hr=>(List.nodup_append.1 hnd).2.2 b hb b hr rfl);refine⟨cv,w',R',.inl ?_,h2,?_⟩
        ·rw[hex,hargs,hts3];simp[builtin,h1]
        rw[h6];exact⟨bsV,h3,⟨h4,by simpa using h5⟩,by simp,.inl rfl⟩
     simp at h
    | max=>
     dsimp only at h;obtain rfl:=hmv rfl;obtain⟨rfl,rfl⟩:=bn hlk rfl;simp only[opsL] at hv;have hsh:∃a x,vals=[a,x]:=by
      unfold Yk at h
      split at h
      ·exact⟨_,_,rfl⟩
      simp at h
     obtain⟨a,x,rfl⟩:=hsh;have hl:=hv.length
     cases hm:args.toList.map ρ with
     | nil=>rw[hm] at hl;simp at hl
     | cons y ys=>
      cases ys with
      | nil=>rw[hm] at hl;simp at hl
      | cons z zs=>
       rw[hm] at hl hv;simp at hl;subst hl;obtain⟨a',x',c1,c2,e0,e,ha,hx⟩:=eA hv;simp at e0;obtain⟨rfl,rfl⟩:=e0;obtain⟨rfl,rfl⟩:=fH e.symm;obtain⟨he,cv,h1,h2⟩:=MZ (P:=P) (w:=w) hE h ha hx argTypes type;rw[hm] at hargs;refine⟨cv,w,R,.inl ?_,.pure he h2 .nil (by simp)⟩;rw[hex,hargs];simp[builtin,h1]
    | min=>
     dsimp only at h;obtain rfl:=hmv rfl;obtain⟨rfl,rfl⟩:=bn hlk rfl;simp only[opsL] at hv;have hsh:∃a x,vals=[a,x]:=by
      unfold Yj at h
      split at h
      ·exact⟨_,_,rfl⟩
      simp at h
     obtain⟨a,x,rfl⟩:=hsh;have hl:=hv.length
     cases hm:args.toList.map ρ with
     | nil=>rw[hm] at hl;simp at hl
     | cons y ys=>
      cases ys with
      | nil=>rw[hm] at hl;simp at hl
      | cons z zs=>
       rw[hm] at hl hv;simp at hl;subst hl;obtain⟨a',x',c1,c2,e0,e,ha,hx⟩:=eA hv;simp at e0;obtain⟨rfl,rfl⟩:=e0;obtain⟨rfl,rfl⟩:=fH e.symm;obtain⟨he,cv,h1,h2⟩:=MY (P:=P) (w:=w) hE h ha hx argTypes type;rw[hm] at hargs;refine⟨cv,w,R,.inl ?_,.pure he h2 .nil (by simp)⟩;rw[hex,hargs];simp[builtin,h1]
    | delete=>
     dsimp only at h;obtain rfl:=hmv rfl;simp only[opsL] at hv;have hsh:∃n x,vals=[.map n,x]:=by
      unfold lT at h
      split at h
      ·exact⟨_,_,rfl⟩
      simp at h
     obtain⟨n,x,rfl⟩:=hsh;have hl:=hv.length
     cases hm:args.toList.map ρ with
     | nil=>rw[hm] at hl;simp at hl
     | cons y ys=>
      cases ys with
      | nil=>rw[hm] at hl;simp at hl
      | cons z zs=>
       rw[hm] at hl hv;simp at hl;subst hl;obtain⟨a',x',c1,c2,e0,e,ha,hx⟩:=eA hv;simp at e0;obtain⟨rfl,rfl⟩:=e0;obtain⟨rfl,rfl⟩:=fH e.symm;have hes:∃es,ob=some (.map es):=by
        unfold lT at h
        split at h
        ·split at h
         ·exact⟨_,rfl⟩
         simp at h
        simp at h
       obtain⟨es,hob⟩:=hes;obtain⟨bl,d1,rfl,hN,hobj⟩:=fu hlk rfl hob;simp only[al] at ha;obtain⟨_,b',hb',e⟩:=ha;rw[hN] at hb';simp at hb';subst hb';subst hob;have hc1:d1=[]:=hobj.1;subst hc1;have hbr:bl∉rest:=by simp[tA] at hnd;exact hnd.1
       obtain⟨cv,w',h1,h2,h3,h4⟩:=DB (ty:=type) (w:=w) (n:=n) hE hat h hobj hx rest hbr;rw[hm,e] at hargs;refine⟨cv,w',R,.inl ?_,h2,?_⟩
       ·rw[hex,hargs];simp[builtin,h1]
       obtain⟨es',he,ho⟩:=h4;rw[he];exact⟨bl,[],[],[],rfl,ho,h3,by simp,by simp⟩
    | _=>simp at h
 | _=>simp[jE] at h
end
end Go.Tp
namespace Go.Tp
section
variable {P:Program} {E:bG} {G:bL} {w:World} {R:Own} {N N':Name->Option Nat}
mutual
theorem al.ext:∀{a:ac} {v:Value} {bs:List Nat},al w R N a v bs->(∀m b,N m=some b->N' m=some b)->al w R N' a v bs
 | .dat _,_,_,h,_=>by simp only[al] at h ⊢;exact h
 | .own _,_,_,h,_=>by simp only[al] at h ⊢;exact h
 | .ref _,_,_,h,_=>by simp only[al] at h ⊢;exact h
 | .ptr m _,_,_,h,hN=>by simp only[al] at h ⊢;obtain⟨h1,b,h2,h3⟩:=h;exact⟨h1,b,hN m b h2,h3⟩
 | .map m,_,_,h,hN=>by simp only[al] at h ⊢;obtain⟨h1,b,h2,h3⟩:=h;exact⟨h1,b,hN m b h2,h3⟩
 | .win m _ _ _,_,_,h,hN=>by simp only[al] at h ⊢;obtain⟨h1,b,cap,h2,h3⟩:=h;exact⟨h1,b,cap,hN m b h2,h3⟩
 | .fn _ x y,_,_,h,hN=>by
  simp only[al] at h ⊢;obtain⟨h1,vs,us,e,h2,h3⟩:=h;exact⟨h1,vs,us,e,ak.ext (as:=x) h2 hN,ak.ext (as:=y) h3 hN⟩
 | .agg cs,_,_,h,hN=>by simp only[al] at h ⊢;obtain⟨vs,e,h⟩:=h;exact⟨vs,e,ak.ext (as:=cs) h hN⟩
 | .tup cs,_,_,h,hN=>by simp only[al] at h ⊢;obtain⟨vs,e,h⟩:=h;exact⟨vs,e,ak.ext (as:=cs) h hN⟩
 | .undef,_,_,h,_=>by simp only[al] at h ⊢;exact h
theorem ak.ext:∀{as:List ac} {vs:List Value} {bs:List Nat},ak w R N as vs bs->(∀m b,N m=some b->N' m=some b)->ak w R N' as vs bs
 | [],_,_,h,_=>by simp only[ak] at h ⊢;exact h
 | a::as,_,_,h,hN=>by
  simp only[ak] at h ⊢;obtain⟨v,vs',b1,b2,e1,e2,h1,h2⟩:=h;exact⟨v,vs',b1,b2,e1,e2,al.ext (a:=a) h1 hN,ak.ext (as:=as) h2 hN⟩
end
theorem aT.ext {o:aR} {b:Nat} {bs:List Nat} (h:aT w R N o b bs) (hN:∀m b,N m=some b->N' m=some b):aT w R N' o b bs:=by
 cases o with
 | cells cs=>obtain⟨vs,e,sp,hb,hr,hR⟩:=h;exact⟨vs,e,sp,hb,hr.ext hN,hR⟩
 | map es=>exact h
theorem an.ext:∀{os:List (Name×aR)} {bs:List Nat},an w R N os bs->(∀m b,N m=some b->N' m=some b)->an w R N' os bs
 | [],_,h,_=>h
 |(_,_)::_,_,⟨b,b1,b2,e,hn,h1,h2⟩,hN=>⟨b,b1,b2,e,hN _ _ hn,h1.ext hN,an.ext h2 hN⟩
theorem an.pR:∀{os:List (Name×aR)} {bs:List Nat} (n:Name),an w R N os bs->∃bs',an w R N (ka n os) bs'/\bs'.Sublist bs
 | [],_,_,h=>⟨_,h,.refl _⟩
 |(m,o)::os,_,n,⟨b,b1,b2,e,hn,h1,h2⟩=>by
  subst e;obtain⟨bs',g1,g2⟩:=an.pR n h2;simp only[ka]
  split
  ·exact⟨bs',g1,g2.trans ((List.sublist_append_right b1 b2).cons _)⟩
  exact⟨b::(b1++bs'),⟨b,b1,bs',rfl,hn,h1,g1⟩,(List.Sublist.append (.refl _) g2).cons_cons _⟩
theorem an.qb:∀{os:List (Name×aR)} {bs:List Nat} {n:Name} {o:aR},an w R N os bs->eu n os=some o->
  ∃pre b b1 post,bs=pre++(b::b1)++post/\N n=some b/\aT w R N o b b1 ∧
   (∀(w':World) (R':Own) (o':aR) (b1':List Nat),bz w R w' R' (pre++post)->aT w' R' N o' b b1'->an w' R' N (iS n o' os) (pre++(b::b1')++post)) ∧
   ∃bs',an w R N (ka n os) bs'/\bs'.Sublist (pre++post)
 | [],_,_,_,_,h=>by simp[eu] at h
 |(m,x)::os,bs,n,o,h,hg=>by
  obtain⟨b,b1,b2,e,hN,h1,h2⟩:=h;simp only[eu] at hg;simp only[ka]
  split at hg
  ·rename_i hm;subst hm;simp at hg;subst hg;obtain⟨bs',g1,g2⟩:=an.pR m h2;refine⟨[],b,b1,b2,by simp[e],hN,h1,fun w' R' o' b1' k hr=>?_,bs',by simpa using g1,by simpa using g2⟩;simp only[iS,if_true];exact⟨b,b1',b2,by simp,hN,hr,h2.keep (k.sub (by simp))⟩
  rename_i hm;rw[if_neg hm];obtain⟨pre,c,c1,post,f1,f2,f3,f4,bs',f5,f6⟩:=an.qb h2 hg;refine⟨b::(b1++pre),c,c1,post,by simp[e,f1],f2,f3,fun w' R' o' b1' k hr=>?_,b::(b1++bs'),⟨b,b1,bs',rfl,hN,h1,f5⟩,?_⟩
  ·simp only[iS,if_neg hm];exact⟨b,b1,pre++(c::b1')++post,by simp,hN,h1.keep (k.sub (by intro y hy;simp at hy ⊢;rcases hy with h|h <;> simp[h])),
    f4 w' R' o' b1' (k.sub (by intro y hy;simp at hy ⊢;rcases hy with h|h <;> simp[h])) hr⟩
  simp only[List.cons_append,List.append_assoc];exact (List.Sublist.append (.refl _) f6).cons_cons _
theorem fE {bsM xs rest:List Nat} (h:(bsM++rest).Nodup) (hl:∀b∈rest,b < w.heap.size) (hf:wj w bsM xs):(xs++rest).Nodup:=by
 refine List.nodup_append.2 ⟨hf.1,(List.nodup_append.1 h).2.1,?_⟩;intro a ha b hb hab;subst hab
 rcases hf.2 a ha with h1|h1
 ·exact (List.nodup_append.1 h).2.2 a h1 a hb rfl
 have:=hl a hb;omega
theorem mE {as:List ac} {vs:List Value} {bs b X:List Nat} {a:ac} {v:Value} (d:Nat) (h:ak w R N as vs bs) (hv:al w R N a v b) (hnd:(b++(bs++X)).Nodup) :
  ∃bs',ak w R N (as.set d a) (vs.set d v) bs'/\(bs'++X).Nodup:=by
 cases hd:as[d]? with
 | none=>
  have hl:as.length<=d:=by simpa using hd
  have hl2:=h.length;rw[List.set_eq_of_length_le hl,List.set_eq_of_length_le (by omega)];exact⟨bs,h,(List.nodup_append.1 hnd).2.1⟩
 | some x=>
  obtain⟨pre,bt,post,u,e1,e2,e3,e4⟩:=ak.split h hd;refine⟨pre++b++post,e4 w R a v b (bi _) hv,?_⟩;subst e1;have hsub:(b++(pre++post++X)).Nodup:=by
   refine List.Nodup.sublist ?_ hnd;refine List.Sublist.append (.refl _) (List.Sublist.append ?_ (.refl _));rw[List.append_assoc];exact List.Sublist.append (.refl _) (List.sublist_append_right _ _)
  have hp:(pre++b++post++X).Perm (b++(pre++post++X)):=by
   simp only[←List.append_assoc];refine List.Perm.append_right _ (List.Perm.append_right _ ?_);exact List.perm_append_comm
  exact hp.nodup_iff.2 hsub
theorem gF (act:Act) (dst:Option Tmp) (v:Value):(act.put dst v).tmps.toList=(match dst with|some d=>act.tmps.toList.set d v|none=>act.tmps.toList)/\(act.put dst v).defers=act.defers:=by
 cases dst with
 | none=>exact⟨rfl,rfl⟩
 | some d=>exact⟨by simp[Act.put],rfl⟩
theorem fN {s:aa} {tmps:List Value} {bs b X:List Nat} {a:ac} {v:Value} (dst:Option Tmp) (h:ak w R N s.tmps tmps bs) (hv:al w R N a v b) (hnd:(b++(bs++X)).Nodup) :
  ∃bs',ak w R N (s.put dst a).tmps (match dst with|some d=>tmps.set d v|none=>tmps) bs'/\(bs'++X).Nodup:=by
 cases dst with
 | none=>exact⟨bs,h,(List.nodup_append.1 hnd).2.1⟩
 | some d=>exact mE d h hv hnd
theorem cZ (s:aa) (dst:Option Tmp) (a:ac):(s.put dst a).locs=s.locs/\(s.put dst a).heap=s.heap/\(s.put dst a).next=s.next:=by cases dst <;> exact⟨rfl,rfl,rfl⟩
theorem qy (s:aa) (mv:Option Nat) (xs:List Operand):(bR s mv xs).locs=s.locs/\(bR s mv xs).heap=s.heap/\(bR s mv xs).next=s.next:=by
 unfold bR;split
 ·exact⟨rfl,rfl,rfl⟩
 split <;> exact⟨rfl,rfl,rfl⟩
theorem vW:∀{os:List (Name×aR)} {n:Name} {o:aR},eu n os=some o->iS n o os=os
 | [],_,_,h=>by simp[eu] at h
 |(m,x)::os,n,o,h=>by
  simp only[eu] at h;simp only[iS]
  split at h
  ·rename_i hm;simp at h;subst h;simp[hm]
  rename_i hm;rw[if_neg hm,vW h]
theorem Cu (n:Name):∀(l:List ac),(dd n l).length=l.length
 | []=>rfl
 | _::l=>by simp[dd,Cu n l]
def bN (N:Name->Option Nat) (n:Name) (b:Nat):Name->Option Nat:=fun m=>if m=n then some b else N m
theorem nj {n:Name} {b':Nat} {o:aR} {b:Nat} {bs:List Nat} (h:aT w R N o b bs) (hm:∀cs,o=.cells cs->ba n cs=false):aT w R (bN N n b') o b bs:=by
 cases o with
 | cells cs=>
  obtain⟨vs,e,sp,hb,hr,hR⟩:=h;exact⟨vs,e,sp,hb,ak.other hr (by rw[BP];exact hm cs rfl) (fun m hm=>by simp[bN,hm]),hR⟩
 | map es=>exact h
structure Stepped (P:Program) (G:bL) (w:World) (R:Own) (N:Name->Option Nat) (act:Act) (bsF:List Nat) (o:Oper) (s':aa) (nx:Nat) (cv:Value) (w':World):Prop where
 ran:Zh P w act.eval o cv w'
 rel:∃R' N' bsT bsL bsH,df G w' R' N' (act.put o.dst cv).tmps.toList s' undef .undef [] bsT bsL bsH bsF/\bz w R w' R' bsF/\(∀k b,N (.out k)=some b->N' (.out k)=some b)/\∀i,o.dst≠some i->N' (.loc i)=N (.loc i)
 next:nx<=s'.next
theorem pM (hE:E.Ok P) {q take:Bool} {o:Oper} {s s':aa} (h:cX E G q take o s=some s') {act:Act} {bsT bsL bsH bsF:List Nat}
  (hr:df G w R N act.tmps.toList s undef .undef [] bsT bsL bsH bsF):∃cv w',Stepped P G w R N act bsF o s' s.next cv w':=by
 unfold cX at h;have hnd0:(bsT++(bsL++(bsH++bsF))).Nodup:=by simpa using hr.nodup
 obtain⟨bsM,bsT',ha,ht',hnd,hmv⟩:=qE hr.tmps hr.glob (kI q o.op) (opsL o.op) (bsL++(bsH++bsF)) hnd0;generalize hvals:aM G s (kI q o.op) 0 (opsL o.op)=vals at h ha;obtain⟨dl1,dl2,dl3⟩:=qy s (kI q o.op) (opsL o.op);generalize hs1:bR s (kI q o.op) (opsL o.op)=s1 at h ht' dl1 dl2 dl3;have hltT:=ht'.lt;have hltL:=hr.locs.lt;have hltH:=hr.heap.lt;have hltF:=hr.frame;have hltX:∀b∈bsL++(bsH++bsF),b < w.heap.size:=fun b hb=>by
  simp at hb
  rcases hb with h|h|h
  ·exact hltL b h
  ·exact hltH b h
  exact hltF b h
 split at h
 ·simp at h
 rename_i out hop
 -- the object that is looked at
 have hlook:∃nm rest,ez w R N o.op vals (bj s o.op vals) nm/\(bsM++(tA nm++rest)).Nodup/\(∀b∈rest,b < w.heap.size)/\(∀b∈bsF,b∈rest)/\(∀b∈bsT',b∈rest) ∧
   ((nm=none/\rest=bsT'++(bsL++(bsH++bsF))) ∨
    (∃i b b1 pre post obj,looks o.op vals=some (.loc i)/\bj s o.op vals=some obj/\nm=some (b,b1)/\bsL=pre++(b::b1)++post/\rest=bsT'++((pre++post)++(bsH++bsF))/\N (.loc i)=some b/\(∃bs',an w R N (ka (.loc i) s.locs) bs'/\bs'.Sublist (pre++post)) ∧
     ∀(w':World) (R':Own) (o':aR) (b1':List Nat),bz w R w' R' (pre++post)->aT w' R' N o' b b1'->an w' R' N (iS (.loc i) o' s.locs) (pre++(b::b1')++post)) ∨
    (∃k b b1 pre post obj,looks o.op vals=some (.out k)/\bj s o.op vals=some obj/\nm=some (b,b1)/\bsH=pre++(b::b1)++post/\rest=bsT'++(bsL++((pre++post)++bsF))/\N (.out k)=some b/\di obj=true/\(∃bs',an w R (outs N) (ka (.out k) s.heap) bs'/\bs'.Sublist (pre++post)) ∧
     ∀(w':World) (R':Own) (o':aR) (b1':List Nat),bz w R w' R' (pre++post)->aT w' R' (outs N) o' b b1'->an w' R' (outs N) (iS (.out k) o' s.heap) (pre++(b::b1')++post))):=by
  have plain:bj s o.op vals=none->∃nm rest,ez w R N o.op vals (bj s o.op vals) nm/\(bsM++(tA nm++rest)).Nodup/\(∀b∈rest,b < w.heap.size)/\(∀b∈bsF,b∈rest)/\(∀b∈bsT',b∈rest)/\(nm=none/\rest=bsT'++(bsL++(bsH++bsF))):=by
   intro hn;refine⟨none,bsT'++(bsL++(bsH++bsF)),?_,by simpa [tA] using hnd,?_,?_,?_,rfl,rfl⟩
   ·unfold ez
    split
    ·exact⟨hn,rfl⟩
    exact .inl ⟨hn,rfl⟩
   ·intro b hb
    rcases List.mem_append.1 hb with h|h
    ·exact hltT b h
    exact hltX b h
   ·intro b hb;simp[hb]
   intro b hb;simp[hb]
  cases hlo:bj s o.op vals with
  | none=>
   obtain⟨nm,rest,k1,k2,k3,k4,k5,k6⟩:=plain hlo;rw[hlo] at k1;exact⟨nm,rest,k1,k2,k3,k4,k5,.inl k6⟩
  | some obj=>
   have hlo':=hlo;unfold bj at hlo'
   split at hlo'
   ·rename_i n hn
    cases n with
    | loc i=>
     simp only[aa.obj] at hlo';obtain⟨pre,b,b1,post,e1,e2,e3,e4,e5⟩:=an.qb hr.locs hlo';refine⟨some (b,b1),bsT'++((pre++post)++(bsH++bsF)),?_,?_,?_,?_,?_,.inr (.inl ⟨i,b,b1,pre,post,obj,hn,rfl,rfl,e1,rfl,e2,e5,e4⟩)⟩
     ·unfold ez;rw[hn];exact .inr ⟨b,b1,obj,rfl,rfl,e2,e3⟩
     ·subst e1;have hp:(bsM++(tA (some (b,b1))++(bsT'++((pre++post)++(bsH++bsF))))).Perm (bsM++(bsT'++((pre++(b::b1)++post)++(bsH++bsF)))):=by rw[List.perm_iff_count];intro q;simp only[tA,List.count_append,List.count_cons];omega
      exact hp.nodup_iff.2 hnd
     ·intro c hc;subst e1;simp at hc
      rcases hc with h|h|h|h|h
      ·exact hltT c h
      ·exact hltL c (by simp[h])
      ·exact hltL c (by simp[h])
      ·exact hltH c h
      exact hltF c h
     ·intro c hc;simp[hc]
     intro c hc;simp[hc]
    | out k=>
     simp only[aa.obj] at hlo';obtain⟨pre,b,b1,post,e1,e2,e3,e4,e5⟩:=an.qb hr.heap hlo';have hno:di obj=true:=by
      cases obj with
      | cells cs=>obtain⟨vs,e,sp,hb,hrr,hR⟩:=e3;have:=hrr.cC;rw[ji] at this;exact this
      | map es=>rfl
     have e3':aT w R N obj b b1:=e3.ya hno (fun _=>rfl);refine⟨some (b,b1),bsT'++(bsL++((pre++post)++bsF)),?_,?_,?_,?_,?_,.inr (.inr ⟨k,b,b1,pre,post,obj,hn,rfl,rfl,e1,rfl,by simpa [outs] using e2,hno,e5,e4⟩)⟩
     ·unfold ez;rw[hn];exact .inr ⟨b,b1,obj,rfl,rfl,by simpa [outs] using e2,e3'⟩
     ·subst e1;have hp:(bsM++(tA (some (b,b1))++(bsT'++(bsL++((pre++post)++bsF))))).Perm (bsM++(bsT'++(bsL++((pre++(b::b1)++post)++bsF)))):=by rw[List.perm_iff_count];intro q;simp only[tA,List.count_append,List.count_cons];omega
      exact hp.nodup_iff.2 hnd
     ·intro c hc;subst e1;simp at hc
      rcases hc with h|h|h|h|h
      ·exact hltT c h
      ·exact hltL c h
      ·exact hltH c (by simp[h])
      ·exact hltH c (by simp[h])
      exact hltF c h
     ·intro c hc;simp[hc]
     intro c hc;simp[hc]
   simp at hlo'
 obtain⟨nm,rest,hlk,hndr,hlr,hFr,hTr,hwhich⟩:=hlook;obtain⟨cv,w',R',hran,hkeep,hout⟩:=mZ (rest:=rest) hE hop ha (fun h=>hmv (by unfold kI;split <;> simp[h])) hlk hndr (fun _=>rfl);have hglob:∀g cs,G g=some cs->dY w' R' g 0 cs:=fun g cs hg=>(hr.glob g cs hg).step hkeep.step
 have hkF:bz w R w' R' bsF:=hkeep.sub hFr;have hframe:∀b∈bsF,b < w'.heap.size:=fun b hb=>Nat.lt_of_lt_of_le (hltF b hb) hkeep.step.size
 have ht2:ak w' R' N s1.tmps act.tmps.toList bsT':=ht'.keep (hkeep.sub hTr);unfold dH at h;obtain⟨pa1,pa2⟩:=gF act o.dst cv
 cases heff:out.eff with
 | keep=>
  rw[heff] at h hout;simp at h;subst h;obtain⟨bsV,hv,hf,hobj,_⟩:=hout
  -- the objects as they were
  have hobjs:∃bsL' bsH',an w' R' N s.locs bsL'/\an w' R' (outs N) s.heap bsH'/\bsL'=bsL/\bsH'=bsH:=by
   rcases hwhich with⟨_,e⟩|⟨i,b,b1,pre,post,obj,h1,h2,h3,h4,h5,h6,_,h7⟩|⟨k,b,b1,pre,post,obj,h1,h2,h3,h4,h5,h6,h6',_,h7⟩
   ·subst e;exact⟨bsL,bsH,hr.locs.keep (hkeep.sub (by intro b hb;simp[hb])),hr.heap.keep (hkeep.sub (by intro b hb;simp[hb])),rfl,rfl⟩
   ·subst h5;have ho:=hobj b b1 obj h3 h2;have hL:=h7 w' R' obj b1 (hkeep.sub (by intro b hb;simp at hb ⊢;rcases hb with h|h <;> simp[h])) ho;unfold bj at h2;rw[h1] at h2;simp only[aa.obj] at h2;rw[vW h2] at hL;exact⟨_,bsH,hL,hr.heap.keep (hkeep.sub (by intro b hb;simp[hb])),h4.symm,rfl⟩
   subst h5;have ho:=hobj b b1 obj h3 h2;have hH:=h7 w' R' obj b1 (hkeep.sub (by intro b hb;simp at hb ⊢;rcases hb with h|h <;> simp[h])) (ho.ya h6' (fun _=>rfl));unfold bj at h2;rw[h1] at h2;simp only[aa.obj] at h2;rw[vW h2] at hH;exact⟨bsL,_,hr.locs.keep (hkeep.sub (by intro b hb;simp[hb])),hH,rfl,h4.symm⟩
  obtain⟨bsL',bsH',hL,hH,rfl,rfl⟩:=hobjs;have hndV:(bsV++(bsT'++(bsL'++(bsH'++bsF)))).Nodup:=by
   refine fE hnd ?_ hf;intro b hb
   rcases List.mem_append.1 hb with h|h
   ·exact hltT b h
   exact hltX b h
  obtain⟨bsT'',hp1,hp2⟩:=fN o.dst ht2 hv hndV;obtain⟨q1,q2,q3⟩:=cZ s1 o.dst out.val;refine⟨cv,w',hran,⟨R',N,bsT'',bsL',bsH',⟨aW _,?_,?_,?_,by simpa using hp2,?_,hglob,hframe⟩,hkF,fun _ _ h=>h,fun _ _=>rfl⟩,?_⟩
  ·rw[pa1];exact hp1
  ·rw[q1,dl1];exact hL
  ·rw[q2,dl2];exact hH
  ·rw[q3,dl3];exact hr.next
  rw[q3,dl3];exact Nat.le_refl _
 | set o'=>
  rw[heff] at h hout;obtain⟨b,b1,b1',bsV,hnm,hobj,hv,hf⟩:=hout
  rcases hwhich with⟨e,_⟩|⟨i,b0,c1,pre,post,obj,h1,h2,h3,h4,h5,h6,_,h7⟩|⟨k,b0,c1,pre,post,obj,h1,h2,h3,h4,h5,h6,h6',_,h7⟩
  ·rw[e] at hnm;simp at hnm
  ·rw[h3] at hnm;simp at hnm;obtain⟨rfl,rfl⟩:=hnm;rw[h1] at h;simp only[aa.setObj,Option.some.injEq] at h;subst h;subst h5;subst h3;have hL:=h7 w' R' o' b1' (hkeep.sub (by intro b hb;simp at hb ⊢;rcases hb with h|h <;> simp[h])) hobj;have hH:=hr.heap.keep (hkeep.sub (by intro b hb;simp[hb]))
   -- nodup
   have hnd2:((bsV++b1')++(b0::(bsT'++((pre++post)++(bsH++bsF))))).Nodup:=by
    refine fE (bsM:=bsM++c1) ?_ ?_ hf
    ·have hp:((bsM++c1)++(b0::(bsT'++((pre++post)++(bsH++bsF))))).Perm (bsM++(tA (some (b0,c1))++(bsT'++((pre++post)++(bsH++bsF))))):=by rw[List.perm_iff_count];intro q;simp only[tA,List.count_append,List.count_cons];omega
     exact hp.nodup_iff.2 hndr
    intro c hc
    rcases List.mem_cons.1 hc with rfl|hc
    ·exact hltL c (by rw[h4];simp)
    exact hlr c hc
   have hnd3:(bsV++(bsT'++((pre++(b0::b1')++post)++(bsH++bsF)))).Nodup:=by
    have hp:(bsV++(bsT'++((pre++(b0::b1')++post)++(bsH++bsF)))).Perm ((bsV++b1')++(b0::(bsT'++((pre++post)++(bsH++bsF))))):=by rw[List.perm_iff_count];intro q;simp only[List.count_append,List.count_cons];omega
    exact hp.nodup_iff.2 hnd2
   obtain⟨bsT'',hp1,hp2⟩:=fN o.dst ht2 hv hnd3;have e0:(({s1 with locs:=iS (.loc i) o' s1.locs }:aa).put o.dst out.val).tmps=(s1.put o.dst out.val).tmps:=by cases o.dst <;> rfl
   obtain⟨q1,q2,q3⟩:=cZ ({s1 with locs:=iS (.loc i) o' s1.locs }:aa) o.dst out.val;refine⟨cv,w',hran,⟨R',N,bsT'',pre++(b0::b1')++post,bsH,⟨aW _,?_,?_,?_,by simpa using hp2,?_,hglob,hframe⟩,hkF,fun _ _ h=>h,fun _ _=>rfl⟩,?_⟩
   ·rw[pa1,e0];exact hp1
   ·rw[q1];dsimp only;rw[dl1];exact hL
   ·rw[q2];dsimp only;rw[dl2];exact hH
   ·rw[q3];dsimp only;rw[dl3];exact hr.next
   rw[q3];exact Nat.le_of_eq dl3.symm
  rw[h3] at hnm;simp at hnm;obtain⟨rfl,rfl⟩:=hnm;rw[h1] at h;simp only[aa.setObj] at h
  split at h
  ·rename_i s2 hs2
   split at hs2
   ·rename_i hno;simp only[Option.some.injEq] at h hs2;subst h;subst hs2;subst h5;subst h3;have hH:=h7 w' R' o' b1' (hkeep.sub (by intro b hb;simp at hb ⊢;rcases hb with h|h <;> simp[h])) (hobj.ya hno (fun _=>rfl));have hL:=hr.locs.keep (hkeep.sub (by intro b hb;simp[hb]));have hnd2:((bsV++b1')++(b0::(bsT'++(bsL++((pre++post)++bsF))))).Nodup:=by
     refine fE (bsM:=bsM++c1) ?_ ?_ hf
     ·have hp:((bsM++c1)++(b0::(bsT'++(bsL++((pre++post)++bsF))))).Perm (bsM++(tA (some (b0,c1))++(bsT'++(bsL++((pre++post)++bsF))))):=by rw[List.perm_iff_count];intro q;simp only[tA,List.count_append,List.count_cons];omega
      exact hp.nodup_iff.2 hndr
     intro c hc
     rcases List.mem_cons.1 hc with rfl|hc
     ·exact hltH c (by rw[h4];simp)
     exact hlr c hc
    have hnd3:(bsV++(bsT'++(bsL++((pre++(b0::b1')++post)++bsF)))).Nodup:=by
     have hp:(bsV++(bsT'++(bsL++((pre++(b0::b1')++post)++bsF)))).Perm ((bsV++b1')++(b0::(bsT'++(bsL++((pre++post)++bsF))))):=by rw[List.perm_iff_count];intro q;simp only[List.count_append,List.count_cons];omega
     exact hp.nodup_iff.2 hnd2
    obtain⟨bsT'',hp1,hp2⟩:=fN o.dst ht2 hv hnd3;have e0:(({s1 with heap:=iS (.out k) o' s1.heap }:aa).put o.dst out.val).tmps=(s1.put o.dst out.val).tmps:=by cases o.dst <;> rfl
    obtain⟨q1,q2,q3⟩:=cZ ({s1 with heap:=iS (.out k) o' s1.heap }:aa) o.dst out.val;refine⟨cv,w',hran,⟨R',N,bsT'',bsL,pre++(b0::b1')++post,⟨aW _,?_,?_,?_,by simpa using hp2,?_,hglob,hframe⟩,hkF,fun _ _ h=>h,fun _ _=>rfl⟩,?_⟩
    ·rw[pa1,e0];exact hp1
    ·rw[q1];dsimp only;rw[dl1];exact hL
    ·rw[q2];dsimp only;rw[dl2];exact hH
    ·rw[q3];dsimp only;rw[dl3];exact hr.next
    rw[q3];exact Nat.le_of_eq dl3.symm
   simp at hs2
  simp at h
 | grow o' sz len=>
  rw[heff] at h hout;obtain⟨b',b1',cap,hobj,hf,rfl,hcap,hsz0,hlt',hrow⟩:=hout;have hN:∀m b,N m=some b->bN N (.out s.next) b' m=some b:=fun m b hm=>by
   simp only[bN];rw[if_neg]
   ·exact hm
   rintro rfl
   have:=hr.next _ _ hm
   omega
  have hfin:∀(locs' heap':List (Name×aR)) (bsL' bsH':List Nat),di o'=true->an w' R' N locs' bsL'->an w' R' (outs N) heap' bsH'->(∀c∈bsL'++bsH',c < w.heap.size)->(bsM++(tA nm++(bsT'++(bsL'++(bsH'++bsF))))).Nodup->
    s'=({s1 with locs:=locs',heap:=(.out s1.next,o')::heap',next:=s1.next+1 }:aa).put o.dst (.win (.out s1.next) sz 0 len)->
    ∃cv w',Stepped P G w R N act bsF o s' s.next cv w':=by
   intro locs' heap' bsL' bsH' hno hL hH hltLH hndx hs';have hwin:al w' R' (bN N (.out s.next) b') (.win (.out s.next) sz 0 len) (.slice (some ⟨b',0,none⟩) len cap) []:=by
    simp only[al];exact⟨trivial,b',cap,by simp[bN],rfl,hcap,hsz0,hlt',by rw[Nat.zero_add];exact hrow⟩
   have hob:aT w' R' (outs (bN N (.out s.next) b')) o' b' b1':=(hobj.ext hN).ya hno (fun _=>rfl);have hH2:an w' R' (outs (bN N (.out s.next) b')) heap' bsH':=hH.ext (fun m b hm=>by
    cases m with
    | loc i=>simp[outs] at hm
    | out k=>simp only[outs] at hm ⊢;exact hN _ _ hm)
   -- nodup
   have hnd4:((bsM++tA nm)++(bsT'++(bsL'++(bsH'++bsF)))).Nodup:=by simpa only[List.append_assoc] using hndx
   have hnd5:((b'::b1')++(bsT'++(bsL'++(bsH'++bsF)))).Nodup:=by
    refine fE (w:=w) hnd4 ?_ hf;intro c hc
    rcases List.mem_append.1 hc with h|h
    ·exact hltT c h
    rcases List.mem_append.1 h with h|h
    ·exact hltLH c (List.mem_append_left _ h)
    rcases List.mem_append.1 h with h|h
    ·exact hltLH c (List.mem_append_right _ h)
    exact hltF c h
   have hnd6:([]++(bsT'++(bsL'++((b'::(b1'++bsH'))++bsF)))).Nodup:=by
    have hp:([]++(bsT'++(bsL'++((b'::(b1'++bsH'))++bsF)))).Perm ((b'::b1')++(bsT'++(bsL'++(bsH'++bsF)))):=by rw[List.perm_iff_count];intro q;simp only[List.count_append,List.count_cons,List.count_nil];omega
    exact hp.nodup_iff.2 hnd5
   obtain⟨bsT'',hp1,hp2⟩:=fN o.dst (ht2.ext hN) hwin hnd6;subst hs';have e0:(({s1 with locs:=locs',heap:=(.out s1.next,o')::heap',next:=s1.next+1 }:aa).put o.dst (.win (.out s1.next) sz 0 len)).tmps=(s1.put o.dst (.win (.out s.next) sz 0 len)).tmps:=by rw[←dl3];cases o.dst <;> rfl
   obtain⟨q1,q2,q3⟩:=cZ ({s1 with locs:=locs',heap:=(.out s1.next,o')::heap',next:=s1.next+1 }:aa) o.dst (.win (.out s1.next) sz 0 len);refine⟨_,w',hran,⟨R',bN N (.out s.next) b',bsT'',bsL',b'::(b1'++bsH'),⟨aW _,?_,?_,?_,by simpa using hp2,?_,hglob,hframe⟩,hkF,fun k b hk=>hN _ _ hk,fun i _=>by simp[bN]⟩,?_⟩
   ·rw[pa1,e0];exact hp1
   ·rw[q1];exact hL.ext hN
   ·rw[q2];dsimp only;rw[dl3];exact⟨b',b1',bsH',rfl,by simp[outs,bN],hob,hH2⟩
   ·rw[q3];dsimp only;rw[dl3];intro k b hk;simp only[bN] at hk
    split at hk
    ·rename_i he;simp at he;omega
    have:=hr.next k b hk;omega
   rw[q3];dsimp only;rw[dl3];omega
  simp only[dl2] at h
  rcases hwhich with⟨hn0,e⟩|⟨i,b0,c1,pre,post,obj,h1,h2,h3,h4,h5,h6,⟨bs',g1,g2⟩,h7⟩|⟨k,b0,c1,pre,post,obj,h1,h2,h3,h4,h5,h6,h6',⟨bs',g1,g2⟩,h7⟩
  ·subst hn0;subst e;have kL:bz w R w' R' bsL:=hkeep.sub (by intro b hb;simp[hb]);have kH:bz w R w' R' bsH:=hkeep.sub (by intro b hb;simp[hb])
   split at h
   ·rename_i k hk
    split at h
    ·rename_i hno;simp only[Option.some.injEq] at h;obtain⟨bs',g1,g2⟩:=an.pR (.loc k) (hr.locs.keep kL);refine hfin (ka (.loc k) s.locs) s.heap bs' bsH hno g1 (hr.heap.keep kH) ?_ ?_ (by rw[←h,dl1])
     ·intro c hc
      rcases List.mem_append.1 hc with h|h
      ·exact hltL c (g2.mem h)
      exact hltH c h
     refine List.Nodup.sublist ?_ hndr;exact List.Sublist.append (.refl _) (List.Sublist.append (.refl _) (List.Sublist.append (.refl _) (List.Sublist.append g2 (.refl _))))
    simp at h
   ·rename_i k hk
    split at h
    ·rename_i hno;simp only[Option.some.injEq] at h;obtain⟨bs',g1,g2⟩:=an.pR (.out k) (hr.heap.keep kH);refine hfin s.locs (ka (.out k) s.heap) bsL bs' hno (hr.locs.keep kL) g1 ?_ ?_ (by rw[←h,←dl1])
     ·intro c hc
      rcases List.mem_append.1 hc with h|h
      ·exact hltL c h
      exact hltH c (g2.mem h)
     refine List.Nodup.sublist ?_ hndr;exact List.Sublist.append (.refl _) (List.Sublist.append (.refl _) (List.Sublist.append (.refl _) (List.Sublist.append (.refl _) (List.Sublist.append g2 (.refl _)))))
    simp at h
   split at h
   ·rename_i hno;simp only[Option.some.injEq] at h;refine hfin s.locs s.heap bsL bsH hno (hr.locs.keep kL) (hr.heap.keep kH) ?_ hndr (by rw[←h,←dl1]);intro c hc
    rcases List.mem_append.1 hc with h|h
    ·exact hltL c h
    exact hltH c h
   simp at h
  ·rw[h1] at h;dsimp only at h
   split at h
   ·rename_i hno;simp only[Option.some.injEq] at h;subst h5;subst h3;have hmem:∀c∈pre++post,c∈bsL:=fun c hc=>by rw[h4];simp at hc ⊢;rcases hc with h|h <;> simp[h]
    refine hfin (ka (.loc i) s.locs) s.heap bs' bsH hno (g1.keep (hkeep.sub (fun b hb=>?_))) (hr.heap.keep (hkeep.sub (by intro b hb;simp[hb]))) ?_ ?_ (by rw[←h,dl1])
    ·have:=g2.mem hb
     simp at this ⊢;rcases this with h|h <;> simp[h]
    ·intro c hc
     rcases List.mem_append.1 hc with h|h
     ·exact hltL c (hmem c (g2.mem h))
     exact hltH c h
    refine List.Nodup.sublist ?_ hndr;exact List.Sublist.append (.refl _) (List.Sublist.append (.refl _) (List.Sublist.append (.refl _) (List.Sublist.append g2 (.refl _))))
   simp at h
  rw[h1] at h;dsimp only at h
  split at h
  ·rename_i hno;simp only[Option.some.injEq] at h;subst h5;subst h3;have hmem:∀c∈pre++post,c∈bsH:=fun c hc=>by rw[h4];simp at hc ⊢;rcases hc with h|h <;> simp[h]
   refine hfin s.locs (ka (.out k) s.heap) bsL bs' hno (hr.locs.keep (hkeep.sub (by intro b hb;simp[hb]))) (g1.keep (hkeep.sub (fun b hb=>?_))) ?_ ?_ (by rw[←h,←dl1])
   ·have:=g2.mem hb
    simp at this ⊢;rcases this with h|h <;> simp[h]
   ·intro c hc
    rcases List.mem_append.1 hc with h|h
    ·exact hltL c h
    exact hltH c (hmem c (g2.mem h))
   refine List.Nodup.sublist ?_ hndr;exact List.Sublist.append (.refl _) (List.Sublist.append (.refl _) (List.Sublist.append (.refl _) (List.Sublist.append (.refl _) (List.Sublist.append g2 (.refl _)))))
  simp at h
 | fresh o'=>
  rw[heff] at h hout;obtain⟨hnone,b1',hobj,hf,hsz,hcv⟩:=hout;simp only at h
  split at h
  ·rename_i hno;simp only[Option.some.injEq] at h;subst h;have hall:an w' R' N s.locs bsL/\an w' R' (outs N) s.heap bsH:=by
    rcases hwhich with⟨_,e⟩|⟨i,b,b1,pre,post,obj,h1,h2,h3,h4,h5,h6,_,h7⟩|⟨k,b,b1,pre,post,obj,h1,h2,h3,h4,h5,h6,h6',_,h7⟩
    ·subst e;exact⟨hr.locs.keep (hkeep.sub (by intro b hb;simp[hb])),hr.heap.keep (hkeep.sub (by intro b hb;simp[hb]))⟩
    ·rw[hnone] at h3;simp at h3
    rw[hnone] at h3;simp at h3
   obtain⟨hL,hH⟩:=hall;have hN:∀m b,N m=some b->bN N (.out s.next) w.heap.size m=some b:=fun m b hm=>by
    simp only[bN];rw[if_neg]
    ·exact hm
    rintro rfl
    have:=hr.next _ _ hm
    omega
   have hpv:al w' R' (bN N (.out s.next) w.heap.size) (rR s.next o') cv []:=by
    subst hcv
    cases o' <;> simp[al,bN,rR]
   have hob:aT w' R' (outs (bN N (.out s.next) w.heap.size)) o' w.heap.size b1':=(hobj.ext hN).ya hno (fun _=>rfl);have hH2:an w' R' (outs (bN N (.out s.next) w.heap.size)) s.heap bsH:=hH.ext (fun m b hm=>by
    cases m with
    | loc i=>simp[outs] at hm
    | out k=>simp only[outs] at hm ⊢;exact hN _ _ hm)
   have hnd2:(b1'++(bsT'++(bsL++(bsH++bsF)))).Nodup:=by
    refine fE (w:=w) hnd ?_ ⟨hf.1,fun b hb=>.inl (hf.2 b hb)⟩;intro b hb
    rcases List.mem_append.1 hb with h|h
    ·exact hltT b h
    exact hltX b h
   have hnew:w.heap.size∉b1'++(bsT'++(bsL++(bsH++bsF))):=by
    intro hc
    rcases List.mem_append.1 hc with h|h
    ·have:=ha.lt _ (hf.2 _ h);omega
    rcases List.mem_append.1 h with h|h
    ·have:=hltT _ h;omega
    have:=hltX _ h;omega
   have hnd3:([]++(bsT'++(bsL++((w.heap.size::(b1'++bsH))++bsF)))).Nodup:=by
    have h1:(w.heap.size::(b1'++(bsT'++(bsL++(bsH++bsF))))).Nodup:=List.nodup_cons.2 ⟨hnew,hnd2⟩;have hp:([]++(bsT'++(bsL++((w.heap.size::(b1'++bsH))++bsF)))).Perm (w.heap.size::(b1'++(bsT'++(bsL++(bsH++bsF))))):=by rw[List.perm_iff_count];intro q;simp only[List.count_append,List.count_cons,List.count_nil];omega
    exact hp.nodup_iff.2 h1
   obtain⟨bsT'',hp1,hp2⟩:=fN o.dst (ht2.ext hN) hpv hnd3;have e0:(({s1 with heap:=(.out s1.next,o')::s1.heap,next:=s1.next+1 }:aa).put o.dst (rR s1.next o')).tmps=(s1.put o.dst (rR s.next o')).tmps:=by rw[←dl3];cases o.dst <;> rfl
   obtain⟨q1,q2,q3⟩:=cZ ({s1 with heap:=(.out s1.next,o')::s1.heap,next:=s1.next+1 }:aa) o.dst (rR s1.next o');refine⟨cv,w',hran,⟨R',bN N (.out s.next) w.heap.size,bsT'',bsL,w.heap.size::(b1'++bsH),⟨aW _,?_,?_,?_,by simpa using hp2,?_,hglob,hframe⟩,hkF,fun k b hk=>hN _ _ hk,fun i _=>by simp[bN]⟩,?_⟩
   ·rw[pa1,e0];exact hp1
   ·rw[q1];dsimp only;rw[dl1];exact hL.ext hN
   ·rw[q2];dsimp only;rw[dl2,dl3];exact⟨w.heap.size,b1',bsH,rfl,by simp[outs,bN],hob,hH2⟩
   ·rw[q3];dsimp only;rw[dl3];intro k b hk;simp only[bN] at hk
    split at hk
    ·rename_i he;simp at he;omega
    have:=hr.next k b hk;omega
   rw[q3];dsimp only;rw[dl3];omega
  simp at h
 | row o' sz len=>
  rw[heff] at h hout;obtain⟨hnone,b1',hobj,hf,hsz,cap,hcv,hcap,hsz0,hrow⟩:=hout;simp only at h
  split at h
  ·rename_i d hd
   split at h
   ·rename_i hfresh;simp only[Option.some.injEq] at h;subst h
    -- nothing is looked at by such an operation: whichever it was, all stays
    have hall:an w' R' N s.locs bsL/\an w' R' (outs N) s.heap bsH:=by
     rcases hwhich with⟨_,e⟩|⟨i,b,b1,pre,post,obj,h1,h2,h3,h4,h5,h6,_,h7⟩|⟨k,b,b1,pre,post,obj,h1,h2,h3,h4,h5,h6,h6',_,h7⟩
     ·subst e;exact⟨hr.locs.keep (hkeep.sub (by intro b hb;simp[hb])),hr.heap.keep (hkeep.sub (by intro b hb;simp[hb]))⟩
     ·rw[hnone] at h3;simp at h3
     rw[hnone] at h3;simp at h3
    obtain⟨hL,hH⟩:=hall;have hN:∀m,m≠Name.loc d->bN N (.loc d) w.heap.size m=N m:=fun m hm=>by simp[bN,hm]
    obtain⟨bsT2,t1,t2⟩:=ak.oV hN ht2;obtain⟨bsL2,l1,l2⟩:=an.oV hN hL;have hob2:aT w' R' (bN N (.loc d) w.heap.size) o' w.heap.size b1':=nj hobj (fun cs hcs=>by subst hcs;simpa [mL] using hfresh);have hH2:an w' R' (outs (bN N (.loc d) w.heap.size)) s.heap bsH:=hH.tw (fun k=>by simp[bN]);have hpv:al w' R' (bN N (.loc d) w.heap.size) (.win (.loc d) sz 0 len) cv []:=by
     subst hcv;simp only[al];exact⟨trivial,w.heap.size,cap,by simp[bN],rfl,hcap,hsz0,hsz,by rw[Nat.zero_add];exact hrow⟩
    have hnd2:(b1'++(bsT'++(bsL++(bsH++bsF)))).Nodup:=by
     refine fE (w:=w) hnd ?_ ⟨hf.1,fun b hb=>.inl (hf.2 b hb)⟩;intro b hb
     rcases List.mem_append.1 hb with h|h
     ·exact hltT b h
     exact hltX b h
    have hnew:w.heap.size∉b1'++(bsT'++(bsL++(bsH++bsF))):=by
     intro hc
     rcases List.mem_append.1 hc with h|h
     ·have:=ha.lt _ (hf.2 _ h);omega
     rcases List.mem_append.1 h with h|h
     ·have:=hltT _ h;omega
     have:=hltX _ h;omega
    have hnd3:([]++(bsT2++((w.heap.size::(b1'++bsL2))++(bsH++bsF)))).Nodup:=by
     have h1:(w.heap.size::(b1'++(bsT'++(bsL++(bsH++bsF))))).Nodup:=List.nodup_cons.2 ⟨hnew,hnd2⟩;have hp:([]++(bsT2++((w.heap.size::(b1'++bsL2))++(bsH++bsF)))).Perm (w.heap.size::(b1'++(bsT2++(bsL2++(bsH++bsF))))):=by rw[List.perm_iff_count];intro q;simp only[List.count_append,List.count_cons,List.count_nil];omega
     refine hp.nodup_iff.2 (List.Nodup.sublist ?_ h1);exact (List.Sublist.append (.refl _) (List.Sublist.append t2 (List.Sublist.append l2 (.refl _)))).cons_cons _
    obtain⟨bsT'',hp1,hp2⟩:=mE d t1 hpv hnd3;rw[hd] at pa1;refine⟨cv,w',hran,⟨R',bN N (.loc d) w.heap.size,bsT'',w.heap.size::(b1'++bsL2),bsH,⟨aW _,?_,?_,?_,by simpa using hp2,?_,hglob,hframe⟩,hkF,fun k b hk=>by simpa [bN] using hk,fun i hi=>by
     have:Name.loc i≠Name.loc d:=fun e=>hi (by rw[hd];simp at e;rw[e])
     simp[bN,this]⟩,?_⟩
    ·rw[hd,pa1];exact hp1
    ·simp only[nr];rw[dl1];exact⟨w.heap.size,b1',bsL2,rfl,by simp[bN],hob2,l1⟩
    ·simp only[nr];rw[dl2];exact hH2
    ·intro k b hk;simp[bN] at hk;simp only[nr];rw[dl3];exact hr.next k b hk
    ·simp only[nr];exact Nat.le_of_eq dl3.symm
   simp at h
  simp at h
 | new o'=>
  rw[heff] at h hout;obtain⟨hnone,b1',hobj,hf,hsz,hcv⟩:=hout;simp only at h
  split at h
  ·rename_i d hd
   split at h
   ·rename_i hfresh;simp only[Option.some.injEq] at h;subst h
    -- nothing is looked at by such an operation: whichever it was, all stays
    have hall:an w' R' N s.locs bsL/\an w' R' (outs N) s.heap bsH:=by
     rcases hwhich with⟨_,e⟩|⟨i,b,b1,pre,post,obj,h1,h2,h3,h4,h5,h6,_,h7⟩|⟨k,b,b1,pre,post,obj,h1,h2,h3,h4,h5,h6,h6',_,h7⟩
     ·subst e;exact⟨hr.locs.keep (hkeep.sub (by intro b hb;simp[hb])),hr.heap.keep (hkeep.sub (by intro b hb;simp[hb]))⟩
     ·rw[hnone] at h3;simp at h3
     rw[hnone] at h3;simp at h3
    obtain⟨hL,hH⟩:=hall;have hN:∀m,m≠Name.loc d->bN N (.loc d) w.heap.size m=N m:=fun m hm=>by simp[bN,hm]
    obtain⟨bsT2,t1,t2⟩:=ak.oV hN ht2;obtain⟨bsL2,l1,l2⟩:=an.oV hN hL;have hob2:aT w' R' (bN N (.loc d) w.heap.size) o' w.heap.size b1':=nj hobj (fun cs hcs=>by subst hcs;simpa [mL] using hfresh);have hH2:an w' R' (outs (bN N (.loc d) w.heap.size)) s.heap bsH:=hH.tw (fun k=>by simp[bN]);have hpv:al w' R' (bN N (.loc d) w.heap.size) (Ae d o') cv []:=by
     subst hcv
     cases o' <;> simp[al,bN,Ae]
    have hnd2:(b1'++(bsT'++(bsL++(bsH++bsF)))).Nodup:=by
     refine fE (w:=w) hnd ?_ ⟨hf.1,fun b hb=>.inl (hf.2 b hb)⟩;intro b hb
     rcases List.mem_append.1 hb with h|h
     ·exact hltT b h
     exact hltX b h
    have hnew:w.heap.size∉b1'++(bsT'++(bsL++(bsH++bsF))):=by
     intro hc
     rcases List.mem_append.1 hc with h|h
     ·have:=ha.lt _ (hf.2 _ h);omega
     rcases List.mem_append.1 h with h|h
     ·have:=hltT _ h;omega
     have:=hltX _ h;omega
    have hnd3:([]++(bsT2++((w.heap.size::(b1'++bsL2))++(bsH++bsF)))).Nodup:=by
     have h1:(w.heap.size::(b1'++(bsT'++(bsL++(bsH++bsF))))).Nodup:=List.nodup_cons.2 ⟨hnew,hnd2⟩;have hp:([]++(bsT2++((w.heap.size::(b1'++bsL2))++(bsH++bsF)))).Perm (w.heap.size::(b1'++(bsT2++(bsL2++(bsH++bsF))))):=by rw[List.perm_iff_count];intro q;simp only[List.count_append,List.count_cons,List.count_nil];omega
     refine hp.nodup_iff.2 (List.Nodup.sublist ?_ h1);exact (List.Sublist.append (.refl _) (List.Sublist.append t2 (List.Sublist.append l2 (.refl _)))).cons_cons _
    obtain⟨bsT'',hp1,hp2⟩:=mE d t1 hpv hnd3;rw[hd] at pa1;refine⟨cv,w',hran,⟨R',bN N (.loc d) w.heap.size,bsT'',w.heap.size::(b1'++bsL2),bsH,⟨aW _,?_,?_,?_,by simpa using hp2,?_,hglob,hframe⟩,hkF,fun k b hk=>by simpa [bN] using hk,fun i hi=>by
     have:Name.loc i≠Name.loc d:=fun e=>hi (by rw[hd];simp at e;rw[e])
     simp[bN,this]⟩,?_⟩
    ·rw[hd,pa1];exact hp1
    ·simp only[newObj];rw[dl1];exact⟨w.heap.size,b1',bsL2,rfl,by simp[bN],hob2,l1⟩
    ·simp only[newObj];rw[dl2];exact hH2
    ·intro k b hk;simp[bN] at hk;simp only[newObj];rw[dl3];exact hr.next k b hk
    ·simp only[newObj];exact Nat.le_of_eq dl3.symm
   simp at h
  simp at h
end
end Go.Tp
namespace Go.Tp
def aB (P:Program) (G:bL) (f:FuncId) (args:List ac) (heap:List (Name×aR)) (next:Nat) (Q:ac->List (Name×aR)->Nat->Prop):Prop:=
 ∀(w:World) (R:Own) (N:Name->Option Nat) (cargs:List Value) (bsA bsH bsF:List Nat),
  ak w R (outs N) args cargs bsA->an w R (outs N) heap bsH->(bsA++(bsH++bsF)).Nodup->(∀o b,N (.out o)=some b->o < next)->
  (∀g cs,G g=some cs->dY w R g 0 cs)->(∀b∈bsF,b < w.heap.size)->
  Calls P f cargs.toArray w fun e w'=>∃v cv heap' next' R' N' bsV bsH',e=.returned cv/\Q v heap' next'/\al w' R' (outs N') v cv bsV/\an w' R' (outs N') heap' bsH' ∧
   (bsV++(bsH'++bsF)).Nodup/\(∀o b,N' (.out o)=some b->o < next')/\bz w R w' R' bsF/\(∀o b,N (.out o)=some b->N' (.out o)=some b)
theorem aB.mono {P:Program} {G:bL} {f:FuncId} {args:List ac} {heap:List (Name×aR)} {next:Nat} {Q Q':ac->List (Name×aR)->Nat->Prop} (h:aB P G f args heap next Q)
  (hq:∀v h n,Q v h n->Q' v h n):aB P G f args heap next Q':=by
 intro w R N cargs bsA bsH bsF h1 h2 h3 h4 h5 h6;refine (h w R N cargs bsA bsH bsF h1 h2 h3 h4 h5 h6).mono ?_;rintro e w' ⟨v,cv,heap',next',R',N',bsV,bsH',k1,k2,k3⟩;exact⟨v,cv,heap',next',R',N',bsV,bsH',k1,hq _ _ _ k2,k3⟩
def cK (G:bL):aa->List Operand->List ac×aa
 | s,[]=>([],s)
 | s,x::r=>
  match cK G (bR s (some 0) [x]) r with
  |(vs,s')=>(eR G s x::vs,s')
mutual
def xQ (n:Name) (ds:List ap):ac->ac
 | .ptr m off=>if m=n then .ref (ds.drop off) else .ptr m off
 | .win m s off len=>if m=n then .undef else .win m s off len
 | .fn f first captured=>.fn f (hU n ds first) (hU n ds captured)
 | .agg cs=>.agg (hU n ds cs)
 | .tup cs=>.tup (hU n ds cs)
 | a=>a
def hU (n:Name) (ds:List ap):List ac->List ac
 | []=>[]
 | a::r=>xQ n ds a::hU n ds r
end
def rT (f:List ac->List ac):List (Name×aR)->List (Name×aR)
 | []=>[]
 |(m,.cells cs)::r=>(m,.cells (f cs))::rT f r
 |(m,.map es)::r=>(m,.map es)::rT f r
mutual
def tb (n m:Name):ac->ac
 | .ptr k off=>if k=n then .ptr m off else .ptr k off
 | .map k=>if k=n then .map m else .map k
 | .win k s off len=>if k=n then .win m s off len else .win k s off len
 | .fn f first captured=>.fn f (eE n m first) (eE n m captured)
 | .agg cs=>.agg (eE n m cs)
 | .tup cs=>.tup (eE n m cs)
 | a=>a
def eE (n m:Name):List ac->List ac
 | []=>[]
 | a::r=>tb n m a::eE n m r
end
def OX (n:Name):List ac->Bool
 | []=>false
 | .fn _ first captured::r=>ba n first||ba n captured||OX n r
 | _::r=>OX n r
def tW (fz:Bool) (n:Name) (args cs:List ac):Option (List ap):=if (fz&&OX n args)=true then gA (bu cs) else none
def tu (fz:Bool) (n:Name) (s:aa) (args:List ac):Option (aa×List ac):=
 match n,eu n s.locs with
 | .loc _,some (.cells cs)=>
  match tW fz n args cs with
  | some ds=>some ({s with tmps:=hU n ds s.tmps,locs:=rT (hU n ds) (ka n s.locs)},hU n ds args)
  | none=>if bU (eE n (.out s.next) cs)=true then
   some ({tmps:=eE n (.out s.next) s.tmps,locs:=rT (eE n (.out s.next)) (ka n s.locs),heap:=(.out s.next,.cells (eE n (.out s.next) cs))::s.heap,next:=s.next+1 },eE n (.out s.next) args)
  else none
 | .loc _,some (.map es)=>
  some ({tmps:=eE n (.out s.next) s.tmps,locs:=rT (eE n (.out s.next)) (ka n s.locs),heap:=(.out s.next,.map es)::s.heap,next:=s.next+1 },eE n (.out s.next) args)
 | _,_=>none
def vi (fz:Bool):List Name->aa->List ac->aa×List ac
 | [],s,args=>(s,args)
 | n::ns,s,args=>
  match tu fz n s args with
  | some (s',args')=>vi fz ns s' args'
  | none=>vi fz ns s args
mutual
def Sh:ac->List Name
 | .ptr (.loc i) _=>[.loc i]
 | .map (.loc i)=>[.loc i]
 | .win (.loc i) _ _ _=>[.loc i]
 | .fn _ first captured=>pb first++pb captured
 | .agg cs=>pb cs
 | .tup cs=>pb cs
 | _=>[]
def pb:List ac->List Name
 | []=>[]
 | a::r=>Sh a++pb r
end
def sA:List Name->List Name->List Name
 | [],l=>l
 | n::ns,l=>if l.contains n then sA ns l else sA ns (n::l)
def Sa (locs:List (Name×aR)) (n:Name):List Name:=
 match eu n locs with
 | some (.cells cs)=>pb cs
 | _=>[]
def Ba (locs:List (Name×aR)):Nat->List Name->List Name
 | 0,l=>l
 | k+1,l=>Ba locs k (l.foldl (fun a n=>sA (Sa locs n) a) l)
def Yq (l:List Name):List Name:=l++l
def Jp (s:aa) (args:List ac):List Name:=
 match sA (pb args) [] with
 | []=>[]
 | l=>Yq (Ba s.locs s.locs.length l)
def mH:List (Name×aR)->List Name
 | []=>[]
 |(n,_)::r=>n::mH r
structure ax where
 pre:List (Nat×Bool)
 nw:Option Nat
 tk:List Nat
 tail:List Nat
 deriving Inhabited
structure Hints where
 moves:FuncId->Bool
 ord:Nat->ax
 caps:FuncId->Bool
 rows:Bool
def Hints.at (H:Hints) (id:Nat):Hints:=⟨H.moves,H.ord,H.caps,match (H.ord id).nw with|none=>H.rows|some _=>false⟩
def rowsOf (caps:FuncId->Bool) (f:FuncId):Bool:=caps (1000000+f)
def GX:Op->Bool
 | .call {callee:=.builtin .append,.. }=>true
 | _=>false
def lS (E:bG) (G:bL) (H:Hints) (c:Call) (s:aa):Option (FuncId×List ac×aa):=
 match c.callee with
 | .value f=>(match eR G s f with
  | .fn (.func g) first captured=>
   if E.fn g=true then
    match (if H.moves g=true then cK G s c.args.toList else (aM G s none 0 c.args.toList,s)) with
    |(vs,s1)=>(match vi (!H.caps g) (Jp s1 (first++vs++captured)) s1 (first++vs++captured) with
     |(s2,args)=>if bU args=true then some (g,args,s2) else none)
   else none
  | _=>none)
 | _=>none
def dm:Op->Option Call
 | .call c=>(match c.callee with|.builtin _=>none|_=>some c)
 | _=>none
def dt (t:Tmp):Operand->Bool
 | .tmp u=>Nat.beq u t
 | _=>false
def Vc (moves:FuncId->Bool) (ops:List Oper) (d:Option Tmp):Bool:=
 match d with
 | none=>false
 | some t=>ops.any fun o=>match o.op with
  | .call c=>(match c.callee with
   | .builtin .append=>(match c.args.toList with|.tmp u::_=>Nat.beq u t|_=>false)
   | .value (.func g)=>moves g&&c.args.toList.any (dt t)
   | _=>false)
  | _=>false
def U1 (moves:FuncId->Bool) (ops:List Oper) (d:Option Tmp):Bool:=
 match d with
 | none=>false
 | some t=>ops.any fun o=>match o.op with
  | .call c=>(match c.callee with
   | .builtin .append=>(match c.args.toList with|.tmp u::_=>Nat.beq u t|_=>false)
   | .value (.func g)=>moves g&&c.args.toList.any (dt t)
   | _=>false)
  | .move x=>dt t x
  | .assign x=>dt t x
  | .box _ x=>dt t x
  | .extract x _=>dt t x
  | .store _ _ x=>dt t x
  | _=>false
def Vd (moves:FuncId->Bool) (ops:List Oper) (o:Oper):Bool:=
 match o.op with
 | .load _ _=>Vc moves ops o.dst
 | _=>false
def appended (ops:List Oper) (d:Option Tmp):Bool:=
 match d with
 | none=>false
 | some d=>ops.any fun o=>match o.op with
  | .call c=>GX o.op&&(match c.args.toList with|[_,.tmp u]=>Nat.beq u d|_=>false)
  | _=>false
def lv (H:Hints) (ops:List Oper) (o:Oper):Bool:=match o.op with
 | .buildSlice _ _ _=>H.rows&&!appended ops o.dst
 | .makeMap _ _=>H.rows
 | _=>(match GX o.op with|true=>H.rows|false=>Vd H.moves ops o)
def readOnly (moves:FuncId->Bool) (ops:List Oper) (o:Oper):Bool:=
 match o.op with
 | .move _=>!U1 moves ops o.dst
 | _=>false
def dy (ops:List Oper) (s:aa) (g:Option (Nat×Bool)):Option Bool:=
 match g with
 | none=>some true
 | some (j,want)=>(match ops[j]? with
  | some o=>(match o.dst with
   | some t=>(match bB s.tmps t with
    | .dat (.flat (.bool b))=>some (b==want)
    | .tup []=>some false
    | _=>none)
   | none=>none)
  | none=>none)
mutual
def xU:ap->Prop
 | .flat v=>bH v=true
 | .slice es=>es.length<=lim/\rj es
 | .agg cs=>rj cs
def rj:List ap->Prop
 | []=>True
 | d::r=>xU d/\rj r
end
mutual
def mV:ac->Prop
 | .dat d=>xU d
 | .own es=>es.length<=lim/\rj es
 | .ref cs=>rj cs
 | .fn _ a b=>qO a/\qO b
 | .agg cs=>qO cs
 | .tup cs=>qO cs
 | .ptr _ _=>True
 | .map _=>True
 | .win _ _ _ _=>True
 | .undef=>True
def qO:List ac->Prop
 | []=>True
 | a::r=>mV a/\qO r
end
def acR:List (Value×ap)->Prop
 | []=>True
 |(_,d)::r=>xU d/\acR r
def xT:List (Name×aR)->Prop
 | []=>True
 |(_,.cells cs)::r=>qO cs/\xT r
 |(_,.map es)::r=>acR es/\xT r
abbrev Fg:=FuncId->List ac->List (Name×aR)->Nat->(ac->List (Name×aR)->Nat->Prop)->Prop
abbrev Zi:=Code->(Exit->aa->Prop)->aa->Prop
section
variable (A:Fg) (E:bG) (G:bL) (H:Hints)
def mn (all:List Oper) (o:Oper) (K:aa->Prop) (s:aa):Prop:=
 match dy all s o.guard with
 | none=>False
 | some b=>
  if b=true then
   (match dm o.op with
    | some c=>(match lS E G H c s with
     | some (f,args,s2)=>A f args s2.heap s2.next (fun v heap n=>mV v->xT heap->K (({s2 with heap:=heap,next:=n }:aa).put o.dst v))
     | none=>False)
    | none=>(match cX E G (readOnly H.moves all o) (lv H all o) o s with
     | some s'=>K s'
     | none=>False))
  else K (s.put o.dst (.tup []))
def Uw (d:Option Tmp) (K:aa->Prop) (s:aa):Prop:=
 match d with
 | none=>K s
 | some t=>(match s.tmps[t]? with
  | some (.dat (.flat (.bool b)))=>(match b with
   | true=>K {s with tmps:=s.tmps.set t (.dat (.flat (.bool true)))}
   | false=>K {s with tmps:=s.tmps.set t (.dat (.flat (.bool false)))})
  | _=>K s)
theorem zi {α:Type}:∀{l:List α} {t:Nat} {v:α},l[t]?=some v->l.set t v=l
 | [],_,_,h=>by simp at h
 | _::_,0,_,h=>by simp at h;simp[h]
 | _::l,t+1,v,h=>by simp at h;simp[zi h]
theorem iQ (d:Option Tmp) (K:aa->Prop):Uw d K=K:=by
 funext s
 unfold Uw
 cases d with
 | none=>rfl
 | some t=>
  dsimp only
  split
  ·rename_i b h
   have:=zi h
   cases b <;> simp only[this]
  rfl
def ml (all:List Oper) (Q:aa->Prop):List Oper->aa->Prop
 | [],s=>Q s
 | o::rest,s=>mn A E G H all o (Uw o.dst (ml all Q rest)) s
def pc (fh:Bool):Option Name->Bool
 | some (.out _)=>fh
 | _=>true
def jg:Op->Bool
 |.move _|.assign _|.pick _ _ _|.binOp _ _ _ _ _|.unOp _ _ _|.convert _ _ _|.nilCheck _|.fieldAddr _ _ _|.field _ _ _|.indexAddr _ _ _|.index _ _ _|.slice _ _ _ _ _|.build _ _
 | .buildSlice _ _ _|.makeFunc _ _ _|.extract _ _|.load _ _|.lookup _ _ _ _=>true
 | .call c=>(match c.callee with|.builtin .len=>true|.builtin .max=>true|_=>false)
 | _=>false
def nG:Op->Bool
 | .alloc _=>true
 | _=>false
def fm (fh:Bool) (all:List Oper) (o:Oper) (s:aa):Option ac:=
 match dy all s o.guard with
 | none=>none
 | some b=>
  if b=true then
   if nG o.op=true then (match jE E false o.op [] none with|some _=>some .undef|none=>none)
   else (match dm o.op with
    | some _=>none
    | none=>
     if (jg o.op&&pc fh (looks o.op (aM G s none 0 (opsL o.op))))=true then
      (match jE E false o.op (aM G s none 0 (opsL o.op)) (bj s o.op (aM G s none 0 (opsL o.op))) with
       | some out=>(match out.eff with|.keep=>some out.val|_=>none)
       | none=>none)
     else none)
  else some (.tup [])
def dI (c:Call) (s:aa):Option (FuncId×List ac×aa):=
 match c.callee with
 | .value f=>(match eR G s f with
  | .fn (.func g) first captured=>
   if E.fn g=true then
    match (if H.moves g=true then cK G s c.args.toList else (aM G s none 0 c.args.toList,s)) with
    |(vs,s1)=>if bU (first++vs++captured)=true then some (g,first++vs++captured,s1) else none
   else none
  | _=>none)
 | _=>none
def D7 (fh:Bool):Name->Bool
 | .loc _=>true
 | .out _=>fh
def aa.kj (s:aa) (n:Name) (o:aR):aa:=
 match n with
 | .loc i=>{s with locs:=iS (.loc i) o s.locs }
 | .out k=>{s with heap:=iS (.out k) o s.heap }
def dv (fh:Bool) (all:List Oper):List Nat->aa->Option aa
 | [],s=>some s
 | i::r,s=>
  match all[i]? with
  | some o=>(match o.op,o.dst,o.guard with
   | .load _ (.tmp u),some t,none=>(match bB s.tmps u with
    | .ptr n off=>if D7 fh n=true then (match s.obj n with
     | some (.cells cs)=>(match cs[off]? with
      | some (.own es)=>(match bB s.tmps t with
       | .dat (.slice _)=>dv fh all r (({s with tmps:=s.tmps.set t (.own es)}:aa).kj n (.cells (dr off [.dat (.slice es)] cs)))
       | _=>none)
      | _=>none)
     | _=>none) else none
    | _=>none)
   | _,_,_=>none)
  | none=>none
def fJ:Op->Option Tmp
 | .call c=>(match c.callee with
  | .builtin .append=>(match c.args.toList with|.tmp t::_=>some t|_=>none)
  | _=>none)
 | _=>none
def gf (all:List Oper) (t:Tmp):List Nat->List Nat
 | []=>[]
 | i::r=>match all[i]? with
  | some o=>if o.dst=some t then i::gf all t r else gf all t r
  | none=>gf all t r
def lu (tk:List Nat) (t:Tmp) (s:aa):List Nat:=if JN (bB s.tmps t)=true then [] else tk
theorem my {all:List Oper} {t:Tmp} {tk:List Nat} {s:aa} {k:Nat} (h:k∈gf all t (lu tk t s)):k∈gf all t tk:=by
 unfold lu at h
 split at h
 ·simp[gf] at h
 exact h
def hO (o:Oper):Bool:=
 match o.op with
 | .call c=>(match c.callee with|.value (.func g)=>H.caps (2000000+g)|_=>false)
 | _=>false
def mc (o:Oper):Bool:=
 match o.op with
 | .call c=>(match c.callee with|.value (.func g)=>H.caps (3000000+g)|_=>false)
 | _=>false
def UK (h h':List (Name×aR)):Prop:=∀n ob,eu n h=some ob->eu n h'=some ob
def tO (o:Oper):Bool:=
 match o.op,o.dst with
 | .move (.tmp _),some _=>true
 | _,_=>false
def kq:Op->Bool
 | .store _ _ _=>true
 | .move (.tmp _)=>true
 | .build _ _=>true
 | .buildSlice _ _ _=>true
 | _=>false
def Ns (fh:Bool) (tk:List Nat) (all:List Oper) (o:Oper) (K:aa->Prop) (s:aa):Prop:=
 match dy all s o.guard with
 | none=>False
 | some b=>
  if b=true then
   (match dm o.op with
    | some c=>(match dI E G H c s with
     | some (f,args,s2)=>(match hO H o with
      | true=>A f args [] s2.next (fun v heap n=>mV v->xT heap->heap=[]/\K (({s2 with next:=n }:aa).put o.dst v))
      | false=>A f args s2.heap s2.next (fun v heap n=>mV v->xT heap->(mc H o=true->UK s2.heap heap)/\K (({s2 with heap:=heap,next:=n }:aa).put o.dst v)))
     | none=>False)
    | none=>(match fJ o.op with
     | some t=>(match dv fh all (gf all t (lu tk t s)) s with
      | some s1=>(match cX E G false false o s1 with
       | some s'=>K s'
       | none=>False)
      | none=>False)
     | none=>(match kq o.op with
      | true=>(match cX E G (readOnly H.moves all o) (lv H all o) o s with
       | some s'=>K s'
       | none=>False)
      | false=>False)))
  else K (s.put o.dst (.tup []))
def aV (all:List Oper):List (Nat×Bool)->Bool
 | []=>true
 |(i,l)::r=>(!l||(match all[i]? with|some o=>(dm o.op).isNone||hO H o|none=>true))&&aV all r
def reach (all:List Oper):Nat->Nat->Nat->Bool
 | 0,_,_=>false
 | f+1,i,j=>match all[i]? with
  | some o=>o.after.toList.any fun e=>Region.binds .any e&&(Nat.beq e.on j||reach all f e.on j)
  | none=>false
def quietAt (all:List Oper) (pre:List (Nat×Bool)) (i:Nat):Bool:=
 pre.all fun p=>!p.2||(match all[p.1]? with|some o=>(dm o.op).isNone||hO H o||mc H o|none=>true)||reach all 6 i p.1||reach all 6 p.1 i
def lQ (tk:List Nat) (fh:Bool) (fq:Nat->Bool) (all:List Oper) (T:aa->Prop):List (Nat×Bool)->aa->Prop
 | [],s=>T s
 |(i,lone)::r,s=>
  match all[i]? with
  | none=>False
  | some o=>
   if lone=true then Ns A E G H fh tk all o (Uw o.dst (lQ tk fh fq all T r)) s
   else (match fm E G (fh||fq i) all o s with
    | some a=>Uw o.dst (lQ tk fh fq all T r) (s.put o.dst a)
    | none=>False)
def iu (all:List Oper) (mk:Option Nat) (s:aa):Option aa:=
 match mk with
 | none=>some s
 | some i=>(match all[i]? with
  | some o=>(match o.op,o.dst,o.guard with
   | .alloc t,some d,none=>(match E.ty t with
    | some ti=>if eT (bO (cH ti.zero))=true/\ba (.loc d) (bO (cH ti.zero))=false/\d < s.tmps.length/\ba (.loc d) s.tmps=false then some (newObj s d (.cells (bO (cH ti.zero)))) else none
    | none=>none)
   | _,_,_=>none)
  | none=>none)
def dJ (all:List Oper):List Nat->List Oper
 | []=>[]
 | i::r=>match all[i]? with|some o=>o::dJ all r|none=>dJ all r
def bY (l:Array Bool) (i:Nat):Array Bool:=l.setIfInBounds i true
def Ym (k:Nat) (s0 s:aa):Prop:=
 ∀(w:World) (R:Own) (N:Name->Option Nat) (tmps:List Value) (bsT bsL bsH bsF:List Nat),df G w R N tmps s undef .undef [] bsT bsL bsH bsF->
  ∃N' bsT' bsL' bsH',df G w R N' tmps s0 undef .undef [] bsT' bsL' bsH' bsF/\∀o b,o < k->N (.out o)=some b->N' (.out o)=some b
def oD (all:List Oper) (Q:aa->Prop):Nat->Array Bool->aa->Prop
 | 0,listed,s=>Region.ready .any all.toArray listed=[]/\Q s
 | m+1,listed,s=>(Region.ready .any all.toArray listed=[]/\Q s) ∨
  (Region.ready .any all.toArray listed≠[]/\∀i∈Region.ready .any all.toArray listed,∃o,all[i]?=some o/\mn A E G H all o (oD all Q m (bY listed i)) s)
def gy (h:ax):Bool:=match h.tail with|[k]=>Nat.beq k 1000000|_=>false
def eb:List (Nat×Bool)->Array Bool->Array Bool
 | [],l=>l
 |(i,_)::r,l=>eb r (bY l i)
def cd:List (Nat×Bool)->List (Nat×Bool)
 |(i,false)::r=>(i,false)::cd r
 | _=>[]
def gV (h:ax):Bool:=match h.tail with|k::_=>Nat.beq k 2000000|[]=>false
def fY (h:ax):ax:=⟨h.pre,h.nw,h.tk,h.tail.drop 1⟩
def vZ (h:ax) (all:List Oper) (p:Array Bool) (K:aa->Prop):Nat->Array Bool->aa->Prop
 | 0,listed,s=>listed=p/\K s
 | m+1,listed,s=>listed≠p/\Region.ready .any all.toArray listed≠[] ∧
  ∀i∈Region.ready .any all.toArray listed,(i,true)∈h.pre/\∃o,all[i]?=some o/\Ns A E G H (aV H all h.pre) h.tk all o (vZ h all p K m (bY listed i)) s
def Bx (all:List Oper) (h:ax) (Q:aa->Prop) (s:aa):Prop:=
 lQ A E G H h.tk (aV H all h.pre) (quietAt H all h.pre) all
  (vZ A E G H h all (eb h.pre (Array.replicate all.length false)) (fun s1=>match iu E all h.nw s1 with
   | some s2=>ml A E G H all Q (dJ all h.tail) s2
   | none=>False) (h.pre.length - (cd h.pre).length) (eb (cd h.pre) (Array.replicate all.length false))) (cd h.pre) s
def By (all:List Oper) (h:ax) (Q:aa->Prop) (s:aa):Prop:=
 if gy h=true then oD A E G H all (fun s'=>∃s0,Q s0/\Ym G s.next s0 s') all.length (Array.replicate all.length false) s else
 if gV h=true then Bx A E G H all (fY h) Q s else
 lQ A E G H h.tk (aV H all h.pre) (quietAt H all h.pre) all (fun s1=>match iu E all h.nw s1 with
  | some s2=>ml A E G H all Q (dJ all h.tail) s2
  | none=>False) h.pre s
def nT (ops:Array Oper):List (Nat×Bool)->Array Bool->Bool
 | [],_=>true
 |(i,lone)::r,l=>(if lone=true then Region.ready .any ops l==[i] else (Region.ready .any ops l).contains i&&Region.free .any ops l i)&&nT ops r (bY l i)
def waited (ops:Array Oper) (p:Array Bool) (i:Nat):Bool:=
 (List.range ops.size).any fun d=>d != i&&p.getD d false&&(match ops[d]? with|some o=>o.after.any (fun e=>Region.binds .any e&&e.on==i)|none=>false)
def isApp:Op->Bool
 | .call {callee:=.builtin .append,.. }=>true
 | _=>false
def ju (o p:Oper):Bool:=
 o.guard.isNone&&p.guard.isNone&&(p.dst.isNone||isApp p.op)&&(dm p.op).isNone&&(match o.op,o.dst with
  | .extract (.tmp x) _,some d=>!(opsL p.op).any (dt x)&&!(opsL p.op).any (dt d)&&p.dst != some x&&p.dst != some d
  | .move (.tmp x),some d=>!(opsL p.op).any (dt x)&&!(opsL p.op).any (dt d)&&p.dst != some x&&p.dst != some d
  | _,_=>false)
def YJ (ops:Array Oper) (i j:Nat) (l:Array Bool):Bool:=
 (Region.ready .any ops l==[i,j]||Region.ready .any ops l==[j,i])&&Region.ready .any ops (bY l i)==[j]&&Region.ready .any ops (bY l j)==[i] &&
 (match ops[i]?,ops[j]? with|some o,some p=>ju o p|_,_=>false)
def iP (ops:Array Oper):List Nat->Array Bool->Bool
 | [],l=>Region.ready .any ops l==[]
 | [i],l=>Region.ready .any ops l==[i]&&Region.ready .any ops (bY l i)==[]
 | i::j::r,l=>(Region.ready .any ops l==[i]&&iP ops (j::r) (bY l i))||(YJ ops i j l&&iP ops r (bY (bY l i) j))
def oZ (ops:Array Oper) (nw:Option Nat):Option Tmp:=match nw with|some k=>(match ops[k]? with|some q=>q.dst|none=>none)|none=>none
def nE (ops:Array Oper) (h:ax) (p:Array Bool) (i:Nat):Bool:=
 match h.tail with
 | []=>false
 | j::r=>(Region.ready .any ops (p.setIfInBounds i false)==[i,j]||Region.ready .any ops (p.setIfInBounds i false)==[j,i])&&Region.ready .any ops (bY (p.setIfInBounds i false) j)==[i] &&
  Region.ready .any ops p==[j]&&iP ops r (bY p j)&&h.pre.all (fun x=>x.1==i||(waited ops (p.setIfInBounds i false) x.1||!(Region.ready .any ops ((p.setIfInBounds i false).setIfInBounds x.1 false)).contains j)) &&
  !(h.nw.toList.contains i)&&!(h.tk.contains i) &&
  (match ops[i]?,ops[j]? with
   | some o,some q=>ju o q&&(opsL o.op).all (fun x=>!(o.dst.any fun d=>dt d x)&&!((oZ ops h.nw).any fun d=>dt d x))&&oZ ops h.nw != o.dst
   | _,_=>false)
def kC (ops:Array Oper) (h:ax) (p:Array Bool):List (Nat×Bool)->Bool
 | []=>true
 |(i,lone)::r=>(lone||(waited ops p i||Region.ready .any ops (p.setIfInBounds i false)==[i])||nE ops h p i)&&kC ops h p r
def dS (ops:Array Oper) (h:ax):Bool:=
 (h.nw.toList++h.tk).all fun i=>h.pre.contains (i,false)&&(match ops[i]? with
  | some o=>(match o.op with|.load _ (.tmp u)=>o.dst != some u|_=>true)&&h.pre.all fun p=>p.1==i||(match ops[p.1]? with
   | some q=>(match o.dst with|some d=>q.dst != some d&&(p.2||!(q.looksAt ops).contains d)|none=>false)&&(match o.op with|.load _ (.tmp u)=>q.dst != some u||o.after.any (fun e=>Region.binds .any e&&e.on==p.1)|_=>true)
   | none=>false)
  | none=>false)
def nU (ops:Array Oper) (h:ax):Bool:=
 h.pre.all fun p=>match ops[p.1]? with
  | some o=>(match fJ o.op with
   | some t=>(gf ops.toList t h.tk).all fun i=>o.after.any fun e=>Region.binds .any e&&e.on==i
   | none=>true)
  | none=>true
def gI (ops:Array Oper) (h:ax):Bool:=
 h.pre.all fun p=>!p.2||(match ops[p.1]? with
  | some o=>!kq o.op||(h.nw.isNone&&h.tk.isEmpty&&o.guard.isNone&&h.pre.all fun q=>q.2||(match ops[q.1]? with
   | some oi=>tO o||ju oi o||reach ops.toList 12 q.1 p.1||reach ops.toList 12 p.1 q.1
   | none=>true))
  | none=>true)
def Jo (ops:Array Oper) (h:ax):Bool:=h.pre.isEmpty&&(match h.nw with|some k=>(ops[k]?).isNone|none=>false)
def T8 (ops:Array Oper) (h:ax):Bool:=
 nT ops (cd h.pre) (Array.replicate ops.size false)&&kC ops h (eb h.pre (Array.replicate ops.size false)) h.pre &&
 iP ops h.tail (eb h.pre (Array.replicate ops.size false))&&dS ops h&&nU ops h&&gI ops h&&decide (h.pre.length+h.tail.length<=ops.size)&&h.pre.all (fun x=>decide (x.1 < ops.size))
def acI (ops:Array Oper) (h:ax):Bool:=
 Region.noSelect ops&&nT ops h.pre (Array.replicate ops.size false)&&kC ops h (eb h.pre (Array.replicate ops.size false)) h.pre &&
 iP ops h.tail (eb h.pre (Array.replicate ops.size false))&&dS ops h&&nU ops h&&gI ops h&&decide (h.pre.length+h.tail.length<=ops.size)
end
section
variable (P:Program) (A:Fg) (C:Zi) (E:bG) (G:bL) (H:Hints)
def UL (D:List Deferred) (K:aa->Prop) (w:World) (R:Own) (N:Name->Option Nat) (bsF:List Nat) (act':Act) (w':World):Prop:=
 ∃s' R' N' bsT bsL bsH,K s'/\df G w' R' N' act'.tmps.toList s' undef .undef [] bsT bsL bsH bsF/\act'.defers=D/\bz w R w' R' bsF/\(∀o b,N (.out o)=some b->N' (.out o)=some b)
def Dr (D:List Deferred) (Q:Exit->aa->Prop) (w:World) (R:Own) (N:Name->Option Nat) (bsF:List Nat):Exit->Act->World->Prop:=fun e act' w'=>
 ∃s' R' N' bsT bsL bsH,Q e s'/\df G w' R' N' act'.tmps.toList s' undef .undef [] bsT bsL bsH bsF/\act'.defers=D/\bz w R w' R' bsF/\(∀o b,N (.out o)=some b->N' (.out o)=some b)
def du (c:Code) (Q:Exit->aa->Prop) (s:aa):Prop:=
 ∀(w:World) (R:Own) (N:Name->Option Nat) (act:Act) (bsT bsL bsH bsF:List Nat),df G w R N act.tmps.toList s undef .undef [] bsT bsL bsH bsF->∀{D:List Deferred},act.defers=D->
  c.wp P (Dr G D Q w R N bsF) act w
def lm (K:aa->Prop) (Q:Exit->aa->Prop) (e:Exit) (s:aa):Prop:=
 match e with
 | .normal=>K s
 | e=>Q e s
def cQ:Code->Bool
 | .region id ops draw=>!draw||(gy (H.ord id)||(if gV (H.ord id)=true then T8 ops (fY (H.ord id)) else (acI ops (H.ord id)||Jo ops (H.ord id))))
 | .seq x y=>cQ x&&cQ y
 | .cond _ x y=>cQ x&&cQ y
 | .block _ c=>cQ c
 | .loop c=>cQ c
 | .scope c=>cQ c
 | _=>true
end
def tidy:ac->ac
 | .agg cs=>cP (.agg cs)
 | a=>a
def jF:List ac->List ac
 | []=>[]
 | a::r=>tidy a::jF r
def yz (E:bG) (s:aa) (a:Tmp) (t:TypeId):Option ac:=
 match bB s.tmps a with
 | .ptr n off=>(match s.obj n,E.ty t with
  | some (.cells cs),some i=>loadCells i off cs
  | _,_=>none)
 | _=>none
def hC (E:bG):aa->List ResultVar->Option (List ac)
 | _,[]=>some []
 | s,.tmp t::r=>(match hC E (bR s (some 0) [.tmp t]) r with|some vs=>some (bB s.tmps t::vs)|none=>none)
 | s,.cell a t::r=>(match yz E s a t,hC E s r with|some v,some vs=>some (v::vs)|_,_=>none)
def pack:List ac->ac
 | [v]=>v
 | vs=>.tup vs
def jN (n:Name):List (Name×aR)->Bool
 | []=>false
 |(_,.cells cs)::r=>ba n cs||jN n r
 |(_,.map _)::r=>jN n r
def hY:List Name->aa->List ac->aa×List ac
 | [],s,args=>(s,args)
 | n::ns,s,args=>
  if (ba n args||jN n s.locs)=true then
   match tu true n s args with
   | some (s',args')=>hY ns s' args'
   | none=>hY ns s args
  else hY ns s args
def repeatL:Nat->List Name->List Name
 | 0,_=>[]
 | k+1,l=>l++repeatL k l
def xV (E:bG) (rs:List ResultVar) (Q:ac->List (Name×aR)->Nat->Prop) (s:aa):Prop:=
 match hC E s rs with
 | none=>False
 | some vs=>
  if bU (jF vs)=true then Q (pack (jF vs)) s.heap s.next
  else match hY (repeatL s.locs.length (mH s.locs)) s (jF vs) with
   |(s',vs')=>if bU vs'=true then Q (pack vs') s'.heap s'.next else False
def afL (E:bG) (rs:List ResultVar) (Q:ac->List (Name×aR)->Nat->Prop):Exit->aa->Prop
 | .ret,s=>xV E rs Q s
 | .normal,s=>xV E rs Q s
 | _,_=>False
def enter (ntmps:Nat) (args:List ac) (heap:List (Name×aR)) (next:Nat):aa:=⟨args++List.replicate (ntmps - args.length) .undef,[],heap,next⟩
theorem dX {m c:FuncId->Bool} {o:Nat->ax} {r r':Bool}:∀x:Code,cQ ⟨m,o,c,r⟩ x=cQ ⟨m,o,c,r'⟩ x
 | .region _ _ _=>rfl
 | .seq x y=>by simp only[cQ];rw[dX x,dX y]
 | .cond _ x y=>by simp only[cQ];rw[dX x,dX y]
 | .block _ x=>by simp only[cQ];rw[dX x]
 | .loop x=>by simp only[cQ];rw[dX x]
 | .scope x=>by simp only[cQ];rw[dX x]
 | .skip|.exit _|.ret|.label ..|.goto ..|.refuse ..|.rangeFunc ..=>rfl
end Go.Tp
namespace Go.Tp
section
variable {P:Program} {E:bG} {G:bL} {w:World} {R:Own} {N N':Name->Option Nat}
theorem an.remove:∀{os:List (Name×aR)} {bs:List Nat} {n:Name} {o:aR},an w R N os bs->eu n os=some o->
  ∃pre b b1 post bs',bs=pre++(b::b1)++post/\N n=some b/\aT w R N o b b1/\an w R N (ka n os) bs'/\bs'.Sublist (pre++post)
 | [],_,_,_,_,h=>by simp[eu] at h
 |(m,x)::os,_,n,o,⟨b,b1,b2,e,hn,h1,h2⟩,hg=>by
  subst e;simp only[eu] at hg;simp only[ka]
  split at hg
  ·rename_i hm;subst hm;simp at hg;subst hg;obtain⟨bs',g1,g2⟩:=an.pR m h2;exact⟨[],b,b1,b2,bs',by simp,hn,h1,by simpa using g1,by simpa using g2⟩
  rename_i hm;rw[if_neg hm];obtain⟨pre,c,c1,post,bs',f1,f2,f3,f4,f5⟩:=an.remove h2 hg;refine⟨b::(b1++pre),c,c1,post,b::(b1++bs'),by simp[f1],f2,f3,⟨b,b1,bs',rfl,hn,h1,f4⟩,?_⟩;simp only[List.cons_append,List.append_assoc];exact (List.Sublist.append (.refl _) f5).cons_cons _
theorem wW (n:Name) (ds:List ap):∀(l m:List ac),hU n ds (l++m)=hU n ds l++hU n ds m
 | [],m=>by simp[hU]
 | a::l,m=>by simp[hU,wW n ds l m]
theorem Tg (n:Name) (ds:List ap) (cs:List ac) (k:Nat):hU n ds (cs++List.replicate k .undef)=hU n ds cs++List.replicate k .undef:=by
 rw[wW];congr 1
 induction k with
 | zero=>simp[hU]
 | succ k ih=>simp[List.replicate_succ,hU,xQ,ih]
theorem wA (n m:Name):∀(l k:List ac),eE n m (l++k)=eE n m l++eE n m k
 | [],k=>by simp[eE]
 | a::l,k=>by simp[eE,wA n m l k]
theorem zy (n m:Name) (cs:List ac) (k:Nat):eE n m (cs++List.replicate k .undef)=eE n m cs++List.replicate k .undef:=by
 rw[wA];congr 1
 induction k with
 | zero=>simp[eE]
 | succ k ih=>simp[List.replicate_succ,eE,tb,ih]
theorem Xa {n:Name} {ds:List ap} {a:ac} (h:xN (xQ n ds a)=true):xN a=true:=by
 cases a with
 | ptr m off=>rfl
 | dat d=>simpa [xQ] using h
 | win m s off len=>
  simp only[xQ] at h
  split at h <;> simp[xN] at h
 | _=>simp[xQ,xN] at h
theorem W8 {n:Name} {ds:List ap} {a:ac} (h:eg (xQ n ds a)=true):eg a=true:=by
 cases a with
 | ptr m off=>simp only[xQ] at h;split at h <;> simp[eg] at h
 | win m s off len=>simp only[xQ] at h;split at h <;> simp[eg] at h
 | own es'=>rfl
 | dat d=>simpa [xQ] using h
 | _=>simp[xQ,eg] at h
theorem OA {n:Name} {ds:List ap} {cs:List ac} (h:cM (hU n ds cs)=true):cM cs=true:=by
 obtain⟨p,q,e,hp,hq⟩:=gJ.1 h
 match cs with
 | []=>simp[hU] at e
 | [a]=>simp[hU] at e
 | [a,b]=>
  simp only[hU,List.cons.injEq,and_true] at e;obtain⟨rfl,rfl⟩:=e;exact gJ.2 ⟨a,b,rfl,Xa hp,W8 hq⟩
 | _::_::_::_=>simp[hU] at e
theorem W9 {n m:Name} {a:ac} (h:xN (tb n m a)=true):xN a=true:=by
 cases a with
 | ptr k off=>rfl
 | dat d=>simpa [tb] using h
 | win k s off len=>simp only[tb] at h;split at h <;> simp[xN] at h
 | map k=>simp only[tb] at h;split at h <;> simp[xN] at h
 | _=>simp[tb,xN] at h
theorem W7 {n m:Name} {a:ac} (h:eg (tb n m a)=true):eg a=true:=by
 cases a with
 | ptr k off=>simp only[tb] at h;split at h <;> simp[eg] at h
 | win k s off len=>simp only[tb] at h;split at h <;> simp[eg] at h
 | map k=>simp only[tb] at h;split at h <;> simp[eg] at h
 | own es'=>rfl
 | dat d=>simpa [tb] using h
 | _=>simp[tb,eg] at h
theorem vV {n m:Name} {cs:List ac} (h:cM (eE n m cs)=true):cM cs=true:=by
 obtain⟨p,q,e,hp,hq⟩:=gJ.1 h
 match cs with
 | []=>simp[eE] at e
 | [a]=>simp[eE] at e
 | [a,b]=>
  simp only[eE,List.cons.injEq,and_true] at e;obtain⟨rfl,rfl⟩:=e;exact gJ.2 ⟨a,b,rfl,W9 hp,W7 hq⟩
 | _::_::_::_=>simp[eE] at e
theorem an.rT {f:List ac->List ac} (hsh:∀cs,cM (f cs)=true->cM cs=true) (hpad:∀cs k,f (cs++List.replicate k .undef)=f cs++List.replicate k .undef) (hf:∀cs vs bs,ak w R N cs vs bs->ak w R N' (f cs) vs bs) (hN:∀m b,N m=some b->N' m=some b) :
  ∀{os:List (Name×aR)} {bs:List Nat},an w R N os bs->an w R N' (Tp.rT f os) bs
 | [],_,h=>h
 |(_,.cells _)::_,_,⟨b,b1,b2,e,hn,⟨vs,el,sp,hb,hr,hR⟩,h2⟩=>⟨b,b1,b2,e,hN _ _ hn,⟨vs,el,sp,hb,by rw[←hpad];exact hf _ _ _ hr,hR.1,fun h=>hR.2 (hsh _ h)⟩,an.rT hsh hpad hf hN h2⟩
 |(_,.map _)::_,_,⟨b,b1,b2,e,hn,h1,h2⟩=>⟨b,b1,b2,e,hN _ _ hn,h1,an.rT hsh hpad hf hN h2⟩
mutual
theorem Xp {n:Name} {ds:List ap} {b:Nat} (hn:N n=some b) (hat:dY w R b 0 ds):∀{a:ac} {v:Value} {bs:List Nat},al w R N a v bs->al w R N (xQ n ds a) v bs
 | .dat _,_,_,h=>by simp only[xQ];exact h
 | .own _,_,_,h=>by simp only[xQ];exact h
 | .ref _,_,_,h=>by simp only[xQ];exact h
 | .ptr m off,_,_,h=>by
  simp only[xQ]
  split
  ·rename_i hm;subst hm;simp only[al] at h ⊢;obtain⟨h1,b',h2,h3⟩:=h;rw[hn] at h2;simp at h2;subst h2;exact⟨h1,b,off,h3,by simpa using rH off hat⟩
  exact h
 | .map _,_,_,h=>by simp only[xQ];exact h
 | .win m s off len,_,_,h=>by
  simp only[xQ]
  split
  ·simp only[al] at h ⊢;exact h.1
  exact h
 | .fn _ x y,_,_,h=>by
  simp only[al,xQ] at h ⊢;obtain⟨h1,vs,us,e,h2,h3⟩:=h;exact⟨h1,vs,us,e,jQ hn hat (as:=x) h2,jQ hn hat (as:=y) h3⟩
 | .agg cs,_,_,h=>by simp only[al,xQ] at h ⊢;obtain⟨vs,e,h⟩:=h;exact⟨vs,e,jQ hn hat (as:=cs) h⟩
 | .tup cs,_,_,h=>by simp only[al,xQ] at h ⊢;obtain⟨vs,e,h⟩:=h;exact⟨vs,e,jQ hn hat (as:=cs) h⟩
 | .undef,_,_,h=>by simp only[xQ];exact h
theorem jQ {n:Name} {ds:List ap} {b:Nat} (hn:N n=some b) (hat:dY w R b 0 ds):∀{as:List ac} {vs:List Value} {bs:List Nat},ak w R N as vs bs->ak w R N (hU n ds as) vs bs
 | [],_,_,h=>by simp only[hU];exact h
 | a::as,_,_,h=>by
  simp only[ak,hU] at h ⊢;obtain⟨v,vs',b1,b2,e1,e2,h1,h2⟩:=h;exact⟨v,vs',b1,b2,e1,e2,Xp hn hat (a:=a) h1,jQ hn hat (as:=as) h2⟩
end
mutual
theorem Vu {n m:Name} {b:Nat} (hn:N n=some b) (hm:N m=some b):∀{a:ac} {v:Value} {bs:List Nat},al w R N a v bs->al w R N (tb n m a) v bs
 | .dat _,_,_,h=>by simp only[tb];exact h
 | .own _,_,_,h=>by simp only[tb];exact h
 | .ref _,_,_,h=>by simp only[tb];exact h
 | .ptr k off,_,_,h=>by
  simp only[tb]
  split
  ·rename_i hk;subst hk;simp only[al] at h ⊢;obtain⟨h1,b',h2,h3⟩:=h;rw[hn] at h2;simp at h2;subst h2;exact⟨h1,b,hm,h3⟩
  exact h
 | .map k,_,_,h=>by
  simp only[tb]
  split
  ·rename_i hk;subst hk;simp only[al] at h ⊢;obtain⟨h1,b',h2,h3⟩:=h;rw[hn] at h2;simp at h2;subst h2;exact⟨h1,b,hm,h3⟩
  exact h
 | .win k _ _ _,_,_,h=>by
  simp only[tb]
  split
  ·rename_i hk;subst hk;simp only[al] at h ⊢;obtain⟨h1,b',cap,h2,h3⟩:=h;rw[hn] at h2;simp at h2;subst h2;exact⟨h1,b,cap,hm,h3⟩
  exact h
 | .fn _ x y,_,_,h=>by
  simp only[al,tb] at h ⊢;obtain⟨h1,vs,us,e,h2,h3⟩:=h;exact⟨h1,vs,us,e,kR hn hm (as:=x) h2,kR hn hm (as:=y) h3⟩
 | .agg cs,_,_,h=>by simp only[al,tb] at h ⊢;obtain⟨vs,e,h⟩:=h;exact⟨vs,e,kR hn hm (as:=cs) h⟩
 | .tup cs,_,_,h=>by simp only[al,tb] at h ⊢;obtain⟨vs,e,h⟩:=h;exact⟨vs,e,kR hn hm (as:=cs) h⟩
 | .undef,_,_,h=>by simp only[tb];exact h
theorem kR {n m:Name} {b:Nat} (hn:N n=some b) (hm:N m=some b):∀{as:List ac} {vs:List Value} {bs:List Nat},ak w R N as vs bs->ak w R N (eE n m as) vs bs
 | [],_,_,h=>by simp only[eE];exact h
 | a::as,_,_,h=>by
  simp only[ak,eE] at h ⊢;obtain⟨v,vs',b1,b2,e1,e2,h1,h2⟩:=h;exact⟨v,vs',b1,b2,e1,e2,Vu hn hm (a:=a) h1,kR hn hm (as:=as) h2⟩
end
theorem oU {b:Nat} {vs:Array Value} {el:TypeId} (hb:w.heap[b]?=some (.cells vs el (0,0))) {R':Own} (hR:∀x,¬R' b x):∀{ds:List ap} {us:List Value} (k:Nat),∀(rest:List Value),dc w R' us ds->vs.toList.drop k=us++rest->dY w R' b k ds
 | [],_,_,_,_,_=>trivial
 | d::ds,[],_,_,h,_=>h.elim
 | d::ds,u::us,k,rest,h,e=>by
  have hk:vs.toList[k]?=some u:=by
   have:=List.getElem?_drop (xs:=vs.toList) (i:=k) (j:=0)
   rw[e] at this;simpa using this.symm
  refine⟨⟨u,?_,hR k,h.1⟩,oU hb hR (k+1) rest h.2 ?_⟩
  ·rw[cell_of_row w b k vs el (0,0) hb];simpa using hk
  rw[←List.drop_drop,e];rfl
theorem wG {fz:Bool} {n:Name} {s s':aa} {args args':List ac} (h:tu fz n s args=some (s',args')) {tmps:List Value} {cargs:List Value} {bsV bsT bsL bsH bsF:List Nat}
  (hr:df G w R N tmps s (.tuple cargs.toArray) (.tup args) bsV bsT bsL bsH bsF) :
  ∃R' N' bsV' bsT' bsL' bsH',df G w R' N' tmps s' (.tuple cargs.toArray) (.tup args') bsV' bsT' bsL' bsH' bsF/\bz w R w R' bsF/\(∀o b,N (.out o)=some b->N' (.out o)=some b)/\(∀i,N' (.loc i)=N (.loc i)):=by
 have hv:=hr.val;simp only[al] at hv;obtain⟨cs0,ec,hargs⟩:=hv;simp at ec;subst ec;unfold tu at h
 split at h
 ·rename_i i cs hg;obtain⟨pre,b,b1,post,bsD,e1,hN,hobj,hdel,hsub⟩:=an.remove hr.locs hg;have hnd:=hr.nodup;subst e1
  split at h
  ·
   ·rename_i ds hds0;have hds:gA (bu cs)=some ds:=by
     unfold tW at hds0
     split at hds0
     ·exact hds0
     simp at hds0
    simp at h;obtain⟨rfl,rfl⟩:=h;obtain⟨vs,el,sp,hblk,hrr,hR⟩:=hobj;obtain⟨us1,us2,c1,c2,hvs,hb12,hrr1,_⟩:=cU hrr
    let R':Own:=fun c x=>R c x/\c≠b
    have hst:Step w R w R':=⟨rfl,rfl,rfl,Nat.le_refl _,fun c _ hc=>⟨rfl,fun x h'=>hc x h'.1⟩,fun c x _ hc=>⟨fun h'=>hc h'.1,rfl⟩,fun _ _=>rfl⟩;have hk:∀bs:List Nat,b∉bs->bz w R w R' bs:=fun bs hb=>⟨hst,fun c hc _=>⟨rfl,fun x hx=>⟨hx,fun e=>hb (e ▸ hc)⟩⟩⟩
    have hbn:b∉bsV/\b∉bsT/\b∉pre++post/\b∉bsH/\b∉bsF:=by
     have hc:(bsV++(bsT++((pre++(b::b1)++post)++(bsH++bsF)))).Perm (b::(bsV++(bsT++(pre++post++(b1++(bsH++bsF)))))):=by
      rw[List.perm_iff_count];intro q;simp only[List.count_append,List.count_cons];omega
     have:=(List.nodup_cons.1 (hc.nodup_iff.1 hnd)).1
     simp at this ⊢;simp[this]
    obtain⟨n1,n2,n3,n4,n5⟩:=hbn;have hcs:=(iM (iW hrr1) hds).1;have hat:dY w R' b 0 ds:=oU hblk (fun x h'=>h'.2 rfl) 0 us2 (hcs.step hst) (by simpa using hvs);refine⟨R',N,bsV,bsT,bsD,bsH,⟨?_,?_,?_,?_,?_,hr.next,fun g cs hg=>(hr.glob g cs hg).step hst,hr.frame⟩,hk bsF n5,fun _ _ h=>h,fun _=>rfl⟩
    ·simp only[al];exact⟨cargs,rfl,jQ hN hat (hargs.keep (hk bsV n1))⟩
    ·exact jQ hN hat (hr.tmps.keep (hk bsT n2))
    ·exact an.rT (fun _=>OA) (Tg _ _) (fun cs vs bs hr=>jQ hN hat hr) (fun _ _ h=>h) (hdel.keep (hk bsD (fun hc=>n3 (hsub.subset hc))))
    ·exact hr.heap.keep (hk bsH n4)
    refine List.Nodup.sublist ?_ hnd;refine List.Sublist.append (.refl _) (List.Sublist.append (.refl _) (List.Sublist.append (hsub.trans ?_) (.refl _)));rw[List.append_assoc];exact List.Sublist.append (.refl _) (List.sublist_append_right _ _)
  -- handed over
  split at h
  ·rename_i hno;simp at h;obtain⟨rfl,rfl⟩:=h;have hfresh:N (.out s.next)=none:=by
    cases hn:N (.out s.next) with
    | none=>rfl
    | some c=>have:=hr.next _ _ hn;omega
   let N':Name->Option Nat:=bN N (.out s.next) b
   have hext:∀m c,N m=some c->N' m=some c:=fun m c hm=>by
    simp only[N',bN];split
    ·rename_i e;rw[e,hfresh] at hm;simp at hm
    exact hm
   have hn1:N' (.loc i)=some b:=hext _ _ hN;have hn2:N' (.out s.next)=some b:=by simp[N',bN]
   have hrl:∀cs vs bs,ak w R N cs vs bs->ak w R N' (eE (.loc i) (.out s.next) cs) vs bs:=fun cs vs bs h=>kR hn1 hn2 (h.ext hext)
   refine⟨R,N',bsV,bsT,bsD,b::(b1++bsH),⟨?_,hrl _ _ _ hr.tmps,an.rT (fun _=>vV) (zy _ _) hrl hext hdel,?_,?_,?_,hr.glob,hr.frame⟩,bi _,fun o c h=>hext _ _ h,fun i=>by simp[N',bN]⟩
   ·simp only[al];exact⟨cargs,rfl,hrl _ _ _ hargs⟩
   ·refine⟨b,b1,bsH,rfl,by simp[outs,N',bN],?_,hr.heap.ext (fun m c hm=>?_)⟩
    ·obtain⟨vs,el,sp,hblk,hrr,hR⟩:=hobj;have hrr2:=hrl _ _ _ hrr;rw[zy] at hrr2;exact⟨vs,el,sp,hblk,hrr2.ya (by rw[ji];exact hno) (fun _=>rfl),hR.1,fun hb=>hR.2 (vV hb)⟩
    cases m with
    | loc j=>simp[outs] at hm
    | out k=>exact hext _ _ hm
   ·have hp:(bsV++(bsT++((pre++post)++((b::(b1++bsH))++bsF)))).Perm (bsV++(bsT++((pre++(b::b1)++post)++(bsH++bsF)))):=by
     rw[List.perm_iff_count];intro q;simp only[List.count_append,List.count_cons];omega
    refine List.Nodup.sublist ?_ (hp.nodup_iff.2 hnd);exact List.Sublist.append (.refl _) (List.Sublist.append (.refl _) (List.Sublist.append hsub (.refl _)))
   intro o c hc;simp only[N',bN] at hc
   split at hc
   ·rename_i e;simp at e;subst e;simp
   have:=hr.next o c hc;simp;omega
  simp at h
 ·rename_i i es hg;obtain⟨pre,b,b1,post,bsD,e1,hN,hobj,hdel,hsub⟩:=an.remove hr.locs hg;have hnd:=hr.nodup;subst e1;simp at h;obtain⟨rfl,rfl⟩:=h;have hfresh:N (.out s.next)=none:=by
   cases hn:N (.out s.next) with
   | none=>rfl
   | some c=>have:=hr.next _ _ hn;omega
  let N':Name->Option Nat:=bN N (.out s.next) b
  have hext:∀m c,N m=some c->N' m=some c:=fun m c hm=>by
   simp only[N',bN];split
   ·rename_i e;rw[e,hfresh] at hm;simp at hm
   exact hm
  have hn1:N' (.loc i)=some b:=hext _ _ hN;have hn2:N' (.out s.next)=some b:=by simp[N',bN]
  have hrl:∀cs vs bs,ak w R N cs vs bs->ak w R N' (eE (.loc i) (.out s.next) cs) vs bs:=fun cs vs bs h=>kR hn1 hn2 (h.ext hext)
  refine⟨R,N',bsV,bsT,bsD,b::(b1++bsH),⟨?_,hrl _ _ _ hr.tmps,an.rT (fun _=>vV) (zy _ _) hrl hext hdel,?_,?_,?_,hr.glob,hr.frame⟩,bi _,fun o c h=>hext _ _ h,fun i=>by simp[N',bN]⟩
  ·simp only[al];exact⟨cargs,rfl,hrl _ _ _ hargs⟩
  ·refine⟨b,b1,bsH,rfl,by simp[outs,N',bN],hobj,hr.heap.ext (fun m c hm=>?_)⟩
   cases m with
   | loc j=>simp[outs] at hm
   | out k=>exact hext _ _ hm
  ·have hp:(bsV++(bsT++((pre++post)++((b::(b1++bsH))++bsF)))).Perm (bsV++(bsT++((pre++(b::b1)++post)++(bsH++bsF)))):=by
    rw[List.perm_iff_count];intro q;simp only[List.count_append,List.count_cons];omega
   refine List.Nodup.sublist ?_ (hp.nodup_iff.2 hnd);exact List.Sublist.append (.refl _) (List.Sublist.append (.refl _) (List.Sublist.append hsub (.refl _)))
  intro o c hc;simp only[N',bN] at hc
  split at hc
  ·rename_i e;simp at e;subst e;simp
  have:=hr.next o c hc;simp;omega
 simp at h
end
end Go.Tp
namespace Go.Tp
section
variable {P:Program} {E:bG} {G:bL} {H:Hints} {w:World} {R:Own} {N:Name->Option Nat}
theorem nq {fz:Bool}:∀{ns:List Name} {s s':aa} {args args':List ac} {R:Own} {N:Name->Option Nat},vi fz ns s args=(s',args')->∀{tmps:List Value} {cargs:List Value} {bsV bsT bsL bsH bsF:List Nat},
  df G w R N tmps s (.tuple cargs.toArray) (.tup args) bsV bsT bsL bsH bsF->
  ∃R' N' bsV' bsT' bsL' bsH',df G w R' N' tmps s' (.tuple cargs.toArray) (.tup args') bsV' bsT' bsL' bsH' bsF/\bz w R w R' bsF/\(∀o b,N (.out o)=some b->N' (.out o)=some b)/\(∀i,N' (.loc i)=N (.loc i))
 | [],s,s',args,args',R,N,h,tmps,cargs,bsV,bsT,bsL,bsH,bsF,hr=>by
  simp[vi] at h;obtain⟨rfl,rfl⟩:=h;exact⟨R,N,bsV,bsT,bsL,bsH,hr,bi _,fun _ _ h=>h,fun _=>rfl⟩
 | n::ns,s,s',args,args',R,N,h,tmps,cargs,bsV,bsT,bsL,bsH,bsF,hr=>by
  simp only[vi] at h
  split at h
  ·rename_i s1 args1 h1;obtain⟨R1,N1,v1,t1,l1,g1,hr1,hk1,hN1,hM1⟩:=wG h1 hr;obtain⟨R2,N2,v2,t2,l2,g2,hr2,hk2,hN2,hM2⟩:=nq h hr1;exact⟨R2,N2,v2,t2,l2,g2,hr2,⟨hk1.step.trans hk2.step,fun b hb hlt=>⟨rfl,fun off h=>(hk2.same b hb hlt).2 off ((hk1.same b hb hlt).2 off h)⟩⟩,fun o b h=>hN2 o b (hN1 o b h),fun i=>(hM2 i).trans (hM1 i)⟩
  exact nq h hr
theorem gh (G:bL):∀(xs:List Operand) (s:aa),(cK G s xs).2.locs=s.locs/\(cK G s xs).2.heap=s.heap/\(cK G s xs).2.next=s.next
 | [],s=>⟨rfl,rfl,rfl⟩
 | x::r,s=>by
  simp only[cK];obtain⟨h1,h2,h3⟩:=gh G r (bR s (some 0) [x]);obtain⟨k1,k2,k3⟩:=qy s (some 0) [x];exact⟨h1.trans k1,h2.trans k2,h3.trans k3⟩
theorem kO {act:Act} (hg:∀g cs,G g=some cs->dY w R g 0 cs):∀(xs:List Operand) {s:aa} {bsT rest:List Nat},ak w R N s.tmps act.tmps.toList bsT->(bsT++rest).Nodup->
  ∃bsM bsT',ak w R N (cK G s xs).1 (xs.map act.eval) bsM/\ak w R N (cK G s xs).2.tmps act.tmps.toList bsT'/\(bsM++(bsT'++rest)).Nodup
 | [],s,bsT,rest,ht,hnd=>⟨[],bsT,by simpa [cK] using aX,ht,by simpa using hnd⟩
 | x::r,s,bsT,rest,ht,hnd=>by
  obtain⟨bM,bT,h1,h2,h3,_⟩:=qE ht hg (some 0) [x] rest hnd;obtain⟨b0,e0,hb0⟩:=dw h1;simp only[aM,if_true,List.cons.injEq,and_true] at e0;subst e0;have hnd2:(bT++(bM++rest)).Nodup:=by
   have hp:(bT++(bM++rest)).Perm (bM++(bT++rest)):=List.perm_append_comm_assoc _ _ _;exact hp.nodup_iff.2 h3
  obtain⟨bM2,bT2,k1,k2,k3⟩:=kO hg r h2 hnd2;simp only[cK];refine⟨bM++bM2,bT2,aG hb0 k1,k2,?_⟩;have hp:((bM++bM2)++(bT2++rest)).Perm (bM2++(bT2++(bM++rest))):=by
   rw[List.perm_iff_count];intro q;simp only[List.count_append];omega
  exact hp.nodup_iff.2 k3
theorem BV (hE:E.Ok P) {c:Call} {s s2:aa} {f:FuncId} {args:List ac} (h:lS E G H c s=some (f,args,s2)) {act:Act} {bsT bsL bsH bsF:List Nat}
  (hr:df G w R N act.tmps.toList s undef .undef [] bsT bsL bsH bsF) (o:Oper) (ho:o.op=.call c) :
  ∃cargs:List Value,(execOp act.eval o).run P w=.ok (.enter f cargs.toArray) w/\∃R' N' bsA bsT' bsL' bsH',df G w R' N' act.tmps.toList s2 (.tuple cargs.toArray) (.tup args) bsA bsT' bsL' bsH' bsF ∧
   bz w R w R' bsF/\(∀o b,N (.out o)=some b->N' (.out o)=some b)/\bU args=true/\(∀i,N' (.loc i)=N (.loc i)):=by
 obtain⟨callee,cargs0,argTypes⟩:=c
 cases callee with
 | builtin _=>simp[lS] at h
 | invoke _ _=>simp[lS] at h
 | value fo=>
  simp only[lS] at h;obtain⟨bf,hfv⟩:=pC hr.tmps hr.glob fo;generalize haf:eR G s fo=af at h hfv
  split at h
  ·rename_i g first captured;simp only[al] at hfv;obtain⟨_,vf,uf,ef,hfirst,hcap⟩:=hfv
   split at h
   ·rename_i hfn;obtain⟨fn,hf1,hf2,hf3⟩:=hE.fn g hfn
    -- the operands
    have hnd0:(bsT++(bsL++(bsH++bsF))).Nodup:=by simpa using hr.nodup
    have hops:∃(vs:List ac) (s1:aa) (bsM bsT':List Nat),(if H.moves g=true then cK G s cargs0.toList else (aM G s none 0 cargs0.toList,s))=(vs,s1) ∧
      ak w R N vs (cargs0.toList.map act.eval) bsM/\ak w R N s1.tmps act.tmps.toList bsT'/\(bsM++(bsT'++(bsL++(bsH++bsF)))).Nodup/\s1.locs=s.locs/\s1.heap=s.heap/\s1.next=s.next:=by
     split
     ·obtain⟨bsM,bsT',k1,k2,k3⟩:=kO hr.glob cargs0.toList hr.tmps hnd0;obtain⟨q1,q2,q3⟩:=gh G cargs0.toList s;exact⟨_,_,bsM,bsT',rfl,k1,k2,k3,q1,q2,q3⟩
     exact⟨_,_,[],bsT,rfl,kN hr.tmps hr.glob none 0 _ (by simp),hr.tmps,by simpa using hnd0,rfl,rfl,rfl⟩
    obtain⟨vs,s1,bsM,bsT',hpair,hvs,ht1,hnd1,q1,q2,q3⟩:=hops;rw[hpair] at h;simp only at h;generalize hprep:vi (!H.caps g) (Jp s1 (first++vs++captured)) s1 (first++vs++captured)=pr at h;obtain⟨s3,args3⟩:=pr
    ·simp only at h
     split at h
     ·rename_i hno;simp only[Option.some.injEq,Prod.mk.injEq] at h;obtain⟨rfl,rfl,rfl⟩:=h;have hall:ak w R N (first++vs++captured) (vf++cargs0.toList.map act.eval++uf) bsM:=by
       have:=cD (cD hfirst hvs) hcap
       simpa using this
      have hr1:df G w R N act.tmps.toList s1 (.tuple (vf++cargs0.toList.map act.eval++uf).toArray) (.tup (first++vs++captured)) bsM bsT' bsL bsH bsF:=
       ⟨by simp only[al];exact⟨_,rfl,hall⟩,ht1,by rw[q1];exact hr.locs,by rw[q2];exact hr.heap,hnd1,by rw[q3];exact hr.next,hr.glob,hr.frame⟩
      obtain⟨R2,N2,v2,t2,l2,g2,hr2,hk2,hN2,hM2⟩:=nq hprep hr1;refine⟨vf++cargs0.toList.map act.eval++uf,?_,R2,N2,v2,t2,l2,g2,hr2,hk2,hN2,hno,hM2⟩;have hbody:fn.body.isNone=false:=by cases hb:fn.body <;> simp_all
      have hb2:¬fn.body=none:=by intro hb;simp[hb] at hbody
      have hn2:¬fn.name= "runtime.NumGoroutine":=by simpa using hf3
      simp[execOp,ho,resolve,ef,Deferred.ofValue,invoke,callFunc,hf1,hn2,hb2]
     simp at h
   simp at h
  simp at h
end
end Go.Tp
namespace Go.Tp
section
variable {P:Program} {E:bG} {G:bL} {H:Hints}
theorem lr:∀(l:List ac),bu (bu l)=bu l
 | []=>rfl
 | a::r=>by cases a <;> simp[bu,lr r]
theorem jM (cs:List ac):(∃ds,kd cs=.dat (.agg ds))∨kd cs=.agg cs:=by
 unfold kd
 split
 ·exact .inl ⟨_,rfl⟩
 exact .inr rfl
theorem wl (cs:List ac):cP (kd (bu cs))=kd (bu cs):=by
 rcases jM (bu cs) with⟨ds,h⟩|h
 ·rw[h];rfl
 rw[h];show kd (bu (bu cs))=_;rw[lr,h]
theorem lq:∀(l:List ac),fZ (fZ l)=fZ l
 | []=>rfl
 | a::r=>by
  cases a with
  | agg cs=>
   simp only[fZ]
   rcases jM (bu cs) with⟨ds,h⟩|h
   ·rw[h];simp[fZ,lq r]
   have:=wl cs
   rw[h] at this ⊢;simp only[fZ,lq r];rw[lr,h]
  | _=>simp[fZ,lq r]
theorem Ir (a:ac):cP (cP a)=cP a:=by
 cases a with
 | agg cs=>exact wl cs
 | tup vs=>simp[cP,lq]
 | _=>rfl
def BX (x y:Option aR):Prop:=y=x∨∃cs cs',x=some (.cells cs)/\y=some (.cells cs')/\bu cs'=bu cs
theorem BX.refl (x:Option aR):BX x x:=.inl rfl
theorem BX.trans {x y z:Option aR} (h:BX x y) (k:BX y z):BX x z:=by
 rcases h with rfl|⟨cs,cs',rfl,rfl,h⟩
 ·exact k
 rcases k with rfl|⟨ds,ds',e1,rfl,k⟩
 ·exact .inr ⟨cs,cs',rfl,rfl,h⟩
 simp at e1;subst e1;exact .inr ⟨cs,ds',rfl,rfl,k.trans h⟩
theorem wm:∀(n:Nat) (l:List ac),bu (fj n l)=fj n (bu l)
 | 0,l=>by simp[fj,bu]
 | n+1,[]=>by simp[fj,bu]
 | n+1,a::l=>by cases a <;> simp[fj,bu,wm n l]
theorem wo:∀(n:Nat) (l:List ac),bu (gY n l)=gY n (bu l)
 | 0,l=>by simp[gY]
 | n+1,[]=>by simp[gY,bu]
 | n+1,a::l=>by cases a <;> simp[gY,bu,wo n l]
theorem qQ:∀(l:List ac),(bu l).length=l.length
 | []=>rfl
 | a::l=>by cases a <;> simp[bu,qQ l]
theorem yH:∀(l:List ac) (k:Nat),(bu l)[k]?=(l[k]?).map (fun a=>match a with|.own es=>.dat (.slice es)|.agg _=>.undef|.tup _=>.undef|a=>a)
 | [],_=>by simp[bu]
 | a::l,0=>by cases a <;> simp[bu]
 | a::l,k+1=>by cases a <;> simp[bu,yH l k]
theorem pd (i:TI) (off:Nat) (cs:List ac):loadCells i off (bu cs)=loadCells i off cs:=by
 unfold loadCells
 split
 ·dsimp only;rw[←wo,←wm,lr,qQ]
 rw[yH]
 cases h:cs[off]? with
 | none=>rfl
 | some a=>cases a <;> rfl
theorem BS {i:TI} {off:Nat} {cs cs':List ac} (h:bu cs'=bu cs):loadCells i off cs'=loadCells i off cs:=by
 rw[←pd i off cs',h,pd]
theorem Ya {op:Op} (hq:jg op=true) (vals:List ac) {x y:Option aR} (h:BX x y):jE E false op vals y=jE E false op vals x:=by
 rcases h with rfl|⟨cs,cs',rfl,rfl,h⟩
 ·rfl
 cases op <;> simp only[jg,Bool.false_eq_true] at hq <;> simp only[jE]
 ·
  rename_i t _;unfold lg
  split
  ·rfl
  ·cases E.ty t with
   | none=>rfl
   | some i=>simp only[Bool.false_and,Bool.false_eq_true,if_false,BS h]
  rfl
 ·
  simp only[eL,mapEntries]
 rename_i c
 split at hq <;> simp at hq
 ·rename_i hc;simp only[hc,lj]
  split
  ·rfl
  rename_i t _ _;unfold pW
  split
  ·rfl
  ·rfl
  ·rfl
  ·rfl
  ·cases E.desc t with
   | none=>rfl
   | some d=>cases d <;> rfl
  rfl
 rename_i hc;simp only[hc,lj]
def Bk:ac->Option (Option Bool)
 | .dat (.flat (.bool b))=>some (some b)
 | .tup []=>some none
 | _=>none
theorem ux (a:ac):Bk (cP a)=Bk a:=by
 cases a with
 | agg cs=>
  show Bk (kd (bu cs))=none
  rcases jM (bu cs) with⟨ds,h⟩|h <;> rw[h] <;> rfl
 | tup cs=>cases cs with
  | nil=>rfl
  | cons x r=>cases x <;> rfl
 | _=>rfl
theorem yF (all:List Oper) (s:aa) (g:Option (Nat×Bool)) :
  dy all s g=(match g with
   | none=>some true
   | some (j,want)=>(match all[j]? with
    | some o=>(match o.dst with
     | some t=>(Bk (bB s.tmps t)).map (·==some want)
     | none=>none)
    | none=>none)):=by
 unfold dy
 cases g with
 | none=>rfl
 | some jw=>
  obtain⟨j,want⟩:=jw;dsimp only
  cases all[j]? with
  | none=>rfl
  | some o=>
   dsimp only
   cases o.dst with
   | none=>rfl
   | some t=>
    dsimp only;unfold Bk
    split <;> simp_all
def sD (o:Oper) (all:List Oper) (s s':aa):Prop:=∀t∈o.looksAt all.toArray,cP (bB s'.tmps t)=cP (bB s.tmps t)
theorem oI {o:Oper} {all:List Oper} {s s':aa} (h:sD o all s s'):dy all s' o.guard=dy all s o.guard:=by
 rw[yF,yF]
 cases hg:o.guard with
 | none=>rfl
 | some jw=>
  obtain⟨j,want⟩:=jw;dsimp only
  cases hj:all[j]? with
  | none=>rfl
  | some o'=>
   dsimp only
   cases hd:o'.dst with
   | none=>rfl
   | some t=>
    dsimp only
    have:t∈o.looksAt all.toArray:=by simp[Oper.looksAt,hg,hj,hd]
    have h1:=h t this;rw[←ux (bB s'.tmps t),h1,ux]
theorem R7 {o:Op} {x:Operand} (h:x∈opsL o):x∈o.operands:=by
 cases o
 case call c=>simp[opsL,Op.operands,Call.operands] at h ⊢;exact .inr h
 case slice t x l h' m=>
  simp[opsL,Op.operands] at h ⊢
  rcases h with h|h|h
  ·exact .inl h
  ·exact .inr (.inl h)
  exact .inr (.inr (.inl h))
 all_goals (simp[opsL,Op.operands] at h ⊢ <;> exact h)
theorem OI {s s':aa} {x:Operand} (h:∀t,x=.tmp t->cP (bB s'.tmps t)=cP (bB s.tmps t)):cP (eR G s' x)=cP (eR G s x):=by
 cases x with
 | tmp t=>exact h t rfl
 | const v=>rfl
 | global g=>rfl
 | func f=>rfl
theorem nP {s s':aa}:∀(xs:List Operand) (k:Nat),(∀t,Operand.tmp t∈xs->cP (bB s'.tmps t)=cP (bB s.tmps t))->aM G s' none k xs=aM G s none k xs
 | [],_,_=>rfl
 | x::r,k,h=>by
  simp only[aM,reduceCtorEq,if_false];rw[OI (fun t ht=>h t (by simp[ht])),nP r (k+1) (fun t ht=>h t (by simp[ht]))]
theorem iF {o:Oper} {all:List Oper} {t:Tmp} (h:Operand.tmp t∈opsL o.op):t∈o.looksAt all.toArray:=by
 have:=R7 h
 unfold Oper.looksAt;refine List.mem_append_left _ (List.mem_filterMap.2 ⟨.tmp t,by simpa using this,rfl⟩)
def xW (fh:Bool) (s s':aa):Prop:=∀n,D7 fh n=true->BX (s.obj n) (s'.obj n)
theorem xW.of_eq {fh:Bool} {s s':aa} (h:s'.locs=s.locs) (hh:fh=true->s'.heap=s.heap):xW fh s s':=fun n hn=>by
 cases n with
 | loc i=>simp only[aa.obj,h];exact .refl _
 | out k=>simp only[D7] at hn;simp only[aa.obj,hh hn];exact .refl _
theorem xW.trans {fh:Bool} {s s' s'':aa} (h:xW fh s s') (k:xW fh s' s''):xW fh s s'':=fun n hn=>(h n hn).trans (k n hn)
theorem Ea {fh:Bool} {s s':aa} {o:Op} {vals:List ac} (hl:xW fh s s') (hp:pc fh (looks o vals)=true):BX (bj s o vals) (bj s' o vals):=by
 unfold bj
 cases hn:looks o vals with
 | none=>exact .refl _
 | some n=>
  refine hl n ?_;rw[hn] at hp
  cases n with
  | loc i=>rfl
  | out k=>simpa [pc,D7] using hp
theorem iX {fh:Bool} {all:List Oper} {o:Oper} {s s':aa} (h:sD o all s s') (hl:xW fh s s'):fm E G fh all o s'=fm E G fh all o s:=by
 unfold fm;rw[oI h,nP (s:=s) (s':=s') (opsL o.op) 0 (fun t ht=>h t (iF ht))]
 cases dy all s o.guard with
 | none=>rfl
 | some b=>
  dsimp only
  split
  ·split
   ·rfl
   cases dm o.op with
   | some _=>rfl
   | none=>
    dsimp only
    split
    ·rename_i hp;simp only[Bool.and_eq_true] at hp;rw[Ya hp.1 _ (Ea hl hp.2)]
    rfl
  rfl
theorem UD {op:Op} (hq:jg op=true) {vals:List ac} {n:Name} (hn:looks op vals=some n):jE E false op vals none=none:=by
 unfold looks at hn
 split at hn <;> simp[jg] at hq hn
 ·simp[jE,lg]
 ·simp only[jE,eL]
  split
  ·rename_i heq;simp only[List.cons.injEq] at heq;obtain⟨rfl,_⟩:=heq
   split
   ·simp[mapEntries]
   rfl
  rfl
 have e:∀t,pW E t [.map n] none=none:=by
  intro t;simp only[pW,UO,nz]
  cases E.desc t with
  | none=>rfl
  | some d=>cases d <;> rfl
 subst hn;simp only[jE,lj]
 split
 ·rfl
 exact e _
theorem IB {fh:Bool} {all:List Oper} {o:Oper} {s s':aa} {a:ac} (h:sD o all s s') (hl:∀n ob,s.obj n=some ob->s'.obj n=some ob) (hy:fm E G fh all o s=some a):fm E G fh all o s'=some a:=by
 unfold fm at hy ⊢;rw[oI h,nP (s:=s) (s':=s') (opsL o.op) 0 (fun t ht=>h t (iF ht))]
 cases hw:dy all s o.guard with
 | none=>rw[hw] at hy;exact hy
 | some b=>
  rw[hw] at hy;dsimp only at hy ⊢
  split
  ·rename_i hb;rw[if_pos hb] at hy
   split
   ·rename_i ha;rw[if_pos ha] at hy;exact hy
   rename_i ha;rw[if_neg ha] at hy
   cases hc:dm o.op with
   | some _=>rw[hc] at hy;exact hy
   | none=>
    rw[hc] at hy;dsimp only at hy ⊢
    split
    ·rename_i hp;rw[if_pos hp] at hy;simp only[Bool.and_eq_true] at hp;have e:bj s' o.op (aM G s none 0 (opsL o.op))=bj s o.op (aM G s none 0 (opsL o.op)):=by
      unfold bj at hy ⊢
      cases hlk:looks o.op (aM G s none 0 (opsL o.op)) with
      | none=>rfl
      | some n=>
       rw[hlk] at hy;dsimp only at hy ⊢
       cases hob:s.obj n with
       | some ob=>exact hl n ob hob
       | none=>rw[hob,UD hp.1 hlk] at hy;simp at hy
     rw[e];exact hy
    rename_i hp;rw[if_neg hp] at hy;exact hy
  rename_i hb;rw[if_neg hb] at hy;exact hy
theorem cq {l:List ac} {d t:Nat} {v:ac} (h:d≠t):bB (l.set d v) t=bB l t:=by
 unfold bB;rw[List.getElem?_set_ne h]
theorem cW {s:aa} {dst:Option Tmp} {t:Nat} {v:ac} (h:dst≠some t):bB (s.put dst v).tmps t=bB s.tmps t:=by
 cases dst with
 | none=>rfl
 | some d=>exact cq (fun e=>h (by rw[e]))
theorem put_comm {s:aa} {d1 d2:Option Tmp} {v1 v2:ac} (h:∀d,d1=some d->d2≠some d):(s.put d1 v1).put d2 v2=(s.put d2 v2).put d1 v1:=by
 cases d1 with
 | none=>rfl
 | some a=>
  cases d2 with
  | none=>rfl
  | some b=>
   have hne:a≠b:=fun e=>h a rfl (by rw[e])
   simp only[aa.put];rw[List.set_comm _ _ hne]
theorem QB {s:aa} {dst:Option Tmp} {v:ac} {h:List (Name×aR)} {n:Nat}:({s.put dst v with heap:=h,next:=n }:aa)=({s with heap:=h,next:=n }:aa).put dst v:=by
 cases dst <;> rfl
theorem FL {o:Oper} {all:List Oper} {s:aa} {dst:Option Tmp} {v:ac} (h:∀d,dst=some d->d∉o.looksAt all.toArray):sD o all s (s.put dst v):=by
 intro t ht;rw[cW];intro e;exact h t e ht
theorem sD.trans {o:Oper} {all:List Oper} {s s' s'':aa} (h:sD o all s s') (k:sD o all s' s''):sD o all s s'':=fun t ht=>(k t ht).trans (h t ht)
theorem qG {s:aa} {dst:Option Tmp} {v:ac} {x:Operand} (h:∀d,dst=some d->x≠.tmp d):eR G (s.put dst v) x=eR G s x:=by
 cases x with
 | tmp t=>exact cW (fun e=>h t e rfl)
 | _=>rfl
theorem HB {s:aa} {dst:Option Tmp} {v:ac} {x:Operand} (h:∀d,dst=some d->x≠.tmp d):bR (s.put dst v) (some 0) [x]=(bR s (some 0) [x]).put dst v:=by
 cases x with
 | tmp t=>
  cases dst with
  | none=>rfl
  | some d=>
   have hne:d≠t:=fun e=>h d rfl (by rw[e])
   simp only[bR,List.getElem?_cons_zero,aa.put];rw[cq hne,List.set_comm _ _ hne]
 | _=>simp[bR]
theorem sL {dst:Option Tmp} {v:ac}:∀(xs:List Operand) (s:aa),(∀d,dst=some d->Operand.tmp d∉xs)->cK G (s.put dst v) xs=((cK G s xs).1,(cK G s xs).2.put dst v)
 | [],s,_=>rfl
 | x::r,s,h=>by
  have hx:∀d,dst=some d->x≠.tmp d:=fun d hd e=>h d hd (by simp[e])
  simp only[cK];rw[HB hx,sL r _ (fun d hd hm=>h d hd (by simp[hm])),qG hx]
theorem ue {dst:Option Tmp} {v:ac}:∀(xs:List Operand) (k:Nat) (s:aa),(∀d,dst=some d->Operand.tmp d∉xs)->aM G (s.put dst v) none k xs=aM G s none k xs
 | [],_,_,_=>rfl
 | x::r,k,s,h=>by
  simp only[aM,reduceCtorEq,if_false];rw[qG (fun d hd e=>h d hd (by simp[e])),ue r (k+1) s (fun d hd hm=>h d hd (by simp[hm]))]
theorem Ff {c:Call} {s:aa} {dst:Option Tmp} {v:ac} (h:∀d,dst=some d->Operand.tmp d∉c.operands) :
  dI E G H c (s.put dst v)=(dI E G H c s).map fun x=>(x.1,x.2.1,x.2.2.put dst v):=by
 obtain⟨callee,args,argTypes⟩:=c
 cases callee with
 | builtin _=>rfl
 | invoke _ _=>rfl
 | value f=>
  have hf:∀d,dst=some d->f≠.tmp d:=fun d hd e=>h d hd (by simp[Call.operands,e])
  have ha:∀d,dst=some d->Operand.tmp d∉args.toList:=fun d hd hm=>h d hd (by simp at hm;simp[Call.operands,hm])
  simp only[dI];rw[qG hf]
  split
  ·rename_i g first captured
   split
   ·split
    ·rw[sL _ _ ha];dsimp only
     split <;> rfl
    rw[ue _ _ _ ha];dsimp only
    split <;> rfl
   rfl
  rfl
theorem kA {s:aa} {x:Operand} (t:Nat):cP (bB (bR s (some 0) [x]).tmps t)=cP (bB s.tmps t):=by
 cases x with
 | tmp u=>
  simp only[bR,List.getElem?_cons_zero]
  by_cases hu:u=t
  ·subst hu
   by_cases hl:u < s.tmps.length
   ·have:bB (s.tmps.set u (cP (bB s.tmps u))) u=cP (bB s.tmps u):=by
     conv=>lhs;unfold bB
     simp only[List.getElem?_set_self hl];rfl
    rw[this,Ir]
   rw[List.set_eq_of_length_le (Nat.le_of_not_lt hl)]
  rw[cq hu]
 | _=>simp[bR]
theorem qR:∀(xs:List Operand) (s:aa) (t:Nat),cP (bB (cK G s xs).2.tmps t)=cP (bB s.tmps t)
 | [],_,_=>rfl
 | x::r,s,t=>by
  simp only[cK];exact (qR r _ t).trans (kA t)
theorem mq {c:Call} {s s2:aa} {f:FuncId} {args:List ac} (h:dI E G H c s=some (f,args,s2)):(∀t,cP (bB s2.tmps t)=cP (bB s.tmps t))/\s2.locs=s.locs:=by
 unfold dI at h
 split at h
 ·split at h
  ·split at h
   ·dsimp only at h
    split at h
    ·split at h
     ·simp at h;rw[←h.2.2];exact⟨qR _ _,(gh G _ s).1⟩
     simp at h
    split at h
    ·simp at h;rw[←h.2.2];exact⟨fun _=>rfl,rfl⟩
    simp at h
   simp at h
  simp at h
 simp at h
theorem mr {c:Call} {s s2:aa} {f:FuncId} {args:List ac} (h:dI E G H c s=some (f,args,s2)):s2.heap=s.heap:=by
 unfold dI at h
 split at h
 ·split at h
  ·split at h
   ·dsimp only at h
    split at h
    ·split at h
     ·simp at h;rw[←h.2.2];exact (gh G _ s).2.1
     simp at h
    split at h
    ·simp at h;rw[←h.2.2]
    simp at h
   simp at h
  simp at h
 simp at h
theorem Fe {c:Call} {s s2:aa} {f:FuncId} {args:List ac} (h:dI E G H c s=some (f,args,s2)) (o:Oper) (all:List Oper):sD o all s s2/\s2.locs=s.locs:=
 ⟨fun t _=>(mq h).1 t,(mq h).2⟩
theorem nZ {o:Op} {t:Tmp} (h:fJ o=some t):∃c r,o=.call c/\c.callee=.builtin .append/\c.args.toList=.tmp t::r:=by
 unfold fJ at h
 split at h
 ·rename_i c
  split at h
  ·split at h
   ·simp at h;subst h;exact⟨c,_,rfl,by assumption,by assumption⟩
   simp at h
  simp at h
 simp at h
theorem CI {args:Array Operand} {tys:Array TypeId} {vals:List ac} {es:List ap} {x:ac} (h:KJ vals=[.own es,x]):looks (.call ⟨.builtin .append,args,tys⟩) vals=none:=by
 match vals,h with
 | [a,y],h=>cases a <;> first|rfl|(simp[KJ,DO] at h)
 | [],h=>simp[KJ] at h
 | [_],h=>simp[KJ] at h
 | _::_::_::_,h=>simp[KJ] at h
theorem pO {o:Op} {t:Tmp} (h:fJ o=some t) {vals:List ac} {ob:Option aR} {out:Out} (ho:jE E false o vals ob=some out):out.eff=.keep/\looks o vals=none:=by
 obtain⟨c,r,rfl,hc,_⟩:=nZ h;obtain⟨callee,args,tys⟩:=c;simp only at hc;subst hc;simp only[jE,lj] at ho
 split at ho
 ·simp at ho
 split at ho
 ·split at ho
  ·unfold cJ at ho
   split at ho
   ·rename_i heq
    split at ho
    ·simp only[Bool.false_and,Bool.false_eq_true,if_false] at ho
     split at ho
     ·split at ho
      ·simp at ho;exact⟨by rw[←ho],CI heq⟩
      simp at ho
     simp at ho
    simp at ho
   ·split at ho
    ·simp at ho
    simp at ho
   simp at ho
  unfold dx at ho
  split at ho
  ·rename_i heq
   split at ho
   ·split at ho
    ·split at ho
     ·split at ho
      ·simp at ho;exact⟨by rw[←ho],CI heq⟩
      simp at ho
     simp at ho
    simp at ho
   simp at ho
  simp at ho
 simp at ho
theorem tD {o:Op} {t:Tmp} (h:fJ o=some t):kI false o=some 0/\∃r,opsL o=.tmp t::r:=by
 obtain⟨c,r,rfl,hc,ha⟩:=nZ h;obtain⟨callee,args,tys⟩:=c;simp only at hc ha;subst hc;exact⟨rfl,r,by simp[opsL,ha]⟩
theorem me {dst:Option Tmp} {v:ac} (mv:Option Nat):∀(xs:List Operand) (k:Nat) (s:aa),(∀d,dst=some d->Operand.tmp d∉xs)->aM G (s.put dst v) mv k xs=aM G s mv k xs
 | [],_,_,_=>rfl
 | x::r,k,s,h=>by
  simp only[aM];rw[qG (fun d hd e=>h d hd (by simp[e])),me mv r (k+1) s (fun d hd hm=>h d hd (by simp[hm]))]
theorem uz {o:Oper} {t:Tmp} (h:fJ o.op=some t) {s s':aa} (hs:cX E G false false o s=some s'):∃v,s'=({s with tmps:=s.tmps.set t (cP (bB s.tmps t))}:aa).put o.dst v ∧
  ∀(dst:Option Tmp) (u:ac),(∀d,dst=some d->Operand.tmp d∉opsL o.op)->(∀d,dst=some d->o.dst≠some d)->cX E G false false o (s.put dst u)=some (s'.put dst u):=by
 obtain⟨hm,r,hops⟩:=tD h;unfold cX at hs
 split at hs
 ·simp at hs
 rename_i out hout;obtain⟨hk,hl⟩:=pO h hout;unfold dH at hs;rw[hk] at hs;simp only[Option.some.injEq] at hs;have hd:bR s (kI false o.op) (opsL o.op)={s with tmps:=s.tmps.set t (cP (bB s.tmps t))}:=by
  rw[hm,hops];simp[bR]
 rw[hd] at hs;refine⟨out.val,hs.symm,?_⟩;intro dst u h1 h2;have hne:∀d,dst=some d->d≠t:=fun d hd' e=>h1 d hd' (by rw[hops,e];simp)
 have hd2:bR (s.put dst u) (kI false o.op) (opsL o.op)=({s with tmps:=s.tmps.set t (cP (bB s.tmps t))}:aa).put dst u:=by
  rw[hm,hops];simp only[bR,List.getElem?_cons_zero]
  cases dst with
  | none=>rfl
  | some d=>
   simp only[aa.put];rw[cq (hne d rfl),List.set_comm _ _ (hne d rfl)]
 have hlk:∀s':aa,bj s' o.op (aM G s (kI false o.op) 0 (opsL o.op))=none:=fun s'=>by unfold bj;rw[hl]
 unfold cX;rw[me _ _ _ _ h1,hlk,←hlk s,hout];simp only[dH,hk,hd2,Option.some.injEq];rw[←hs];exact put_comm h2
theorem Gg {s:aa} {dst:Option Tmp} {v:ac} {n:Name} {o:aR}:(s.put dst v).kj n o=(s.kj n o).put dst v:=by
 cases n <;> cases dst <;> rfl
theorem Cq {s:aa} {n:Name} {o:aR}:(s.kj n o).tmps=s.tmps:=by cases n <;> rfl
theorem Cr {s:aa} {n:Name} {o:aR}:(s.kj n o).next=s.next:=by cases n <;> rfl
theorem lD {s:aa} {dst:Option Tmp} {v:ac} {n:Name}:(s.put dst v).obj n=s.obj n:=by
 cases n <;> cases dst <;> rfl
theorem gl {fh:Bool} {all:List Oper} {i:Nat} {r:List Nat} {s s':aa} (h:dv fh all (i::r) s=some s'):∃o T u t n off cs es es2,all[i]?=some o/\o.op=.load T (.tmp u)/\o.dst=some t/\o.guard=none/\bB s.tmps u=.ptr n off ∧
  D7 fh n=true/\s.obj n=some (.cells cs)/\cs[off]?=some (.own es)/\bB s.tmps t=.dat (.slice es2) ∧
  dv fh all r (({s with tmps:=s.tmps.set t (.own es)}:aa).kj n (.cells (dr off [.dat (.slice es)] cs)))=some s':=by
 simp only[dv] at h
 split at h
 ·rename_i o ho
  split at h
  ·rename_i T u t hop hd hg
   split at h
   ·rename_i n off hu
    split at h
    ·rename_i hok
     split at h
     ·rename_i cs hob
      split at h
      ·rename_i es hes
       split at h
       ·rename_i es2 ht;exact⟨o,T,u,t,n,off,cs,es,es2,ho,hop,hd,hg,hu,hok,hob,hes,ht,h⟩
       simp at h
      simp at h
     simp at h
    simp at h
   simp at h
  simp at h
 simp at h
theorem ze {fh:Bool} {all:List Oper} {dst:Option Tmp} {v:ac}:∀(tk:List Nat) (s s':aa),(∀i∈tk,∀o,all[i]?=some o->o.dst≠none->dst≠o.dst)->(∀i∈tk,∀o T u,all[i]?=some o->o.op=.load T (.tmp u)->dst≠some u)->
  dv fh all tk s=some s'->dv fh all tk (s.put dst v)=some (s'.put dst v)
 | [],s,s',_,_,h=>by simp[dv] at h ⊢;rw[h]
 | i::r,s,s',h1,h2,h=>by
  obtain⟨o,T,u,t,n,off,cs,es,es2,ho,hop,hd,hg,hu,hok,hob,hes,ht,hrest⟩:=gl h;have hdt:dst≠some t:=by have:=h1 i (by simp) o ho (by simp[hd]);rwa [hd] at this
  have hdu:=h2 i (by simp) o T u ho hop;have ih:=ze (v:=v) r _ _ (fun i hi=>h1 i (by simp[hi])) (fun i hi=>h2 i (by simp[hi])) hrest;simp only[dv,ho,hop,hd,hg];rw[cW hdu,hu];dsimp only;rw[if_pos hok,lD,hob];dsimp only;rw[hes];dsimp only;rw[cW hdt,ht];dsimp only;rw[←ih];congr 1;rw[←Gg];congr 1
  cases dst with
  | none=>rfl
  | some d=>
   have hne:d≠t:=fun e=>hdt (by rw[e])
   simp only[aa.put];rw[List.set_comm _ _ hne]
theorem Cs:∀(off:Nat) (cs:List ac) (es:List ap),cs[off]?=some (.own es)->bu (dr off [.dat (.slice es)] cs)=bu cs
 | _,[],_,h=>by simp at h
 | 0,a::cs,es,h=>by simp at h;subst h;cases cs <;> simp[dr,bu]
 | off+1,a::cs,es,h=>by
  simp at h
  have:=Cs off cs es h
  cases a <;> simp[dr,bu,this]
theorem mo:∀{os:List (Name×aR)} {n:Name} {cs cs':List ac},eu n os=some (.cells cs)->bu cs'=bu cs->∀m,BX (eu m os) (eu m (iS n (.cells cs') os))
 | [],_,_,_,h,_,_=>by simp[eu] at h
 |(k,x)::os,n,cs,cs',h,hu,m=>by
  simp only[eu] at h;simp only[iS]
  split
  ·rename_i hk;rw[if_pos hk] at h;simp at h;subst h;simp only[eu]
   split
   ·exact .inr ⟨cs,cs',rfl,rfl,hu⟩
   exact .refl _
  rename_i hk;rw[if_neg hk] at h;simp only[eu]
  split
  ·exact .refl _
  exact mo h hu m
theorem QC {fh:Bool} {s:aa} {tmps:List ac} {n:Name} {cs cs':List ac} (h:s.obj n=some (.cells cs)) (hu:bu cs'=bu cs):xW fh s (({s with tmps:=tmps }:aa).kj n (.cells cs')):=by
 intro m _
 cases n with
 | loc i=>
  cases m with
  | loc j=>simp only[aa.obj,aa.kj] at h ⊢;exact mo h hu _
  | out j=>simp only[aa.obj,aa.kj];exact .refl _
 | out i=>
  cases m with
  | loc j=>simp only[aa.obj,aa.kj];exact .refl _
  | out j=>simp only[aa.obj,aa.kj] at h ⊢;exact mo h hu _
theorem zd {fh fh':Bool} {all:List Oper}:∀(tk:List Nat) (s s':aa),dv fh all tk s=some s'->xW fh' s s'/\s'.next=s.next/\∀t,(∀i∈tk,∀o,all[i]?=some o->o.dst≠some t)->bB s'.tmps t=bB s.tmps t
 | [],s,s',h=>by simp[dv] at h;subst h;exact⟨.of_eq rfl (fun _=>rfl),rfl,fun _ _=>rfl⟩
 | i::r,s,s',h=>by
  obtain⟨o,T,u,t,n,off,cs,es,es2,ho,hop,hd,hg,hu,hok,hob,hes,ht,hrest⟩:=gl h;obtain⟨h1,h3,h4⟩:=zd r _ _ hrest;refine⟨xW.trans (QC hob (Cs off cs es hes)) h1,by rw[h3,Cr],fun t' ht'=>?_⟩;rw[h4 t' (fun j hj=>ht' j (by simp[hj])),Cq];have hne:t≠t':=fun e=>ht' i (by simp) o ho (by rw[hd,e])
  exact cq hne
theorem kE {all:List Oper} {t:Tmp}:∀{tk:List Nat} {i:Nat},i∈gf all t tk->i∈tk/\∃o,all[i]?=some o/\o.dst=some t
 | [],_,h=>by simp[gf] at h
 | j::r,i,h=>by
  simp only[gf] at h
  split at h
  ·rename_i o ho
   split at h
   ·rename_i hd
    rcases List.mem_cons.1 h with rfl|h
    ·exact⟨by simp,o,ho,hd⟩
    obtain⟨h1,h2⟩:=kE h;exact⟨by simp[h1],h2⟩
   obtain⟨h1,h2⟩:=kE h;exact⟨by simp[h1],h2⟩
  obtain⟨h1,h2⟩:=kE h;exact⟨by simp[h1],h2⟩
theorem mf {ops:Array Oper} {h:ax} (hc:dS ops h=true) {i:Nat} (hi:i∈h.nw.toList++h.tk) {o:Oper} (ho:ops[i]?=some o):∀{j:Nat} {l:Bool} {q:Oper},(j,l)∈h.pre->j≠i->ops[j]?=some q->
  (∃d,o.dst=some d/\q.dst≠some d/\(l=false->d∉q.looksAt ops))/\∀T u,o.op=.load T (.tmp u)->q.dst≠some u∨∃e∈o.after,Region.binds .any e=true/\e.on=j:=by
 intro j l q hj hne hq;unfold dS at hc;have h1:=List.all_eq_true.1 hc i hi;rw[ho] at h1;simp only[Bool.and_eq_true] at h1;have h2:=List.all_eq_true.1 h1.2.2 (j,l) hj;simp only[Bool.or_eq_true,beq_iff_eq,hne,false_or,hq,Bool.and_eq_true] at h2;obtain⟨h3,h4⟩:=h2
 constructor
 ·cases hd:o.dst with
  | none=>rw[hd] at h3;simp at h3
  | some d=>
   rw[hd] at h3;simp only[Bool.and_eq_true,Bool.or_eq_true] at h3;refine⟨d,rfl,by simpa using h3.1,fun hl=>?_⟩
   rcases h3.2 with h5|h5
   ·rw[hl] at h5;simp at h5
   simpa using h5
 intro T u hop;rw[hop] at h4;simp only[Bool.or_eq_true] at h4
 rcases h4 with h4|h4
 ·exact .inl (by simpa using h4)
 obtain⟨e,he1,he2⟩:=Array.any_eq_true'.1 h4;simp only[Bool.and_eq_true,beq_iff_eq] at he2;exact .inr ⟨e,he1,he2.1,he2.2⟩
theorem vx {o:Op} {c:Call} (h:dm o=some c):o=.call c:=by
 unfold dm at h
 split at h
 ·split at h
  ·simp at h
  simp at h;rw[h]
 simp at h
end
end Go.Tp
namespace Go.Tp
theorem vU:∀{l:List ap},rj l↔∀d∈l,xU d
 | []=>by simp[rj]
 | d::r=>by simp[rj,vU (l:=r)]
theorem KF {e:ap} (h:∀(j:Nat) (c:ap),e.cells[j]?=some c->xU c):xU e:=by
 cases e with
 | flat v=>exact h 0 (.flat v) rfl
 | slice es=>exact h 0 (.slice es) rfl
 | agg cs=>
  simp only[xU];rw[vU];intro d hd;obtain⟨j,hj⟩:=List.getElem?_of_mem hd;exact h j d hj
theorem dO.oH {w:World} {R:Own} {v:Value} {d:ap} (h:dO w R v d):xU d:=by
 induction h with
 | flat h=>exact h
 | nil a cap=>exact⟨Nat.zero_le _,trivial⟩
 | slice b off cap s es vs hs hlen hcap hb hcell hrep ih=>
  simp only[xU];refine⟨hb,vU.2 fun e he=>?_⟩;obtain⟨i,hi⟩:=List.getElem?_of_mem he;exact KF fun j c hj=>ih i j e c hi hj
theorem dc.oH {w:World} {R:Own}:∀{vs:List Value} {cs:List ap},dc w R vs cs->rj cs
 | [],[],_=>trivial
 | _::_,_::_,h=>⟨h.1.oH,dc.oH h.2⟩
 | [],_::_,h=>h.elim
 | _::_,[],h=>h.elim
theorem sE.oH {w:World} {R:Own} {v:Value}:∀{d:ap},sE w R v d->xU d
 | .agg _,⟨_,_,h⟩=>h.oH
 | .flat _,h=>dO.oH h
 | .slice _,h=>dO.oH h
theorem dY.oH {w:World} {R:Own} {b:Nat}:∀{off:Nat} {cs:List ap},dY w R b off cs->rj cs
 | _,[],_=>trivial
 | _,_::_,⟨⟨_,_,_,hr⟩,ht⟩=>⟨hr.oH,dY.oH ht⟩
section
variable {w:World} {R:Own} {N:Name->Option Nat}
mutual
theorem al.oH:∀{a:ac} {v:Value} {bs:List Nat},al w R N a v bs->mV a
 | .dat _,_,_,h=>by simp only[al] at h;simp only[mV];exact h.2.oH
 | .own _,_,_,h=>by
  simp only[al] at h;simp only[mV]
  cases h with
  | nil=>exact⟨Nat.zero_le _,trivial⟩
  | row b cap s es vs t hblk hs0 hs hcap he hin h hsp=>have:=h.oH;simpa only[xU] using this
 | .ref _,_,_,h=>by
  simp only[al] at h;simp only[mV];obtain⟨_,b,off,_,h2⟩:=h;exact h2.oH
 | .ptr _ _,_,_,_=>by simp[mV]
 | .map _,_,_,_=>by simp[mV]
 | .win _ _ _ _,_,_,_=>by simp[mV]
 | .fn _ first captured,_,_,h=>by
  simp only[al] at h;obtain⟨_,vs,us,_,h2,h3⟩:=h;simp only[mV];exact⟨ak.oH (as:=first) h2,ak.oH (as:=captured) h3⟩
 | .agg cs,_,_,h=>by
  simp only[al] at h;obtain⟨vs,_,h2⟩:=h;simp only[mV];exact ak.oH (as:=cs) h2
 | .tup cs,_,_,h=>by
  simp only[al] at h;obtain⟨vs,_,h2⟩:=h;simp only[mV];exact ak.oH (as:=cs) h2
 | .undef,_,_,_=>by simp[mV]
theorem ak.oH:∀{as:List ac} {vs:List Value} {bs:List Nat},ak w R N as vs bs->qO as
 | [],_,_,_=>by simp[qO]
 | a::as,_,_,h=>by
  simp only[ak] at h;obtain⟨v,vs',b1,b2,_,_,h1,h2⟩:=h;simp only[qO];exact⟨al.oH (a:=a) h1,ak.oH (as:=as) h2⟩
end
theorem de.oH:∀{es:List (Value×ap)} {ents:List MapEntry},de w R es ents->acR es
 | [],_,_=>trivial
 |(_,_)::_,_,⟨_,_,_,_,h3,h4⟩=>⟨h3.oH,de.oH h4⟩
theorem Dg:∀{l m:List ac},qO (l++m)->qO l
 | [],_,_=>by simp[qO]
 | a::l,m,h=>by simp only[List.cons_append,qO] at h ⊢;exact⟨h.1,Dg h.2⟩
theorem an.oH:∀{os:List (Name×aR)} {bs:List Nat},an w R N os bs->xT os
 | [],_,_=>trivial
 |(_,.cells _)::_,_,⟨_,_,_,_,_,⟨_,_,_,_,h1,_⟩,h2⟩=>⟨Dg h1.oH,an.oH h2⟩
 |(_,.map _)::_,_,⟨_,_,_,_,_,⟨_,_,_,_,_,h1⟩,h2⟩=>⟨h1.1.oH,an.oH h2⟩
end
section
variable {P:Program} {E:bG} {G:bL} {H:Hints} {D:List Deferred}
theorem bz.trans {w w1 w2:World} {R R1 R2:Own} {bs:List Nat} (h:bz w R w1 R1 bs) (k:bz w1 R1 w2 R2 bs):bz w R w2 R2 bs:=
 ⟨h.step.trans k.step,fun b hb hlt=>by
  obtain⟨e1,f1⟩:=h.same b hb hlt;obtain⟨e2,f2⟩:=k.same b hb (Nat.lt_of_lt_of_le hlt h.step.size);exact⟨e2.trans e1,fun off hr=>f2 off (f1 off hr)⟩⟩
theorem UL.trans {K:aa->Prop} {w w1:World} {R R1:Own} {N N1:Name->Option Nat} {bsF:List Nat} (hk:bz w R w1 R1 bsF) (hN:∀o b,N (.out o)=some b->N1 (.out o)=some b) {a:Act} {w2:World}
  (h:UL G D K w1 R1 N1 bsF a w2):UL G D K w R N bsF a w2:=by
 obtain⟨s',R',N',bsT,bsL,bsH,hq,hr,hd,hk',hN'⟩:=h;exact⟨s',R',N',bsT,bsL,bsH,hq,hr,hd,hk.trans hk',fun o b h=>hN' o b (hN o b h)⟩
theorem kf {ops:Array Oper} {s:aa} {act:Act} {w:World} {R:Own} {N:Name->Option Nat} {bsT:List Nat} (ht:ak w R N s.tmps act.tmps.toList bsT) {o:Oper} {b:Bool} (h:dy ops.toList s o.guard=some b) :
  Region.wanted o (yielded ops act.tmps)=b:=by
 unfold dy at h;unfold Region.wanted
 cases hg:o.guard with
 | none=>rw[hg] at h;simp at h;simp[←h]
 | some jw=>
  obtain⟨j,want⟩:=jw;rw[hg] at h;simp only at h ⊢
  split at h
  ·rename_i o' ho'
   split at h
   ·rename_i t ht'
    split at h
    ·rename_i b' hb';simp at h;have hget:s.tmps[t]?=some (.dat (.flat (.bool b'))):=by
      unfold bB at hb'
      cases hs:s.tmps[t]? with
      | none=>rw[hs] at hb';simp at hb'
      | some v=>rw[hs] at hb';simp at hb';rw[hb']
     obtain⟨v,bs',e1,e2,_⟩:=eB ht hget;obtain⟨_,rfl,_⟩:=aI e2;have ho2:ops[j]?=some o':=by simpa using ho'
     have hy:yielded ops act.tmps j=some b':=by
      unfold yielded;simp at e1;simp[ho2,ht',e1]
     rw[hy];rw[←h]
     cases b' <;> cases want <;> rfl
    ·rename_i hb';simp at h;have hget:s.tmps[t]?=some (.tup []):=by
      unfold bB at hb'
      cases hs:s.tmps[t]? with
      | none=>rw[hs] at hb';simp at hb'
      | some v=>rw[hs] at hb';simp at hb';rw[hb']
     obtain⟨v,bs',e1,e2,_⟩:=eB ht hget;simp only[al,ak] at e2;obtain⟨vs,rfl,rfl,_⟩:=e2;have ho2:ops[j]?=some o':=by simpa using ho'
     have hy:yielded ops act.tmps j=none:=by
      unfold yielded;simp at e1;simp[ho2,ht',e1]
     rw[hy,h];rfl
    simp at h
   simp at h
  simp at h
theorem vg {o:Oper} {act:Act} {w w':World} {cv:Value} {K:Act->World->Prop} {Qx:Exit->Act->World->Prop} (hran:Zh P w act.eval o cv w') (h:K (act.put o.dst cv) w'):o.wp P act w K Qx:=by
 unfold Oper.wp
 rcases hran with hran|⟨hran,rfl⟩
 ·rw[hran,Oper.upon_value];exact h
 rw[hran,Oper.upon_skip];exact h
theorem Bb {f:FuncId} {args:List ac} {s2:aa} {o:Oper} {cargs:List Value} {act:Act} {w:World} {R:Own} {N:Name->Option Nat} {bsA bsT bsL bsH bsF:List Nat} {K:aa->Prop} {Qx:Exit->Act->World->Prop} {Kx:Act->World->Prop}
  (hrun:(execOp act.eval o).run P w=.ok (.enter f cargs.toArray) w) (hr2:df G w R N act.tmps.toList s2 (.tuple cargs.toArray) (.tup args) bsA bsT bsL bsH bsF) (hno:bU args=true) (hd:act.defers=D)
  (h:aB P G f args s2.heap s2.next (fun v heap n=>mV v->xT heap->K (({s2 with heap:=heap,next:=n }:aa).put o.dst v)))
  (hK:∀(v:ac) (cv:Value) (heap:List (Name×aR)) (n:Nat) (w':World) (R':Own) (N':Name->Option Nat) (bsT' bsH':List Nat),K (({s2 with heap:=heap,next:=n }:aa).put o.dst v)->
   df G w' R' N' (act.put o.dst cv).tmps.toList (({s2 with heap:=heap,next:=n }:aa).put o.dst v) undef .undef [] bsT' bsL bsH' bsF->bz w R w' R' (bsL++bsF)->(∀m c,N m=some c->N' m=some c)->(∀i,N' (.loc i)=N (.loc i))->Kx (act.put o.dst cv) w') :
  o.wp P act w Kx Qx:=by
 unfold Oper.wp;rw[hrun,Oper.upon_enter];have hv:=hr2.val;simp only[al] at hv;obtain⟨cs0,ec,hargs⟩:=hv;simp at ec;subst ec;have hndA:(bsA++(bsH++(bsT++(bsL++bsF)))).Nodup:=by
  have hp:(bsA++(bsH++(bsT++(bsL++bsF)))).Perm (bsA++(bsT++(bsL++(bsH++bsF)))):=by
   rw[List.perm_iff_count];intro q;simp only[List.count_append];omega
  exact hp.nodup_iff.2 hr2.nodup
 refine (h w R N cargs bsA bsH (bsT++(bsL++bsF)) (hargs.ya hno (fun _=>rfl)) hr2.heap hndA hr2.next hr2.glob ?_).mono ?_
 ·intro b hb;simp at hb
  rcases hb with h|h|h
  ·exact hr2.tmps.lt b h
  ·exact hr2.locs.lt b h
  exact hr2.frame b h
 rintro e w' ⟨v,cv,heap',next',R'',N'',bsV,bsH'',rfl,hQ,hv2,hh2,hnd2,hnx2,hk3,hN3⟩
 -- the caller's names beside the callee's
 let N3:Name->Option Nat:=fun m=>match m with|.loc i=>N (.loc i)|.out o=>N'' (.out o)
 have hext:∀m c,N m=some c->N3 m=some c:=fun m c hm=>by cases m with|loc i=>exact hm|out o=>exact hN3 o c hm
 have hkT:bz w R w' R'' bsT:=hk3.sub (by intro b hb;simp[hb]);have hkL:bz w R w' R'' bsL:=hk3.sub (by intro b hb;simp[hb]);have hkF:bz w R w' R'' (bsL++bsF):=hk3.sub (by intro b hb;simp at hb;rcases hb with h|h <;> simp[h]);have ht3:ak w' R'' N3 s2.tmps act.tmps.toList bsT:=(hr2.tmps.keep hkT).ext hext;have hl3:an w' R'' N3 s2.locs bsL:=(hr2.locs.keep hkL).ext hext;have hh3:an w' R'' (outs N3) heap' bsH'':=hh2.tw (N:=N'') (N':=N3) (fun _=>rfl);have hv3:al w' R'' N3 v cv bsV:=hv2.ya hv2.cC (fun _=>rfl);have hnd3:(bsV++(bsT++(bsL++(bsH''++bsF)))).Nodup:=by
  have hp:(bsV++(bsT++(bsL++(bsH''++bsF)))).Perm (bsV++(bsH''++(bsT++(bsL++bsF)))):=by
   rw[List.perm_iff_count];intro q;simp only[List.count_append];omega
  exact hp.nodup_iff.2 hnd2
 let s3:aa:={s2 with heap:=heap',next:=next' }
 obtain⟨bsT2,hp1,hp2⟩:=fN (s:=s3) o.dst ht3 hv3 hnd3;obtain⟨q1,q2,q3⟩:=cZ s3 o.dst v;obtain⟨pa1,pa2⟩:=gF act o.dst cv;have hr4:df G w' R'' N3 (act.put o.dst cv).tmps.toList (s3.put o.dst v) undef .undef [] bsT2 bsL bsH'' bsF:=
  ⟨aW _,by rw[pa1];exact hp1,by rw[q1];exact hl3,by rw[q2];exact hh3,by simpa using hp2,by rw[q3];exact hnx2,
   fun g cs hg=>(hr2.glob g cs hg).step hk3.step,fun b hb=>Nat.lt_of_lt_of_le (hr2.frame b hb) hk3.step.size⟩
 exact hK v cv heap' next' w' R'' N3 bsT2 bsH'' (hQ hv2.oH hh2.oH) hr4 hkF hext (fun _=>rfl)
theorem xL {f:FuncId} {args:List ac} {s2:aa} {o:Oper} {cargs:List Value} {act:Act} {w:World} {R:Own} {N:Name->Option Nat} {bsA bsT bsL bsH bsF:List Nat} {K:aa->Prop} {Qx:Exit->Act->World->Prop} {Kx:Act->World->Prop}
  (hrun:(execOp act.eval o).run P w=.ok (.enter f cargs.toArray) w) (hr2:df G w R N act.tmps.toList s2 (.tuple cargs.toArray) (.tup args) bsA bsT bsL bsH bsF) (hno:bU args=true) (hd:act.defers=D)
  (h:aB P G f args [] s2.next (fun v heap n=>mV v->xT heap->heap=[]/\K (({s2 with next:=n }:aa).put o.dst v)))
  (hK:∀(v:ac) (cv:Value) (n:Nat) (w':World) (R':Own) (N':Name->Option Nat) (bsT':List Nat),K (({s2 with next:=n }:aa).put o.dst v)->
   df G w' R' N' (act.put o.dst cv).tmps.toList (({s2 with next:=n }:aa).put o.dst v) undef .undef [] bsT' bsL bsH bsF->bz w R w' R' (bsL++(bsH++bsF))->(∀m c,N m=some c->N' m=some c)->(∀i,N' (.loc i)=N (.loc i))->Kx (act.put o.dst cv) w') :
  o.wp P act w Kx Qx:=by
 unfold Oper.wp;rw[hrun,Oper.upon_enter];have hv:=hr2.val;simp only[al] at hv;obtain⟨cs0,ec,hargs⟩:=hv;simp at ec;subst ec;have hndA:(bsA++([]++(bsH++(bsT++(bsL++bsF))))).Nodup:=by
  have hp:(bsA++([]++(bsH++(bsT++(bsL++bsF))))).Perm (bsA++(bsT++(bsL++(bsH++bsF)))):=by
   rw[List.perm_iff_count];intro q;simp only[List.count_append,List.count_nil];omega
  exact hp.nodup_iff.2 hr2.nodup
 refine (h w R N cargs bsA [] (bsH++(bsT++(bsL++bsF))) (hargs.ya hno (fun _=>rfl)) rfl hndA hr2.next hr2.glob ?_).mono ?_
 ·intro b hb;simp at hb
  rcases hb with h|h|h|h
  ·exact hr2.heap.lt b h
  ·exact hr2.tmps.lt b h
  ·exact hr2.locs.lt b h
  exact hr2.frame b h
 rintro e w' ⟨v,cv,heap',next',R'',N'',bsV,bsH'',rfl,hQ,hv2,hh2,hnd2,hnx2,hk3,hN3⟩;obtain⟨rfl,hQ2⟩:=hQ hv2.oH hh2.oH;obtain rfl:bsH''=[]:=hh2
 let N3:Name->Option Nat:=fun m=>match m with|.loc i=>N (.loc i)|.out o=>N'' (.out o)
 have hext:∀m c,N m=some c->N3 m=some c:=fun m c hm=>by cases m with|loc i=>exact hm|out o=>exact hN3 o c hm
 have hkT:bz w R w' R'' bsT:=hk3.sub (by intro b hb;simp[hb]);have hkL:bz w R w' R'' bsL:=hk3.sub (by intro b hb;simp[hb]);have hkH:bz w R w' R'' bsH:=hk3.sub (by intro b hb;simp[hb]);have hkF:bz w R w' R'' (bsL++(bsH++bsF)):=hk3.sub (by intro b hb;simp at hb;rcases hb with h|h|h <;> simp[h]);have ht3:ak w' R'' N3 s2.tmps act.tmps.toList bsT:=(hr2.tmps.keep hkT).ext hext;have hl3:an w' R'' N3 s2.locs bsL:=(hr2.locs.keep hkL).ext hext;have hh3:an w' R'' (outs N3) s2.heap bsH:=(hr2.heap.keep hkH).ext (fun m c hm=>by
  cases m with
  | loc i=>simp[outs] at hm
  | out k=>simp only[outs] at hm ⊢;exact hext _ _ hm)
 have hv3:al w' R'' N3 v cv bsV:=hv2.ya hv2.cC (fun _=>rfl);have hnd3:(bsV++(bsT++(bsL++(bsH++bsF)))).Nodup:=by
  have hp:(bsV++(bsT++(bsL++(bsH++bsF)))).Perm (bsV++([]++(bsH++(bsT++(bsL++bsF))))):=by
   rw[List.perm_iff_count];intro q;simp only[List.count_append,List.count_nil];omega
  exact hp.nodup_iff.2 hnd2
 let s3:aa:={s2 with next:=next' }
 obtain⟨bsT2,hp1,hp2⟩:=fN (s:=s3) o.dst ht3 hv3 hnd3;obtain⟨q1,q2,q3⟩:=cZ s3 o.dst v;obtain⟨pa1,pa2⟩:=gF act o.dst cv;have hr4:df G w' R'' N3 (act.put o.dst cv).tmps.toList (s3.put o.dst v) undef .undef [] bsT2 bsL bsH bsF:=
  ⟨aW _,by rw[pa1];exact hp1,by rw[q1];exact hl3,by rw[q2];exact hh3,by simpa using hp2,by rw[q3];exact hnx2,
   fun g cs hg=>(hr2.glob g cs hg).step hk3.step,fun b hb=>Nat.lt_of_lt_of_le (hr2.frame b hb) hk3.step.size⟩
 exact hK v cv next' w' R'' N3 bsT2 hQ2 hr4 hkF hext (fun _=>rfl)
theorem nc {s:aa} {act:Act} {w:World} {R:Own} {N:Name->Option Nat} {bsT bsL bsH bsF:List Nat} (hr:df G w R N act.tmps.toList s undef .undef [] bsT bsL bsH bsF) (dst:Option Tmp) :
  ∃bsT',df G w R N (act.put dst undef).tmps.toList (s.put dst (.tup [])) undef .undef [] bsT' bsL bsH bsF:=by
 obtain⟨bsT',hp1,hp2⟩:=fN (a:=.tup []) (v:=undef) (b:=[]) dst hr.tmps (by simp[al,ak,undef]) (by simpa using hr.nodup);obtain⟨q1,q2,q3⟩:=cZ s dst (.tup []);exact⟨bsT',aW _,by rw[(gF act dst undef).1];exact hp1,by rw[q1];exact hr.locs,by rw[q2];exact hr.heap,by simpa using hp2,by rw[q3];exact hr.next,hr.glob,hr.frame⟩
theorem jv (hE:E.Ok P) (ops:Array Oper) {i:Nat} {o:Oper} (hi:ops[i]?=some o) {K:aa->Prop} {s:aa} (h:mn (aB P G) E G H ops.toList o K s) {Qx:Exit->Act->World->Prop}
  {w:World} {R:Own} {N:Name->Option Nat} {act:Act} {bsT bsL bsH bsF:List Nat} (hr:df G w R N act.tmps.toList s undef .undef [] bsT bsL bsH bsF) (hd:act.defers=D) :
  wpOp P ops Qx i (UL G D K w R N bsF) act w:=by
 unfold wpOp;simp only[hi];unfold mn at h
 split at h
 ·exact h.elim
 rename_i b hw;have hwt:=kf hr.tmps hw;rw[hwt]
 split at h
 ·rename_i hb;rw[if_pos hb];left
  split at h
  ·rename_i c hc;have hop:=vx hc
   split at h
   ·rename_i f args s2 hcal;obtain⟨cargs,hrun,R',N',bsA,bsT',bsL',bsH',hr2,hk2,hN2,hno,_⟩:=BV hE hcal hr o hop;refine Bb hrun hr2 hno hd h ?_;intro v cv heap n w' R'' N'' bsT2 bsH2 hK hr4 hk3 hext _;exact⟨_,R'',N'',bsT2,bsL',bsH2,hK,hr4,by rw[(gF act o.dst cv).2];exact hd,hk2.trans (hk3.sub (by intro b hb;simp[hb])),fun o b h=>hext _ _ (hN2 o b h)⟩
   exact h.elim
  split at h
  ·rename_i s' hst;obtain⟨cv,w',hran,⟨R',N',bsT',bsL',bsH',hr',hk',hN',_⟩,_⟩:=pM hE hst hr;exact vg hran ⟨s',R',N',bsT',bsL',bsH',h,hr',by rw[(gF act o.dst cv).2];exact hd,hk',fun o b h=>hN' _ _ h⟩
  exact h.elim
 rename_i hb;rw[if_neg hb];obtain⟨bsT',hr'⟩:=nc hr o.dst;exact⟨_,R,N,bsT',bsL,bsH,h,hr',by rw[(gF act o.dst undef).2];exact hd,bi _,fun _ _ h=>h⟩
theorem Bt (hE:E.Ok P) (ops:Array Oper) (Q:aa->Prop) (Kx:Exit->Act->World->Prop) :
  ∀(rest:List Oper) (k:Nat) (s:aa),ops.toList.drop k=rest->ml (aB P G) E G H ops.toList Q rest s->∀(w:World) (R:Own) (N:Name->Option Nat) (act:Act) (bsT bsL bsH bsF:List Nat),
   df G w R N act.tmps.toList s undef .undef [] bsT bsL bsH bsF->act.defers=D->(∀a' w',UL G D Q w R N bsF a' w'->Kx .normal a' w')->wpOps P ops Kx (List.range' k rest.length) act w
 | [],k,s,_,h,w,R,N,act,bsT,bsL,bsH,bsF,hr,hd,hK=>by
  simp only[List.length_nil,List.range'_zero,wpOps];exact hK _ _ ⟨s,R,N,bsT,bsL,bsH,h,hr,hd,bi _,fun _ _ h=>h⟩
 | o::rest,k,s,hdrop,h,w,R,N,act,bsT,bsL,bsH,bsF,hr,hd,hK=>by
  have hok:ops[k]?=some o:=by
   have:=List.getElem?_drop (xs:=ops.toList) (i:=k) (j:=0)
   rw[hdrop] at this;simpa using this.symm
  have hdrop':ops.toList.drop (k+1)=rest:=by rw[←List.drop_drop,hdrop];rfl
  simp only[ml,iQ] at h;simp only[List.length_cons,List.range'_succ];rw[wpOps_cons];refine wpOp_mono ?_ (jv hE ops hok (K:=ml (aB P G) E G H ops.toList Q rest) h hr hd);rintro a' w' ⟨s',R',N',bsT',bsL',bsH',hq,hr',hd',hk',hN'⟩;exact Bt hE ops Q Kx rest (k+1) s' hdrop' hq w' R' N' a' bsT' bsL' bsH' bsF hr' hd' (fun a2 w2 h2=>hK a2 w2 (h2.trans hk' hN'))
theorem uG (hE:E.Ok P) {id:Nat} {ops:Array Oper} {Q:Exit->aa->Prop} {s:aa} (h:ml (aB P G) E G H ops.toList (Q .normal) ops.toList s):du P G (.region id ops false) Q s:=by
 intro w R N act bsT bsL bsH bsF hr D hd
 apply wp_region
 rw[List.range_eq_range',←Array.length_toList];exact Bt hE ops (Q .normal) _ ops.toList 0 s (by simp) h w R N act bsT bsL bsH bsF hr hd (fun _ _ h=>h)
def fM (T:List ac) (mv:Option Nat) (xs:List Operand):List ac:=
 match mv with
 | none=>T
 | some k=>match xs[k]? with
  | some (.tmp t)=>T.set t (cP (bB T t))
  | _=>T
theorem nR (s:aa) (mv:Option Nat) (xs:List Operand):bR s mv xs={s with tmps:=fM s.tmps mv xs }:=by
 unfold bR fM
 cases mv with
 | none=>rfl
 | some k=>
  dsimp only
  cases xs[k]? with
  | none=>rfl
  | some x=>cases x <;> rfl
theorem lN (T:List ac) (mv:Option Nat) (xs:List Operand):(∃t,xs.any (dt t)=true/\∀T',fM T' mv xs=T'.set t (cP (bB T' t)))∨∀T',fM T' mv xs=T':=by
 unfold fM
 cases mv with
 | none=>exact .inr fun _=>rfl
 | some k=>
  dsimp only
  cases hx:xs[k]? with
  | none=>exact .inr fun _=>rfl
  | some x=>
   cases x with
   | tmp t=>
    refine .inl ⟨t,?_,fun _=>rfl⟩;rw[List.any_eq_true];exact⟨.tmp t,List.mem_of_getElem? hx,Nat.beq_refl t⟩
   | _=>exact .inr fun _=>rfl
theorem KM (s:aa) (T:List ac) {x:Operand} (h:∀t,dt t x=true->bB T t=bB s.tmps t):eR G {s with tmps:=T } x=eR G s x:=by
 cases x with
 | tmp t=>exact h t (Nat.beq_refl t)
 | _=>rfl
theorem rc (s:aa) (T:List ac) (mv:Option Nat):∀(k:Nat) {xs:List Operand},(∀t,xs.any (dt t)=true->bB T t=bB s.tmps t)->aM G {s with tmps:=T } mv k xs=aM G s mv k xs
 | _,[],_=>rfl
 | k,x::r,h=>by
  simp only[aM];rw[KM s T (fun t ht=>h t (by simp[ht])),rc s T mv (k+1) (fun t ht=>h t (by simp[ht]))]
theorem R9 (s:aa) (T:List ac) (n:Name):aa.obj {s with tmps:=T } n=s.obj n:=by cases n <;> rfl
theorem BR (s:aa) (T:List ac) (o:Op) (vals:List ac):bj {s with tmps:=T } o vals=bj s o vals:=by
 unfold bj
 cases looks o vals with
 | none=>rfl
 | some n=>exact R9 s T n
theorem rl {o:Oper} (hd:o.dst=none) {n:Option Name} {s s':aa} {out:Out} (T:List ac) (h:dH o n s out=some s'):dH o n {s with tmps:=T } out=some {s' with tmps:=T }/\s'.tmps=s.tmps:=by
 unfold dH at h ⊢
 cases he:out.eff with
 | keep=>rw[he] at h;simp only[hd,aa.put] at h ⊢;cases h;exact⟨rfl,rfl⟩
 | set ob'=>
  rw[he] at h;simp only[hd,aa.put] at h ⊢
  cases n with
  | none=>simp at h
  | some n=>
   cases n with
   | loc i=>simp only[aa.setObj] at h ⊢;cases h;exact⟨rfl,rfl⟩
   | out k=>
    simp only[aa.setObj] at h ⊢
    by_cases hn:di ob'=true
    ·simp only[hn,if_true] at h ⊢;cases h;exact⟨rfl,rfl⟩
    simp[hn] at h
 | new ob'=>rw[he] at h;simp[hd] at h
 | row ob' sz len=>rw[he] at h;simp[hd] at h
 | fresh ob'=>
  rw[he] at h;simp only[hd,aa.put] at h ⊢
  by_cases hn:di ob'=true
  ·simp only[hn,if_true] at h ⊢;cases h;exact⟨rfl,rfl⟩
  simp[hn] at h
 | grow ob' sz len=>
  rw[he] at h;simp only[hd,aa.put] at h ⊢
  cases n with
  | none=>
   by_cases hn:di ob'=true
   ·simp only[hn,if_true] at h ⊢;cases h;exact⟨rfl,rfl⟩
   simp[hn] at h
  | some n=>
   cases n with
   | loc i=>
    by_cases hn:di ob'=true
    ·simp only[hn,if_true] at h ⊢;cases h;exact⟨rfl,rfl⟩
    simp[hn] at h
   | out k=>
    by_cases hn:di ob'=true
    ·simp only[hn,if_true] at h ⊢;cases h;exact⟨rfl,rfl⟩
    simp[hn] at h
def hZ (T:List ac) (d:Option Tmp) (v:ac):List ac:=match d with|some d=>T.set d v|none=>T
def TL:Eff->Bool
 | .new _=>false
 | .row _ _ _=>false
 | _=>true
theorem ye (s:aa) (d:Option Tmp) (v:ac):s.put d v={s with tmps:=hZ s.tmps d v }:=by cases d <;> rfl
theorem Bq {o:Oper} {n:Option Name} {s s':aa} {out:Out} (hd:o.dst=none∨TL out.eff=true) (h:dH o n s out=some s') :
  ∃v,(∀T,dH o n {s with tmps:=T } out=some {s' with tmps:=hZ T o.dst v })/\s'.tmps=hZ s.tmps o.dst v:=by
 rcases hd with hd|hd
 ·refine⟨.undef,fun T=>?_,?_⟩
  ·rw[hd];exact (rl hd T h).1
  rw[hd];exact (rl hd s.tmps h).2
 unfold dH at h ⊢
 cases he:out.eff with
 | new ob'=>rw[he] at hd;simp[TL] at hd
 | row ob' sz len=>rw[he] at hd;simp[TL] at hd
 | keep=>
  rw[he] at h;simp only[ye] at h ⊢
  cases h
  exact⟨out.val,fun T=>rfl,rfl⟩
 | set ob'=>
  rw[he] at h;simp only[ye] at h ⊢
  cases n with
  | none=>simp at h
  | some n=>
   cases n with
   | loc i=>simp only[aa.setObj] at h ⊢;cases h;exact⟨out.val,fun T=>rfl,rfl⟩
   | out k=>
    simp only[aa.setObj] at h ⊢
    by_cases hn:di ob'=true
    ·simp only[hn,if_true] at h ⊢;cases h;exact⟨out.val,fun T=>rfl,rfl⟩
    simp[hn] at h
 | fresh ob'=>
  rw[he] at h;simp only[ye] at h ⊢
  by_cases hn:di ob'=true
  ·simp only[hn,if_true] at h ⊢;cases h;exact⟨_,fun T=>rfl,rfl⟩
  simp[hn] at h
 | grow ob' sz len=>
  rw[he] at h;simp only[ye] at h ⊢
  by_cases hn:di ob'=true
  ·simp only[hn,if_true] at h ⊢
   cases n with
   | none=>cases h;exact⟨_,fun T=>rfl,rfl⟩
   | some n=>cases n with
    | loc k=>cases h;exact⟨_,fun T=>rfl,rfl⟩
    | out k=>cases h;exact⟨_,fun T=>rfl,rfl⟩
  simp only[hn] at h
  cases n with
  | none=>simp at h
  | some n=>cases n <;> simp at h
theorem G5 {i:TI} {len:Nat} {cs:List ac} {x:ac} {out:Out} (h:jB E i len cs x=some out):TL out.eff=true:=by
 unfold jB at h
 repeat' split at h
 all_goals first
  |(simp at h;done)
  |(cases h;rfl)
theorem X9 {take:Bool} {op:Op} (hop:isApp op=true) {vals:List ac} {ob:Option aR} {out:Out} (h:jE E take op vals ob=some out):TL out.eff=true:=by
 unfold isApp at hop
 split at hop
 ·rename_i args tys;simp only[jE,lj] at h
  split at h
  ·simp at h
  ·split at h
   ·split at h
    ·unfold cJ at h
     repeat' split at h
     all_goals first
      |(simp at h;done)
      |exact G5 h
      |(cases h;rfl)
    ·unfold dx at h
     repeat' split at h
     all_goals first
      |(simp at h;done)
      |(cases h;rfl)
   simp at h
 simp at hop
theorem sy {q take:Bool} {o:Oper} (hd:o.dst=none∨isApp o.op=true) {s s':aa} (h:cX E G q take o s=some s') :
  ∃v,(∀T:List ac,(∀t,(opsL o.op).any (dt t)=true->bB T t=bB s.tmps t)->cX E G q take o {s with tmps:=T }=some {s' with tmps:=hZ (fM T (kI q o.op) (opsL o.op)) o.dst v }) ∧
   s'.tmps=hZ (fM s.tmps (kI q o.op) (opsL o.op)) o.dst v:=by
 unfold cX at h ⊢
 split at h
 ·simp at h
 rename_i out ho;rw[nR] at h;obtain⟨v,h1,h2⟩:=Bq (hd.imp id (fun hd=>X9 hd ho)) h;refine⟨v,fun T hT=>?_,h2⟩;rw[rc s T (kI q o.op) 0 hT,BR,ho];dsimp only;rw[nR];exact h1 _
theorem Bp {q take:Bool} {o:Oper} {x d:Tmp} (hx:opsL o.op=[.tmp x]) (hl:∀vals,looks o.op vals=none) (hk:∀vals ob out,jE E take o.op vals ob=some out->out.eff=.keep) (hd:o.dst=some d) {s s':aa}
  (h:cX E G q take o s=some s') :
  ∃val,s'={s with tmps:=(fM s.tmps (kI q o.op) [.tmp x]).set d val }/\∀s2:aa,bB s2.tmps x=bB s.tmps x->cX E G q take o s2=some {s2 with tmps:=(fM s2.tmps (kI q o.op) [.tmp x]).set d val }:=by
 unfold cX at h
 split at h
 ·simp at h
 rename_i out ho;have hke:=hk _ _ _ ho;refine⟨out.val,?_,?_⟩
 ·unfold dH at h;rw[hke,nR,hd,hx] at h;simp only[aa.put] at h
  cases h
  rfl
 intro s2 h2;have hv:aM G s2 (kI q o.op) 0 (opsL o.op)=aM G s (kI q o.op) 0 (opsL o.op):=by
  rw[hx];simp only[aM,eR,h2]
 unfold cX;have hla:∀s3:aa,∀vals,bj s3 o.op vals=none:=fun s3 vals=>by unfold bj;rw[hl]
 rw[hla] at ho;rw[hv,hla,ho];dsimp only;unfold dH;rw[hke,nR,hd,hx];rfl
theorem JJ {take:Bool} {x:Operand} (vals:List ac) (ob:Option aR) (out:Out) (h:jE E take (.move x) vals ob=some out):out.eff=.keep:=by
 simp only[jE,Dp] at h
 split at h
 ·cases h;rfl
 simp at h
theorem BT {take:Bool} {x:Operand} {k:Nat} (vals:List ac) (ob:Option aR) (out:Out) (h:jE E take (.extract x k) vals ob=some out):out.eff=.keep:=by
 simp only[jE,uI] at h
 split at h
 ·split at h
  ·cases h;rfl
  simp at h
 simp at h
theorem II {T:List ac} {x d:Tmp} {val:ac} {mi mj:Option Nat} {xs:List Operand} (hx:xs.any (dt x)=false) (hd:xs.any (dt d)=false) :
  (fM (fM T mj xs) mi [.tmp x]).set d val=fM ((fM T mi [.tmp x]).set d val) mj xs:=by
 rcases lN T mj xs with⟨t,ht,e⟩|e
 ·have htx:t≠x:=fun h=>by rw[h,hx] at ht;simp at ht
  have htd:t≠d:=fun h=>by rw[h,hd] at ht;simp at ht
  simp only[e]
  rcases lN T mi [.tmp x] with⟨u,hu,e2⟩|e2
  ·have hux:u=x:=((show x=u by simpa [dt] using hu)).symm;subst hux;simp only[e2];rw[cq htx,cq (Ne.symm htd),cq (Ne.symm htx),List.set_comm _ _ htx,List.set_comm _ _ htd]
  simp only[e2];rw[cq (Ne.symm htd),List.set_comm _ _ htd]
 simp only[e]
theorem iL {T:List ac} {t:Tmp} {mi:Option Nat} {xs:List Operand} (h:xs.any (dt t)=false):bB (fM T mi xs) t=bB T t:=by
 rcases lN T mi xs with⟨u,hu,e⟩|e
 ·rw[e,cq (fun h2=>by rw[h2,h] at hu;simp at hu)]
 rw[e]
theorem afM {x t:Nat} (h:x≠t):[Operand.tmp x].any (dt t)=false:=by
 cases hb:[Operand.tmp x].any (dt t) with
 | false=>rfl
 | true=>exact absurd (by simpa [dt] using hb) h
theorem qz {T:List ac} {d:Tmp} {a:ac} {mv:Option Nat} {xs:List Operand} (h:xs.any (dt d)=false):fM (T.set d a) mv xs=(fM T mv xs).set d a:=by
 rcases lN T mv xs with⟨t,ht,e⟩|e
 ·have htd:t≠d:=fun h'=>by rw[h',h] at ht;simp at ht
  rw[e,e,cq (Ne.symm htd),List.set_comm _ _ htd]
 rw[e,e]
theorem sq {T:List ac} {dp:Option Tmp} {v:ac} {x:Tmp} (h:dp≠some x):bB (hZ T dp v) x=bB T x:=by
 cases dp with
 | none=>rfl
 | some e=>exact cq (fun h2=>h (by rw[h2]))
theorem sj {T:List ac} {dp:Option Tmp} {v a:ac} {d:Tmp} (h:dp≠some d):(hZ T dp v).set d a=hZ (T.set d a) dp v:=by
 cases dp with
 | none=>rfl
 | some e=>exact List.set_comm _ _ (fun h2=>h (by rw[h2]))
theorem Hz {T:List ac} {dp:Option Tmp} {v:ac} {x:Tmp} {mi:Option Nat} (h:dp≠some x):fM (hZ T dp v) mi [.tmp x]=hZ (fM T mi [.tmp x]) dp v:=by
 cases dp with
 | none=>rfl
 | some e=>exact qz (afM (fun h2=>h (by rw[h2])))
theorem KH {q q2 take take2:Bool} {o p:Oper} {x d:Tmp} (hx:opsL o.op=[.tmp x]) (hl:∀vals,looks o.op vals=none) (hk:∀vals ob out,jE E take o.op vals ob=some out->out.eff=.keep) (hd:o.dst=some d) (hp:p.dst=none∨isApp p.op=true)
  (h1:(opsL p.op).any (dt x)=false) (h2:(opsL p.op).any (dt d)=false) (hpx:p.dst≠some x) (hpd:p.dst≠some d) {s s1 s2:aa} (ho:cX E G q take o s=some s1) (hs:cX E G q2 take2 p s1=some s2) :
  ∃s3,cX E G q2 take2 p s=some s3/\cX E G q take o s3=some s2:=by
 obtain⟨val,rfl,hag⟩:=Bp hx hl hk hd ho;obtain⟨v,k1,k2⟩:=sy hp hs;refine⟨_,k1 s.tmps (by
  intro t ht;have htx:x≠t:=fun h=>by rw[←h,h1] at ht;simp at ht
  have htd:d≠t:=fun h=>by rw[←h,h2] at ht;simp at ht
  dsimp only;rw[cq htd,iL (afM htx)]),?_⟩
 rw[hag _ (by dsimp only;rw[sq hpx,iL h1])];dsimp only at k2 ⊢;rw[Hz hpx,sj hpd,II h1 h2,←k2]
theorem OF {A:Fg} {all:List Oper} {o p:Oper} (ha:ju o p=true) {K:aa->Prop} {s:aa} (h:mn A E G H all o (mn A E G H all p K) s):mn A E G H all p (mn A E G H all o K) s:=by
 unfold ju at ha;simp only[Bool.and_eq_true,Bool.or_eq_true,Option.isNone_iff_eq_none] at ha;obtain⟨⟨⟨⟨g1,g2⟩,g3⟩,g4⟩,g5⟩:=ha;have plain:∀(r:Oper) (K:aa->Prop) (s:aa),r.guard=none->dm r.op=none->(mn A E G H all r K s↔∃s',cX E G (readOnly H.moves all r) (lv H all r) r s=some s'/\K s'):=by
  intro r K s hg hc;unfold mn;simp only[hg,dy,hc,if_true]
  cases cX E G (readOnly H.moves all r) (lv H all r) r s with
  | none=>simp
  | some s'=>simp
 have hof:dm o.op=none/\∃x d,opsL o.op=[.tmp x]/\(∀vals,looks o.op vals=none)/\(∀vals ob out,jE E (lv H all o) o.op vals ob=some out->out.eff=.keep)/\o.dst=some d/\(opsL p.op).any (dt x)=false/\(opsL p.op).any (dt d)=false/\p.dst≠some x/\p.dst≠some d:=by
  split at g5
  ·rename_i x k d e1 e2;simp only[Bool.and_eq_true,Bool.not_eq_true',bne_iff_ne] at g5;rw[e1];exact⟨rfl,x,d,rfl,fun _=>rfl,BT,e2,g5.1.1.1,g5.1.1.2,g5.1.2,g5.2⟩
  ·rename_i x d e1 e2;simp only[Bool.and_eq_true,Bool.not_eq_true',bne_iff_ne] at g5;rw[e1];exact⟨rfl,x,d,rfl,fun _=>rfl,JJ,e2,g5.1.1.1,g5.1.1.2,g5.1.2,g5.2⟩
  simp at g5
 obtain⟨hc,x,d,hx,hl,hk,hd,h1,h2,hpx,hpd⟩:=hof;obtain⟨s1,e1,h⟩:=(plain o _ _ g1 hc).1 h;obtain⟨s2,e2,h⟩:=(plain p _ _ g2 g4).1 h;obtain⟨s3,e3,e4⟩:=KH hx hl hk hd g3 h1 h2 hpx hpd e1 e2;exact (plain p _ _ g2 g4).2 ⟨s3,e3,(plain o _ _ g1 hc).2 ⟨s2,e4,h⟩⟩
theorem lP (hE:E.Ok P) (ops:Array Oper) (Q:aa->Prop) (Kx:Exit->Act->World->Prop) :
  ∀(tail:List Nat) (listed:Array Bool) (fuel:Nat) (s:aa),iP ops tail listed=true->tail.length<=fuel->ml (aB P G) E G H ops.toList Q (dJ ops.toList tail) s->∀(w:World) (R:Own) (N:Name->Option Nat) (act:Act) (bsT bsL bsH bsF:List Nat),
   df G w R N act.tmps.toList s undef .undef [] bsT bsL bsH bsF->act.defers=D->(∀a' w',UL G D Q w R N bsF a' w'->Kx .normal a' w')->wpAny P .any ops Kx fuel listed act w
 | [],listed,fuel,s,hc,_,h,w,R,N,act,bsT,bsL,bsH,bsF,hr,hd,hK=>by
  simp only[iP] at hc;exact wpAny_done (by simpa using hc) (hK _ _ ⟨s,R,N,bsT,bsL,bsH,h,hr,hd,bi _,fun _ _ h=>h⟩) fuel
 | _::_,_,0,_,_,hf,_,_,_,_,_,_,_,_,_,_,_,_=>by simp at hf
 | [i],listed,fuel+1,s,hc,hf,h,w,R,N,act,bsT,bsL,bsH,bsF,hr,hd,hK=>by
  simp only[iP,Bool.and_eq_true] at hc;have hrd:Region.ready .any ops listed=[i]:=by simpa using hc.1
  obtain⟨_,o,ho,_⟩:=mem_ready.1 (show i∈Region.ready .any ops listed by rw[hrd];simp);have ho':ops.toList[i]?=some o:=by simpa using ho
  simp only[dJ,ho',ml,iQ] at h;refine wpAny_all hrd (by simp) ?_;intro j hj;simp at hj;subst hj;refine wpOp_mono ?_ (jv hE ops ho (K:=Q) h hr hd);rintro a' w' h2;exact wpAny_done (by have:=hc.2;simpa [bY] using this) (hK _ _ h2) fuel
 | i::j::r,listed,fuel+1,s,hc,hf,h,w,R,N,act,bsT,bsL,bsH,bsF,hr,hd,hK=>by
  simp only[iP,Bool.or_eq_true] at hc
  rcases hc with hc|hc
  ·simp only[Bool.and_eq_true] at hc;have hrd:Region.ready .any ops listed=[i]:=by simpa using hc.1
   obtain⟨_,o,ho,_⟩:=mem_ready.1 (show i∈Region.ready .any ops listed by rw[hrd];simp);have ho':ops.toList[i]?=some o:=by simpa using ho
   rw[dJ,ho'] at h;simp only[ml,iQ] at h;refine wpAny_all hrd (by simp) ?_;intro k hk;simp at hk;subst hk;refine wpOp_mono ?_ (jv hE ops ho (K:=ml (aB P G) E G H ops.toList Q (dJ ops.toList (j::r))) h hr hd);rintro a' w' ⟨s',R',N',bsT',bsL',bsH',hq,hr',hd',hk',hN'⟩;exact lP hE ops Q Kx (j::r) _ fuel s' hc.2 (by simp at hf ⊢;omega) hq w' R' N' a' bsT' bsL' bsH' bsF hr' hd' (fun a2 w2 h2=>hK a2 w2 (h2.trans hk' hN'))
  simp only[YJ,Bool.and_eq_true,Bool.or_eq_true,beq_iff_eq] at hc;obtain⟨⟨⟨⟨hrd,hri⟩,hrj⟩,hap⟩,hct⟩:=hc
  split at hap
  ·rename_i o p ho hp;have ho':ops.toList[i]?=some o:=by simpa using ho
   have hp':ops.toList[j]?=some p:=by simpa using hp
   simp only[dJ,ho',hp',ml,iQ] at h;have hsw:=OF hap h;have two:∀(a b:Nat) (oa ob:Oper),ops[a]?=some oa->ops[b]?=some ob->Region.ready .any ops (listed.setIfInBounds a true)=[b]->iP ops r ((listed.setIfInBounds a true).setIfInBounds b true)=true->
     mn (aB P G) E G H ops.toList oa (mn (aB P G) E G H ops.toList ob (ml (aB P G) E G H ops.toList Q (dJ ops.toList r))) s->
     wpOp P ops Kx a (wpAny P .any ops Kx fuel (listed.setIfInBounds a true)) act w:=by
    intro a b oa ob hoa hob hb hcr h;refine wpOp_mono ?_ (jv hE ops hoa h hr hd);rintro a' w' ⟨s',R',N',bsT',bsL',bsH',hq,hr',hd',hk',hN'⟩
    cases fuel with
    | zero=>simp at hf
    | succ fuel=>
     refine wpAny_all hb (by simp) ?_;intro k hk;simp at hk;subst hk;refine wpOp_mono ?_ (jv hE ops hob hq hr' hd');rintro a2 w2 ⟨s2,R2,N2,bsT2,bsL2,bsH2,hq2,hr2,hd2,hk2,hN2⟩;exact lP hE ops Q Kx r _ fuel s2 hcr (by simp at hf;omega) hq2 w2 R2 N2 a2 bsT2 bsL2 bsH2 bsF hr2 hd2 (fun a3 w3 h3=>hK a3 w3 ((h3.trans hk2 hN2).trans hk' hN'))
   have hi:wpOp P ops Kx i (wpAny P .any ops Kx fuel (listed.setIfInBounds i true)) act w:=two i j o p ho hp hri hct h;have hcm:(listed.setIfInBounds j true).setIfInBounds i true=(listed.setIfInBounds i true).setIfInBounds j true:=by
    by_cases hij:i=j
    ·subst hij;rfl
    exact Array.setIfInBounds_comm _ _ (Ne.symm hij)
   have hj:wpOp P ops Kx j (wpAny P .any ops Kx fuel (listed.setIfInBounds j true)) act w:=two j i p o hp ho hrj (by rw[hcm];exact hct) hsw
   rcases hrd with hrd|hrd
   ·refine wpAny_all hrd (by simp) ?_;intro k hk;simp at hk
    rcases hk with rfl|rfl
    ·exact hi
    exact hj
   refine wpAny_all hrd (by simp) ?_;intro k hk;simp at hk
   rcases hk with rfl|rfl
   ·exact hj
   exact hi
  simp at hap
end
end Go.Tp
