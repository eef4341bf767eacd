/- HierarchyLookup returns true and changes nothing, for arguments of bulk at most 1048576 (the card of the second form; conditions: those of the given row). Names are shortened by a program, for the claim's bound. Part 2. -/
import Derived.Test.YtiihadmgkoamoaaGreatDoorQ01
set_option linter.unusedVariables false
set_option linter.unusedSimpArgs false
set_option maxRecDepth 100000
set_option maxHeartbeats 4000000
namespace Go.Tp
section
variable {P:Program} {E:bG} {G:bJ} {H:Hints}
variable (P E G H) in
def opC (ops:Array Oper) (h:ay) (i:Nat) (K:aa->Prop) (s:aa):Prop:=
 ∃(lone:Bool) (o:Oper),(i,lone)∈h.pre/\ops[i]?=some o/\(if lone=true then Na (aC P G) E G H (aV H ops.toList h.pre) h.tk ops.toList o K s else ∃a,fp E G (aV H ops.toList h.pre||quietAt H ops.toList h.pre i) ops.toList o s=some a/\K (s.put o.dst a))
theorem pt {fh:Bool} {tk:List Nat} {all:List Oper} {o:Oper} {K K':aa->Prop} {s:aa} (hk:∀s,K s->K' s) (h:Na (aC P G) E G H fh tk all o K s):Na (aC P G) E G H fh tk all o K' s:=by
 unfold Na at h ⊢
 split
 ·rename_i hw;simp[hw] at h
 rename_i b hw;simp only[hw] at h
 split
 ·rename_i hb;simp only[hb,if_true] at h
  split
  ·rename_i c hc;simp only[hc] at h
   split
   ·rename_i f args s2 ha;simp only[ha] at h
    cases hpu:ik H o with
    | true=>rw[hpu] at h;exact h.mono fun v heap n hq h1 h2=>⟨(hq h1 h2).1,hk _ (hq h1 h2).2⟩
    | false=>rw[hpu] at h;exact h.mono fun v heap n hq h1 h2=>⟨(hq h1 h2).1,hk _ (hq h1 h2).2⟩
   rename_i ha;simp[ha] at h
  rename_i hc;simp only[hc] at h
  split
  ·rename_i t ht;simp only[ht] at h
   split
   ·rename_i s1 hs1;simp only[hs1] at h
    split
    ·rename_i s' hs';simp only[hs'] at h;exact hk _ h
    rename_i hs';simp[hs'] at h
   rename_i hs1;simp[hs1] at h
  rename_i ht;simp only[ht] at h
  split
  ·rename_i hst;simp only[hst] at h
   split
   ·rename_i s' hs';simp only[hs'] at h;exact hk _ h
   rename_i hs';simp[hs'] at h
  rename_i hst;simp[hst] at h
 rename_i hb;simp only[hb] at h;exact hk _ h
theorem R4 {ops:Array Oper} {h:ay} {i:Nat} {K K':aa->Prop} {s:aa} (hk:∀s,K s->K' s) (hs:opC P E G H ops h i K s):opC P E G H ops h i K' s:=by
 obtain⟨lone,o,h1,h2,h3⟩:=hs;refine⟨lone,o,h1,h2,?_⟩
 split
 ·rename_i hl;rw[if_pos hl] at h3;exact pt hk h3
 rename_i hl;rw[if_neg hl] at h3;obtain⟨a,h4,h5⟩:=h3;exact⟨a,h4,hk _ h5⟩
theorem oN {all:List Oper} {pre:List (Nat×Bool)}:∀{j:Nat} {o:Oper} {c:Call},(j,true)∈pre->all[j]?=some o->dq o.op=some c->ik H o=false->aV H all pre=false:=by
 induction pre with
 | nil=>intro j o c h;simp at h
 | cons p r ih=>
  intro j o c h ho hc hpu;obtain⟨k,l⟩:=p;simp only[aV]
  rcases List.mem_cons.1 h with h|h
  ·simp at h;obtain⟨rfl,rfl⟩:=h;rw[ho];simp[hc,hpu]
  rw[ih h ho hc hpu];simp
theorem H6 {fh q take:Bool} {all:List Oper} {oi oj:Oper} {a:ac} (ha:jz oi oj=true) {s s2:aa} (hq:fp E G fh all oi s=some a) (hs:cY E G q take oj (s.put oi.dst a)=some s2) :
  ∃s3,cY E G q take oj s=some s3/\s3.put oi.dst a=s2/\fp E G fh all oi s3=some a:=by
 unfold jz at ha;simp only[Bool.and_eq_true,Bool.or_eq_true,Option.isNone_iff_eq_none] at ha;obtain⟨⟨⟨⟨g1,_⟩,g3⟩,_⟩,g5⟩:=ha;have hof:∃x d,opsL oi.op=[.tmp x]/\oi.dst=some d/\dq oi.op=none/\nY oi.op=false/\(∀vals,looks oi.op vals=none)/\(opsL oj.op).any (dy x)=false/\(opsL oj.op).any (dy d)=false/\oj.dst≠some x/\oj.dst≠some d:=by
  split at g5
  ·rename_i y k d' e1 e2;simp only[Bool.and_eq_true,Bool.not_eq_true',bne_iff_ne] at g5;exact⟨y,d',by rw[e1];rfl,e2,by rw[e1];rfl,by rw[e1];rfl,fun _=>by rw[e1];rfl,g5.1.1.1,g5.1.1.2,g5.1.2,g5.2⟩
  ·rename_i y d' e1 e2;simp only[Bool.and_eq_true,Bool.not_eq_true',bne_iff_ne] at g5;exact⟨y,d',by rw[e1];rfl,e2,by rw[e1];rfl,by rw[e1];rfl,fun _=>by rw[e1];rfl,g5.1.1.1,g5.1.1.2,g5.1.2,g5.2⟩
  simp at g5
 obtain⟨x,d,hx,hd,hc,hal,hl,h1,h2,hpx,hpd⟩:=hof;rw[hd] at hs ⊢;obtain⟨v,k1,k2⟩:=sQ g3 hs;have k1:=k1 s.tmps (by
  intro t ht;have htd:d≠t:=fun e=>by rw[←e,h2] at ht;simp at ht
  simp only[aa.put];rw[cd htd])
 have hst:({(s.put (some d) a) with tmps:=s.tmps }:aa)=s:=rfl;rw[hst] at k1;refine⟨_,k1,?_,?_⟩
 ·obtain⟨t3,l3,h3,n3⟩:=s2;simp only[aa.put] at k2 ⊢;rw[k2,qV h2,sL hpd]
 have hget:bC (iq (fN s.tmps (kN q oj.op) (opsL oj.op)) oj.dst v) x=bC s.tmps x:=by
  rw[sM hpx,iU h1]
 have hev:aP G ({s2 with tmps:=iq (fN s.tmps (kN q oj.op) (opsL oj.op)) oj.dst v }:aa) none 0 (opsL oi.op)=aP G s none 0 (opsL oi.op):=by
  rw[hx];simp only[aP,eT,hget]
 have hlk:∀(s':aa) vals,bp s' oi.op vals=none:=fun s' vals=>by unfold bp;rw[hl]
 unfold fp at hq ⊢;simp only[g1,dF,hev,hlk] at hq ⊢;exact hq
theorem Nh {fh q take:Bool} {ops:Array Oper} {oi oj:Oper} {a:ac} (hmv:ub oj=true) (h1:∀d,oi.dst=some d->d∉oj.looksAt ops) (h2:∀d,oi.dst=some d->oj.dst≠some d) (h3:∀d,oj.dst=some d->d∉oi.looksAt ops)
  {s s2:aa} (hq:fp E G fh ops.toList oi s=some a) (hs:cY E G q take oj (s.put oi.dst a)=some s2) :
  ∃s3,cY E G q take oj s=some s3/\s3.put oi.dst a=s2/\fp E G fh ops.toList oi s3=some a:=by
 unfold ub at hmv
 split at hmv
 rotate_left
 ·simp at hmv
 rename_i x d2 hop hd2;have hx:opsL oj.op=[.tmp x]:=by rw[hop];rfl
 have hxl:x∈oj.looksAt ops:=by
  have:=iO (o:=oj) (all:=ops.toList) (t:=x) (by rw[hx];simp)
  simpa using this
 obtain⟨val,e2,k⟩:=Bf hx (fun _=>by rw[hop];rfl) (fun vals ob out h=>by
  rw[hop] at h;simp only[jJ,C4] at h
  split at h
  ·simp at h;subst h;rfl
  simp at h) hd2 hs
 have hgx:bC (s.put oi.dst a).tmps x=bC s.tmps x:=cW (fun e=>h1 x e hxl);have k1:=k s hgx.symm;refine⟨_,k1,?_,?_⟩
 ·rw[e2]
  cases hd:oi.dst with
  | none=>rfl
  | some d=>
   have hdx:x≠d:=fun e=>h1 d hd (e ▸ hxl)
   have hdd:d2≠d:=fun e=>h2 d hd (by rw[hd2,e])
   have hany:List.any [Operand.tmp x] (dy d)=false:=by
    simp only[List.any_cons,List.any_nil,Bool.or_false,dy]
    cases hb:Nat.beq x d with
    | false=>rfl
    | true=>exact absurd (Nat.eq_of_beq_eq_true hb) hdx
   simp only[aa.put];rw[qV hany,List.set_comm _ _ hdd]
 rw[←hq];refine jg ?_ (.of_eq rfl (fun _=>rfl));intro t ht;have htd:d2≠t:=fun e=>h3 d2 hd2 (by rw[e];simpa using ht)
 show cQ (bC ((fN s.tmps (kN q oj.op) [.tmp x]).set d2 val) t)=_;rw[cd htd];unfold fN
 cases hm:kN q oj.op with
 | none=>rfl
 | some k=>
  cases k with
  | zero=>
   have e1:=kB (s:=s) (x:=.tmp x) t;simp only[bO,List.getElem?_cons_zero] at e1;simpa using e1
  | succ k=>rfl
theorem VQ {ops:Array Oper} {h:ay} (hcs:dT ops h=true) {i j:Nat} {oi oj:Oper} {a:ac} (hi:ops[i]?=some oi) (him:(i,false)∈h.pre) (hj:ops[j]?=some oj) (hap:oi.apart ops oj=true)
  (hntk:∀t k o',fK oj.op=some t->k∈gd ops.toList t h.tk->ops.toList[k]?=some o'->∀e∈o'.after,Region.binds .any e=true->e.on≠i) {K:aa->Prop} {s:aa}
  (hF:∀c,dq oj.op=some c->ik H oj=false->mw H oj=false->(j,true)∈h.pre->(aV H ops.toList h.pre||quietAt H ops.toList h.pre i)=false)
  (hG:ku oj.op=true->(j,true)∈h.pre->ub oj=true∨jz oi oj=true)
  (hy:fp E G (aV H ops.toList h.pre||quietAt H ops.toList h.pre i) ops.toList oi s=some a) (hs:opC P E G H ops h j K (s.put oi.dst a)) :
  opC P E G H ops h j (fun s'=>fp E G (aV H ops.toList h.pre||quietAt H ops.toList h.pre i) ops.toList oi s'=some a/\K (s'.put oi.dst a)) s:=by
 obtain⟨h1,h2,h3⟩:=Oper.apart_spec hap;obtain⟨lone,o,hm,ho,hs⟩:=hs;rw[hj] at ho;simp at ho;subst ho;refine⟨lone,oj,hm,hj,?_⟩;have hsimj:sU oj ops.toList s (s.put oi.dst a):=Fh (by simpa using h1);have hdj:∀(s:aa) (v:ac),sU oi ops.toList s (s.put oj.dst v):=fun s v=>Fh (by simpa using h3)
 have hlj:∀{fh:Bool} (s:aa) (d:Option Tmp) (v:ac),yd fh s (s.put d v):=fun s d v=>.of_eq (db s d v).1 (fun _=>(db s d v).2.1)
 split
 ·rename_i hl;rw[if_pos hl] at hs;subst hl;unfold Na at hs ⊢;rw[oZ hsimj] at hs
  split
  ·rename_i hw;simp[hw] at hs
  rename_i b hw;simp only[hw] at hs
  split
  ·rename_i hb;simp only[hb,if_true] at hs
   split
   ·rename_i c hc;simp only[hc] at hs;have hop:=vJ hc;rw[EL (fun d hd hmem=>h1 d hd (List.mem_append_left _ (List.mem_filterMap.2 ⟨.tmp d,by rw[hop];simpa [Op.operands] using hmem,rfl⟩)))] at hs
    cases hcal:dM E G H c s with
    | none=>rw[hcal] at hs;simp at hs
    | some x=>
     obtain⟨f,args,s2⟩:=x;rw[hcal] at hs;simp only[Option.map_some] at hs;obtain⟨hsim,hlocs⟩:=EK hcal oi ops.toList;have e1:(s2.put oi.dst a).heap=s2.heap:=(db s2 oi.dst a).2.1;have e2:(s2.put oi.dst a).next=s2.next:=(db s2 oi.dst a).2.2;rw[e1,e2] at hs;dsimp only at hs ⊢
     cases hpu:ik H oj with
     | true=>
      rw[hpu] at hs;refine hs.mono fun v heap n hq b1 b2=>⟨(hq b1 b2).1,?_,?_⟩
      ·rw[←hy];refine jg ?_ ?_
       ·have k1:sU oi ops.toList s {s2 with next:=n }:=hsim;exact k1.trans (hdj _ v)
       exact .of_eq (by rw[(db _ oj.dst v).1];exact hlocs) (fun _=>by rw[(db _ oj.dst v).2.1];exact (mH hcal:s2.heap=s.heap))
      have:=(hq b1 b2).2
      have e:(⟨(s2.put oi.dst a).tmps,(s2.put oi.dst a).locs,s2.heap,n⟩:aa)=({s2 with next:=n }:aa).put oi.dst a:=by cases oi.dst <;> rfl
      rw[e,put_comm h2] at this;exact this
     | false=>
      rw[hpu] at hs;refine hs.mono fun v heap n hq b1 b2=>⟨(hq b1 b2).1,?_,?_⟩
      ·cases hrd:mw H oj with
       | true=>
        refine H7 ?_ ?_ hy
        ·have k1:sU oi ops.toList s {s2 with heap:=heap,next:=n }:=hsim;exact k1.trans (hdj _ v)
        intro m ob hm1;have hst:=(hq b1 b2).1 hrd;rw[lN]
        cases m with
        | loc k=>simp only[aa.obj] at hm1 ⊢;rw[hlocs];exact hm1
        | out k=>simp only[aa.obj] at hm1 ⊢;exact hst _ _ (by rw[(mH hcal:s2.heap=s.heap)];exact hm1)
       | false=>
        have hfh:=hF c hc hpu hrd hm;rw[←hy];refine jg ?_ ?_
        ·have k1:sU oi ops.toList s {s2 with heap:=heap,next:=n }:=hsim;exact k1.trans (hdj _ v)
        exact .of_eq (by rw[(db _ oj.dst v).1];exact hlocs) (fun hf=>by rw[hfh] at hf;simp at hf)
      have:=(hq b1 b2).2
      rw[Qs,put_comm h2] at this;exact this
   rename_i hc;simp only[hc] at hs
   split
   ·rename_i t ht;simp only[ht] at hs;obtain⟨_,rr,hops⟩:=tO ht;have htj:t∈oj.looksAt ops:=by
     have:=iO (o:=oj) (all:=ops.toList) (t:=t) (by rw[hops];simp)
     simpa using this
    have hops_not:∀d,oi.dst=some d->Operand.tmp d∉opsL oj.op:=fun d hd hmem=>h1 d hd (by have:=iO (o:=oj) (all:=ops.toList) hmem;simpa using this)
    have etk:lE h.tk t (s.put oi.dst a)=lE h.tk t s:=by unfold lE;rw[cW (fun e=>h1 t e htj)]
    rw[etk] at hs
    -- the loads that the append owns by are others than oi
    have hother:∀k∈gd ops.toList t (lE h.tk t s),k≠i:=fun k hk e=>by
     obtain⟨_,o',ho',hd'⟩:=kG (mK hk);rw[e] at ho'
     have:ops[i]?=some o':=by simpa using ho'
     rw[hi] at this;simp at this;subst this;exact h1 t hd' htj
    have hspec:∀k∈gd ops.toList t (lE h.tk t s),∀o',ops.toList[k]?=some o'->(o'.dst=some t/\oi.dst≠some t/\t∉oi.looksAt ops)/\∀T u,o'.op=.load T (.tmp u)->oi.dst≠some u:=fun k hk o' ho'=>by
     obtain⟨hk1,o2,ho2,hd2⟩:=kG (mK hk);rw[ho2] at ho';simp at ho';subst ho';obtain⟨⟨d,e1,e2,e3⟩,e4⟩:=mA hcs (i:=k) (by simp[hk1]) (by simpa using ho2) him (Ne.symm (hother k hk)) hi;rw[hd2] at e1;simp at e1;subst e1;exact⟨⟨hd2,e2,e3 rfl⟩,fun T u hop=>by
      rcases e4 T u hop with h|⟨e,he,hb,hon⟩
      ·exact h
      exact absurd hon (hntk t k o2 ht (mK hk) ho2 e he hb)⟩
    cases hsh:dA (aV H ops.toList h.pre) ops.toList (gd ops.toList t (lE h.tk t s)) s with
    | none=>
     exfalso
     -- what is shown with the value in its slot is shown without
     have:∀(tk:List Nat) (s s1:aa),(∀k∈tk,∀o',ops.toList[k]?=some o'->(o'.dst=some t/\oi.dst≠some t/\t∉oi.looksAt ops)/\∀T u,o'.op=.load T (.tmp u)->oi.dst≠some u)->dA (aV H ops.toList h.pre) ops.toList tk (s.put oi.dst a)=some s1->∃s2,dA (aV H ops.toList h.pre) ops.toList tk s=some s2:=by
      intro tk
      induction tk with
      | nil=>intro s s1 _ _;exact⟨s,rfl⟩
      | cons k r ih=>
       intro s s1 hh hh2;obtain⟨o',T,u,t',n,off,cs,es,es2,ho',hop,hd,hg,hu,hok,hob,hes,ht',hrest⟩:=gh hh2;obtain⟨⟨q1,q2,_⟩,q3⟩:=hh k (by simp) o' ho';have hdu:=q3 T u hop;rw[hd] at q1;simp at q1;subst q1;rw[cW hdu] at hu;rw[cW q2] at ht';rw[lN] at hob;have e0:(({s.put oi.dst a with tmps:=(s.put oi.dst a).tmps.set t' (.own es)}:aa).km n (.cells (dx off [.dat (.slice es)] cs)))=(({s with tmps:=s.tmps.set t' (.own es)}:aa).km n (.cells (dx off [.dat (.slice es)] cs))).put oi.dst a:=by
        rw[←FL];congr 1
        cases hdd:oi.dst with
        | none=>rfl
        | some d=>
         have hne:d≠t':=fun e=>q2 (by rw[hdd,e])
         simp only[aa.put];rw[List.set_comm _ _ hne]
       rw[e0] at hrest;obtain⟨s3,hs3⟩:=ih _ _ (fun k hk=>hh k (by simp[hk])) hrest;refine⟨s3,?_⟩;simp only[dA,ho',hop,hd,hg,hu,if_pos hok,hob,hes,ht'];exact hs3
     cases hsh2:dA (aV H ops.toList h.pre) ops.toList (gd ops.toList t (lE h.tk t s)) (s.put oi.dst a) with
     | none=>simp[hsh2] at hs
     | some s1=>
      obtain⟨s2,hs2⟩:=this _ _ _ hspec hsh2;rw[hsh] at hs2;simp at hs2
    | some s1=>
     have hput:=zj (v:=a) (dst:=oi.dst) _ _ _ (fun k hk o' ho' _=>by rw[((hspec k hk o' ho').1).1];exact ((hspec k hk o' ho').1).2.1) (fun k hk o' T u ho' hop=>(hspec k hk o' ho').2 T u hop) hsh;simp only[hput] at hs;obtain⟨q1,q3,q4⟩:=zi _ _ _ hsh
     cases hst:cY E G false false oj s1 with
     | none=>
      exfalso
      cases hst2:cY E G false false oj (s1.put oi.dst a) with
      | none=>simp[hst2] at hs
      | some s2=>
       -- the same operands
       unfold cY at hst hst2;rw[my _ _ _ _ hops_not] at hst2;have hlk:∀s':aa,looks oj.op (aP G s1 (kN false oj.op) 0 (opsL oj.op))=none->bp s' oj.op (aP G s1 (kN false oj.op) 0 (opsL oj.op))=none:=fun s' hl=>by unfold bp;rw[hl]
       cases hao:jJ E false oj.op (aP G s1 (kN false oj.op) 0 (opsL oj.op)) (bp (s1.put oi.dst a) oj.op (aP G s1 (kN false oj.op) 0 (opsL oj.op))) with
       | none=>simp[hao] at hst2
       | some out=>
        obtain⟨hk,hl⟩:=ql ht hao;rw[hlk _ hl] at hao hst;rw[hao] at hst;simp[dL,hk] at hst
     | some s2=>
      obtain⟨v,he,hback⟩:=uL ht hst;have hb2:=hback oi.dst a hops_not h2;simp only[hb2] at hs;dsimp only;rw[hst];refine⟨?_,hs⟩;rw[←hy];subst he;refine jg ?_ ?_
      ·refine sU.trans (s':={s1 with tmps:=s1.tmps.set t (cQ (bC s1.tmps t))}) ?_ (hdj _ v);intro t' ht';have e1:=kB (s:=s1) (x:=.tmp t) t';simp only[bO,List.getElem?_cons_zero] at e1;rw[e1,q4 t' (fun k hk o' ho' e=>by
        obtain⟨⟨g1,_,g3⟩,_⟩:=hspec k hk o' ho';rw[g1] at e;simp at e;subst e;exact g3 (by simpa using ht'))]
      exact q1.trans (.of_eq (by rw[(db _ oj.dst v).1]) (fun _=>by rw[(db _ oj.dst v).2.1]))
   rename_i ht;simp only[ht] at hs
   split
   ·rename_i hst;simp only[hst] at hs
    cases hs2:cY E G (readOnly H.moves ops.toList oj) (lF H ops.toList oj) oj (s.put oi.dst a) with
    | none=>rw[hs2] at hs;simp at hs
    | some s2=>
     rw[hs2] at hs;obtain⟨s3,k1,k2,k3⟩:∃s3,cY E G (readOnly H.moves ops.toList oj) (lF H ops.toList oj) oj s=some s3/\s3.put oi.dst a=s2/\fp E G (aV H ops.toList h.pre||quietAt H ops.toList h.pre i) ops.toList oi s3=some a:=by
      rcases hG hst hm with hmv|hap
      ·exact Nh hmv (by simpa using h1) h2 (by simpa using h3) hy hs2
      exact H6 hap hy hs2
     rw[k1];exact⟨k3,by rw[k2];exact hs⟩
   rename_i hst;simp[hst] at hs
  rename_i hb;simp only[hb] at hs;refine⟨?_,?_⟩
  ·rw[←hy];exact jg (hdj _ _) (hlj _ _ _)
  have:=hs
  simp only[Bool.false_eq_true,if_false] at this;rw[put_comm h2] at this;exact this
 rename_i hl;rw[if_neg hl] at hs;obtain⟨b,hb1,hb2⟩:=hs;rw[jg hsimj (hlj _ _ _)] at hb1;refine⟨b,hb1,?_,?_⟩
 ·rw[←hy];exact jg (hdj _ _) (hlj _ _ _)
 rw[put_comm h2] at hb2;exact hb2
variable (P E G H) in
def qs (ops:Array Oper) (h:ay) (p:Array Bool) (T:aa->Prop):Nat->Array Bool->aa->Prop
 | 0,listed,s=>listed=p/\T s
 | fuel+1,listed,s=>
  (listed=p/\T s)∨(listed≠p/\Region.ready .any ops listed≠[]/\∀i∈Region.ready .any ops listed,opC P E G H ops h i (qs ops h p T fuel (bW listed i)) s) ∨
  (∃i oi a,bW listed i=p/\nW ops h p i=true/\ops[i]?=some oi/\(i,false)∈h.pre/\i∈Region.ready .any ops listed/\fp E G (aV H ops.toList h.pre||quietAt H ops.toList h.pre i) ops.toList oi s=some a/\T (s.put oi.dst a))
theorem cU {ops:Array Oper} {listed:Array Bool} {i:Nat} (h:i∈Region.ready .any ops listed) (hsz:listed.size=ops.size):listed[i]?=some false:=by
 obtain⟨h0,o,ho,_⟩:=mem_ready.1 h;have hlt:i < ops.size:=(Array.getElem?_eq_some_iff.1 ho).1;have hl:i < listed.size:=by omega
 simp[hl] at h0;simp[hl,h0]
theorem tq {listed p:Array Bool} {i:Nat} (h:listed[i]?=some false) (e:bW listed i=p):p.setIfInBounds i false=listed:=by
 subst e;have hl:i < listed.size:=(Array.getElem?_eq_some_iff.1 h).1
 apply Array.ext_getElem?
 intro k;unfold bW
 by_cases hk:i=k
 ·subst hk;rw[h];simp[hl]
 rw[Array.getElem?_setIfInBounds_ne hk,Array.getElem?_setIfInBounds_ne hk]
def gY (ops:Array Oper) (listed:Array Bool):Prop:=∀(d:Nat) (o:Oper),listed[d]?=some true->ops[d]?=some o->∀e∈o.after,Region.binds .any e=true->listed.getD e.on false=true
theorem gY.step {ops:Array Oper} {listed:Array Bool} (h:gY ops listed) {j:Nat} (hj:j∈Region.ready .any ops listed):gY ops (bW listed j):=by
 intro d o hd ho e he hb
 by_cases hdj:d=j
 ·subst hdj;obtain⟨_,o',ho',hafter⟩:=mem_ready.1 hj;rw[ho] at ho';simp at ho';subst ho';exact getD_set_true (hafter e he hb)
 unfold bW at hd;rw[Array.getElem?_setIfInBounds_ne (Ne.symm hdj)] at hd;exact getD_set_true (h d o hd ho e he hb)
theorem Mo {ops:Array Oper} {listed:Array Bool} {i:Nat} (hcl:gY ops listed) (hun:listed[i]?=some false) (hl:waited ops (bW listed i) i=true):False:=by
 unfold waited at hl;obtain⟨d,hd,hd2⟩:=List.any_eq_true.1 hl;simp only[Bool.and_eq_true] at hd2;obtain⟨⟨h1,h2⟩,h3⟩:=hd2;have hdi:d≠i:=by simpa using h1
 split at h3
 ·rename_i o ho;obtain⟨ed,he1,he2⟩:=Array.any_eq_true'.1 h3;simp only[Bool.and_eq_true,beq_iff_eq] at he2;have hld:listed[d]?=some true:=by
   unfold bW at h2;rw[getD_set_ne false (Ne.symm hdi),Array.getD_eq_getD_getElem?] at h2
   cases hg:listed[d]? with
   | none=>rw[hg] at h2;simp at h2
   | some b=>rw[hg] at h2;simp at h2;rw[h2]
  have:=hcl d o hld ho ed he1 he2.1
  rw[he2.2,Array.getD_eq_getD_getElem?,hun] at this;simp at this
 simp at h3
theorem Ar {ops:Array Oper} {listed p:Array Bool} {i:Nat} (hcl:gY ops listed) (hun:listed[i]?=some false) (e:bW listed i=p) (hl:(waited ops p i||Region.ready .any ops (p.setIfInBounds i false)==[i])=true):Region.ready .any ops listed=[i]:=by
 have hback:=tq hun e;rw[Bool.or_eq_true] at hl
 rcases hl with hl|hl
 ·exfalso
  unfold waited at hl;obtain⟨d,hd,hd2⟩:=List.any_eq_true.1 hl;simp only[Bool.and_eq_true] at hd2;obtain⟨⟨h1,h2⟩,h3⟩:=hd2;have hdi:d≠i:=by simpa using h1
  split at h3
  ·rename_i o ho;obtain⟨ed,he1,he2⟩:=Array.any_eq_true'.1 h3;simp only[Bool.and_eq_true,beq_iff_eq] at he2;have hld:listed[d]?=some true:=by
    rw[←e] at h2;unfold bW at h2;rw[getD_set_ne false (Ne.symm hdi),Array.getD_eq_getD_getElem?] at h2
    cases hg:listed[d]? with
    | none=>rw[hg] at h2;simp at h2
    | some b=>rw[hg] at h2;simp at h2;rw[h2]
   have:=hcl d o hld ho ed he1 he2.1
   rw[he2.2,Array.getD_eq_getD_getElem?,hun] at this;simp at this
  simp at h3
 rw[←hback];simpa using hl
theorem tA {ops:Array Oper} {listed:Array Bool} (hcl:gY ops listed):∀(f i j:Nat),listed.getD i false=true->reach ops.toList f i j=true->listed.getD j false=true
 | 0,_,_,_,h=>by simp[reach] at h
 | f+1,i,j,hi,h=>by
  simp only[reach] at h
  split at h
  ·rename_i o ho;obtain⟨e,he,h2⟩:=List.any_eq_true.1 h;simp only[Bool.and_eq_true,Bool.or_eq_true,Nat.beq_eq] at h2;have hi':listed[i]?=some true:=by
    rw[Array.getD_eq_getD_getElem?] at hi
    cases hg:listed[i]? with
    | none=>rw[hg] at hi;simp at hi
    | some b=>rw[hg] at hi;simp at hi;rw[hi]
   have h3:=hcl i o hi' (by simpa using ho) e (by simpa using he) h2.1
   rcases h2.2 with h4|h4
   ·rw[←h4];exact h3
   exact tA hcl f e.on j h3 h4
  simp at h
theorem lL {ops:Array Oper} {listed:Array Bool} (hcl:gY ops listed) {f i j:Nat} (hr:i∈Region.ready .any ops listed) (h:reach ops.toList f i j=true) (hj:listed.getD j true=false):False:=by
 obtain⟨_,o,ho,hafter⟩:=mem_ready.1 hr;have key:listed.getD j false=true:=by
  cases f with
  | zero=>simp[reach] at h
  | succ f=>
   have ho':ops.toList[i]?=some o:=by simpa using ho
   simp only[reach,ho'] at h;obtain⟨e,he,h2⟩:=List.any_eq_true.1 h;simp only[Bool.and_eq_true,Bool.or_eq_true,Nat.beq_eq] at h2;have h3:=hafter e (by simpa using he) h2.1
   rcases h2.2 with h4|h4
   ·rw[←h4];exact h3
   exact tA hcl f e.on j h3 h4
 rw[Array.getD_eq_getD_getElem?] at key hj
 cases hg:listed[j]? with
 | none=>rw[hg] at key;simp at key
 | some b=>rw[hg] at key hj;simp at key hj;rw[key] at hj;simp at hj
theorem xK {ops:Array Oper} {h:ay} (hcs:dT ops h=true) (hca:oC ops h=true) (hcst:gK ops h=true) {p:Array Bool} {T:aa->Prop} {i:Nat} {oi:Oper} {a:ac} (hi:ops[i]?=some oi) (hm:(i,false)∈h.pre)
  (hlast:(waited ops p i||Region.ready .any ops (p.setIfInBounds i false)==[i])=true∨nW ops h p i=true) (hp:p[i]?=some true) :
  ∀(fuel:Nat) (listed:Array Bool) (s:aa),listed.size=ops.size->gY ops listed->
   (∀j oj,ops[j]?=some oj->j≠i->listed.getD j true=false->(∀e∈oj.after,Region.binds .any e=true->e.on≠i)->oi.apart ops oj=true)->
   i∈Region.ready .any ops listed->fp E G (aV H ops.toList h.pre||quietAt H ops.toList h.pre i) ops.toList oi s=some a->
   qs P E G H ops h p T fuel (bW listed i) (s.put oi.dst a)->qs P E G H ops h p T (fuel+1) listed s:=by
 intro fuel
 induction fuel with
 | zero=>
  intro listed s hsz hcl hfree hr hy hH;have hun:=cU hr hsz;have hne:listed≠p:=fun e=>by rw[e,hp] at hun;simp at hun
  rcases hlast with hlast|hlast
  rotate_left
  ·exact .inr (.inr ⟨i,oi,a,hH.1,hlast,hi,hm,hr,hy,hH.2⟩)
  have hal:=Ar hcl hun hH.1 hlast;refine .inr (.inl ⟨hne,fun h=>(by rw[h] at hr;cases hr),fun j hj=>?_⟩);have hj':=hj;rw[hal] at hj';simp at hj';subst hj';exact⟨false,oi,hm,hi,by simp only[Bool.false_eq_true,if_false];exact⟨a,hy,hH⟩⟩
 | succ fuel ih=>
  intro listed s hsz hcl hfree hr hy hH;have hun:=cU hr hsz;have hne:listed≠p:=fun e=>by rw[e,hp] at hun;simp at hun
  by_cases hlate:bW listed i=p/\nW ops h p i=true/\¬(waited ops p i||Region.ready .any ops (p.setIfInBounds i false)==[i])=true
  ·have hT:T (s.put oi.dst a):=by
    rcases hH with⟨_,hT⟩|⟨hne2,_⟩|⟨i',oi',a',e',_,hoi',_,hr',_,_⟩
    ·exact hT
    ·exact absurd hlate.1 hne2
    exfalso
    have hun':=cU hr' (by simpa [bW] using hsz);rw[hlate.1] at hun' e'
    have:(bW p i')[i']?=some true:=by
     have hl:i' < p.size:=(Array.getElem?_eq_some_iff.1 hun').1;simp[bW,hl]
    rw[e',hun'] at this;simp at this
   exact .inr (.inr ⟨i,oi,a,hlate.1,hlate.2.1,hi,hm,hr,hy,hT⟩)
  refine .inr (.inl ⟨hne,fun h=>(by rw[h] at hr;cases hr),fun j hj=>?_⟩)
  by_cases hji:j=i
  ·subst hji;exact⟨false,oi,hm,hi,by simp only[Bool.false_eq_true,if_false];exact⟨a,hy,hH⟩⟩
  have h1:opC P E G H ops h j (qs P E G H ops h p T fuel (bW (bW listed i) j)) (s.put oi.dst a):=by
   rcases hH with⟨e,hT⟩|⟨hne2,_,hall⟩|⟨i',oi',a',e',hlk,hoi',hm',hr',hy',hT'⟩
   ·exfalso
    have hlast':(waited ops p i||Region.ready .any ops (p.setIfInBounds i false)==[i])=true:=by
     rcases hlast with h'|h'
     ·exact h'
     exact Classical.byContradiction fun hno=>hlate ⟨e,h',hno⟩
    have hal:=Ar hcl hun e hlast';have hj':=hj;rw[hal] at hj';simp at hj';exact absurd hj' hji
   ·exact hall j (ready_mono hj hji)
   have hun':=cU hr' (by simpa [bW] using hsz);have hii:i≠i':=by
    rintro rfl;have hl:i < listed.size:=(Array.getElem?_eq_some_iff.1 hun).1;simp[bW,hl] at hun'
   have hb1:=tq hun' e';have hb2:=tq hun (rfl:bW listed i=bW listed i);have hjr:j∈Region.ready .any ops (bW listed i):=ready_mono hj hji;have hji':j=i':=by
    refine Classical.byContradiction fun hjn=>?_
    unfold nW at hlk
    split at hlk
    ·simp at hlk
    rename_i j0 r0 htl;simp only[Bool.and_eq_true,Bool.or_eq_true,beq_iff_eq] at hlk;obtain⟨⟨⟨⟨⟨⟨⟨h1,_⟩,_⟩,_⟩,h5⟩,_⟩,_⟩,_⟩:=hlk;rw[hb1] at h1;have hj0:j=j0:=by
     rcases h1 with h1|h1 <;> rw[h1] at hjr <;> simp at hjr <;> rcases hjr with h'|h' <;> first|exact h'|exact absurd h' hjn
    subst hj0;have h6:=List.all_eq_true.1 h5 (i,false) hm;rw[hb1,hb2] at h6;simp only[Bool.or_eq_true,beq_iff_eq,hii,false_or] at h6
    rcases h6 with h6|h6
    ·exact Mo hcl hun h6
    simp at h6;exact h6 hj
   subst hji';have hP:qs P E G H ops h p T fuel (bW (bW listed i) j) ((s.put oi.dst a).put oi'.dst a'):=by
    rw[e']
    cases fuel with
    | zero=>exact⟨rfl,hT'⟩
    | succ fuel=>exact .inl ⟨rfl,hT'⟩
   exact⟨false,oi',hm',hoi',by simp only[Bool.false_eq_true,if_false];exact⟨a',hy',hP⟩⟩
  ·obtain⟨hjun,oj,hoj,hafter⟩:=mem_ready.1 hj;have hnot:∀e∈oj.after,Region.binds .any e=true->e.on≠i:=fun e he hb heq=>by
    have h1:=hafter e he hb;rw[heq] at h1;rw[Array.getD_eq_getD_getElem?,hun] at h1;simp at h1
   have hntk:∀t k o',fK oj.op=some t->k∈gd ops.toList t h.tk->ops.toList[k]?=some o'->∀e∈o'.after,Region.binds .any e=true->e.on≠i:=by
    intro t k o' ht hk ho' e he hb heq;obtain⟨lone,_,hmj,_,_⟩:=h1;have hca':=hca;unfold oC at hca';have g1:=List.all_eq_true.1 hca' (j,lone) hmj;simp only[hoj,ht] at g1;have g2:=List.all_eq_true.1 g1 k hk;obtain⟨e2,he1,he2⟩:=Array.any_eq_true'.1 g2;simp only[Bool.and_eq_true,beq_iff_eq] at he2;have g3:=hafter e2 he1 he2.1;rw[he2.2,Array.getD_eq_getD_getElem?] at g3;have hlk:listed[k]?=some true:=by
     cases hg:listed[k]? with
     | none=>rw[hg] at g3;simp at g3
     | some b=>rw[hg] at g3;simp at g3;rw[g3]
    have:=hcl k o' hlk (by simpa using ho') e he hb
    rw[heq,Array.getD_eq_getD_getElem?,hun] at this;simp at this
   have hF:∀c,dq oj.op=some c->ik H oj=false->mw H oj=false->(j,true)∈h.pre->(aV H ops.toList h.pre||quietAt H ops.toList h.pre i)=false:=by
    intro c hcc hpu hrd hmj;rw[Bool.eq_false_iff];intro ht;rw[oN (all:=ops.toList) hmj (by simpa using hoj) hcc hpu,Bool.false_or] at ht;unfold quietAt at ht;have g:=List.all_eq_true.1 ht (j,true) hmj;have hoj':ops.toList[j]?=some oj:=by simpa using hoj
    simp only[hoj',hcc,hpu,hrd,Bool.not_true,Bool.false_or,Option.isNone_some,Bool.or_eq_true] at g
    rcases g with g|g
    ·exact lL hcl hr g hjun
    refine lL hcl hj g ?_;rw[Array.getD_eq_getD_getElem?,hun];rfl
   have hG:ku oj.op=true->(j,true)∈h.pre->ub oj=true∨jz oi oj=true:=by
    intro hst hmj;unfold gK at hcst;have g1:=List.all_eq_true.1 hcst (j,true) hmj;simp only[hoj,hst,Bool.not_true,Bool.false_or,Bool.and_eq_true] at g1;have g2:=List.all_eq_true.1 g1.2 (i,false) hm;simp only[hi,Bool.false_or,Bool.or_eq_true] at g2
    rcases g2 with ((g|g)|g)|g
    ·exact .inl g
    ·exact .inr g
    ·exact (lL hcl hr g hjun).elim
    refine (lL hcl hj g ?_).elim;rw[Array.getD_eq_getD_getElem?,hun];rfl
   have h2:=VQ hcs hi hm hoj (hfree j oj hoj hji hjun hnot) hntk hF hG hy h1;have hfree':∀k ok,ops[k]?=some ok->k≠i->(bW listed j).getD k true=false->(∀e∈ok.after,Region.binds .any e=true->e.on≠i)->oi.apart ops ok=true:=fun k ok hk hki hun' hno=>by
    refine hfree k ok hk hki ?_ hno
    by_cases hjk:j=k
    ·subst hjk;exact hjun
    unfold bW at hun';rw[getD_set_ne true hjk] at hun';exact hun'
   refine R4 (fun s' h3=>ih (bW listed j) s' (by simpa [bW] using hsz) (hcl.step hj) hfree' (ready_mono hr (Ne.symm hji)) h3.1 ?_) h2;have e:bW (bW listed j) i=bW (bW listed i) j:=by unfold bW;rw[Array.setIfInBounds_comm _ _ hji]
   rw[e];exact h3.2
theorem lO:∀(r:List (Nat×Bool)) (l:Array Bool) (i:Nat),l[i]?=some true->(ee r l)[i]?=some true
 | [],_,_,h=>h
 |(j,_)::r,l,i,h=>by
  apply lO r
  unfold bW
  by_cases hj:j=i
  ·subst hj;have hl:j < l.size:=(Array.getElem?_eq_some_iff.1 h).1;simp[hl]
  rw[Array.getElem?_setIfInBounds_ne hj];exact h
theorem qq {ops:Array Oper} {h:ay} (hcs:dT ops h=true) (hca:oC ops h=true) (hcst:gK ops h=true) {T:aa->Prop} {p:Array Bool} (hlast:kE ops h p h.pre=true) :
  ∀(r:List (Nat×Bool)) (listed:Array Bool) (s:aa) (fuel:Nat),(∀x∈r,x∈h.pre)->listed.size=ops.size->gY ops listed->p=ee r listed->oB ops r listed=true->r.length<=fuel->
   mc (aC P G) E G H h.tk (aV H ops.toList h.pre) (quietAt H ops.toList h.pre) ops.toList T r s->qs P E G H ops h p T fuel listed s
 | [],listed,s,fuel,_,_,_,hp,_,_,h=>by
  cases fuel with
  | zero=>exact⟨hp.symm,h⟩
  | succ fuel=>exact .inl ⟨hp.symm,h⟩
 |(i,lone)::r,listed,s,0,_,_,_,_,_,hf,_=>by simp at hf
 |(i,lone)::r,listed,s,fuel+1,hsub,hsz,hcl,hp,hc,hf,hh=>by
  have hm:=hsub (i,lone) (by simp);simp only[oB,Bool.and_eq_true] at hc;obtain⟨hc1,hc2⟩:=hc;have hrd0:i∈Region.ready .any ops listed:=by
   cases lone
   ·simp at hc1;exact hc1.1
   simp at hc1;rw[hc1];simp
  simp only[mc,iX] at hh;have hsz':(bW listed i).size=ops.size:=by simpa [bW] using hsz
  have hp':p=ee r (bW listed i):=hp;have hrec:∀s',mc (aC P G) E G H h.tk (aV H ops.toList h.pre) (quietAt H ops.toList h.pre) ops.toList T r s'->qs P E G H ops h p T fuel (bW listed i) s':=fun s' h'=>
   qq hcs hca hcst hlast r (bW listed i) s' fuel (fun x hx=>hsub x (by simp[hx])) hsz' (hcl.step hrd0) hp' hc2 (by simp at hf;omega) h'
  split at hh
  ·exact hh.elim
  rename_i o ho;have ho':ops[i]?=some o:=by simpa using ho
  have hlt:i < listed.size:=by rw[hsz];exact (Array.getElem?_eq_some_iff.1 ho').1
  have hpi:p[i]?=some true:=by
   rw[hp']
   apply lO
   simp[bW,hlt]
  cases lone
  ·simp only[Bool.false_eq_true,if_false,Bool.and_eq_true] at hh hc1
   split at hh
   ·rename_i a ha;refine xK hcs hca hcst ho' hm ?_ hpi fuel listed s hsz hcl (Region.free_spec ho' hc1.2) (by simpa using hc1.1) ha (hrec _ hh)
    have:∀(q:List (Nat×Bool)),(i,false)∈q->kE ops h p q=true->(waited ops p i||Region.ready .any ops (p.setIfInBounds i false)==[i])=true∨nW ops h p i=true:=by
     intro q
     induction q with
     | nil=>intro hq;simp at hq
     | cons x q ih=>
      intro hq hcl;obtain⟨k,l⟩:=x;simp only[kE,Bool.and_eq_true,Bool.or_eq_true] at hcl
      rcases List.mem_cons.1 hq with e|hq
      ·simp at e;obtain⟨rfl,rfl⟩:=e
       rcases hcl.1 with (hl|hl)|hl
       ·simp at hl
       ·exact .inl (by rw[Bool.or_eq_true];exact hl)
       exact .inr hl
      exact ih hq hcl.2
    exact this h.pre hm hlast
   exact hh.elim
  simp only[if_true] at hh hc1;have hrd:Region.ready .any ops listed=[i]:=by simpa using hc1
  have hun:=cU (i:=i) (by rw[hrd];simp) hsz;refine .inr (.inl ⟨fun e=>by rw[e,hpi] at hun;simp at hun,by rw[hrd];simp,fun j hj=>?_⟩);rw[hrd] at hj;simp at hj;subst hj;exact⟨true,o,hm,ho',by simp only[if_true];exact pt hrec hh⟩
theorem tC:∀{r:List (Nat×Bool)} {x:Nat×Bool},x∈bY r->x∈r/\x.2=false
 | [],_,h=>by simp[bY] at h
 |(i,true)::r,_,h=>by simp[bY] at h
 |(i,false)::r,x,h=>by
  simp only[bY] at h
  rcases List.mem_cons.1 h with rfl|h
  ·simp
  obtain⟨h1,h2⟩:=tC h;exact⟨by simp[h1],h2⟩
theorem qp {ops:Array Oper} {h:ay} (hcs:dT ops h=true) (hca:oC ops h=true) (hcst:gK ops h=true) {T K:aa->Prop} {p:Array Bool} (hlast:kE ops h p h.pre=true) (hall:∀x∈h.pre,p[x.1]?=some true) (fuel:Nat) :
  ∀(r:List (Nat×Bool)) (listed:Array Bool) (s:aa),(∀x∈r,x∈h.pre/\x.2=false)->listed.size=ops.size->gY ops listed->oB ops r listed=true->
   (∀s',K s'->qs P E G H ops h p T fuel (ee r listed) s')->
   mc (aC P G) E G H h.tk (aV H ops.toList h.pre) (quietAt H ops.toList h.pre) ops.toList K r s->qs P E G H ops h p T (r.length+fuel) listed s
 | [],listed,s,_,_,_,_,hK,h=>by
  rw[List.length_nil,Nat.zero_add];exact hK s h
 |(i,true)::r,listed,s,hsub,_,_,_,_,_=>by
  have:=(hsub (i,true) (by simp)).2
  simp at this
 |(i,false)::r,listed,s,hsub,hsz,hcl,hc,hK,hh=>by
  obtain⟨hm,_⟩:=hsub (i,false) (by simp);simp only[oB,Bool.and_eq_true] at hc;obtain⟨hc1,hc2⟩:=hc;simp only[Bool.false_eq_true,if_false,Bool.and_eq_true] at hc1;have hrd0:i∈Region.ready .any ops listed:=by simpa using hc1.1
  simp only[mc,iX] at hh;have hsz':(bW listed i).size=ops.size:=by simpa [bW] using hsz
  split at hh
  ·exact hh.elim
  rename_i o ho;have ho':ops[i]?=some o:=by simpa using ho
  simp only[Bool.false_eq_true,if_false] at hh
  split at hh
  ·rename_i a ha;have hrec:=qp hcs hca hcst hlast hall fuel r (bW listed i) _ (fun x hx=>hsub x (by simp[hx])) hsz' (hcl.step hrd0) hc2 hK hh;have e:((i,false)::r).length+fuel=(r.length+fuel)+1:=by simp;omega
   rw[e];refine xK hcs hca hcst ho' hm ?_ (hall _ hm) (r.length+fuel) listed s hsz hcl (Region.free_spec ho' hc1.2) hrd0 ha hrec
   have:∀(q:List (Nat×Bool)),(i,false)∈q->kE ops h p q=true->(waited ops p i||Region.ready .any ops (p.setIfInBounds i false)==[i])=true∨nW ops h p i=true:=by
    intro q
    induction q with
    | nil=>intro hq;simp at hq
    | cons x q ih=>
     intro hq hcl;obtain⟨k,l⟩:=x;simp only[kE,Bool.and_eq_true,Bool.or_eq_true] at hcl
     rcases List.mem_cons.1 hq with e|hq
     ·simp at e;obtain⟨rfl,rfl⟩:=e
      rcases hcl.1 with (hl|hl)|hl
      ·simp at hl
      ·exact .inl (by rw[Bool.or_eq_true];exact hl)
      exact .inr hl
     exact ih hq hcl.2
   exact this h.pre hm hlast
  exact hh.elim
theorem rO {ops:Array Oper} {h:ay} {T:aa->Prop} {p:Array Bool}:∀(m:Nat) (listed:Array Bool) (s:aa),
  wq (aC P G) E G H h ops.toList p T m listed s->qs P E G H ops h p T m listed s
 | 0,listed,s,hh=>hh
 | m+1,listed,s,hh=>by
  simp only[wq,Array.toArray_toList] at hh;obtain⟨h1,h2,h3⟩:=hh;refine .inr (.inl ⟨h1,h2,fun i hi=>?_⟩);obtain⟨hm,o,ho,hop⟩:=h3 i hi;refine⟨true,o,hm,by simpa using ho,?_⟩;rw[if_pos rfl];exact pt (fun s' h'=>rO m _ s' h') hop
end
end Go.Tp
namespace Go.Tp
section
variable {P:Program} {E:bG} {G:bJ} {H:Hints} {D:List Deferred}
theorem Ux (hE:E.Ok P) {o:Oper} {s:aa} {out:Out} (hop:jJ E false o.op (aP G s none 0 (opsL o.op)) (bp s o.op (aP G s none 0 (opsL o.op)))=some out) (hk:out.eff=.keep)
  {w:World} {R:Own} {N:Name->Option Nat} {act:Act} {bsT bsL bsH bsF:List Nat} (hr:dh G w R N act.tmps.toList s undef .undef [] bsT bsL bsH bsF) :
  ∃cv w' R' bsV,Zo P w act.eval o cv w'/\al w' R' N out.val cv bsV/\wC w [] bsV/\bA w R w' R' (bsT++(bsL++(bsH++bsF))):=by
 have ha:=kR hr.tmps hr.glob none 0 (opsL o.op) (by simp);generalize hvals:aP G s none 0 (opsL o.op)=vals at hop ha;have hnd:(bsT++(bsL++(bsH++bsF))).Nodup:=by simpa using hr.nodup
 cases hlo:bp s o.op vals with
 | none=>
  rw[hlo] at hop;have hlk:eA w R N o.op vals none none:=by
   unfold eA
   split
   ·exact⟨rfl,rfl⟩
   exact .inl ⟨rfl,rfl⟩
  obtain⟨cv,w',R',hran,hkeep,hout⟩:=nu (rest:=bsT++(bsL++(bsH++bsF))) hE hop ha (fun _=>rfl) hlk (by simpa [tL] using hnd) (fun _=>rfl);rw[hk] at hout;obtain⟨bsV,hv,hf,_,_⟩:=hout;exact⟨cv,w',R',bsV,hran,hv,hf,hkeep⟩
 | some obj=>
  rw[hlo] at hop;have hlk:∃b b1,eA w R N o.op vals (some obj) (some (b,b1))/\(b::b1).Nodup:=by
   unfold bp at hlo
   split at hlo
   ·rename_i n hn
    cases n with
    | loc i=>
     simp only[aa.obj] at hlo;obtain⟨pre,b,b1,post,e1,e2,e3,_⟩:=ao.split hr.locs hlo;refine⟨b,b1,?_,?_⟩
     ·unfold eA;rw[hn];exact .inr ⟨b,b1,obj,rfl,rfl,e2,e3⟩
     subst e1;refine List.Nodup.sublist ?_ hnd;refine List.Sublist.trans ?_ (List.sublist_append_right _ _);refine List.Sublist.trans ?_ (List.sublist_append_left _ _);exact (List.sublist_append_right _ _).trans (List.sublist_append_left _ _)
    | out k=>
     simp only[aa.obj] at hlo;obtain⟨pre,b,b1,post,e1,e2,e3,_⟩:=ao.split hr.heap hlo;have hno:dj obj=true:=by
      cases obj with
      | cells cs=>obtain⟨vs,e,sp,hb,hrr,hR⟩:=e3;have:=hrr.cy;rw[jq] at this;exact this
      | map es=>rfl
     refine⟨b,b1,?_,?_⟩
     ·unfold eA;rw[hn];exact .inr ⟨b,b1,obj,rfl,rfl,by simpa [outs] using e2,e3.yh hno (fun _=>rfl)⟩
     subst e1;refine List.Nodup.sublist ?_ hnd;refine List.Sublist.trans ?_ (List.sublist_append_right _ _);refine List.Sublist.trans ?_ (List.sublist_append_right _ _);refine List.Sublist.trans ?_ (List.sublist_append_left _ _);exact (List.sublist_append_right _ _).trans (List.sublist_append_left _ _)
   simp at hlo
  obtain⟨b,b1,hlk,hnd1⟩:=hlk;obtain⟨cv,w',R',hran,hkeep,hout⟩:=nu (rest:=[]) hE hop ha (fun _=>rfl) hlk (by simpa [tL] using hnd1) (fun _=>rfl);rw[hk] at hout;obtain⟨bsV,hv,hf,_,hsame⟩:=hout
  rcases hsame with h|⟨rfl,rfl⟩
  ·simp at h
  exact⟨cv,w',R',bsV,hran,hv,hf,bj _⟩
theorem KH {s:aa} {w w':World} {R R':Own} {N:Name->Option Nat} {act:Act} {bsT bsL bsH bsF bsV:List Nat} (bsY:List Nat) {a:ac} {cv:Value} (dst:Option Tmp) (hr:dh G w R N act.tmps.toList s undef .undef [] bsT bsL bsH bsF)
  (hv:al w' R' N a cv bsV) (hf:wC w [] (bsV++bsY)) (hy:∀b∈bsY,b < w'.heap.size) (hk:bA w R w' R' (bsT++(bsL++(bsH++bsF)))) :
  ∃bsT',dh G w' R' N (act.put dst cv).tmps.toList (s.put dst a) undef .undef [] bsT' bsL bsH (bsY++bsF):=by
 have hlt:∀b∈bsT++(bsL++(bsH++bsF)),b < w.heap.size:=fun b hb=>by
  simp at hb
  rcases hb with h|h|h|h
  ·exact hr.tmps.lt b h
  ·exact hr.locs.lt b h
  ·exact hr.heap.lt b h
  exact hr.frame b h
 have hnd0:((bsV++bsY)++(bsT++(bsL++(bsH++bsF)))).Nodup:=fF (bsM:=[]) (by simpa using hr.nodup) hlt hf;have hnd:(bsV++(bsT++(bsL++(bsH++(bsY++bsF))))).Nodup:=by
  have hp:(bsV++(bsT++(bsL++(bsH++(bsY++bsF))))).Perm ((bsV++bsY)++(bsT++(bsL++(bsH++bsF)))):=by
   rw[List.perm_iff_count];intro q;simp only[List.count_append];omega
  exact hp.nodup_iff.2 hnd0
 obtain⟨bsT',hp1,hp2⟩:=fP dst (hr.tmps.keep (hk.sub (by intro b hb;simp[hb]))) hv hnd;obtain⟨q1,q2,q3⟩:=db s dst a;exact⟨bsT',aW _,by rw[(gG act dst cv).1];exact hp1,by rw[q1];exact hr.locs.keep (hk.sub (by intro b hb;simp[hb])),by rw[q2];exact hr.heap.keep (hk.sub (by intro b hb;simp[hb])),by simpa using hp2,by rw[q3];exact hr.next,
  fun g cs hg=>(hr.glob g cs hg).step hk.step,fun b hb=>by
   rcases List.mem_append.1 hb with h|h
   ·exact hy b h
   exact Nat.lt_of_lt_of_le (hr.frame b h) hk.step.size⟩
structure BK (E:bG) (G:bJ) (H:Hints) (ops:Array Oper) (h:ay) (listed:Array Bool) (w:World) (R:Own) (N:Name->Option Nat) (act:Act) (s:aa) (bsT bsL bsH bsX bsF:List Nat):Prop where
 rel:dh G w R N act.tmps.toList s undef .undef [] bsT bsL bsH (bsX++bsF)
 nwf:∀i o t d ti,h.nw=some i->listed[i]?=some true->ops[i]?=some o->o.op=.alloc t->o.dst=some d->o.guard=none->E.ty t=some ti->d < act.tmps.size->
  ∃b,b∈bsX/\act.tmps[d]?=some (.pointer (some ⟨b,0,none⟩))/\aU w R N (.cells (bN (cI ti.zero))) b []
 tkf:∀i o T u t n off ob,i∈h.tk->listed[i]?=some true->ops[i]?=some o->o.op=.load T (.tmp u)->o.dst=some t->o.guard=none->bC s.tmps u=.ptr n off->DK (aV H ops.toList h.pre) n=true->s.obj n=some ob->t < act.tmps.size->
  ∃b v,N n=some b/\act.tmps[t]?=some v/\(w.cell? ⟨b,off,none⟩=some v∨∃vs,v=.agg vs)
theorem Eu {ops:Array Oper} {h:ay} (hc:dT ops h=true) {i:Nat} (hi:i∈h.nw.toList++h.tk) {o:Oper} (ho:ops[i]?=some o) {T:TypeId} {u:Tmp} (hop:o.op=.load T (.tmp u)):o.dst≠some u:=by
 unfold dT at hc;have h1:=List.all_eq_true.1 hc i hi;rw[ho] at h1;simp only[Bool.and_eq_true] at h1;have h2:=h1.2.1;rw[hop] at h2;simpa using h2
theorem xH {act:Act} {dst:Option Tmp} {v:Value} {t:Nat} (h:dst≠some t):(act.put dst v).tmps[t]?=act.tmps[t]?:=by
 cases dst with
 | none=>rfl
 | some d=>
  have hne:d≠t:=fun e=>h (by rw[e])
  simp[Act.put,Array.getElem?_setIfInBounds_ne hne]
theorem kF {act:Act} {dst:Option Tmp} {v:Value}:(act.put dst v).tmps.size=act.tmps.size:=by
 cases dst <;> simp[Act.put]
theorem zo {listed:Array Bool} {i j:Nat} (h:(bW listed i)[j]?=some true) (hne:j≠i):listed[j]?=some true:=by
 unfold bW at h;rwa [Array.getElem?_setIfInBounds_ne (Ne.symm hne)] at h
theorem CT {w w':World} {b off:Nat} (h:w'.heap[b]?=w.heap[b]?):w'.cell? ⟨b,off,none⟩=w.cell? ⟨b,off,none⟩:=by
 simp[World.cell?,h]
theorem BK.carry {ops:Array Oper} {h:ay} {listed:Array Bool} {w w':World} {R R':Own} {N N':Name->Option Nat} {act:Act} {s s':aa} {bsT bsL bsH bsX bsF:List Nat} (bsY:List Nat) {o:Oper} {cv:Value}
  (hp:BK E G H ops h listed w R N act s bsT bsL bsH bsX bsF)
  (hc:dT ops h=true) (hcl:gY ops listed) {i:Nat} {l:Bool} (hi:ops[i]?=some o) (hun:listed[i]?=some false) (hm:(i,l)∈h.pre) (hk:bA w R w' R' bsX) (hkL:∀n ob b,DK (aV H ops.toList h.pre) n=true->s.obj n=some ob->N n=some b->w'.heap[b]?=w.heap[b]?) (hN:∀m c,N m=some c->N' m=some c) (hlocs:∀n ob,DK (aV H ops.toList h.pre) n=true->s'.obj n=some ob->∃y,s.obj n=some y)
  (hT:∀t n off,DK (aV H ops.toList h.pre) n=true->o.dst≠some t->bC s'.tmps t=.ptr n off->bC s.tmps t=.ptr n off) :
  (∀j q t d ti,j≠i->h.nw=some j->(bW listed i)[j]?=some true->ops[j]?=some q->q.op=.alloc t->q.dst=some d->q.guard=none->E.ty t=some ti->d < (act.put o.dst cv).tmps.size->
   ∃b,b∈bsY++bsX/\(act.put o.dst cv).tmps[d]?=some (.pointer (some ⟨b,0,none⟩))/\aU w' R' N' (.cells (bN (cI ti.zero))) b []) ∧
  (∀j q T u t n off ob,j≠i->j∈h.tk->(bW listed i)[j]?=some true->ops[j]?=some q->q.op=.load T (.tmp u)->q.dst=some t->q.guard=none->bC s'.tmps u=.ptr n off->DK (aV H ops.toList h.pre) n=true->s'.obj n=some ob->
   t < (act.put o.dst cv).tmps.size->∃b v,N' n=some b/\(act.put o.dst cv).tmps[t]?=some v/\(w'.cell? ⟨b,off,none⟩=some v∨∃vs,v=.agg vs)):=by
 constructor
 ·intro j q t d ti hji hnw hl hq hop hd hg hty hlt;obtain⟨⟨d',hd',hne,_⟩,_⟩:=mA hc (i:=j) (by simp[hnw]) hq hm (Ne.symm hji) hi;rw[hd] at hd';simp at hd';subst hd';rw[kF] at hlt;obtain⟨b,h1,h2,h3⟩:=hp.nwf j q t d ti hnw (zo hl hji) hq hop hd hg hty hlt;refine⟨b,by simp[h1],by rw[xH hne];exact h2,?_⟩;exact (h3.keep (hk.sub (by intro c hc;simp at hc;subst hc;simp[h1]))).ext hN
 intro j q T u t n off ob hji htk hl hq hop hd hg hu hok hob hlt;obtain⟨⟨d',hd',hne,_⟩,h4⟩:=mA hc (i:=j) (by simp[htk]) hq hm (Ne.symm hji) hi;rw[hd] at hd';simp at hd';subst hd';have hu1:o.dst≠some u:=by
  rcases h4 T u hop with hu1|⟨e,he,hb,hon⟩
  ·exact hu1
  exfalso
  have:=hcl j q (zo hl hji) hq e he hb
  rw[hon,Array.getD_eq_getD_getElem?,hun] at this;simp at this
 have hu2:=hT u n off hok hu1 hu;rw[kF] at hlt;obtain⟨y,hob⟩:=hlocs _ _ hok hob;obtain⟨b,v,h1,h2,h3⟩:=hp.tkf j q T u t n off y htk (zo hl hji) hq hop hd hg hu2 hok hob hlt;refine⟨b,v,hN _ _ h1,by rw[xH hne];exact h2,?_⟩
 rcases h3 with h3|h3
 ·left;rw[CT (hkL _ _ b hok hob h1)];exact h3
 exact .inr h3
theorem vF {w w':World} {R R':Own} {N:Name->Option Nat} {os:List (Name×aT)} {bsL bs:List Nat} (hl:ao w R N os bsL) (hk:bA w R w' R' bs) (hs:∀b∈bsL,b∈bs):∀n ob b,ev n os=some ob->N n=some b->w'.heap[b]?=w.heap[b]?:=by
 intro n ob b hob hb;obtain⟨pre,b',b1,post,e1,e2,_,_⟩:=ao.split hl hob;rw[hb] at e2;simp at e2;subst e2;exact (hk.same b (hs b (by rw[e1];simp)) (hl.lt b (by rw[e1];simp))).1
theorem pv {w w':World} {R R':Own} {N:Name->Option Nat} {s:aa} {bsL bsH bs:List Nat} (hl:ao w R N s.locs bsL) (hh:ao w R (outs N) s.heap bsH) (hk:bA w R w' R' bs) (hs:∀b∈bsL,b∈bs) (hs2:∀b∈bsH,b∈bs):∀n ob b,s.obj n=some ob->N n=some b->w'.heap[b]?=w.heap[b]?:=by
 intro n ob b hob hb
 cases n with
 | loc i=>exact vF hl hk hs _ _ _ hob hb
 | out k=>exact vF hh hk hs2 _ _ _ hob hb
theorem Nb {w:World} {R:Own} {N:Name->Option Nat} {s:aa} {bsL bsH:List Nat} (hl:ao w R N s.locs bsL) (hh:ao w R (outs N) s.heap bsH) {n:Name} {ob:aT} (h:s.obj n=some ob) :
  ∃b b1,N n=some b/\aU w R N ob b b1/\(b∈bsL∨b∈bsH):=by
 cases n with
 | loc i=>
  obtain⟨pre,b,b1,post,e1,e2,e3,_⟩:=ao.split hl h;exact⟨b,b1,e2,e3,.inl (by rw[e1];simp)⟩
 | out k=>
  obtain⟨pre,b,b1,post,e1,e2,e3,_⟩:=ao.split hh h;have hno:dj ob=true:=by
   cases ob with
   | cells cs=>obtain⟨vs,e,sp,hb,hrr,hR⟩:=e3;have:=hrr.cy;rw[jq] at this;exact this
   | map es=>rfl
  exact⟨b,b1,by simpa [outs] using e2,e3.yh hno (fun _=>rfl),.inr (by rw[e1];simp)⟩
theorem ve {a b:ac} {n:Name} {off:Nat} (h:cQ a=cQ b) (ha:a=.ptr n off):b=.ptr n off:=by
 subst ha
 cases b with
 | agg cs=>
  rcases jR (bu cs) with⟨ds,h'⟩|h' <;> simp[cQ,h'] at h
 | _=>simp[cQ] at h <;> simp[h]
theorem Np (hE:E.Ok P) {T:TypeId} {ti:TI} (hty:E.ty T=some ti) {w:World} {R:Own} {N:Name->Option Nat} {b off:Nat} {b1:List Nat} {cs:List ac} (hob:aU w R N (.cells cs) b b1) {v:ac} (hv:loadCells ti off cs=some v)
  {ρ:Operand->Value} {o:Oper} {x:Operand} (ho:o.op=.load T x) (hx:ρ x=.pointer (some ⟨b,off,none⟩)) {cv:Value} {w':World} (hran:Zo P w ρ o cv w'):w.cell? ⟨b,off,none⟩=some cv∨∃vs,cv=.agg vs:=by
 obtain⟨vs,elem,sp,hblk,hr,_⟩:=hob;replace hv:=mu (ps:=List.replicate sp .undef) hv;generalize cs++List.replicate sp .undef=cs at hr hv;obtain⟨cv0,e1,e2,e3⟩:=mr hv hr;obtain⟨cv1,g1,g2⟩:=nF (N:=N) (P:=P) hE hty hblk hr hv;have hrun:(execOp ρ o).run P w=.ok (.value cv1) w:=by
  obtain⟨dst,op,type,pos,after,guard⟩:=o;simp only at ho;subst ho;rw[←hx] at g1;exact cq g1
 have hcv:cv=cv1:=by
  rcases hran with h|⟨h,_⟩
  ·rw[hrun] at h;simp at h;exact h.1.symm
  rw[hrun] at h;simp at h
 subst hcv
 cases ha:ti.isAgg with
 | true=>
  right;unfold loadCells at hv;rw[ha] at hv;simp only[if_true] at hv
  split at hv
  ·simp at hv;subst hv
   rcases jR (bu (fm ti.size (hY off cs))) with⟨ds,h⟩|h
   ·rw[h] at g2;obtain⟨us,e,_⟩:=(cB g2).2;exact⟨_,e⟩
   rw[h] at g2;simp only[al] at g2;obtain⟨us,e,_⟩:=g2;exact⟨_,e⟩
  simp at hv
 | false=>
  left;have hg:=e3 ha;have hc:w.cell? ⟨b,off,none⟩=some cv0:=by rw[cell_of_row w b off vs elem (0,0) hblk];simpa using hg
  have:(Instr.loadAt T (.pointer (some ⟨b,off,none⟩))).run P w=.ok cv0 w:=by
   simp[Instr.loadAt,Instr.sureAddr,loadVar,hE.kJ hty,ha,hc]
  rw[this] at g1;simp at g1;rw[hc,g1]
theorem Qo (hE:E.Ok P) {ops:Array Oper} {h:ay} (hc:dT ops h=true) {fh:Bool} {listed:Array Bool} {w:World} {R:Own} {N:Name->Option Nat} {act:Act} {s:aa} {bsT bsL bsH bsX bsF:List Nat}
  (hp:BK E G H ops h listed w R N act s bsT bsL bsH bsX bsF) (hcl:gY ops listed) (hd:act.defers=D) {i:Nat} {o:Oper} (hi:ops[i]?=some o) (hun:listed[i]?=some false) (hm:(i,false)∈h.pre) {a:ac} (hq:fp E G fh ops.toList o s=some a)
  {Qx:Exit->Act->World->Prop} {K:Act->World->Prop}
  (hK:∀cv w' R' bsT' bsX',BK E G H ops h (bW listed i) w' R' N (act.put o.dst cv) (s.put o.dst a) bsT' bsL bsH bsX' bsF->bA w R w' R' bsF->K (act.put o.dst cv) w'):wpOp P ops Qx i K act w:=by
 have hlocs0:(s.put o.dst a).locs=s.locs:=(db s o.dst a).1;have hobj0:∀n,(s.put o.dst a).obj n=s.obj n:=fun n=>lN
 have hlocs:∀n ob,DK (aV H ops.toList h.pre) n=true->(s.put o.dst a).obj n=some ob->∃y,s.obj n=some y:=fun n ob _ h=>⟨ob,by rw[←hobj0];exact h⟩
 have hT:∀t n off,DK (aV H ops.toList h.pre) n=true->o.dst≠some t->bC (s.put o.dst a).tmps t=.ptr n off->bC s.tmps t=.ptr n off:=fun t n off _ ht h=>by rw[cW ht] at h;exact h
 unfold wpOp;simp only[hi];unfold fp at hq
 split at hq
 ·simp at hq
 rename_i b hw;rw[kg hp.rel.tmps hw]
 split at hq
 ·rename_i hb;subst hb;simp only[if_true];left
  split at hq
  ·
   rename_i hal
   split at hq
   ·rename_i out hop;simp at hq;subst hq;have hop':∃t,o.op=.alloc t:=by
     unfold nY at hal
     split at hal
     ·exact⟨_,by assumption⟩
     simp at hal
    obtain⟨t,hot⟩:=hop';have hops:opsL o.op=[]:=by rw[hot];rfl
    have hnd:([]++(tL none++(bsT++(bsL++(bsH++(bsX++bsF)))))).Nodup:=by simpa [tL] using hp.rel.nodup
    obtain⟨cv,w',R',hran,hkeep,hout⟩:=nu (ρ:=act.eval) (w:=w) (R:=R) (N:=N) (vals:=[]) (ob:=none) (nm:=none) (bsM:=[]) (rest:=bsT++(bsL++(bsH++(bsX++bsF)))) hE hop (by rw[hops];exact aX) (fun _=>rfl)
     (by unfold eA;rw[hot];exact⟨rfl,rfl⟩) hnd (fun _=>rfl)
    have hnew:∃ti,E.ty t=some ti/\out.eff=.new (.cells (bN (cI ti.zero))):=by
     rw[hot] at hop;simp only[jJ,Km] at hop
     split at hop
     ·rename_i ti hti
      split at hop
      ·simp at hop;exact⟨ti,hti,by rw[←hop]⟩
      simp at hop
     simp at hop
    obtain⟨ti,hti,heff⟩:=hnew;rw[heff] at hout;obtain⟨_,b1',hobj,hb1,hsz,hcv⟩:=hout;have hb1':b1'=[]:=List.eq_nil_iff_forall_not_mem.2 fun x hx=>by have:=hb1.2 x hx;simp at this
    subst hb1';simp only at hcv;refine vt hran ?_;obtain⟨bsT',hr1⟩:=KH (a:=.undef) (cv:=cv) (bsV:=[]) [w.heap.size] o.dst hp.rel (aW _) ⟨by simp,fun b hb=>.inr (by simp at hb;omega)⟩ (by intro b hb;simp at hb;subst hb;exact hsz) hkeep;have hr2:dh G w' R' N (act.put o.dst cv).tmps.toList (s.put o.dst .undef) undef .undef [] bsT' bsL bsH (([w.heap.size]++bsX)++bsF):=by
     simpa using hr1
    obtain⟨c1,c2⟩:=hp.carry (cv:=cv) [w.heap.size] hc hcl hi hun hm (hkeep.sub (by intro x hx;simp[hx])) (fun n ob b _=>pv hp.rel.locs hp.rel.heap hkeep (by intro x hx;simp[hx]) (by intro x hx;simp[hx]) n ob b) (fun _ _ h=>h) hlocs hT;refine hK cv w' R' bsT' ([w.heap.size]++bsX) ⟨hr2,?_,?_⟩ (hkeep.sub (by intro x hx;simp[hx]))
    ·intro j q t' d ti' hnw hl hqo hop2 hdd hg hty hlt2
     by_cases hji:j=i
     ·subst hji;rw[hi] at hqo;simp at hqo;subst hqo;rw[hot] at hop2;simp at hop2;subst hop2;rw[hti] at hty;simp at hty;subst hty;refine⟨w.heap.size,by simp,?_,hobj⟩;rw[kF] at hlt2;rw[hdd,hcv];simp[Act.put,hlt2]
     exact c1 j q t' d ti' hji hnw hl hqo hop2 hdd hg hty hlt2
    intro j q T u t' n off ob htk hl hqo hop2 hdd hg hu hok hob hlt2
    by_cases hji:j=i
    ·subst hji;rw[hi] at hqo;simp at hqo;subst hqo;rw[hot] at hop2;simp at hop2
    exact c2 j q T u t' n off ob hji htk hl hqo hop2 hdd hg hu hok hob hlt2
   simp at hq
  -- a value
  rename_i hal
  split at hq
  ·simp at hq
  split at hq
  ·split at hq
   ·rename_i out hop
    split at hq
    ·rename_i heff;simp at hq;subst hq;obtain⟨cv,w',R',bsV,hran,hv,hf,hkeep⟩:=Ux hE hop heff hp.rel;refine vt hran ?_;obtain⟨bsT',hr2⟩:=KH [] o.dst hp.rel hv (by simpa using hf) (by simp) hkeep;rw[List.nil_append] at hr2;obtain⟨c1,c2⟩:=hp.carry (cv:=cv) [] hc hcl hi hun hm (hkeep.sub (by intro x hx;simp[hx])) (fun n ob b _=>pv hp.rel.locs hp.rel.heap hkeep (by intro x hx;simp[hx]) (by intro x hx;simp[hx]) n ob b) (fun _ _ h=>h) hlocs hT;refine hK cv w' R' bsT' bsX ⟨hr2,?_,?_⟩ (hkeep.sub (by intro x hx;simp[hx]))
     ·intro j q t' d ti' hnw hl hqo hop2 hdd hg hty hlt2
      by_cases hji:j=i
      ·subst hji;rw[hi] at hqo;simp at hqo;subst hqo;rw[hop2] at hal;simp[nY] at hal
      simpa using c1 j q t' d ti' hji hnw hl hqo hop2 hdd hg hty hlt2
     intro j q T u t' n off ob htk hl hqo hop2 hdd hg hu hok hob hlt2
     by_cases hji:j=i
     ·subst hji;rw[hi] at hqo;simp at hqo;subst hqo;have hut:o.dst≠some u:=Eu hc (by simp[htk]) hi hop2;rw[cW hut] at hu;rw[hobj0] at hob;have hvals:aP G s none 0 (opsL o.op)=[.ptr n off]:=by
       rw[hop2];simp[opsL,aP,eT,hu,cQ]
      rw[hvals] at hop;have hlo:bp s o.op [.ptr n off]=some ob:=by
       unfold bp;rw[hop2];simp[looks,hob]
      rw[hlo,hop2] at hop;simp only[jJ,lr] at hop
      split at hop
      ·rename_i ti cs hty hcs;simp at hcs;subst hcs;simp only[Bool.false_and,Bool.false_eq_true,if_false] at hop
       cases hld:loadCells ti off cs with
       | none=>rw[hld] at hop;simp[uZ] at hop
       | some v=>
        obtain⟨b',b1,e2,e3,e1⟩:=Nb hp.rel.locs hp.rel.heap hob;have hget:s.tmps[u]?=some (.ptr n off):=by
         unfold bC at hu
         cases hs:s.tmps[u]? with
         | none=>rw[hs] at hu;simp at hu
         | some v=>rw[hs] at hu;simp at hu;rw[hu]
        obtain⟨u1,bs',g1,g2,_⟩:=eD hp.rel.tmps hget;simp only[al] at g2;obtain⟨_,b2,hb2,rfl⟩:=g2;rw[e2] at hb2;simp at hb2;subst hb2;have hρ:act.eval (.tmp u)=.pointer (some ⟨b',off,none⟩):=by
         simp at g1;simp[Act.eval,g1]
        have hcell:=Np hE hty e3 hld hop2 hρ hran;refine⟨b',cv,e2,?_,?_⟩
        ·rw[kF] at hlt2;rw[hdd];simp[Act.put,hlt2]
        rcases hcell with hcell|hcell
        ·left;have hsame:=pv hp.rel.locs hp.rel.heap hkeep (by intro x hx;simp[hx]) (by intro x hx;simp[hx]) _ _ _ hob e2;rw[CT hsame];exact hcell
        exact .inr hcell
      simp at hop
     exact c2 j q T u t' n off ob hji htk hl hqo hop2 hdd hg hu hok hob hlt2
    simp at hq
   simp at hq
  simp at hq
 -- not wanted
 rename_i hb;simp at hq;subst hq;rw[if_neg hb];obtain⟨bsT',hr2⟩:=nB hp.rel o.dst;obtain⟨c1,c2⟩:=hp.carry (cv:=undef) [] hc hcl hi hun hm (bj _) (fun _ _ _ _ _ _=>rfl) (fun _ _ h=>h) hlocs hT;have hng:o.guard≠none:=by
  intro hg;unfold dF at hw;rw[hg] at hw;simp at hw;exact hb hw
 refine hK undef w R bsT' bsX ⟨hr2,?_,?_⟩ (bj _)
 ·intro j q t' d ti' hnw hl hqo hop2 hdd hg hty hlt2
  by_cases hji:j=i
  ·subst hji;rw[hi] at hqo;simp at hqo;subst hqo;exact absurd hg hng
  simpa using c1 j q t' d ti' hji hnw hl hqo hop2 hdd hg hty hlt2
 intro j q T u t' n off ob htk hl hqo hop2 hdd hg hu hok hob hlt2
 by_cases hji:j=i
 ·subst hji;rw[hi] at hqo;simp at hqo;subst hqo;exact absurd hg hng
 exact c2 j q T u t' n off ob hji htk hl hqo hop2 hdd hg hu hok hob hlt2
end
end Go.Tp
namespace Go.Tp
section
variable {P:Program} {E:bG} {G:bJ} {H:Hints} {D:List Deferred}
theorem Br (hE:E.Ok P) {c:Call} {s s2:aa} {f:FuncId} {args:List ac} (h:dM E G H c s=some (f,args,s2)) {w:World} {R:Own} {N:Name->Option Nat} {act:Act} {bsT bsL bsH bsF:List Nat}
  (hr:dh G w R N act.tmps.toList s undef .undef [] bsT bsL bsH bsF) (o:Oper) (ho:o.op=.call c) :
  ∃cargs:List Value,(execOp act.eval o).run P w=.ok (.enter f cargs.toArray) w/\bS args=true/\∃bsA bsT',dh G w R N act.tmps.toList s2 (.tuple cargs.toArray) (.tup args) bsA bsT' bsL bsH bsF:=by
 obtain⟨callee,cargs0,argTypes⟩:=c
 cases callee with
 | builtin _=>simp[dM] at h
 | invoke _ _=>simp[dM] at h
 | value fo=>
  simp only[dM] at h;obtain⟨bf,hfv⟩:=pX hr.tmps hr.glob fo;generalize haf:eT G s fo=af at h hfv
  split at h
  ·rename_i g first captured;simp only[al] at hfv;obtain⟨_,vf,uf,ef,hfirst,hcap⟩:=hfv
   split at h
   ·rename_i hfn;obtain⟨fn,hf1,hf2,hf3⟩:=hE.fn g hfn;have hnd0:(bsT++(bsL++(bsH++bsF))).Nodup:=by simpa using hr.nodup
    have hops:∃(vs:List ac) (s1:aa) (bsM bsT':List Nat),(if H.moves g=true then cL G s cargs0.toList else (aP G s none 0 cargs0.toList,s))=(vs,s1) ∧
      ak w R N vs (cargs0.toList.map act.eval) bsM/\ak w R N s1.tmps act.tmps.toList bsT'/\(bsM++(bsT'++(bsL++(bsH++bsF)))).Nodup/\s1.locs=s.locs/\s1.heap=s.heap/\s1.next=s.next:=by
     split
     ·obtain⟨bsM,bsT',k1,k2,k3⟩:=kU hr.glob cargs0.toList hr.tmps hnd0;obtain⟨q1,q2,q3⟩:=gf G cargs0.toList s;exact⟨_,_,bsM,bsT',rfl,k1,k2,k3,q1,q2,q3⟩
     exact⟨_,_,[],bsT,rfl,kR hr.tmps hr.glob none 0 _ (by simp),hr.tmps,by simpa using hnd0,rfl,rfl,rfl⟩
    obtain⟨vs,s1,bsM,bsT',hpair,hvs,ht1,hnd1,q1,q2,q3⟩:=hops;rw[hpair] at h;simp only at h
    split at h
    ·rename_i hno;simp only[Option.some.injEq,Prod.mk.injEq] at h;obtain⟨rfl,rfl,rfl⟩:=h;have hall:ak w R N (first++vs++captured) (vf++cargs0.toList.map act.eval++uf) bsM:=by
      have:=cA (cA hfirst hvs) hcap
      simpa using this
     refine⟨vf++cargs0.toList.map act.eval++uf,?_,hno,bsM,bsT',⟨by simp only[al];exact⟨_,rfl,hall⟩,ht1,by rw[q1];exact hr.locs,by rw[q2];exact hr.heap,hnd1,by rw[q3];exact hr.next,hr.glob,hr.frame⟩⟩;have hbody:fn.body.isNone=false:=by cases hb:fn.body <;> simp_all
     have hb2:¬fn.body=none:=by intro hb;simp[hb] at hbody
     have hn2:¬fn.name= "runtime.NumGoroutine":=by simpa using hf3
     simp[execOp,ho,resolve,ef,Deferred.ofValue,invoke,callFunc,hf1,hn2,hb2]
    simp at h
   simp at h
  simp at h
theorem wu:∀{os:List (Name×aT)} {n m:Name} {o x:aT},ev m (jb n o os)=some x->∃y,ev m os=some y
 | [],_,_,_,_,h=>by simp[jb,ev] at h
 |(k,y)::os,n,m,o,x,h=>by
  simp only[jb] at h
  split at h
  ·simp only[ev] at h ⊢
   split
   ·exact⟨_,rfl⟩
   rename_i hk;rw[if_neg hk] at h;exact⟨x,h⟩
  simp only[ev] at h ⊢
  split
  ·exact⟨_,rfl⟩
  rename_i hk;rw[if_neg hk] at h;exact wu h
theorem vP {l:List ac} {t:Nat} {v:ac} (h:bC l t=v) (hv:v≠.undef):l[t]?=some v:=by
 unfold bC at h
 split at h
 ·rename_i x hx;rw[hx,h]
 exact absurd h.symm hv
theorem FM {s:aa} {n m:Name} {o x:aT} (h:(s.km n o).obj m=some x):∃y,s.obj m=some y:=by
 cases n <;> cases m <;> simp only[aa.km,aa.obj] at h ⊢
 ·exact wu h
 ·exact⟨_,h⟩
 ·exact⟨_,h⟩
 exact wu h
theorem tj {fh:Bool} {ops:Array Oper} {w:World} {R:Own} {N:Name->Option Nat} {act:Act} {bsF:List Nat} :
  ∀(tk:List Nat) {s s':aa} {bsT bsL bsH:List Nat},dA fh ops.toList tk s=some s'->dh G w R N act.tmps.toList s undef .undef [] bsT bsL bsH bsF->
   (∀i o T u t n off ob,i∈tk->ops[i]?=some o->o.op=.load T (.tmp u)->o.dst=some t->o.guard=none->bC s.tmps u=.ptr n off->DK fh n=true->s.obj n=some ob->t < act.tmps.size->
    ∃b v,N n=some b/\act.tmps[t]?=some v/\(w.cell? ⟨b,off,none⟩=some v∨∃vs,v=.agg vs))->
   ∃bsT' bsL' bsH',dh G w R N act.tmps.toList s' undef .undef [] bsT' bsL' bsH' bsF
 | [],s,s',bsT,bsL,bsH,h,hr,_=>by simp[dA] at h;subst h;exact⟨bsT,bsL,bsH,hr⟩
 | i::r,s,s',bsT,bsL,bsH,h,hr,hf=>by
  obtain⟨o,T,u,t,n,off,cs,es,es2,ho,hop,hd,hg,hu,hok,hob,hes,ht,hrest⟩:=gh h;have ho':ops[i]?=some o:=by simpa using ho
  have hsz:act.tmps.size=s.tmps.length:=by have:=hr.tmps.length;simpa using this
  have htg:=vP ht (by simp);have htl:t < act.tmps.size:=by rw[hsz];exact (List.getElem?_eq_some_iff.1 htg).1
  obtain⟨b0,v,hb0,hv,hcell⟩:=hf i o T u t n off (.cells cs) (by simp) ho' hop hd hg hu hok hob htl;obtain⟨v',bs',g1,g2,_⟩:=eD hr.tmps htg;have hvv:v'=v:=by
   have:act.tmps.toList[t]?=some v:=by simpa using hv
   rw[this] at g1;simp at g1;exact g1.symm
  subst hvv;have hsame:act.tmps.toList.set t v'=act.tmps.toList:=by
   apply List.ext_getElem?
   intro j;rw[List.getElem?_set]
   split
   ·rename_i hj;subst hj;split
    ·exact g1.symm
    rename_i hl;rw[List.getElem?_eq_none (by omega)]
   rfl
  have k2:dx off [ac.dat (.slice es)] cs=cs.set off (.dat (.slice es)):=by
   apply List.ext_getElem?
   intro j;rw[jP,List.getElem?_set]
   by_cases hj:off=j
   ·subst hj
    by_cases hl:off < cs.length
    ·rw[if_pos ⟨Nat.le_refl _,by simp,hl⟩,if_pos rfl,if_pos hl];simp
    rw[if_neg (by omega),if_pos rfl,if_neg hl];exact List.getElem?_eq_none (by omega)
   rw[if_neg (by simp;omega),if_neg hj]
  -- the object's cells, ownership gone
  have hcells:∀(M:Name->Option Nat) (b:Nat) (b1:List Nat),N n=some b->aU w R M (.cells cs) b b1->∃bt b1',iu w R v' es bt/\aU w R M (.cells (dx off [.dat (.slice es)] cs)) b b1'/\b1.Perm (bt++b1'):=by
   intro M b b1 hN hobj;rw[hN] at hb0;simp at hb0;subst hb0;obtain⟨vs,elem,sp,hblk,hrr,hR⟩:=hobj;obtain⟨pre2,bt,post2,cv,f1,f2,f3,f4⟩:=ak.split hrr (yB hes);have hcv:w.cell? ⟨b,off,none⟩=some cv:=by rw[cell_of_row w b off vs elem (0,0) hblk];simpa using f2
   have hvc:v'=cv:=by
    rcases hcell with hcell|⟨us,hus⟩
    ·rw[hcv] at hcell;simp at hcell;exact hcell.symm
    subst hus
    have:=(dI g2).2
    cases this
   subst hvc;have hset:=f4 w R (.dat (.slice es)) v' [] (bj _) (bX (d:=.slice es) (ct f3).rep);have k1:vs.toList.set off v'=vs.toList:=by
    apply List.ext_getElem?
    intro j;rw[List.getElem?_set]
    split
    ·rename_i hj;subst hj;split
     ·exact f2.symm
     rename_i hl;rw[List.getElem?_eq_none (by omega)]
    rfl
   rw[k1,List.set_append_left (h:=(List.getElem?_eq_some_iff.1 hes).1)] at hset;refine⟨bt,pre2++[]++post2,ct f3,⟨vs,elem,sp,hblk,by rw[k2];exact hset,hR.1,fun hb=>hR.2 (xD hes hb)⟩,?_⟩;subst f1;rw[List.perm_iff_count];intro q;simp only[List.count_append,List.count_nil];omega
  have hstate:∃bt bsL1 bsH1,iu w R v' es bt/\ao w R N (s.km n (.cells (dx off [.dat (.slice es)] cs))).locs bsL1/\ao w R (outs N) (s.km n (.cells (dx off [.dat (.slice es)] cs))).heap bsH1/\(bt++(bsT++(bsL1++(bsH1++bsF)))).Nodup:=by
   have h0:(bsT++(bsL++(bsH++bsF))).Nodup:=by simpa using hr.nodup
   cases n with
   | loc k=>
    obtain⟨pre,b,b1,post,e1,e2,e3,e4⟩:=ao.split hr.locs hob;obtain⟨bt,b1',q1,q2,q3⟩:=hcells N b b1 e2 e3;refine⟨bt,_,bsH,q1,e4 w R _ b1' (bj _) q2,hr.heap,?_⟩;subst e1;have hp:(bt++(bsT++((pre++(b::b1')++post)++(bsH++bsF)))).Perm (bsT++((pre++(b::b1)++post)++(bsH++bsF))):=by
     have q3':=List.perm_iff_count.1 q3;rw[List.perm_iff_count];intro q;have:=q3' q;simp only[List.count_append,List.count_cons] at this ⊢;omega
    exact hp.nodup_iff.2 h0
   | out k=>
    obtain⟨pre,b,b1,post,e1,e2,e3,e4⟩:=ao.split hr.heap hob;obtain⟨bt,b1',q1,q2,q3⟩:=hcells (outs N) b b1 (by simpa [outs] using e2) e3;refine⟨bt,bsL,_,q1,hr.locs,e4 w R _ b1' (bj _) q2,?_⟩;subst e1;have hp:(bt++(bsT++(bsL++((pre++(b::b1')++post)++bsF)))).Perm (bsT++(bsL++((pre++(b::b1)++post)++bsF))):=by
     have q3':=List.perm_iff_count.1 q3;rw[List.perm_iff_count];intro q;have:=q3' q;simp only[List.count_append,List.count_cons] at this ⊢;omega
    exact hp.nodup_iff.2 h0
  obtain⟨bt,bsL1,bsH1,q1,q2,q3,q4⟩:=hstate;obtain⟨bsT2,p1,p2⟩:=mQ (a:=.own es) t hr.tmps (by simpa only[al] using q1) q4;rw[hsame] at p1;have e5:(({s with tmps:=s.tmps.set t (.own es)}:aa).km n (.cells (dx off [.dat (.slice es)] cs)))={s.km n (.cells (dx off [.dat (.slice es)] cs)) with tmps:=s.tmps.set t (.own es)}:=by cases n <;> rfl
  rw[e5] at hrest;refine tj r hrest ⟨aW _,p1,q2,q3,by simpa using p2,by simpa only[Cd] using hr.next,hr.glob,hr.frame⟩ ?_;intro i' o' T' u' t' n' off' ob' hi' ho2 hop2 hd2 hg2 hu2 hok2 hob2 hlt2;have hu3:bC s.tmps u'=.ptr n' off':=by
   by_cases hut:t=u'
   ·subst hut
    exfalso
    unfold bC at hu2;rw[List.getElem?_set_self (by rw[←hsz];exact htl)] at hu2;simp at hu2
   rwa [cd hut] at hu2
  have hob3:∃y,s.obj n'=some y:=by
   have hob2':(s.km n (.cells (dx off [.dat (.slice es)] cs))).obj n'=some ob':=by cases n' <;> exact hob2
   exact FM hob2'
  obtain⟨y,hy⟩:=hob3;exact hf i' o' T' u' t' n' off' y (by simp[hi']) ho2 hop2 hd2 hg2 hu3 hok2 hy hlt2
theorem zm {fh:Bool} {all:List Oper}:∀(tk:List Nat) (s s':aa),dA fh all tk s=some s'->∀n ob,s'.obj n=some ob->∃y,s.obj n=some y
 | [],s,s',h,n,ob,hn=>by simp[dA] at h;subst h;exact⟨ob,hn⟩
 | i::r,s,s',h,n,ob,hn=>by
  obtain⟨o,T,u,t,m,off,cs,es,es2,ho,hop,hd,hg,hu,hok,hob,hes,ht,hrest⟩:=gh h;obtain⟨y,hy⟩:=zm r _ _ hrest n ob hn;obtain⟨z,hz⟩:=FM hy;exact⟨z,by cases n <;> exact hz⟩
theorem Bh:∀{os:List (Name×aT)} {n m:Name} {o x:aT},ev m os=some x->∃y,ev m (jb n o os)=some y
 | [],_,_,_,_,h=>by simp[ev] at h
 |(k,y)::os,n,m,o,x,h=>by
  simp only[ev] at h;simp only[jb]
  split
  ·simp only[ev]
   split
   ·exact⟨_,rfl⟩
   rename_i hk;rw[if_neg hk] at h;exact⟨x,h⟩
  simp only[ev]
  split
  ·exact⟨_,rfl⟩
  rename_i hk;rw[if_neg hk] at h;exact Bh h
theorem Qu {s:aa} {n m:Name} {o x:aT} (h:s.obj m=some x):∃y,(s.km n o).obj m=some y:=by
 cases n <;> cases m <;> simp only[aa.km,aa.obj] at h ⊢
 ·exact Bh h
 ·exact⟨_,h⟩
 ·exact⟨_,h⟩
 exact Bh h
theorem zl {fh:Bool} {all:List Oper}:∀(tk:List Nat) (s s':aa),dA fh all tk s=some s'->∀n ob,s.obj n=some ob->∃y,s'.obj n=some y
 | [],s,s',h,n,ob,hn=>by simp[dA] at h;subst h;exact⟨ob,hn⟩
 | i::r,s,s',h,n,ob,hn=>by
  obtain⟨o,T,u,t,m,off,cs,es,es2,ho,hop,hd,hg,hu,hok,hob,hes,ht,hrest⟩:=gh h;obtain⟨y,hy⟩:=Qu (s:={s with tmps:=s.tmps.set t (.own es)}) (n:=m) (o:=.cells (dx off [.dat (.slice es)] cs)) (m:=n) (x:=ob) (by cases n <;> exact hn);exact zl r _ _ hrest n y hy
theorem zk {fh:Bool} {all:List Oper}:∀(tk:List Nat) (s s':aa),dA fh all tk s=some s'->∀t n off,bC s'.tmps t=.ptr n off->bC s.tmps t=.ptr n off
 | [],s,s',h,t,n,off,hn=>by simp[dA] at h;subst h;exact hn
 | i::r,s,s',h,t',n',off',hn=>by
  obtain⟨o,T,u,t,m,off,cs,es,es2,ho,hop,hd,hg,hu,hok,hob,hes,ht,hrest⟩:=gh h;have h1:=zk r _ _ hrest t' n' off' hn;rw[Cc] at h1
  by_cases he:t=t'
  ·subst he
   exfalso
   have hlt:=(List.getElem?_eq_some_iff.1 (vP ht (by simp))).1;unfold bC at h1;rw[List.getElem?_set_self hlt] at h1;simp at h1
  rwa [cd he] at h1
theorem Ol (hE:E.Ok P) {o:Oper} {t:Tmp} (ht:fK o.op=some t) {s s':aa} (h:cY E G false false o s=some s') {w:World} {R:Own} {N:Name->Option Nat} {act:Act} {bsT bsL bsH bsF:List Nat}
  (hr:dh G w R N act.tmps.toList s undef .undef [] bsT bsL bsH bsF) :
  ∃cv w' R' bsT',Zo P w act.eval o cv w'/\dh G w' R' N (act.put o.dst cv).tmps.toList s' undef .undef [] bsT' bsL bsH bsF/\bA w R w' R' (bsL++(bsH++bsF)):=by
 unfold cY at h;have hnd0:(bsT++(bsL++(bsH++bsF))).Nodup:=by simpa using hr.nodup
 obtain⟨bsM,bsT',ha,ht',hnd,hmv⟩:=qZ hr.tmps hr.glob (kN false o.op) (opsL o.op) (bsL++(bsH++bsF)) hnd0
 split at h
 ·simp at h
 rename_i out hop;obtain⟨hk,hl⟩:=ql ht hop;have hlo:bp s o.op (aP G s (kN false o.op) 0 (opsL o.op))=none:=by unfold bp;rw[hl]
 rw[hlo] at hop;have hlk:eA w R N o.op (aP G s (kN false o.op) 0 (opsL o.op)) none none:=by unfold eA;rw[hl];exact⟨rfl,rfl⟩
 obtain⟨cv,w',R',hran,hkeep,hout⟩:=nu (rest:=bsT'++(bsL++(bsH++bsF))) hE hop ha (fun h=>hmv (by unfold kN;simp[h])) hlk (by simpa [tL] using hnd) (fun _=>rfl);rw[hk] at hout;obtain⟨bsV,hv,hf,_,_⟩:=hout;simp only[dL,hk,Option.some.injEq] at h;subst h;obtain⟨dl1,dl2,dl3⟩:=qU s (kN false o.op) (opsL o.op);have hlt:∀b∈bsT'++(bsL++(bsH++bsF)),b < w.heap.size:=fun b hb=>by
  simp at hb
  rcases hb with h|h|h|h
  ·exact ht'.lt b h
  ·exact hr.locs.lt b h
  ·exact hr.heap.lt b h
  exact hr.frame b h
 have hndV:(bsV++(bsT'++(bsL++(bsH++bsF)))).Nodup:=fF hnd hlt hf;obtain⟨bsT2,hp1,hp2⟩:=fP o.dst (ht'.keep (hkeep.sub (by intro b hb;simp[hb]))) hv hndV;obtain⟨q1,q2,q3⟩:=db (bO s (kN false o.op) (opsL o.op)) o.dst out.val;refine⟨cv,w',R',bsT2,hran,⟨aW _,?_,?_,?_,by simpa using hp2,?_,fun g cs hg=>(hr.glob g cs hg).step hkeep.step,fun b hb=>Nat.lt_of_lt_of_le (hr.frame b hb) hkeep.step.size⟩,hkeep.sub (by intro b hb;simp at hb;simp;exact .inr hb)⟩
 ·rw[(gG act o.dst cv).1];exact hp1
 ·rw[q1,dl1];exact hr.locs.keep (hkeep.sub (by intro b hb;simp[hb]))
 ·rw[q2,dl2];exact hr.heap.keep (hkeep.sub (by intro b hb;simp[hb]))
 rw[q3,dl3];exact hr.next
theorem aaP (hE:E.Ok P) {ops:Array Oper} {h:ay} (hc:dT ops h=true) (hca:oC ops h=true) (hcst:gK ops h=true) {listed:Array Bool} {w:World} {R:Own} {N:Name->Option Nat} {act:Act} {s:aa} {bsT bsL bsH bsX bsF:List Nat}
  (hp:BK E G H ops h listed w R N act s bsT bsL bsH bsX bsF) (hcl:gY ops listed) (hd:act.defers=D) {i:Nat} {o:Oper} (hi:ops[i]?=some o) (hun:listed[i]?=some false) (hm:(i,true)∈h.pre) (hrd:i∈Region.ready .any ops listed) {K:aa->Prop} (hq:Na (aC P G) E G H (aV H ops.toList h.pre) h.tk ops.toList o K s)
  {Qx:Exit->Act->World->Prop} {Kx:Act->World->Prop}
  (hK:∀s' cv w' R' N' bsT' bsL' bsH',K s'->BK E G H ops h (bW listed i) w' R' N' (act.put o.dst cv) s' bsT' bsL' bsH' bsX bsF->bA w R w' R' bsF->(∀o b,N (.out o)=some b->N' (.out o)=some b)->Kx (act.put o.dst cv) w'):wpOp P ops Qx i Kx act w:=by
 have hself:∀{s':aa} {cv:Value} {w':World} {R':Own} {N':Name->Option Nat} {bsT' bsL' bsH':List Nat},dh G w' R' N' (act.put o.dst cv).tmps.toList s' undef .undef [] bsT' bsL' bsH' (bsX++bsF)->bA w R w' R' bsX->(∀n ob b,DK (aV H ops.toList h.pre) n=true->s.obj n=some ob->N n=some b->w'.heap[b]?=w.heap[b]?)->
   (∀m c,N m=some c->N' m=some c)->(∀n ob,DK (aV H ops.toList h.pre) n=true->s'.obj n=some ob->∃y,s.obj n=some y)->(∀t n off,DK (aV H ops.toList h.pre) n=true->o.dst≠some t->bC s'.tmps t=.ptr n off->bC s.tmps t=.ptr n off)->
   (o.guard≠none∨∃c,o.op=.call c)->BK E G H ops h (bW listed i) w' R' N' (act.put o.dst cv) s' bsT' bsL' bsH' bsX bsF:=by
  intro s' cv w' R' N' bsT' bsL' bsH' hr2 hk hkL hN hlocs hT hwhy;obtain⟨c1,c2⟩:=hp.carry (cv:=cv) [] hc hcl hi hun hm hk hkL hN hlocs hT;refine⟨hr2,?_,?_⟩
  ·intro j q t' d ti' hnw hl hqo hop2 hdd hg hty hlt2
   by_cases hji:j=i
   ·subst hji;rw[hi] at hqo;simp at hqo;subst hqo
    rcases hwhy with hwhy|⟨c,hcc⟩
    ·exact absurd hg hwhy
    rw[hop2] at hcc;simp at hcc
   simpa using c1 j q t' d ti' hji hnw hl hqo hop2 hdd hg hty hlt2
  intro j q T u t' n off ob htk hl hqo hop2 hdd hg hu hok hob hlt2
  by_cases hji:j=i
  ·subst hji;rw[hi] at hqo;simp at hqo;subst hqo
   rcases hwhy with hwhy|⟨c,hcc⟩
   ·exact absurd hg hwhy
   rw[hop2] at hcc;simp at hcc
  exact c2 j q T u t' n off ob hji htk hl hqo hop2 hdd hg hu hok hob hlt2
 unfold wpOp;simp only[hi];unfold Na at hq
 split at hq
 ·exact hq.elim
 rename_i b hw;rw[kg hp.rel.tmps hw]
 split at hq
 ·rename_i hb;subst hb;simp only[if_true];left
  split at hq
  ·rename_i c hcc;have hop:=vJ hcc
   split at hq
   ·rename_i f args s2 hcal;obtain⟨cargs,hrun,hno,bsA,bsT2,hr2⟩:=Br hE hcal hp.rel o hop;obtain⟨hsim,hlocs2⟩:=mG hcal
    cases hpu:ik H o with
    | true=>
     rw[hpu] at hq;refine xT hrun hr2 hno hd hq ?_;intro v cv n w' R' N' bsT' hKs hr4 hk hext _;refine hK _ cv w' R' N' bsT' bsL bsH hKs (hself hr4 (hk.sub (by intro x hx;simp[hx])) ?_ hext ?_ ?_ (.inr ⟨c,hop⟩)) (hk.sub (by intro x hx;simp[hx])) (fun o b h=>hext _ _ h)
     ·intro n ob b _ hob hb;exact pv hp.rel.locs hp.rel.heap hk (by intro x hx;simp[hx]) (by intro x hx;simp[hx]) n ob b hob hb
     ·intro n ob _ hn;rw[lN] at hn;have e2:=mH hcal
      cases n with
      | loc k=>simp only[aa.obj] at hn ⊢;exact⟨ob,by rw[←hlocs2];exact hn⟩
      | out k=>simp only[aa.obj] at hn ⊢;exact⟨ob,by rw[←e2];exact hn⟩
     intro t n off _ ht hn;rw[cW ht] at hn;exact ve (hsim t) hn
    | false=>
    rw[hpu] at hq;refine A3 hrun hr2 hno hd (hq.mono fun v heap n hx b1 b2=>(hx b1 b2).2) ?_;intro v cv heap n w' R' N' bsT' bsH' hKs hr4 hk hext _;have hfh:=oN (all:=ops.toList) hm (by simpa using hi) hcc hpu;have hloc:∀n,DK (aV H ops.toList h.pre) n=true->∃k,n=.loc k:=by
     intro n hn
     cases n with
     | loc k=>exact⟨k,rfl⟩
     | out k=>rw[hfh] at hn;simp[DK] at hn
    refine hK _ cv w' R' N' bsT' bsL bsH' hKs (hself hr4 (hk.sub (by intro x hx;simp[hx])) ?_ hext ?_ ?_ (.inr ⟨c,hop⟩)) (hk.sub (by intro x hx;simp[hx])) (fun o b h=>hext _ _ h)
    ·intro n ob b hn hob hb;obtain⟨k,rfl⟩:=hloc n hn;exact vF hp.rel.locs hk (by intro x hx;simp[hx]) _ ob b hob hb
    ·intro n ob hok hn;obtain⟨k,rfl⟩:=hloc n hok;rw[lN] at hn;simp only[aa.obj] at hn ⊢;exact⟨ob,by rw[←hlocs2];exact hn⟩
    intro t n off _ ht hn;rw[cW ht] at hn;exact ve (hsim t) hn
   exact hq.elim
  split at hq
  ·rename_i t ht
   split at hq
   ·rename_i s1 hs1
    split at hq
    ·rename_i s' hs';obtain⟨c,_,hop,_,_⟩:=oE ht
     -- the loads by which it owns have come up
     have hlisted:∀k∈gd ops.toList t (lE h.tk t s),listed[k]?=some true:=by
      intro k hk;unfold oC at hca;have h1:=List.all_eq_true.1 hca (i,true) hm;simp only[hi,ht] at h1;have h2:=List.all_eq_true.1 h1 k (mK hk);obtain⟨e,he1,he2⟩:=Array.any_eq_true'.1 h2;simp only[Bool.and_eq_true,beq_iff_eq] at he2;obtain⟨_,o',ho',hafter⟩:=mem_ready.1 hrd;rw[hi] at ho';simp at ho';subst ho';have h3:=hafter e he1 he2.1;rw[he2.2] at h3;rw[Array.getD_eq_getD_getElem?] at h3
      cases hg:listed[k]? with
      | none=>rw[hg] at h3;simp at h3
      | some b=>rw[hg] at h3;simp at h3;rw[h3]
     obtain⟨bsT1,bsL1,bsH1,hr1⟩:=tj _ hs1 hp.rel (fun k o' T u t' n off ob hk ho' hop' hd' hg' hu' hok' hob' hlt'=>hp.tkf k o' T u t' n off ob (kG (mK hk)).1 (hlisted k hk) ho' hop' hd' hg' hu' hok' hob' hlt');obtain⟨cv,w',R',bsT',hran,hr2,hkeep⟩:=Ol hE ht hs' hr1;refine vt hran ?_;obtain⟨v,he,_⟩:=uL ht hs';refine hK s' cv w' R' N bsT' bsL1 bsH1 hq (hself hr2 (hkeep.sub (by intro x hx;simp[hx])) ?_ (fun _ _ h=>h) ?_ ?_ (.inr ⟨c,hop⟩)) (hkeep.sub (by intro x hx;simp[hx])) (fun _ _ h=>h)
     ·intro n ob b _ hob hb;obtain⟨y,hy⟩:=zl _ _ _ hs1 n ob hob;exact pv hr1.locs hr1.heap hkeep (by intro x hx;simp[hx]) (by intro x hx;simp[hx]) n y b hy hb
     ·intro n ob _ hn;rw[he,lN] at hn;exact zm _ _ _ hs1 n ob (by cases n <;> exact hn)
     intro t' n off _ ht' hn;rw[he,cW ht'] at hn;have e1:=kB (s:=s1) (x:=.tmp t) t';simp only[bO,List.getElem?_cons_zero] at e1;exact zk _ _ _ hs1 t' _ _ (ve e1 hn)
    exact hq.elim
   exact hq.elim
  split at hq
  ·rename_i hst
   split at hq
   ·rename_i s' hs';unfold gK at hcst;have g1:=List.all_eq_true.1 hcst (i,true) hm;simp only[hi,hst,Bool.not_true,Bool.false_or,Bool.and_eq_true,Option.isNone_iff_eq_none,List.isEmpty_iff] at g1;obtain⟨⟨⟨hnw,htk⟩,_⟩,_⟩:=g1;obtain⟨cv,w',hran,⟨R',N',bsT',bsL',bsH',hr',hk',hN',_⟩,_⟩:=qj hE hs' hp.rel;refine vt hran (hK s' cv w' R' N' bsT' bsL' bsH' hq ⟨hr',?_,?_⟩ (hk'.sub (by intro x hx;simp[hx])) hN')
    ·intro j q t' d ti' hj;rw[hnw] at hj;simp at hj
    intro j q T u t' n off ob hj;rw[htk] at hj;simp at hj
   exact hq.elim
  exact hq.elim
 rename_i hb;rw[if_neg hb];have hng:o.guard≠none:=by
  intro hg;unfold dF at hw;rw[hg] at hw;simp at hw;exact hb hw
 obtain⟨bsT',hr2⟩:=nB hp.rel o.dst;exact hK _ undef w R N bsT' bsL bsH hq (hself hr2 (bj _) (fun _ _ _ _ _ _=>rfl) (fun _ _ h=>h) (fun n ob _ hn=>⟨ob,by rw[lN] at hn;exact hn⟩) (fun t n off _ ht hn=>by rw[cW ht] at hn;exact hn) (.inl hng)) (bj _) (fun _ _ h=>h)
def nE (E:bG) (all:List Oper) (mk:Option Nat) (s:aa):Option aa:=
 match mk with
 | none=>some s
 | some i=>(match all[i]? with
  | some o=>(match o.op,o.dst,o.guard with
   | .alloc t,some d,none=>(match E.ty t with
    | some ti=>if eV (bN (cI ti.zero))=true/\bg (.loc d) (bN (cI ti.zero))=false/\d < s.tmps.length then some (newObj s d (.cells (bN (cI ti.zero)))) else none
    | none=>none)
   | _,_,_=>none)
  | none=>none)
theorem Fi {all:List Oper} {nw:Option Nat} {s s':aa} (h:iE E all nw s=some s'):nE E all nw s=some s':=by
 unfold iE at h;unfold nE
 cases nw with
 | none=>exact h
 | some i=>
  dsimp only at h ⊢
  cases hi:all[i]? with
  | none=>rw[hi] at h;simp at h
  | some o=>
   rw[hi] at h;dsimp only at h ⊢
   split at h
   ·rename_i t d hop hd hg;rw[hop,hd,hg];dsimp only
    cases hty:E.ty t with
    | none=>rw[hty] at h;simp at h
    | some ti=>
     rw[hty] at h;dsimp only at h ⊢
     split at h
     ·rename_i hc;rw[if_pos ⟨hc.1,hc.2.1,hc.2.2.1⟩];exact h
     simp at h
   simp at h
theorem mq {n:Name}:∀{l:List ac} {t:Nat} {v:ac},bg n l=false->l[t]?=some v->mentions n v=false
 | [],_,_,_,h=>by simp at h
 | a::l,0,v,h,hv=>by simp only[bg,Bool.or_eq_false_iff] at h;simp at hv;rw[←hv];exact h.1
 | a::l,t+1,v,h,hv=>by simp only[bg,Bool.or_eq_false_iff] at h;exact mq h.2 (by simpa using hv)
theorem vu {n:Name}:∀{l:List ac} {t:Nat},(∀v,l[t]?=some v->mentions n v=false)->(de n l)[t]?=l[t]?
 | [],_,_=>rfl
 | a::l,0,h=>by simp[de,h a rfl]
 | a::l,t+1,h=>by simp only[de,List.getElem?_cons_succ];exact vu (fun v hv=>h v (by simpa using hv))
theorem Cf {n:Name} {l:List ac} {d:Nat} {a:ac} (h:bg n (l.set d a)=false) {t:Nat} (ht:t≠d):(de n l)[t]?=l[t]?:=
 vu fun v hv=>mq h (by rw[List.getElem?_set_ne (Ne.symm ht)];exact hv)
theorem M7 {n:Name} {l:List ac} {d:Nat} {a:ac} (h:bg n (l.set d a)=false):(de n l).set d a=l.set d a:=by
 apply List.ext_getElem?
 intro t
 by_cases ht:t=d
 ·subst ht;rw[List.getElem?_set_self',List.getElem?_set_self']
  have:=Cg n l
  by_cases hl:t < l.length
  ·rw[List.getElem?_eq_getElem hl,List.getElem?_eq_getElem (by omega)];rfl
  rw[List.getElem?_eq_none (by omega),List.getElem?_eq_none (by omega)]
 rw[List.getElem?_set_ne (Ne.symm ht),List.getElem?_set_ne (Ne.symm ht)];exact Cf h ht
theorem Is {n:Name} {l:List ac} (h:bg n l=false):de n l=l:=by
 apply List.ext_getElem?
 intro t;exact vu fun v hv=>mq h hv
theorem Fj {ops:Array Oper} {nw:Option Nat} {s s2:aa} {d:Tmp} {a:ac} (h:iE E ops.toList nw (s.put (some d) a)=some s2) (hnd:pw ops nw≠some d) :
  ∃s2',nE E ops.toList nw s=some s2'/\s2=s2'.put (some d) a/\∀x,x≠d->pw ops nw≠some x->bC s2'.tmps x=bC s.tmps x:=by
 unfold iE at h;unfold nE
 cases nw with
 | none=>simp at h;exact⟨s,rfl,h.symm,fun _ _ _=>rfl⟩
 | some i=>
  dsimp only at h ⊢
  cases hi:ops.toList[i]? with
  | none=>rw[hi] at h;simp at h
  | some o=>
   rw[hi] at h;dsimp only at h ⊢
   split at h
   ·rename_i t dn hop hd hg;rw[hop,hd,hg];have hns:pw ops (some i)=some dn:=by
     unfold pw
     have:ops[i]?=some o:=by simpa using hi
     simp only[this,hd]
    rw[hns] at hnd;have hdn:dn≠d:=fun e=>hnd (by rw[e])
    dsimp only
    cases hty:E.ty t with
    | none=>rw[hty] at h;simp at h
    | some ti=>
     rw[hty] at h;dsimp only at h ⊢
     split at h
     ·rename_i hc;have hm:bg (.loc dn) (s.tmps.set d a)=false:=hc.2.2.2;rw[if_pos ⟨hc.1,hc.2.1,by simpa [aa.put] using hc.2.2.1⟩];simp only[Option.some.injEq] at h;refine⟨_,rfl,?_,?_⟩
      ·rw[←h];simp only[newObj,aa.put];rw[Is hm,List.set_comm _ _ hdn,M7 hm]
      intro x hx hxn;rw[hns] at hxn;simp only[newObj];rw[cd (fun e=>hxn (by rw[e]))];unfold bC;rw[Cf hm hx]
     simp at h
   simp at h
theorem Nr {fh:Bool} {all:List Oper} {oi oj:Oper} {x d:Tmp} {a:ac} (ha:jz oi oj=true) (hx:opsL oi.op=[.tmp x]) (hd:oi.dst=some d) {s s2':aa} {K:aa->Prop} (hq:fp E G fh all oi s=some a) (hxe:bC s2'.tmps x=bC s.tmps x)
  (h:mE (aC P G) E G H all oj K (s2'.put (some d) a)) :
  ∃s3',cY E G (readOnly H.moves all oj) (lF H all oj) oj s2'=some s3'/\cY E G true false oi s3'=some (s3'.put (some d) a)/\K (s3'.put (some d) a):=by
 unfold jz at ha;simp only[Bool.and_eq_true,Bool.or_eq_true,Option.isNone_iff_eq_none] at ha;obtain⟨⟨⟨⟨g1,g2⟩,g3⟩,g4⟩,g5⟩:=ha;have hof:dq oi.op=none/\nY oi.op=false/\(∀vals,looks oi.op vals=none)/\(opsL oj.op).any (dy x)=false/\(opsL oj.op).any (dy d)=false/\oj.dst≠some x/\oj.dst≠some d:=by
  split at g5
  ·rename_i y k d' e1 e2;rw[e1] at hx ⊢;simp[opsL] at hx;subst hx;rw[hd] at e2;simp at e2;subst e2;simp only[Bool.and_eq_true,Bool.not_eq_true',bne_iff_ne] at g5;exact⟨rfl,rfl,fun _=>rfl,g5.1.1.1,g5.1.1.2,g5.1.2,g5.2⟩
  ·rename_i y d' e1 e2;rw[e1] at hx ⊢;simp[opsL] at hx;subst hx;rw[hd] at e2;simp at e2;subst e2;simp only[Bool.and_eq_true,Bool.not_eq_true',bne_iff_ne] at g5;exact⟨rfl,rfl,fun _=>rfl,g5.1.1.1,g5.1.1.2,g5.1.2,g5.2⟩
  simp at g5
 obtain⟨hc,hal,hl,h1,h2,hpx,hpd⟩:=hof;unfold mE at h;simp only[g2,dF,g4,if_true] at h
 split at h
 ·rename_i s3 hs3;obtain⟨v,k1,k2⟩:=sQ g3 hs3;have k1:=k1 s2'.tmps (by
   intro t ht;have htd:d≠t:=fun e=>by rw[←e,h2] at ht;simp at ht
   simp only[aa.put];rw[cd htd])
  have hst:({(s2'.put (some d) a) with tmps:=s2'.tmps }:aa)=s2':=rfl;rw[hst] at k1;have hs3e:s3=({s3 with tmps:=iq (fN s2'.tmps (kN (readOnly H.moves all oj) oj.op) (opsL oj.op)) oj.dst v }:aa).put (some d) a:=by
   obtain⟨t3,l3,h3,n3⟩:=s3;simp only[aa.put] at k2 ⊢;rw[k2,qV h2,sL hpd]
  refine⟨_,k1,?_,by rw[←hs3e];exact h⟩;unfold fp at hq;simp only[g1,dF,if_true,hal,Bool.false_eq_true,if_false,hc] at hq
  split at hq
  ·split at hq
   ·rename_i out hout
    split at hq
    ·rename_i hk;simp only[Option.some.injEq] at hq;have hla:∀s4:aa,∀vals,bp s4 oi.op vals=none:=fun s4 vals=>by unfold bp;rw[hl]
     rw[hla] at hout;have hgx:bC (iq (fN s2'.tmps (kN (readOnly H.moves all oj) oj.op) (opsL oj.op)) oj.dst v) x=bC s.tmps x:=by rw[sM hpx,iU h1,hxe]
     have hv:aP G ({s3 with tmps:=iq (fN s2'.tmps (kN (readOnly H.moves all oj) oj.op) (opsL oj.op)) oj.dst v }:aa) none 0 (opsL oi.op)=aP G s none 0 (opsL oi.op):=by
      rw[hx];simp only[aP,eT,hgx]
     have hm:kN true oi.op=none:=rfl;unfold cY;rw[hm,hv,hla,hout];simp only[dL,hk,bO,hd,hq]
    simp at hq
   simp at hq
  simp at hq
 exact h.elim
theorem Ks (hE:E.Ok P) (ops:Array Oper) {i:Nat} {o:Oper} (hi:ops[i]?=some o) (hg:o.guard=none) {q take:Bool} {s s':aa} (hst:cY E G q take o s=some s') {Qx:Exit->Act->World->Prop}
  {w:World} {R:Own} {N:Name->Option Nat} {act:Act} {bsT bsL bsH bsF:List Nat} (hr:dh G w R N act.tmps.toList s undef .undef [] bsT bsL bsH bsF) (hd:act.defers=D) :
  wpOp P ops Qx i (UG G D (fun s1=>s1=s') w R N bsF) act w:=by
 unfold wpOp;simp only[hi];have hwt:=kg (ops:=ops) (o:=o) (b:=true) hr.tmps (by rw[hg];rfl);rw[hwt,if_pos rfl];left;obtain⟨cv,w',hran,⟨R',N',bsT',bsL',bsH',hr',hk',hN',_⟩,_⟩:=qj hE hst hr;exact vt hran ⟨s',R',N',bsT',bsL',bsH',rfl,hr',by rw[(gG act o.dst cv).2];exact hd,hk',fun o b h=>hN' _ _ h⟩
theorem tp {ops:Array Oper} {w:World} {R:Own} {N:Name->Option Nat} {act:Act} {bsT bsL bsH bsX bsF:List Nat} {nw:Option Nat} {s s':aa} (h:nE E ops.toList nw s=some s')
  (hr:dh G w R N act.tmps.toList s undef .undef [] bsT bsL bsH (bsX++bsF))
  (hf:∀i o t d ti,nw=some i->ops[i]?=some o->o.op=.alloc t->o.dst=some d->o.guard=none->E.ty t=some ti->d < act.tmps.size->
   ∃b,b∈bsX/\act.tmps[d]?=some (.pointer (some ⟨b,0,none⟩))/\aU w R N (.cells (bN (cI ti.zero))) b []) :
  ∃N' bsT' bsL',dh G w R N' act.tmps.toList s' undef .undef [] bsT' bsL' bsH bsF/\∀k,N' (.out k)=N (.out k):=by
 cases nw with
 | none=>
  simp[nE] at h;subst h;refine⟨N,bsT,bsL,⟨hr.val,hr.tmps,hr.locs,hr.heap,?_,hr.next,hr.glob,fun b hb=>hr.frame b (by simp[hb])⟩,fun _=>rfl⟩;refine List.Nodup.sublist ?_ hr.nodup;exact List.Sublist.append (.refl _) (List.Sublist.append (.refl _) (List.Sublist.append (.refl _) (List.Sublist.append (.refl _) (List.sublist_append_right _ _))))
 | some i=>
  simp only[nE] at h
  split at h
  ·rename_i o ho
   split at h
   ·rename_i t d hop hd hg
    split at h
    ·rename_i ti hti
     split at h
     ·rename_i hcond;simp at h;subst h;have hsz:act.tmps.size=s.tmps.length:=by have:=hr.tmps.length;simpa using this
      obtain⟨b,hbX,hdt,hobj⟩:=hf i o t d ti rfl (by simpa using ho) hop hd hg hti (by rw[hsz];exact hcond.2.2);have hN:∀m,m≠Name.loc d->bK N (.loc d) b m=N m:=fun m hm=>by simp[bK,hm]
      obtain⟨bsT2,t1,t2⟩:=ak.pq hN hr.tmps;obtain⟨bsL2,l1,l2⟩:=ao.pq hN hr.locs;have hob2:aU w R (bK N (.loc d) b) (.cells (bN (cI ti.zero))) b []:=nH hobj (fun cs hcs=>by simp at hcs;subst hcs;exact hcond.2.1);have hH2:ao w R (outs (bK N (.loc d) b)) s.heap bsH:=hr.heap.tI (fun k=>by simp[bK]);have hpv:al w R (bK N (.loc d) b) (.ptr (.loc d) 0) (.pointer (some ⟨b,0,none⟩)) []:=by simp[al,bK]
      have hnd3:([]++(bsT2++((b::([]++bsL2))++(bsH++bsF)))).Nodup:=by
       have h0:=hr.nodup;obtain⟨x1,x2,e⟩:=List.append_of_mem hbX;subst e;have h1:(b::(bsT++(bsL++(bsH++bsF)))).Nodup:=by
        have hp:([]++(bsT++(bsL++(bsH++((x1++b::x2)++bsF))))).Perm ((x1++x2)++(b::(bsT++(bsL++(bsH++bsF))))):=by
         rw[List.perm_iff_count];intro q;simp only[List.count_append,List.count_cons,List.count_nil];omega
        exact (List.nodup_append.1 (hp.nodup_iff.1 h0)).2.1
       have hp:([]++(bsT2++((b::([]++bsL2))++(bsH++bsF)))).Perm (b::(bsT2++(bsL2++(bsH++bsF)))):=by rw[List.perm_iff_count];intro q;simp only[List.count_append,List.count_cons,List.count_nil];omega
       refine hp.nodup_iff.2 (List.Nodup.sublist ?_ h1);exact (List.Sublist.append t2 (List.Sublist.append l2 (.refl _))).cons_cons _
      obtain⟨bsT'',hp1,hp2⟩:=mQ d t1 hpv hnd3;have hdt':act.tmps.toList[d]?=some (.pointer (some ⟨b,0,none⟩)):=by simpa using hdt
      have hsame:act.tmps.toList.set d (.pointer (some ⟨b,0,none⟩))=act.tmps.toList:=by
       apply List.ext_getElem?
       intro j;rw[List.getElem?_set]
       split
       ·rename_i hj;subst hj;split
        ·exact hdt'.symm
        rename_i hl;rw[List.getElem?_eq_none (by omega)]
       rfl
      rw[hsame] at hp1;refine⟨bK N (.loc d) b,bsT'',b::([]++bsL2),⟨aW _,?_,?_,?_,by simpa using hp2,?_,hr.glob,fun x hx=>hr.frame x (by simp[hx])⟩,fun k=>by simp[bK]⟩
      ·simp only[newObj,Ag];exact hp1
      ·simp only[newObj];exact⟨b,[],bsL2,rfl,by simp[bK],hob2,l1⟩
      ·simp only[newObj];exact hH2
      intro k c hk;simp[bK] at hk;simp only[newObj];exact hr.next k c hk
     simp at h
    simp at h
   simp at h
  simp at h
theorem rH {ops:Array Oper}:∀(r:List (Nat×Bool)) (l:Array Bool),oB ops r l=true->l.size=ops.size->∀x∈r,(ee r l)[x.1]?=some true
 | [],_,_,_,x,hx=>by simp at hx
 |(i,lone)::r,l,hc,hsz,x,hx=>by
  simp only[oB,Bool.and_eq_true] at hc
  rcases List.mem_cons.1 hx with rfl|hx
  ·simp only[ee]
   apply lO
   have hrd:i∈Region.ready .any ops l:=by
    cases lone
    ·have:=hc.1;simp at this;simpa using this.1
    have:=hc.1;simp at this;rw[this];simp
   obtain⟨_,o,ho,_⟩:=mem_ready.1 hrd;have hlt:i < l.size:=by rw[hsz];exact (Array.getElem?_eq_some_iff.1 ho).1
   simp[bW,hlt]
  exact rH r (bW l i) hc.2 (by simpa [bW] using hsz) x hx
theorem xJ (hE:E.Ok P) {ops:Array Oper} {h:ay} (hc:dT ops h=true) (hca:oC ops h=true) (hcst:gK ops h=true) {p:Array Bool} {Q:aa->Prop} {Kx:Exit->Act->World->Prop} (hall:∀x∈h.pre,p[x.1]?=some true) (htail:iW ops h.tail p=true) :
  ∀(fuel F:Nat) (listed:Array Bool) (s:aa),fuel+h.tail.length<=F->listed.size=ops.size->gY ops listed->
   qs P E G H ops h p (fun s1=>match iE E ops.toList h.nw s1 with
    | some s2=>mD (aC P G) E G H ops.toList Q (dO ops.toList h.tail) s2
    | none=>False) fuel listed s->
   ∀(w:World) (R:Own) (N:Name->Option Nat) (act:Act) (bsT bsL bsH bsX bsF:List Nat),BK E G H ops h listed w R N act s bsT bsL bsH bsX bsF->act.defers=D->
   (∀a' w',UG G D Q w R N bsF a' w'->Kx .normal a' w')->wpAny P .any ops Kx F listed act w:=by
 have hfin:∀(F:Nat) (s:aa),h.tail.length<=F->(match iE E ops.toList h.nw s with
    | some s2=>mD (aC P G) E G H ops.toList Q (dO ops.toList h.tail) s2
    | none=>False)->
   ∀(w:World) (R:Own) (N:Name->Option Nat) (act:Act) (bsT bsL bsH bsX bsF:List Nat),BK E G H ops h p w R N act s bsT bsL bsH bsX bsF->act.defers=D->
   (∀a' w',UG G D Q w R N bsF a' w'->Kx .normal a' w')->wpAny P .any ops Kx F p act w:=by
  intro F s hF hT w R N act bsT bsL bsH bsX bsF hp hd hK;have hin:∀i,i∈h.nw.toList++h.tk->p[i]?=some true:=by
   intro i hi;unfold dT at hc;have h1:=List.all_eq_true.1 hc i hi;simp only[Bool.and_eq_true] at h1;exact hall (i,false) (by simpa using h1.1)
  split at hT
  ·rename_i s3 hs3;obtain⟨N3,bsT3,bsL3,hr3,hN3⟩:=tp (Fi hs3) hp.rel (fun i o t d ti hi ho hop hd hg hty hlt=>hp.nwf i o t d ti hi (hin i (by simp[hi])) ho hop hd hg hty hlt);exact mb hE ops Q Kx h.tail p F s3 htail hF hT w R N3 act bsT3 bsL3 bsH bsF hr3 hd (fun a' w' h'=>hK a' w' (h'.trans (bj _) (fun o b hb=>by rw[hN3];exact hb)))
  exact hT.elim
 have lateCase:∀{fuel:Nat} (F:Nat) (listed:Array Bool) (s:aa),fuel+1+h.tail.length<=F->listed.size=ops.size->gY ops listed->∀(i:Nat) (oi:Oper) (a:ac),bW listed i=p->nW ops h p i=true->ops[i]?=some oi->(i,false)∈h.pre->
   i∈Region.ready .any ops listed->fp E G (aV H ops.toList h.pre||quietAt H ops.toList h.pre i) ops.toList oi s=some a->
   (match iE E ops.toList h.nw (s.put oi.dst a) with
    | some s2=>mD (aC P G) E G H ops.toList Q (dO ops.toList h.tail) s2
    | none=>False)->
   ∀(w:World) (R:Own) (N:Name->Option Nat) (act:Act) (bsT bsL bsH bsX bsF:List Nat),BK E G H ops h listed w R N act s bsT bsL bsH bsX bsF->act.defers=D->
   (∀a' w',UG G D Q w R N bsF a' w'->Kx .normal a' w')->wpAny P .any ops Kx F listed act w:=by
  intro fuel F listed s hF hsz hcl i oi a hpe hlt hoi hm hri hq hT w R N act bsT bsL bsH bsX bsF hp hd hK;have hun:=cU hri hsz;have hb:=tq hun hpe;have hlt0:=hlt;unfold nW at hlt
  split at hlt
  ·simp at hlt
  ·rename_i j r htl;rw[hb] at hlt;simp only[Bool.and_eq_true,Bool.or_eq_true,beq_iff_eq] at hlt;obtain⟨⟨⟨⟨⟨⟨⟨hrd,hrj⟩,hrp⟩,hct⟩,_⟩,hnw⟩,htk⟩,hlast⟩:=hlt
   split at hlast
   rotate_left
   ·simp at hlast
   rename_i oi' oj hoi' hoj;rw[hoi] at hoi';simp at hoi';subst hoi';simp only[Bool.and_eq_true] at hlast;obtain⟨⟨hap,hxs⟩,hnd⟩:=hlast;obtain⟨F',rfl⟩:∃F',F=F'+1:=⟨F - 1,by omega⟩
   -- i first
   have hi:wpOp P ops Kx i (wpAny P .any ops Kx F' (listed.setIfInBounds i true)) act w:=by
    refine Qo hE hc hp hcl hd hoi hun hm hq ?_;intro cv w' R' bsT' bsX' hp' hk;rw[show listed.setIfInBounds i true=p from hpe];rw[hpe] at hp';exact hfin F' _ (by omega) hT w' R' N _ bsT' bsL bsH bsX' bsF hp' (by rw[(gG act oi.dst cv).2];exact hd) (fun a' w2 h'=>hK a' w2 (h'.trans hk (fun _ _ hb=>hb)))
   -- j first
   have hj:wpOp P ops Kx j (wpAny P .any ops Kx F' (listed.setIfInBounds j true)) act w:=by
    obtain⟨x,d,hx,hdd⟩:∃x d,opsL oi.op=[.tmp x]/\oi.dst=some d:=by
     have hap':=hap;unfold jz at hap';simp only[Bool.and_eq_true] at hap';have g5:=hap'.2
     split at g5
     ·rename_i x k d e1 e2;exact⟨x,d,by rw[e1];rfl,e2⟩
     ·rename_i x d e1 e2;exact⟨x,d,by rw[e1];rfl,e2⟩
     simp at g5
    rw[hdd] at hT
    split at hT
    ·rename_i s2 hs2;have hnd':pw ops h.nw≠some d:=by rw[←hdd];simpa using hnd
     obtain⟨s2',hm0,rfl,hgx⟩:=Fj hs2 hnd';rw[hx,hdd] at hxs;simp at hxs;have hxd:x≠d:=fun e=>by have:=hxs.1;rw[e] at this;simp[dy] at this
     have hxn:pw ops h.nw≠some x:=fun e=>by
      have:=hxs.2
      rw[e] at this;simp[dy] at this
     have hj':ops.toList[j]?=some oj:=by simpa using hoj
     rw[htl] at hT;simp only[dO,hj',mD,iX] at hT;obtain⟨s3',k1,k2,k3⟩:=Nr hap hx hdd hq (hgx x hxd hxn) hT;have hin:∀k,k∈h.nw.toList->listed[k]?=some true:=by
      intro k hk;have h1:=List.all_eq_true.1 (by unfold dT at hc;exact hc) k (List.mem_append_left _ hk);simp only[Bool.and_eq_true] at h1;have h2:=hall (k,false) (by simpa using h1.1);have hki:i≠k:=fun e=>by subst e;simp[hk] at hnw
      rw[←hpe] at h2;unfold bW at h2;rwa [Array.getElem?_setIfInBounds_ne hki] at h2
     obtain⟨N3,bsT3,bsL3,hr3,hN3⟩:=tp hm0 hp.rel (fun k o t dk ti hk ho hop hdk hg hty hlt=>hp.nwf k o t dk ti hk (hin k (by simp[hk])) ho hop hdk hg hty hlt);have gj:oj.guard=none/\oi.guard=none:=by
      unfold jz at hap;simp only[Bool.and_eq_true,Bool.or_eq_true,Option.isNone_iff_eq_none] at hap;exact⟨hap.1.1.1.2,hap.1.1.1.1⟩
     refine wpOp_mono ?_ (Ks hE ops hoj gj.1 k1 hr3 hd);rintro a' w' ⟨s',R',N',bsT',bsL',bsH',rfl,hr',hd',hk',hN'⟩;have htl2:h.tail.length=r.length+1:=by rw[htl];rfl
     obtain⟨F2,rfl⟩:∃F2,F'=F2+1:=⟨F' - 1,by omega⟩;refine wpAny_all hrj (by simp) ?_;intro k hk;simp at hk;subst hk;refine wpOp_mono ?_ (Ks hE ops hoi gj.2 k2 hr' hd');rintro a2 w2 ⟨s'',R2,N2,bsT2,bsL2,bsH2,rfl,hr2,hd2,hk2,hN2⟩;have hcm:(listed.setIfInBounds j true).setIfInBounds k true=bW p j:=by
      rw[←hpe];unfold bW
      by_cases hjk:j=k
      ·subst hjk;rfl
      exact Array.setIfInBounds_comm _ _ hjk
     rw[hcm];refine mb hE ops Q Kx r (bW p j) F2 _ hct (by omega) k3 w2 R2 N2 a2 bsT2 bsL2 bsH2 bsF hr2 hd2 (fun a3 w3 h3=>hK a3 w3 ?_);exact ((h3.trans hk2 hN2).trans hk' hN').trans (bj _) (fun o b hb=>by rw[hN3];exact hb)
    exact hT.elim
   rcases hrd with hrd|hrd
   ·refine wpAny_all hrd (by simp) ?_;intro k hk;simp at hk
    rcases hk with rfl|rfl
    ·exact hi
    exact hj
   refine wpAny_all hrd (by simp) ?_;intro k hk;simp at hk
   rcases hk with rfl|rfl
   ·exact hj
   exact hi
 intro fuel
 induction fuel with
 | zero=>
  intro F listed s hF _ _ ha w R N act bsT bsL bsH bsX bsF hp hd hK;obtain⟨rfl,hT⟩:=ha;exact hfin F s (by omega) hT w R N act bsT bsL bsH bsX bsF hp hd hK
 | succ fuel ih=>
  intro F listed s hF hsz hcl ha w R N act bsT bsL bsH bsX bsF hp hd hK
  rcases ha with⟨rfl,hT⟩|⟨_,hne,hsteps⟩|⟨i,oi,a,hpe,hlt,hoi,hm,hri,hq,hT⟩
  rotate_right
  ·exact lateCase F listed s hF hsz hcl i oi a hpe hlt hoi hm hri hq hT w R N act bsT bsL bsH bsX bsF hp hd hK
  ·exact hfin F s (by omega) hT w R N act bsT bsL bsH bsX bsF hp hd hK
  obtain⟨F',rfl⟩:∃F',F=F'+1:=⟨F - 1,by omega⟩;refine⟨fun h0=>absurd h0 hne,fun i hi=>?_⟩;obtain⟨lone,o,hm,ho,hs⟩:=hsteps i hi
  cases lone
  ·simp only[Bool.false_eq_true,if_false] at hs;obtain⟨a,ha1,ha2⟩:=hs;refine Qo hE hc hp hcl hd ho (cU hi hsz) hm ha1 ?_;intro cv w' R' bsT' bsX' hp' hk;exact ih F' (bW listed i) _ (by omega) (by simpa [bW] using hsz) (hcl.step hi) ha2 w' R' N _ bsT' bsL bsH bsX' bsF hp' (by rw[(gG act o.dst cv).2];exact hd) (fun a' w2 h'=>hK a' w2 (h'.trans hk (fun _ _ hb=>hb)))
  simp only[if_true] at hs;refine aaP hE hc hca hcst hp hcl hd ho (cU hi hsz) hm hi hs ?_;intro s' cv w' R' N' bsT' bsL' bsH' hKs hp' hk hN;exact ih F' (bW listed i) s' (by omega) (by simpa [bW] using hsz) (hcl.step hi) hKs w' R' N' _ bsT' bsL' bsH' bsX bsF hp' (by rw[(gG act o.dst cv).2];exact hd) (fun a' w2 h'=>hK a' w2 (h'.trans hk (fun o b hb=>hN _ _ hb)))
theorem HF (hE:E.Ok P) {ops:Array Oper} {Q:aa->Prop} {Kx:Exit->Act->World->Prop} :
  ∀(m F:Nat) (listed:Array Bool) (s:aa),oV (aC P G) E G H ops.toList Q m listed s->m<=F->∀(w:World) (R:Own) (N:Name->Option Nat) (act:Act) (bsT bsL bsH bsF:List Nat),
   dh G w R N act.tmps.toList s undef .undef [] bsT bsL bsH bsF->act.defers=D->(∀a' w',UG G D Q w R N bsF a' w'->Kx .normal a' w')->wpAny P .any ops Kx F listed act w:=by
 intro m
 induction m with
 | zero=>
  intro F listed s h _ w R N act bsT bsL bsH bsF hr hd hK;simp only[oV,Array.toArray_toList] at h;exact wpAny_done h.1 (hK _ _ ⟨s,R,N,bsT,bsL,bsH,h.2,hr,hd,bj _,fun _ _ h=>h⟩) F
 | succ m ih=>
  intro F listed s h hF w R N act bsT bsL bsH bsF hr hd hK;simp only[oV,Array.toArray_toList] at h
  rcases h with h|⟨hne,hall⟩
  ·exact wpAny_done h.1 (hK _ _ ⟨s,R,N,bsT,bsL,bsH,h.2,hr,hd,bj _,fun _ _ h=>h⟩) F
  obtain⟨F',rfl⟩:∃F',F=F'+1:=⟨F - 1,by omega⟩;refine wpAny_all (rs:=Region.ready .any ops listed) rfl hne ?_;intro j hj;obtain⟨o,ho,h2⟩:=hall j hj;refine wpOp_mono ?_ (jA hE ops (by simpa using ho) h2 hr hd);rintro a' w' ⟨s',R',N',bsT',bsL',bsH',hq,hr',hd',hk',hN'⟩;exact ih F' _ s' hq (by omega) w' R' N' a' bsT' bsL' bsH' bsF hr' hd' (fun a2 w2 h2=>hK a2 w2 (h2.trans hk' hN'))
theorem tD:∀(r:List (Nat×Bool)),(bY r).length<=r.length
 | []=>by simp[bY]
 |(i,true)::r=>by simp[bY]
 |(i,false)::r=>by simp only[bY,List.length_cons];have:=tD r;omega
theorem zR:∀(r:List (Nat×Bool)) (l:Array Bool) {n:Nat},l.size=n->(∀y∈r,y.1 < n)->∀x∈r,(ee r l)[x.1]?=some true
 | [],_,_,_,_,x,hx=>by simp at hx
 |(i,b)::r,l,n,hn,hlt,x,hx=>by
  have hs:(bW l i).size=n:=by simpa [bW] using hn
  rcases List.mem_cons.1 hx with rfl|hx
  ·have:i < l.size:=by rw[hn];exact hlt (i,b) (by simp)
   exact lO r (bW l i) i (by simp[bW,this])
  exact zR r (bW l i) hs (fun y hy=>hlt y (by simp[hy])) x hx
theorem Bq (hE:E.Ok P) (hm:P.follows .mixedOrders=true) {id:Nat} {ops:Array Oper} {h:ay} {Q:Exit->aa->Prop} {s:aa} (hc:(gA h||(if hC h=true then T4 ops (fY h) else (ac5 ops h||I0 ops h)))=true) (hs:Bo (aC P G) E G H ops.toList h (Q .normal) s):dz P G (.region id ops true) Q s:=by
 by_cases hx:gA h=true
 ·intro w R N act bsT bsL bsH bsF hr D hd;unfold Bo at hs;rw[if_pos hx,Array.length_toList] at hs
  apply wp_region_any hm
  have hst:Step w R {w with drawn:=w.drawn+1 } R:=⟨rfl,rfl,rfl,Nat.le_refl _,fun _ _ h=>⟨rfl,h⟩,fun _ _ _ h=>⟨h,rfl⟩,fun _ _=>rfl⟩;have hkeep:∀bs,bA w R {w with drawn:=w.drawn+1 } R bs:=fun bs=>⟨hst,fun _ _ _=>⟨rfl,fun _ h=>h⟩⟩
  have hr':dh G {w with drawn:=w.drawn+1 } R N act.tmps.toList s undef .undef [] bsT bsL bsH bsF:=
   ⟨aW _,hr.tmps.keep (hkeep _),hr.locs.keep (hkeep _),hr.heap.keep (hkeep _),hr.nodup,hr.next,fun g cs hg=>(hr.glob g cs hg).step hst,hr.frame⟩
  refine HF hE ops.size ops.size _ s hs (Nat.le_refl _) _ R N act bsT bsL bsH bsF hr' hd ?_;rintro a' w' ⟨s',R',N',bsT',bsL',bsH',⟨s0,hq,hren⟩,hr2,hd',hk',hN'⟩;obtain⟨N2,bsT2,bsL2,bsH2,hr3,hN2⟩:=hren _ _ _ _ _ _ _ _ hr2;exact⟨s0,R',N2,bsT2,bsL2,bsH2,hq,hr3,hd',(hkeep _).trans hk',fun o b hb=>hN2 o b (hr.next o b hb) (hN' o b hb)⟩
 have hxf:gA h=false:=by simpa using hx
 rw[hxf,Bool.false_or] at hc;unfold Bo at hs;rw[if_neg hx] at hs
 by_cases hlm:hC h=true
 ·rw[if_pos hlm] at hc hs;obtain⟨h',hh'⟩:∃h',h'=fY h:=⟨_,rfl⟩;rw[←hh'] at hc hs;clear hlm hx hxf hh';intro w R N act bsT bsL bsH bsF hr D hd;unfold T4 at hc;simp only[Bool.and_eq_true,decide_eq_true_eq] at hc;obtain⟨⟨⟨⟨⟨⟨⟨hpre,hlast⟩,htail⟩,hslots⟩,happ⟩,hstores⟩,hlen⟩,hidx⟩:=hc
  apply wp_region_any hm
  unfold Bn at hs;rw[Array.length_toList] at hs;have hql:(bY h'.pre).length<=h'.pre.length:=tD h'.pre;have hclo:gY ops (Array.replicate ops.size false):=fun d o hd=>by
   rw[Array.getElem?_replicate] at hd
   split at hd <;> simp at hd
  have hall:∀x∈h'.pre,(ee h'.pre (Array.replicate ops.size false))[x.1]?=some true:=fun x hx=>zR h'.pre _ (n:=ops.size) (by simp) (fun y hy=>by have:=List.all_eq_true.1 hidx y hy;simpa using this) x hx
  have hord:=qp (P:=P) (E:=E) (G:=G) (H:=H) hslots happ hstores hlast hall (h'.pre.length - (bY h'.pre).length) (bY h'.pre) (Array.replicate ops.size false) s (fun _ h=>tC h) (by simp) hclo hpre (fun s' h=>rO _ _ _ h) hs;have hst:Step w R {w with drawn:=w.drawn+1 } R:=⟨rfl,rfl,rfl,Nat.le_refl _,fun _ _ h=>⟨rfl,h⟩,fun _ _ _ h=>⟨h,rfl⟩,fun _ _=>rfl⟩;have hkeep:∀bs,bA w R {w with drawn:=w.drawn+1 } R bs:=fun bs=>⟨hst,fun _ _ _=>⟨rfl,fun _ h=>h⟩⟩
  have hr':dh G {w with drawn:=w.drawn+1 } R N act.tmps.toList s undef .undef [] bsT bsL bsH ([]++bsF):=
   ⟨aW _,hr.tmps.keep (hkeep _),hr.locs.keep (hkeep _),hr.heap.keep (hkeep _),hr.nodup,hr.next,fun g cs hg=>(hr.glob g cs hg).step hst,hr.frame⟩
  have hnone:∀(i:Nat),(Array.replicate ops.size false)[i]?≠some true:=by
   intro i hi;rw[Array.getElem?_replicate] at hi
   split at hi <;> simp at hi
  refine xJ hE hslots happ hstores hall htail _ ops.size _ s (by omega) (by simp) hclo hord _ R N act bsT bsL bsH [] bsF ⟨hr',?_,?_⟩ hd ?_
  ·intro i o t d ti _ hl;exact absurd hl (hnone i)
  ·intro i o T u t n off ob _ hl;exact absurd hl (hnone i)
  intro a' w' h';exact h'.trans (hkeep _) (fun _ _ h=>h)
 rw[if_neg hlm] at hc hs;rw[Bool.or_eq_true] at hc
 rcases hc with hc|hc
 rotate_left
 ·exfalso
  unfold I0 at hc;simp only[Bool.and_eq_true,List.isEmpty_iff] at hc;obtain⟨h1,h2⟩:=hc;rw[h1] at hs;simp only[mc] at hs
  split at h2
  ·rename_i k hk;rw[hk] at hs
   have:ops.toList[k]?=none:=by simpa using h2
   simp only[iE,this] at hs
  simp at h2
 intro w R N act bsT bsL bsH bsF hr D hd;unfold ac5 at hc;simp only[Bool.and_eq_true,decide_eq_true_eq] at hc;obtain⟨⟨⟨⟨⟨⟨⟨_,hpre⟩,hlast⟩,htail⟩,hslots⟩,happ⟩,hstores⟩,hlen⟩:=hc
 apply wp_region_any hm
 have hord:=qq (P:=P) (E:=E) (G:=G) (H:=H) hslots happ hstores hlast h.pre (Array.replicate ops.size false) s h.pre.length (fun _ h=>h) (by simp) (fun d o hd=>by rw[Array.getElem?_replicate] at hd;split at hd <;> simp at hd) rfl hpre (Nat.le_refl _) hs;have hst:Step w R {w with drawn:=w.drawn+1 } R:=⟨rfl,rfl,rfl,Nat.le_refl _,fun _ _ h=>⟨rfl,h⟩,fun _ _ _ h=>⟨h,rfl⟩,fun _ _=>rfl⟩;have hkeep:∀bs,bA w R {w with drawn:=w.drawn+1 } R bs:=fun bs=>⟨hst,fun _ _ _=>⟨rfl,fun _ h=>h⟩⟩
 have hr':dh G {w with drawn:=w.drawn+1 } R N act.tmps.toList s undef .undef [] bsT bsL bsH ([]++bsF):=
  ⟨aW _,hr.tmps.keep (hkeep _),hr.locs.keep (hkeep _),hr.heap.keep (hkeep _),hr.nodup,hr.next,fun g cs hg=>(hr.glob g cs hg).step hst,hr.frame⟩
 have hnone:∀(i:Nat),(Array.replicate ops.size false)[i]?≠some true:=by
  intro i hi;rw[Array.getElem?_replicate] at hi
  split at hi <;> simp at hi
 refine xJ hE hslots happ hstores (rH h.pre _ hpre (by simp)) htail h.pre.length ops.size _ s hlen (by simp) (fun d o hd=>by rw[Array.getElem?_replicate] at hd;split at hd <;> simp at hd) hord _ R N act bsT bsL bsH [] bsF ⟨hr',?_,?_⟩ hd ?_
 ·intro i o t d ti _ hl;exact absurd hl (hnone i)
 ·intro i o T u t n off ob _ hl;exact absurd hl (hnone i)
 intro a' w' h';exact h'.trans (hkeep _) (fun _ _ h=>h)
end
end Go.Tp
namespace Go.Tp
section
variable {P:Program} {E:bG} {G:bJ} {H:Hints} {D:List Deferred}
theorem C6.trans {Q:Exit->aa->Prop} {w w1:World} {R R1:Own} {N N1:Name->Option Nat} {bsF:List Nat} (hk:bA w R w1 R1 bsF) (hN:∀o b,N (.out o)=some b->N1 (.out o)=some b) {e:Exit} {a:Act} {w2:World}
  (h:C6 G D Q w1 R1 N1 bsF e a w2):C6 G D Q w R N bsF e a w2:=by
 obtain⟨s',R',N',bsT,bsL,bsH,hq,hr,hd,hk',hN'⟩:=h;exact⟨s',R',N',bsT,bsL,bsH,hq,hr,hd,hk.trans hk',fun o b h=>hN' o b (hN o b h)⟩
theorem C3 {x y:Code} {Q:Exit->aa->Prop} {s:aa} (h:dz P G x (fun e s'=>match e with|.normal=>dz P G y Q s'|e=>Q e s') s):dz P G (.seq x y) Q s:=by
 intro w R N act bsT bsL bsH bsF hr D hd
 apply wp_seq
 refine wp_mono (h w R N act bsT bsL bsH bsF hr hd) ?_;rintro e a w' ⟨s',R',N',bsT',bsL',bsH',hq,hr',hd',hk,hN⟩
 cases e with
 | normal=>exact wp_mono (hq w' R' N' a bsT' bsL' bsH' bsF hr' hd') (fun e a w h=>h.trans hk hN)
 | _=>exact⟨s',R',N',bsT',bsL',bsH',hq,hr',hd',hk,hN⟩
theorem dz.mono {c:Code} {Q Q':Exit->aa->Prop} {s:aa} (h:dz P G c Q s) (hq:∀e s,Q e s->Q' e s):dz P G c Q' s:=by
 intro w R N act bsT bsL bsH bsF hr D hd;refine wp_mono (h w R N act bsT bsL bsH bsF hr hd) ?_;rintro e a w' ⟨s',R',N',bsT',bsL',bsH',hQ,rest⟩;exact⟨s',R',N',bsT',bsL',bsH',hq _ _ hQ,rest⟩
theorem gD {c:Code} {e:Exit} {Q:Exit->aa->Prop} {s:aa} (hc:∀{Q:Exit->Act->World->Prop} {a:Act} {w:World},Q e a w->c.wp P Q a w) (h:Q e s):dz P G c Q s:=by
 intro w R N act bsT bsL bsH bsF hr D hd;exact hc ⟨s,R,N,bsT,bsL,bsH,h,hr,hd,bj _,fun _ _ h=>h⟩
theorem OR {w:World} {R:Own} {N:Name->Option Nat} {a:ac} {v:Value} {bs:List Nat} (h:al w R N a v bs):∃bs',al w R N (tidy a) v bs'/\bs'.Sublist bs:=by
 unfold tidy
 split
 ·exact⟨[],qv h,List.nil_sublist _⟩
 exact⟨bs,h,.refl _⟩
theorem BP {w:World} {R:Own} {N:Name->Option Nat}:∀{as:List ac} {vs:List Value} {bs:List Nat},ak w R N as vs bs->∃bs',ak w R N (jK as) vs bs'/\bs'.Sublist bs
 | [],_,_,h=>by obtain⟨rfl,rfl⟩:=aR h;exact⟨[],aX,.refl _⟩
 | a::as,_,_,h=>by
  obtain⟨v,vs',b1,b2,rfl,rfl,h1,h2⟩:=az h;obtain⟨c1,k1,k2⟩:=OR h1;obtain⟨c2,k3,k4⟩:=BP h2;exact⟨c1++c2,by simpa [jK] using aH k1 k3,List.Sublist.append k2 k4⟩
def vo (tmps:Array Value):ResultVar->Sem Value
 | .tmp t=>pure (tmps.getD t undef)
 | .cell a t=>do loadVar t (←asAddr (tmps.getD a undef))
theorem mn (hE:E.Ok P) {w:World} {R:Own} {N:Name->Option Nat} {act:Act} (hg:∀g cs,G g=some cs->dX w R g 0 cs):∀(rs:List ResultVar) {s:aa} {vs:List ac} {bsT bsL bsH rest:List Nat},ia E s rs=some vs->
  ak w R N s.tmps act.tmps.toList bsT->ao w R N s.locs bsL->ao w R (outs N) s.heap bsH->(bsT++rest).Nodup->
  ∃cvs bsM bsT',(rs.mapM (vo act.tmps)).run P w=.ok cvs w/\ak w R N vs cvs bsM/\cvs.length=rs.length/\(bsM++(bsT'++rest)).Nodup
 | [],s,vs,bsT,bsL,bsH,rest,h,ht,_,_,hnd=>by
  simp[ia] at h;subst h;exact⟨[],[],bsT,by simp,aX,rfl,by simpa using hnd⟩
 | .tmp t::rs,s,vs,bsT,bsL,bsH,rest,h,ht,hl,hh,hnd=>by
  simp only[ia] at h
  split at h
  ·rename_i vs' hvs;simp at h;subst h;obtain⟨bM,bT,h1,h2,h3,_⟩:=qZ ht hg (some 0) [.tmp t] rest hnd;obtain⟨b0,e0,hb0⟩:=dB h1;simp only[aP,if_true,List.cons.injEq,and_true] at e0;subst e0;obtain⟨q1,q2,_⟩:=qU s (some 0) [.tmp t];have hnd2:(bT++(bM++rest)).Nodup:=by
    have hp:(bT++(bM++rest)).Perm (bM++(bT++rest)):=List.perm_append_comm_assoc _ _ _;exact hp.nodup_iff.2 h3
   obtain⟨cvs,bM2,bT2,k1,k2,k3,k4⟩:=mn hE hg rs hvs h2 (by rw[q1];exact hl) (by rw[q2];exact hh) hnd2;refine⟨act.eval (.tmp t)::cvs,bM++bM2,bT2,?_,aH hb0 k2,by simp[k3],?_⟩
   ·simp only[List.mapM_cons,Sem.run_bind,vo,Sem.run_pure,Result.andThen_ok,k1];rfl
   have hp:((bM++bM2)++(bT2++rest)).Perm (bM2++(bT2++(bM++rest))):=by
    rw[List.perm_iff_count];intro q;simp only[List.count_append];omega
   exact hp.nodup_iff.2 k4
  simp at h
 | .cell a t::rs,s,vs,bsT,bsL,bsH,rest,h,ht,hl,hh,hnd=>by
  simp only[ia] at h
  split at h
  ·rename_i v vs' hv hvs;simp at h;subst h;obtain⟨cvs,bM2,bT2,k1,k2,k3,k4⟩:=mn hE hg rs hvs ht hl hh hnd;unfold yG at hv
   split at hv
   ·rename_i n off hp
    split at hv
    ·rename_i cs i hob hty;have hget:s.tmps[a]?=some (.ptr n off):=by
      unfold bC at hp
      cases hs:s.tmps[a]? with
      | none=>rw[hs] at hp;simp at hp
      | some v=>rw[hs] at hp;simp at hp;rw[hp]
     obtain⟨u,b',e1,e2,_⟩:=eD ht hget;simp only[al] at e2;obtain⟨_,b,hb,rfl⟩:=e2;have hobj:∃b1,aU w R N (.cells cs) b b1:=by
      unfold aa.obj at hob
      cases n with
      | loc j=>
       obtain⟨pre,c,c1,post,_,f2,f3,_⟩:=ao.split hl hob;rw[hb] at f2;simp at f2;subst f2;exact⟨c1,f3⟩
      | out j=>
       obtain⟨pre,c,c1,post,_,f2,f3,_⟩:=ao.split hh hob;simp only[outs] at f2;rw[hb] at f2;simp at f2;subst f2;refine⟨c1,f3.yh ?_ (fun _=>rfl)⟩;obtain⟨vs,e,sp,_,hrr,_⟩:=f3
       have:=hrr.cy
       rw[jq] at this;exact this
     obtain⟨b1,vs0,el,sp,hblk,hrr,_⟩:=hobj;obtain⟨cv,g1,g2⟩:=nF (N:=N) hE hty hblk hrr (mu hv);refine⟨cv::cvs,[]++bM2,bT2,?_,aH g2 k2,by simp[k3],by simpa using k4⟩;have hgd:act.tmps.getD a undef=.pointer (some ⟨b,off,none⟩):=by simp at e1;simp[e1]
     have g1':(loadVar t ⟨b,off,none⟩).run P w=.ok cv w:=by simpa [Instr.loadAt,Instr.sureAddr] using g1
     simp only[List.mapM_cons,Sem.run_bind,vo,hgd,asAddr,Sem.run_pure,Result.andThen_ok,g1',k1]
    simp at hv
   simp at hv
  simp at h
def KX:List Value->Value
 | [v]=>v
 | vs=>.tuple vs.toArray
theorem Fu {fn:Func} {act:Act} {w:World} {cvs:List Value} (h:(fn.results.toList.mapM (vo act.tmps)).run P w=.ok cvs w) :
  (results fn act.tmps).run P w=.ok (KX cvs) w:=by
 have hres:results fn act.tmps=(do
   let vs ←fn.results.mapM (vo act.tmps)
   pure (if h:vs.size=1 then vs[0] else .tuple vs)):=rfl
 have e:(fn.results.mapM (vo act.tmps)).run P w=.ok cvs.toArray w:=by
  rw[Array.mapM_eq_mapM_toList];simp[h]
 rw[hres];simp only[Sem.run_bind,e,Result.andThen_ok]
 cases cvs with
 | nil=>rfl
 | cons v cvs=>cases cvs <;> rfl
theorem kA {w:World}:∀(ns:List Name) {s s':aa} {args args':List ac} {R:Own} {N:Name->Option Nat},im ns s args=(s',args')->∀{tmps:List Value} {cargs:List Value} {bsV bsT bsL bsH bsF:List Nat},
  dh G w R N tmps s (.tuple cargs.toArray) (.tup args) bsV bsT bsL bsH bsF->
  ∃R' N' bsV' bsT' bsL' bsH',dh G w R' N' tmps s' (.tuple cargs.toArray) (.tup args') bsV' bsT' bsL' bsH' bsF/\bA w R w R' bsF/\(∀o b,N (.out o)=some b->N' (.out o)=some b)
 | [],s,s',args,args',R,N,h,tmps,cargs,bsV,bsT,bsL,bsH,bsF,hr=>by
  simp[im] at h;obtain⟨rfl,rfl⟩:=h;exact⟨R,N,bsV,bsT,bsL,bsH,hr,bj _,fun _ _ h=>h⟩
 | n::ns,s,s',args,args',R,N,h,tmps,cargs,bsV,bsT,bsL,bsH,bsF,hr=>by
  simp only[im] at h
  split at h
  ·split at h
   ·rename_i s1 args1 h1;obtain⟨R1,N1,v1,t1,l1,g1,hr1,hk1,hN1,_⟩:=wT h1 hr;obtain⟨R2,N2,v2,t2,l2,g2,hr2,hk2,hN2⟩:=kA ns h hr1;exact⟨R2,N2,v2,t2,l2,g2,hr2,hk1.trans hk2,fun o b h=>hN2 o b (hN1 o b h)⟩
   exact kA ns h hr
  exact kA ns h hr
theorem FO {w:World} {R:Own} {N:Name->Option Nat} {vs:List ac} {cvs:List Value} {bs:List Nat} (h:ak w R N vs cvs bs):al w R N (pack vs) (KX cvs) bs:=by
 cases vs with
 | nil=>
  obtain⟨rfl,rfl⟩:=aR h;simp only[pack,KX,al];exact⟨[],rfl,aX⟩
 | cons a vs=>
  have hl:=h.length
  cases vs with
  | nil=>
   cases cvs with
   | nil=>simp at hl
   | cons v cvs=>
    simp at hl;subst hl;obtain⟨a',e,ha⟩:=dB h;simp at e;subst e;exact ha
  | cons a2 vs=>
   cases cvs with
   | nil=>simp at hl
   | cons v cvs=>
    cases cvs with
    | nil=>simp at hl
    | cons v2 cvs=>simp only[pack,KX,al];exact⟨_,rfl,h⟩
theorem zT {vs:List ac} (h:bS vs=true):fU (pack vs)=true:=by
 unfold pack
 split
 ·simpa [bS] using h
 simpa [fU] using h
theorem Kg (hE:E.Ok P) {fn:Func} {Q:ac->List (Name×aT)->Nat->Prop} {s:aa} (h:yc E fn.results.toList Q s) {w:World} {R:Own} {N:Name->Option Nat} {act:Act} {bsT bsL bsH bsF:List Nat}
  (hr:dh G w R N act.tmps.toList s undef .undef [] bsT bsL bsH bsF) :
  ∃cv,(results fn act.tmps).run P w=.ok cv w/\∃v heap' next' R' N' bsV bsH',Q v heap' next'/\al w R' (outs N') v cv bsV/\ao w R' (outs N') heap' bsH'/\(bsV++(bsH'++bsF)).Nodup ∧
   (∀o b,N' (.out o)=some b->o < next')/\bA w R w R' bsF/\(∀o b,N (.out o)=some b->N' (.out o)=some b):=by
 unfold yc at h
 split at h
 ·exact h.elim
 rename_i vs hvs;have hnd0:(bsT++(bsL++(bsH++bsF))).Nodup:=by simpa using hr.nodup
 obtain⟨cvs,bsM,bsT',k1,k2,k3,k4⟩:=mn hE hr.glob fn.results.toList hvs hr.tmps hr.locs hr.heap hnd0;obtain⟨bsM',k5,k6⟩:=BP k2;refine⟨_,Fu k1,?_⟩
 split at h
 ·rename_i hno;refine⟨_,_,_,R,N,bsM',bsH,h,(FO k5).Kp (zT hno),hr.heap,?_,hr.next,bj _,fun _ _ h=>h⟩;refine List.Nodup.sublist ?_ k4;exact List.Sublist.append k6 ((List.sublist_append_right _ _).trans (List.sublist_append_right _ _))
 split at h
 rename_i s' vs' hexp
 split at h
 ·rename_i hno
  -- the slots are no longer needed: a state without them
  have hr1:dh G w R N [] {s with tmps:=[]} (.tuple cvs.toArray) (.tup (jK vs)) bsM' [] bsL bsH bsF:=
   ⟨by simp only[al];exact⟨cvs,rfl,k5⟩,aX,hr.locs,hr.heap,by
    refine List.Nodup.sublist ?_ k4;exact List.Sublist.append k6 (by simp),hr.next,hr.glob,hr.frame⟩
  have hexp':∀(ns:List Name) (s1 s2:aa) (a1 a2:List ac),im ns s1 a1=(s2,a2)->im ns {s1 with tmps:=[]} a1=({s2 with tmps:=[]},a2):=by
   intro ns
   induction ns with
   | nil=>intro s1 s2 a1 a2 h;simp only[im,Prod.mk.injEq] at h ⊢;obtain⟨rfl,rfl⟩:=h;exact⟨rfl,rfl⟩
   | cons n ns ih=>
    intro s1 s2 a1 a2 h;simp only[im] at h ⊢
    split at h
    ·rename_i hm;rw[if_pos hm];have hp:tG true n {s1 with tmps:=[]} a1=(tG true n s1 a1).map (fun x=>({x.1 with tmps:=[]},x.2)):=by
      unfold tG;dsimp only
      split
      ·split
       ·simp[il]
       split <;> simp[eG]
      ·simp[eG]
      simp
     rw[hp]
     split at h
     ·rename_i s3 a3 h3;rw[h3];exact ih s3 s2 a3 a2 h
     rename_i h3;rw[h3];exact ih s1 s2 a1 a2 h
    rename_i hm;rw[if_neg hm];exact ih s1 s2 a1 a2 h
  obtain⟨R2,N2,v2,t2,l2,g2,hr2,hk2,hN2⟩:=kA _ (hexp' _ _ _ _ _ hexp) hr1;have hv:=hr2.val;simp only[al] at hv;obtain⟨cs0,ec,hargs⟩:=hv;simp at ec;subst ec;refine⟨_,_,_,R2,N2,v2,g2,h,(FO hargs).Kp (zT hno),hr2.heap,?_,hr2.next,hk2,hN2⟩;refine List.Nodup.sublist ?_ hr2.nodup;exact List.Sublist.append (.refl _) ((List.sublist_append_right _ _).trans (List.sublist_append_right _ _))
 exact h.elim
theorem wL {w:World} {R:Own} {N:Name->Option Nat}:∀(k:Nat),ak w R N (List.replicate k .undef) (List.replicate k undef) []
 | 0=>aX
 | k+1=>by simpa [List.replicate_succ] using aH (b1:=[]) (b2:=[]) (aW (w:=w) (R:=R) (N:=N) undef) (wL k)
theorem ke (hE:E.Ok P) {f:FuncId} {fn:Func} {c:Code} (hf:P.funcs[f]?=some fn) (hb:fn.body=some c) {args:List ac} {heap:List (Name×aT)} {next:Nat} {Q:ac->List (Name×aT)->Nat->Prop}
  (h:rq args->ya heap->dz P G c (agd E fn.results.toList Q) (enter fn.ntmps args heap next)):aC P G f args heap next Q:=by
 intro w R N cargs bsA bsH bsF ha hh hnd hnx hg hF;replace h:=h ha.oY hh.oY;refine calls_of_wp hf hb ?_;have hlen:=ha.length;have hr:dh G w R (outs N) ((cargs.toArray++Array.replicate (fn.ntmps - cargs.toArray.size) undef).toList) (enter fn.ntmps args heap next) undef .undef [] bsA [] bsH bsF:=by
  refine⟨aW _,?_,rfl,?_,by simpa using hnd,?_,hg,hF⟩
  ·have:=cA ha (wL (w:=w) (R:=R) (N:=outs N) (fn.ntmps - args.length))
   simpa [enter,hlen] using this
  ·exact hh.ext (fun m b hm=>by cases m with|loc i=>simp[outs] at hm|out o=>exact hm)
  intro o b ho;exact hnx o b ho
 refine wp_mono (h w R (outs N) _ bsA [] bsH bsF hr rfl) ?_;rintro e a w' ⟨s',R',N',bsT,bsL,bsH',hq,hr',hd',hk,hN⟩;have key:yc E fn.results.toList Q s'->a.defers=[]/\∃v,(results fn a.tmps).run P w'=.ok v w'/\(∃v2 cv heap' next' R'' N'' bsV bsH'',Ending.returned v=.returned cv/\Q v2 heap' next'/\al w' R'' (outs N'') v2 cv bsV/\ao w' R'' (outs N'') heap' bsH'' ∧
   (bsV++(bsH''++bsF)).Nodup/\(∀o b,N'' (.out o)=some b->o < next')/\bA w R w' R'' bsF/\(∀o b,N (.out o)=some b->N'' (.out o)=some b)):=by
  intro hret;obtain⟨cv,g1,v2,heap',next',R'',N'',bsV,bsH'',q1,q2,q3,q4,q5,q6,q7⟩:=Kg hE hret hr';exact⟨hd',cv,g1,v2,cv,heap',next',R'',N'',bsV,bsH'',rfl,q1,q2,q3,q4,q5,hk.trans q6,fun o b h=>q7 o b (hN o b h)⟩
 cases e with
 | ret=>exact key hq
 | normal=>exact key hq
 | exit i=>exact hq.elim
 | goto l=>exact hq.elim
 | panic ch=>exact hq.elim
 | outgrown=>exact hq.elim
inductive Tr where
 |nil
 |node (l:Tr) (k:Nat) (v:TI) (r:Tr)
def Tr.find:Tr->Nat->Option TI
 | .nil,_=>none
 | .node l k v r,t=>match Nat.blt t k with
  | true=>l.find t
  | false=>(match Nat.blt k t with|true=>r.find t|false=>some v)
def Tr.HL (P:Program):Tr->Prop
 | .nil=>True
 | .node l k v r=>l.HL P/\v.ok P k/\r.HL P
theorem Tr.all_nil {P:Program}:Tr.HL P .nil:=trivial
theorem Tr.ae {P:Program} {l r:Tr} {k:Nat} {v:TI} (hl:l.HL P) (hv:v.ok P k) (hr:r.HL P):Tr.HL P (.node l k v r):=⟨hl,hv,hr⟩
theorem Tr.Eh {P:Program}:∀{tr:Tr},tr.HL P->∀{t:Nat} {i:TI},tr.find t=some i->i.ok P t
 | .nil,_,t,i,h=>by simp[Tr.find] at h
 | .node l k v r,⟨hl,hv,hr⟩,t,i,h=>by
  simp only[Tr.find] at h
  cases h1:Nat.blt t k with
  | true=>rw[h1] at h;exact Tr.Eh hl h
  | false=>
   rw[h1] at h
   cases h2:Nat.blt k t with
   | true=>rw[h2] at h;exact Tr.Eh hr h
   | false=>
    rw[h2] at h;have h1':¬t < k:=fun h=>by rw[←Nat.blt_eq,h1] at h;simp at h
    have h2':¬k < t:=fun h=>by rw[←Nat.blt_eq,h2] at h;simp at h
    have:t=k:=by omega
    subst this;simp at h;subst h;exact hv
def acO (P:Program) (f:FuncId):Bool:=match P.funcs[f]? with
 | some g=>g.body.isSome&&!(g.name== "runtime.NumGoroutine")
 | none=>false
theorem wp_loop_ghost {c:Code} {Q:Exit->Act->World->Prop} (I:Nat->Act->World->Prop) {n0:Nat} {a:Act} {w:World} (h0:I n0 a w)
  (round:∀n a w,I n a w->c.wp P (Exit.then (fun a' w'=>∃n',n' < n/\I n' a' w') Q) a w):(Code.loop c).wp P Q a w:=by
 intro b k cs;have key:∀n a w,I n a w->∃e a' w',Q e a' w'/\Arrives P (lone (b.at a (.code c::.inLoop c::k)) cs w) b k cs e a' w':=by
  intro n
  induction n using Nat.strongRecOn with
  | _ n ih=>
   intro a w hI;obtain⟨e,a1,w1,hq,harr⟩:=round n a w hI b (.inLoop c::k) cs
   cases e with
   | normal=>
    obtain⟨n',hlt,hI1⟩:=hq;obtain⟨e2,a2,w2,hq2,harr2⟩:=ih n' hlt a1 w1 hI1;exact⟨e2,a2,w2,hq2,.of_steps (Steps.trans harr (.one step_inLoop)) harr2⟩
   | exit id=>exact⟨_,a1,w1,hq,.pass (x:=.inLoop c) rfl (fun _ _=>.inl (by simp)) harr⟩
   | goto l=>exact⟨_,a1,w1,hq,.pass (x:=.inLoop c) rfl (fun _ _=>.inl (by simp)) harr⟩
   | ret=>exact⟨_,a1,w1,hq,.pass (x:=.inLoop c) rfl (fun _ _=>.inl (by simp)) harr⟩
   | panic ch=>exact⟨_,a1,w1,hq,.pass (x:=.inLoop c) rfl (fun _ _=>.inl (by simp)) harr⟩
   | outgrown=>exact⟨_,a1,w1,hq,.pass (x:=.inLoop c) rfl (fun _ _=>.inl (by simp)) harr⟩
 obtain⟨e,a',w',hq,harr⟩:=key n0 a w h0;exact⟨e,a',w',hq,.of_steps (.one step_loop) harr⟩
end
end Go.Tp
namespace Go.Tp
abbrev iv (n:Int):ac:=.dat (.flat (.int .i64 n))
abbrev bv (b:Bool):ac:=.dat (.flat (.bool b))
abbrev Heap:=List (Name×aT)
section
variable {w w':World} {R R':Own} {M M' M'':Name->Option Nat}
end
section
variable {P:Program} {G:bJ} {H:Hints} {Ef:au->bG} {A:EM} {C:Zp} {pr:au}
section
variable {wrap:IntKind->Int->Int} {add dif mul:IntKind->Int->Int->Int} {lt eq:Int->Int->Bool} {slt seq:ByteArray->ByteArray->Bool} {cat:ByteArray->ByteArray->Option ByteArray} {elt:List aq->Int->Option aq} {byte:ByteArray->Int->Option UInt8}
 {sub:Nat->List aq->Option Int->Option Int->Option (List aq)} {ssub:ByteArray->Option Int->Option Int->Option ByteArray} {app:Nat->Nat->List aq->List aq->Option (List aq)}
 {key:TypeDesc->Value->List (Value×aq)->Option (Option (Nat×aq))} {len:List aq->Nat} {slen:ByteArray->Nat} {rem quo mx:Int->Int->Int}
end
end
theorem wrap_i64 {n:Int} (h1:-9223372036854775808<=n) (h2:n<=9223372036854775807):IntKind.i64.wrap n=n:=by
 simp[IntKind.wrap,IntKind.signed,IntKind.bits];omega
end Go.Tp
namespace Go.Tp
def UM:Value->Value->Bool
 | .int k n,.int k' n'=>decide (k=k')&&eqZ n n'
 | .string s,.string s'=>eqY s.data.toList s'.data.toList
 | .bool b,.bool b'=>(match b,b' with|true,true=>true|false,false=>true|_,_=>false)
 | .pointer none,.pointer none=>true
 | .map none,.map none=>true
 | .nilFunc,.nilFunc=>true
 | .nilIface,.nilIface=>true
 | .slice none 0 0,.slice none 0 0=>true
 | _,_=>false
where
 eqZ:Int->Int->Bool
  | .ofNat a,.ofNat b=>Nat.beq a b
  | .negSucc a,.negSucc b=>Nat.beq a b
  | _,_=>false
 eqY:List UInt8->List UInt8->Bool
  | [],[]=>true
  | a::l,b::r=>(match Nat.beq a.toNat b.toNat with|true=>eqY l r|false=>false)
  | _,_=>false
theorem Tt {a b:Int} (h:UM.eqZ a b=true):a=b:=by
 unfold UM.eqZ at h
 split at h
 ·rw[Nat.eq_of_beq_eq_true h]
 ·rw[Nat.eq_of_beq_eq_true h]
 simp at h
theorem G4:∀{a b:List UInt8},UM.eqY a b=true->a=b
 | [],[],_=>rfl
 | [],_::_,h=>by simp[UM.eqY] at h
 | _::_,[],h=>by simp[UM.eqY] at h
 | a::l,b::r,h=>by
  unfold UM.eqY at h
  split at h
  ·rename_i hab;rw[UInt8.toNat_inj.1 (Nat.eq_of_beq_eq_true hab),G4 h]
  simp at h
theorem G5 {a b:Value} (h:UM a b=true):a=b:=by
 unfold UM at h
 split at h
 ·simp only[Bool.and_eq_true,decide_eq_true_eq] at h;rw[h.1,Tt h.2]
 ·rename_i s s';obtain⟨⟨l⟩⟩:=s;obtain⟨⟨l'⟩⟩:=s'
  have:=G4 h
  simp at this;rw[this]
 ·split at h <;> simp at h ⊢
 all_goals first|rfl|simp at h
mutual
def NU:aq->aq->Bool
 | .flat v,.flat u=>UM v u
 | .slice es,.slice fs=>vX es fs
 | .agg es,.agg fs=>vX es fs
 | _,_=>false
def vX:List aq->List aq->Bool
 | [],[]=>true
 | a::l,b::r=>(match NU a b with|true=>vX l r|false=>false)
 | _,_=>false
end
mutual
theorem AP:∀{a b:aq},NU a b=true->a=b
 | .flat v,.flat u,h=>by simp only[NU] at h;rw[G5 h]
 | .slice es,.slice fs,h=>by simp only[NU] at h;rw[nf h]
 | .agg es,.agg fs,h=>by simp only[NU] at h;rw[nf h]
 | .flat _,.slice _,h=>by simp[NU] at h
 | .flat _,.agg _,h=>by simp[NU] at h
 | .slice _,.flat _,h=>by simp[NU] at h
 | .slice _,.agg _,h=>by simp[NU] at h
 | .agg _,.flat _,h=>by simp[NU] at h
 | .agg _,.slice _,h=>by simp[NU] at h
theorem nf:∀{a b:List aq},vX a b=true->a=b
 | [],[],_=>rfl
 | [],_::_,h=>by simp[vX] at h
 | _::_,[],h=>by simp[vX] at h
 | a::l,b::r,h=>by
  simp only[vX] at h
  split at h
  ·rename_i hab;rw[AP hab,nf h]
  simp at h
end
def XG:Name->Name->Bool
 | .loc a,.loc b=>Nat.beq a b
 | .out a,.out b=>Nat.beq a b
 | _,_=>false
theorem pY {a b:Name} (h:XG a b=true):a=b:=by
 unfold XG at h
 split at h
 ·rw[Nat.eq_of_beq_eq_true h]
 ·rw[Nat.eq_of_beq_eq_true h]
 simp at h
def acY:Fn->Fn->Bool
 | .func a,.func b=>Nat.beq a b
 | _,_=>false
theorem NR {a b:Fn} (h:acY a b=true):a=b:=by
 unfold acY at h
 split at h
 ·rw[Nat.eq_of_beq_eq_true h]
 simp at h
mutual
def OA:ac->ac->Bool
 | .dat a,.dat b=>NU a b
 | .own a,.own b=>vX a b
 | .ref a,.ref b=>vX a b
 | .ptr n i,.ptr m j=>XG n m&&Nat.beq i j
 | .map n,.map m=>XG n m
 | .win n a b c,.win n' a' b' c'=>XG n n'&&Nat.beq a a'&&Nat.beq b b'&&Nat.beq c c'
 | .fn f a b,.fn f' a' b'=>acY f f'&&xZ a a'&&xZ b b'
 | .agg a,.agg b=>xZ a b
 | .tup a,.tup b=>xZ a b
 | .undef,.undef=>true
 | _,_=>false
def xZ:List ac->List ac->Bool
 | [],[]=>true
 | a::l,b::r=>(match OA a b with|true=>xZ l r|false=>false)
 | _,_=>false
end
mutual
theorem Tv:∀{a b:ac},OA a b=true->a=b
 | .dat a,b,h=>by cases b <;> simp only[OA,Bool.false_eq_true] at h;rw[AP h]
 | .own a,b,h=>by cases b <;> simp only[OA,Bool.false_eq_true] at h;rw[nf h]
 | .ref a,b,h=>by cases b <;> simp only[OA,Bool.false_eq_true] at h;rw[nf h]
 | .ptr n i,b,h=>by cases b <;> simp only[OA,Bool.false_eq_true,Bool.and_eq_true] at h;rw[pY h.1,Nat.eq_of_beq_eq_true h.2]
 | .map n,b,h=>by cases b <;> simp only[OA,Bool.false_eq_true] at h;rw[pY h]
 | .win n x y z,b,h=>by cases b <;> simp only[OA,Bool.false_eq_true,Bool.and_eq_true] at h;rw[pY h.1.1.1,Nat.eq_of_beq_eq_true h.1.1.2,Nat.eq_of_beq_eq_true h.1.2,Nat.eq_of_beq_eq_true h.2]
 | .fn f x y,b,h=>by cases b <;> simp only[OA,Bool.false_eq_true,Bool.and_eq_true] at h;rw[NR h.1.1,iA h.1.2,iA h.2]
 | .agg a,b,h=>by cases b <;> simp only[OA,Bool.false_eq_true] at h;rw[iA h]
 | .tup a,b,h=>by cases b <;> simp only[OA,Bool.false_eq_true] at h;rw[iA h]
 | .undef,b,h=>by cases b <;> simp only[OA,Bool.false_eq_true] at h;rfl
theorem iA:∀{a b:List ac},xZ a b=true->a=b
 | [],[],_=>rfl
 | [],_::_,h=>by simp[xZ] at h
 | _::_,[],h=>by simp[xZ] at h
 | a::l,b::r,h=>by
  simp only[xZ] at h
  split at h
  ·rename_i hab;rw[Tv hab,iA h]
  simp at h
end
def NQ:List (Value×aq)->List (Value×aq)->Bool
 | [],[]=>true
 |(k,d)::l,(k',d')::r=>(match UM k k'&&NU d d' with|true=>NQ l r|false=>false)
 | _,_=>false
theorem CK:∀{a b:List (Value×aq)},NQ a b=true->a=b
 | [],[],_=>rfl
 | [],_::_,h=>by simp[NQ] at h
 | _::_,[],h=>by simp[NQ] at h
 |(k,d)::l,(k',d')::r,h=>by
  simp only[NQ] at h
  split at h
  ·rename_i hab;simp only[Bool.and_eq_true] at hab;rw[G5 hab.1,AP hab.2,CK h]
  simp at h
def eqO:aT->aT->Bool
 | .cells a,.cells b=>xZ a b
 | .map a,.map b=>NQ a b
 | _,_=>false
theorem G6 {a b:aT} (h:eqO a b=true):a=b:=by
 unfold eqO at h
 split at h
 ·rw[iA h]
 ·rw[CK h]
 simp at h
theorem Tu (n:Name):XG n n=true:=by cases n <;> simp[XG]
def GS (n:Name):List (Name×aT)->Option aT
 | []=>none
 |(m,o)::l=>match XG m n with|true=>some o|false=>GS n l
theorem AK {n:Name}:∀{l:List (Name×aT)} {o:aT},GS n l=some o->ev n l=some o
 | [],o,h=>by simp[GS] at h
 |(m,p)::l,o,h=>by
  simp only[GS] at h;simp only[ev]
  split at h
  ·rename_i hm;rw[if_pos (pY hm)];exact h
  rename_i hm;rw[if_neg (fun e=>by rw[e,Tu] at hm;simp at hm)];exact AK h
def vg:List (Name×aT)->List (Name×aT)->Bool
 | [],_=>true
 |(n,o)::l,h=>(match GS n h with
  | some p=>(match eqO o p with|true=>vg l h|false=>false)
  | none=>false)
theorem wG:∀{a b:List (Name×aT)},vg a b=true->UF a b
 | [],_,_=>fun n ob h=>by simp[ev] at h
 |(n,o)::l,b,h=>by
  simp only[vg] at h
  split at h
  ·rename_i p hp
   split at h
   ·rename_i hab;obtain rfl:=G6 hab;intro k ob hk;simp only[ev] at hk
    split at hk
    ·rename_i hkn;simp only[Option.some.injEq] at hk;subst hk;subst hkn;exact AK hp
    exact wG h k ob hk
   simp at h
  simp at h
def JU:(List (Name×aT))->(List (Name×aT))->Bool
 | [],[]=>true
 |(n,o)::l,(m,p)::r=>(match XG n m&&eqO o p with|true=>JU l r|false=>false)
 | _,_=>false
theorem vW:∀{a b:List (Name×aT)},JU a b=true->a=b
 | [],[],_=>rfl
 | [],_::_,h=>by simp[JU] at h
 | _::_,[],h=>by simp[JU] at h
 |(n,o)::l,(m,p)::r,h=>by
  simp only[JU] at h
  split at h
  ·rename_i hab;simp only[Bool.and_eq_true] at hab;rw[pY hab.1,G6 hab.2,vW h]
  simp at h
def BV (k:Nat):Name->Name
 | .loc i=>.loc i
 | .out o=>match Nat.beq o k with
  | true=>.out (k+1)
  | false=>(match Nat.beq o (k+1) with|true=>.out k|false=>.out o)
mutual
def EP (k:Nat):ac->ac
 | .dat d=>.dat d
 | .own es=>.own es
 | .ref cs=>.ref cs
 | .ptr n off=>.ptr (BV k n) off
 | .map n=>.map (BV k n)
 | .win n s off len=>.win (BV k n) s off len
 | .fn f a b=>.fn f (yW k a) (yW k b)
 | .agg cs=>.agg (yW k cs)
 | .tup cs=>.tup (yW k cs)
 | .undef=>.undef
def yW (k:Nat):List ac->List ac
 | []=>[]
 | a::r=>EP k a::yW k r
end
def swO (k:Nat):aT->aT
 | .cells cs=>.cells (yW k cs)
 | .map es=>.map es
def swH (k:Nat):List (Name×aT)->List (Name×aT)
 | []=>[]
 |(n,o)::r=>(BV k n,swO k o)::swH k r
def Kr:List (Name×aT)->List (Name×aT)
 | x::y::r=>y::x::r
 | r=>r
def swS (k:Nat) (s:aa):aa:=⟨yW k s.tmps,swH k s.locs,Kr (swH k s.heap),s.next⟩
theorem nD (k o:Nat):BV k (.out o)=if o=k then .out (k+1) else if o=k+1 then .out k else .out o:=by
 simp only[BV]
 by_cases h1:o=k
 ·subst h1;simp
 have e1:Nat.beq o k=false:=by cases h:Nat.beq o k;rfl;exact absurd (Nat.eq_of_beq_eq_true h) h1
 rw[e1,if_neg h1]
 by_cases h2:o=k+1
 ·subst h2;simp
 have e2:Nat.beq o (k+1)=false:=by cases h:Nat.beq o (k+1);rfl;exact absurd (Nat.eq_of_beq_eq_true h) h2
 simp only[e2,if_neg h2]
theorem ye (k:Nat):∀n,BV k (BV k n)=n
 | .loc _=>rfl
 | .out o=>by
  rw[nD]
  by_cases h1:o=k
  ·subst h1;rw[if_pos rfl,nD];simp
  rw[if_neg h1]
  by_cases h2:o=k+1
  ·subst h2;rw[if_pos rfl,nD];simp
  rw[if_neg h2,nD,if_neg h1,if_neg h2]
section
variable {w:World} {R:Own} {N:Name->Option Nat} {k:Nat}
mutual
theorem al.sw:∀{a:ac} {v:Value} {bs:List Nat},al w R N a v bs->al w R (fun n=>N (BV k n)) (EP k a) v bs
 | .dat _,_,_,h=>by simp only[EP,al] at h ⊢;exact h
 | .own _,_,_,h=>by simp only[EP,al] at h ⊢;exact h
 | .ref _,_,_,h=>by simp only[EP,al] at h ⊢;exact h
 | .ptr n off,_,_,h=>by
  simp only[EP,al] at h ⊢;obtain⟨h0,b,hb,e⟩:=h;exact⟨h0,b,by rw[ye];exact hb,e⟩
 | .map n,_,_,h=>by
  simp only[EP,al] at h ⊢;obtain⟨h0,b,hb,e⟩:=h;exact⟨h0,b,by rw[ye];exact hb,e⟩
 | .win n s off len,_,_,h=>by
  simp only[EP,al] at h ⊢;obtain⟨h0,b,cap,hb,e⟩:=h;exact⟨h0,b,cap,by rw[ye];exact hb,e⟩
 | .fn f a c,_,_,h=>by
  simp only[EP,al] at h ⊢;obtain⟨h0,vs,us,e,h1,h2⟩:=h;exact⟨h0,vs,us,e,ak.sw (as:=a) h1,ak.sw (as:=c) h2⟩
 | .agg cs,_,_,h=>by
  simp only[EP,al] at h ⊢;obtain⟨vs,e,h1⟩:=h;exact⟨vs,e,ak.sw (as:=cs) h1⟩
 | .tup cs,_,_,h=>by
  simp only[EP,al] at h ⊢;obtain⟨vs,e,h1⟩:=h;exact⟨vs,e,ak.sw (as:=cs) h1⟩
 | .undef,_,_,h=>by simp only[EP,al] at h ⊢;exact h
theorem ak.sw:∀{as:List ac} {vs:List Value} {bs:List Nat},ak w R N as vs bs->ak w R (fun n=>N (BV k n)) (yW k as) vs bs
 | [],_,_,h=>by simp only[yW,ak] at h ⊢;exact h
 | a::as,_,_,h=>by
  simp only[yW,ak] at h ⊢;obtain⟨v,vs',b1,b2,e1,e2,h1,h2⟩:=h;exact⟨v,vs',b1,b2,e1,e2,al.sw (a:=a) h1,ak.sw (as:=as) h2⟩
end
theorem yV:∀(a b:List ac),yW k (a++b)=yW k a++yW k b
 | [],b=>rfl
 | x::a,b=>by simp only[List.cons_append,yW,yV a b]
theorem BW:∀(n:Nat),yW k (List.replicate n .undef)=List.replicate n .undef
 | 0=>rfl
 | n+1=>by simp only[List.replicate_succ,yW,EP,BW n]
theorem Jq {a:ac} (h:xV (EP k a)=true):xV a=true:=by
 cases a <;> simp only[EP] at h <;> first|exact h|rfl|simp[xV] at h
theorem Un {cs:List ac} (h:cN (yW k cs)=true):cN cs=true:=by
 match cs with
 | []=>simp[yW,cN] at h
 | [a]=>simp[yW,cN] at h
 | [a,b]=>
  cases b with
  | own es=>simp only[yW,EP,cN] at h ⊢;exact Jq h
  | dat d=>
   simp only[yW,EP] at h;unfold cN at h
   split at h
   ·rename_i heq;simp at heq
   ·rename_i p es heq;simp at heq;obtain⟨rfl,rfl⟩:=heq;exact Jq h
   ·rename_i p heq;simp at heq;obtain⟨rfl,rfl⟩:=heq;exact Jq h
   simp at h
  | _=>simp[yW,EP,cN] at h
 | a::b::c::r=>simp[yW,cN] at h
theorem aU.sw {o:aT} {b:Nat} {bs:List Nat} (h:aU w R N o b bs):aU w R (fun n=>N (BV k n)) (swO k o) b bs:=by
 cases o with
 | cells cs=>
  obtain⟨vs,elem,sp,hb,hr,hR,hsh⟩:=h;refine⟨vs,elem,sp,hb,?_,hR,fun hh=>hsh (Un hh)⟩
  have:=hr.sw (k:=k)
  rwa [yV,BW] at this
 | map es=>exact h
theorem ao.sw:∀{os:List (Name×aT)} {bs:List Nat},ao w R N os bs->ao w R (fun n=>N (BV k n)) (swH k os) bs
 | [],_,h=>h
 |(n,_)::_,_,⟨b,b1,b2,e,hN,h1,h2⟩=>⟨b,b1,b2,e,by show N (BV k (BV k n))=_;rw[ye];exact hN,h1.sw,ao.sw h2⟩
theorem ao.Kr {os:List (Name×aT)} {bs:List Nat} (h:ao w R N os bs):∃bs',ao w R N (Kr os) bs'/\bs'.Perm bs:=by
 match os with
 | []=>exact⟨bs,h,List.Perm.refl _⟩
 | [x]=>exact⟨bs,h,List.Perm.refl _⟩
 |(n,o)::(m,p)::r=>
  obtain⟨b,b1,b2,rfl,hN,h1,c,c1,c2,rfl,hM,h2,h3⟩:=h;refine⟨_,⟨c,c1,_,rfl,hM,h2,b,b1,c2,rfl,hN,h1,h3⟩,?_⟩;rw[List.perm_iff_count];intro q;simp only[List.count_append,List.count_cons];omega
theorem VM:outs (fun n=>N (BV k n))=fun n=>outs N (BV k n):=by
 funext n
 cases n with
 | loc i=>rfl
 | out o=>
  have:∃o',BV k (.out o)=.out o':=by rw[nD];split;exact⟨_,rfl⟩;split;exact⟨_,rfl⟩;exact⟨_,rfl⟩
  obtain⟨o',e⟩:=this;simp only[outs,e]
end
theorem P0 {G:bJ} {k:Nat} {s:aa} (hk:k+1 < s.next):Yq G k (swS k s) s:=by
 intro w R N tmps bsT bsL bsH bsF hr;obtain⟨bsH',hH,hp⟩:=(hr.heap.sw (k:=k)).Kr;refine⟨fun n=>N (BV k n),bsT,bsL,bsH',⟨by simp only[al],hr.tmps.sw,hr.locs.sw,by rw[VM];exact hH,?_,?_,hr.glob,hr.frame⟩,?_⟩
 ·have:=hr.nodup
  simp only[List.nil_append] at this ⊢;refine (List.Perm.nodup_iff ?_).1 this;exact (((hp.symm.append_right bsF).append_left bsL).append_left bsT)
 ·intro o b hb;have hb:N (BV k (.out o))=some b:=hb;rw[nD] at hb;show o < s.next
  split at hb
  ·rename_i h;subst h;omega
  split at hb
  ·rename_i h;subst h;exact hk
  exact hr.next o b hb
 intro o b ho hb;show N (BV k (.out o))=some b;rw[nD,if_neg (by omega),if_neg (by omega)];exact hb
def B6 (s s':aa):Bool:=xZ s.tmps s'.tmps&&JU s.locs s'.locs&&JU s.heap s'.heap&&Nat.beq s.next s'.next
theorem rU {s s':aa} (h:B6 s s'=true):s=s':=by
 unfold B6 at h;simp only[Bool.and_eq_true] at h;obtain⟨t,l,hh,n⟩:=s;obtain⟨t',l',hh',n'⟩:=s';obtain⟨⟨⟨h1,h2⟩,h3⟩,h4⟩:=h;rw[show t=t' from iA h1,show l=l' from vW h2,show hh=hh' from vW h3,show n=n' from Nat.eq_of_beq_eq_true h4]
def MV (k:Nat) (s0 s:aa):Bool:=match B6 s0 s with|true=>true|false=>Nat.blt (k+1) s.next&&B6 s0 (swS k s)
theorem Ca {G:bJ} {k:Nat} {s0 s:aa} (h:MV k s0 s=true):Yq G k s0 s:=by
 unfold MV at h
 split at h
 ·rename_i hs;rw[rU hs];exact fun w R N tmps bsT bsL bsH bsF hr=>⟨N,bsT,bsL,bsH,hr,fun _ _ _ h=>h⟩
 simp only[Bool.and_eq_true,Nat.blt_eq] at h;rw[rU h.2];exact P0 h.1
end Go.Tp
namespace Go.Tp
structure ew where
 val:ac
 heap:Heap
 next:Nat
abbrev jB:=FuncId->List ac->Heap->Nat->Option ew
structure fL where
 code:Code
 ntmps:Nat
 results:List ResultVar
 ord:Nat->ay
 live:Nat->Nat
section
variable (X:jB) (E:bG) (G:bJ) (H:Hints)
def HN (all:List Oper) (o:Oper) (s:aa):Option aa:=
 match dF all s o.guard with
 | none=>none
 | some b=>
  if b=true then
   (match dq o.op with
    | some c=>(match mf E G H c s with
     | some (f,args,s2)=>(match X f args s2.heap s2.next with
      | some r=>some (({s2 with heap:=r.heap,next:=r.next }:aa).put o.dst r.val)
      | none=>none)
     | none=>none)
    | none=>cY E G (readOnly H.moves all o) (lF H all o) o s)
  else some (s.put o.dst (.tup []))
def ER (all:List Oper):List Oper->aa->Option aa
 | [],s=>some s
 | o::rest,s=>(match HN X E G H all o s with|some s'=>ER all rest s'|none=>none)
def HM (fh:Bool) (tk:List Nat) (all:List Oper) (o:Oper) (s:aa):Option aa:=
 match dF all s o.guard with
 | none=>none
 | some b=>
  if b=true then
   (match dq o.op with
    | some c=>(match dM E G H c s with
     | some (f,args,s2)=>(match ik H o with
      | true=>(match X f args [] s2.next with
       | some ⟨v,[],n⟩=>some (({s2 with next:=n }:aa).put o.dst v)
       | _=>none)
      | false=>(match X f args s2.heap s2.next with
       | some r=>(match !mw H o||vg s2.heap r.heap with
        | true=>some (({s2 with heap:=r.heap,next:=r.next }:aa).put o.dst r.val)
        | false=>none)
       | none=>none))
     | none=>none)
    | none=>(match fK o.op with
     | some t=>(match dA fh all (gd all t (lE tk t s)) s with
      | some s1=>cY E G false false o s1
      | none=>none)
     | none=>(match ku o.op with
      | true=>cY E G (readOnly H.moves all o) (lF H all o) o s
      | false=>none)))
  else some (s.put o.dst (.tup []))
def C7 (tk:List Nat) (fh:Bool) (fq:Nat->Bool) (all:List Oper):List (Nat×Bool)->aa->Option aa
 | [],s=>some s
 |(i,lone)::r,s=>
  match all[i]? with
  | none=>none
  | some o=>
   if lone=true then (match HM X E G H fh tk all o s with|some s'=>C7 tk fh fq all r s'|none=>none)
   else (match fp E G (fh||fq i) all o s with
    | some a=>C7 tk fh fq all r (s.put o.dst a)
    | none=>none)
def Da (all:List Oper):Nat->Array Bool->aa->Option aa
 | 0,_,s=>some s
 | m+1,listed,s=>match Region.ready .any all.toArray listed with
  | []=>some s
  | i::_=>(match all[i]? with
   | some o=>(match HN X E G H all o s with|some s1=>Da all m (bW listed i) s1|none=>none)
   | none=>none)
def rS (all:List Oper) (k:Nat) (s0:aa):Nat->Array Bool->aa->Bool
 | 0,listed,s=>(Region.ready .any all.toArray listed).isEmpty&&MV k s0 s
 | m+1,listed,s=>match Region.ready .any all.toArray listed with
  | []=>MV k s0 s
  | i::l=>(i::l).all fun i=>match all[i]? with
   | some o=>(match HN X E G H all o s with|some s1=>rS all k s0 m (bW listed i) s1|none=>false)
   | none=>false
def rm:List Bool->List Bool->Bool
 | [],[]=>true
 | true::l,true::r=>rm l r
 | false::l,false::r=>rm l r
 | _,_=>false
def C9 (h:ay) (all:List Oper):Nat->Array Bool->aa->Option aa
 | 0,_,s=>some s
 | m+1,listed,s=>match Region.ready .any all.toArray listed with
  | []=>none
  | i::_=>(match all[i]? with
   | some o=>(match HM X E G H (aV H all h.pre) h.tk all o s with|some s1=>C9 h all m (bW listed i) s1|none=>none)
   | none=>none)
def rR (h:ay) (all:List Oper) (p:Array Bool) (s0:aa):Nat->Array Bool->aa->Bool
 | 0,listed,s=>rm listed.toList p.toList&&B6 s0 s
 | m+1,listed,s=>!rm listed.toList p.toList&&!(Region.ready .any all.toArray listed).isEmpty&&(Region.ready .any all.toArray listed).all fun i=>h.pre.contains (i,true)&&(match all[i]? with
   | some o=>(match HM X E G H (aV H all h.pre) h.tk all o s with|some s1=>rR h all p s0 m (bW listed i) s1|none=>false)
   | none=>false)
def yK (all:List Oper) (h:ay) (s:aa):Option aa:=
 match C7 X E G H h.tk (aV H all h.pre) (quietAt H all h.pre) all (bY h.pre) s with
 | some s1=>(match C9 X E G H h all (h.pre.length - (bY h.pre).length) (ee (bY h.pre) (Array.replicate all.length false)) s1 with
  | some s0=>(match rR X E G H h all (ee h.pre (Array.replicate all.length false)) s0 (h.pre.length - (bY h.pre).length) (ee (bY h.pre) (Array.replicate all.length false)) s1 with
   | true=>(match iE E all h.nw s0 with
    | some s2=>ER X E G H all (dO all h.tail) s2
    | none=>none)
   | false=>none)
  | none=>none)
 | none=>none
def Kn (all:List Oper) (h:ay) (s:aa):Option aa:=
 if gA h=true then (match Da X E G H all all.length (Array.replicate all.length false) s with
  | some s0=>(match rS X E G H all s.next s0 all.length (Array.replicate all.length false) s with|true=>some s0|false=>none)
  | none=>none)
 else
 if hC h=true then yK X E G H all (fY h) s else
 match C7 X E G H h.tk (aV H all h.pre) (quietAt H all h.pre) all h.pre s with
 | some s1=>(match iE E all h.nw s1 with
  | some s2=>ER X E G H all (dO all h.tail) s2
  | none=>none)
 | none=>none
def UN (rs:List ResultVar) (s:aa):Option ew:=
 match ia E s rs with
 | none=>none
 | some vs=>
  if bS (jK vs)=true then some ⟨pack (jK vs),s.heap,s.next⟩
  else match im (repeatL s.locs.length (mU s.locs)) s (jK vs) with
   |(s',vs')=>if bS vs'=true then some ⟨pack vs',s'.heap,s'.next⟩ else none
end
def XQ (r:ew):ac->Heap->Nat->Prop:=fun v h n=>v=r.val/\h=r.heap/\n=r.next
section
variable {P:Program} {X:jB} {E:bG} {G:bJ} {H:Hints}
def HI (P:Program) (G:bJ) (X:jB):Prop:=∀f args heap next r,X f args heap next=some r->aC P G f args heap next (XQ r)
theorem yJ (hX:HI P G X) {all:List Oper} {o:Oper} {s s':aa} (h:HN X E G H all o s=some s') {K:aa->Prop} (hK:K s'):mE (aC P G) E G H all o K s:=by
 unfold HN at h;unfold mE
 split at h
 ·simp at h
 rename_i b hb;rw[hb];dsimp only
 split at h
 ·rename_i hb1;rw[if_pos hb1]
  split at h
  ·rename_i c hc;rw[hc];dsimp only
   split at h
   ·rename_i f args s2 hcal;rw[hcal];dsimp only
    split at h
    ·rename_i r hr;simp at h;refine (hX _ _ _ _ _ hr).mono ?_;rintro v hh n ⟨rfl,rfl,rfl⟩ _ _;rw[h];exact hK
    simp at h
   simp at h
  rename_i hc;rw[hc];dsimp only;rw[h];exact hK
 rename_i hb1;rw[if_neg hb1];simp at h;rw[h];exact hK
theorem nA (hX:HI P G X) {all:List Oper} {K:aa->Prop}:∀{ops:List Oper} {s s':aa},ER X E G H all ops s=some s'->K s'->mD (aC P G) E G H all K ops s
 | [],s,s',h,hK=>by simp[ER] at h;subst h;exact hK
 | o::rest,s,s',h,hK=>by
  simp only[ER] at h;simp only[mD,iX]
  split at h
  ·rename_i s1 h1;exact yJ hX h1 (nA hX h hK)
  simp at h
theorem yI (hX:HI P G X) {fh:Bool} {tk:List Nat} {all:List Oper} {o:Oper} {s s':aa} (h:HM X E G H fh tk all o s=some s') {K:aa->Prop} (hK:K s'):Na (aC P G) E G H fh tk all o K s:=by
 unfold HM at h;unfold Na
 split at h
 ·simp at h
 rename_i b hb;rw[hb];dsimp only
 split at h
 ·rename_i hb1;rw[if_pos hb1]
  split at h
  ·rename_i c hc;rw[hc];dsimp only
   split at h
   ·rename_i f args s2 hcal;rw[hcal];dsimp only
    cases hpu:ik H o with
    | true=>
     rw[hpu] at h;dsimp only at h ⊢
     split at h
     ·rename_i v n hr;simp at h;refine (hX _ _ _ _ _ hr).mono ?_;rintro v hh n ⟨rfl,rfl,rfl⟩ _ _;exact⟨rfl,by rw[h];exact hK⟩
     simp at h
    | false=>
     rw[hpu] at h;dsimp only at h ⊢
     split at h
     ·rename_i r hr
      split at h
      ·rename_i hst;simp at h;refine (hX _ _ _ _ _ hr).mono ?_;rintro v hh n ⟨rfl,rfl,rfl⟩ _ _;refine⟨fun hrd=>?_,by rw[h];exact hK⟩;rw[hrd] at hst;exact wG (by simpa using hst)
      simp at h
     simp at h
   simp at h
  rename_i hc;rw[hc];dsimp only
  split at h
  ·rename_i t ht;rw[ht];dsimp only
   split at h
   ·rename_i s1 hs1;rw[hs1];dsimp only;rw[h];exact hK
   simp at h
  rename_i ht;rw[ht];dsimp only
  split at h
  ·rename_i hst;rw[hst];dsimp only;rw[h];exact hK
  simp at h
 rename_i hb1;rw[if_neg hb1];simp at h;rw[h];exact hK
theorem ny (hX:HI P G X) {tk:List Nat} {fh:Bool} {fq:Nat->Bool} {all:List Oper} {T:aa->Prop}:∀{l:List (Nat×Bool)} {s s':aa},C7 X E G H tk fh fq all l s=some s'->T s'->mc (aC P G) E G H tk fh fq all T l s
 | [],s,s',h,hK=>by simp[C7] at h;subst h;exact hK
 |(i,lone)::rest,s,s',h,hK=>by
  simp only[C7] at h;simp only[mc]
  split at h
  ·simp at h
  rename_i o ho;rw[ho];dsimp only;simp only[iX]
  split at h
  ·rename_i hl;rw[if_pos hl]
   split at h
   ·rename_i s1 h1;exact yI hX h1 (ny hX h hK)
   simp at h
  rename_i hl;rw[if_neg hl]
  split at h
  ·rename_i a ha;rw[ha];exact ny hX h hK
  simp at h
theorem sZ (hX:HI P G X) {all:List Oper} {k:Nat} {s0:aa} {Q:aa->Prop} (hQ:Q s0):∀(m:Nat) (listed:Array Bool) (s:aa),rS X E G H all k s0 m listed s=true->oV (aC P G) E G H all (fun s'=>∃s0,Q s0/\Yq G k s0 s') m listed s
 | 0,listed,s,h=>by
  simp only[rS,Bool.and_eq_true,List.isEmpty_iff] at h;exact⟨h.1,s0,hQ,Ca h.2⟩
 | m+1,listed,s,h=>by
  simp only[rS] at h;simp only[oV]
  split at h
  ·rename_i he;exact .inl ⟨he,s0,hQ,Ca h⟩
  rename_i i l he;refine .inr ⟨by rw[he];simp,?_⟩;rw[he];intro j hj;have h1:=List.all_eq_true.1 h j hj
  split at h1
  ·rename_i o ho
   split at h1
   ·rename_i s1 hs1;exact⟨o,ho,yJ hX hs1 (sZ hX hQ m _ s1 h1)⟩
   simp at h1
  simp at h1
theorem kQ:∀{a b:List Bool},rm a b=true↔a=b
 | [],[]=>by simp[rm]
 | [],_::_=>by simp[rm]
 | _::_,[]=>by simp[rm]
 | true::l,true::r=>by simp[rm,kQ (a:=l) (b:=r)]
 | false::l,false::r=>by simp[rm,kQ (a:=l) (b:=r)]
 | true::l,false::r=>by simp[rm]
 | false::l,true::r=>by simp[rm]
theorem sY (hX:HI P G X) {h:ay} {all:List Oper} {p:Array Bool} {s0:aa} {K:aa->Prop} (hK:K s0):∀(m:Nat) (listed:Array Bool) (s:aa),rR X E G H h all p s0 m listed s=true->wq (aC P G) E G H h all p K m listed s
 | 0,listed,s,hh=>by
  simp only[rR,Bool.and_eq_true] at hh;refine⟨Array.ext' (kQ.1 hh.1),?_⟩;rw[←rU hh.2];exact hK
 | m+1,listed,s,hh=>by
  simp only[rR,Bool.and_eq_true,Bool.not_eq_true'] at hh;obtain⟨⟨h1,h2⟩,h3⟩:=hh;refine⟨fun e=>?_,fun e=>by rw[e] at h2;simp at h2,fun i hi=>?_⟩
  ·rw[e,kQ.2 rfl] at h1;simp at h1
  have h4:=List.all_eq_true.1 h3 i hi;simp only[Bool.and_eq_true] at h4;refine⟨by simpa using h4.1,?_⟩;have h5:=h4.2
  split at h5
  ·rename_i o ho
   split at h5
   ·rename_i s1 hs1;exact⟨o,ho,yI hX hs1 (sY hX hK m _ s1 h5)⟩
   simp at h5
  simp at h5
theorem Db (hX:HI P G X) {all:List Oper} {h:ay} {s s':aa} (hh:yK X E G H all h s=some s') {Q:aa->Prop} (hQ:Q s'):Bn (aC P G) E G H all h Q s:=by
 unfold yK at hh;unfold Bn
 split at hh
 ·rename_i s1 h1;refine ny hX h1 ?_
  split at hh
  ·rename_i s0 _
   split at hh
   ·rename_i h2;refine sY hX ?_ _ _ _ h2
    split at hh
    ·rename_i s2 h3;rw[h3];exact nA hX hh hQ
    simp at hh
   simp at hh
  simp at hh
 simp at hh
theorem ES (hX:HI P G X) {all:List Oper} {h:ay} {s s':aa} (hh:Kn X E G H all h s=some s') {Q:aa->Prop} (hQ:Q s'):Bo (aC P G) E G H all h Q s:=by
 unfold Kn at hh;unfold Bo
 by_cases hx:gA h=true
 ·rw[if_pos hx] at hh;rw[if_pos hx]
  split at hh
  ·rename_i s0 _
   split at hh
   ·rename_i h2;simp only[Option.some.injEq] at hh;subst hh;exact sZ hX hQ _ _ _ h2
   simp at hh
  simp at hh
 rw[if_neg hx] at hh;rw[if_neg hx]
 by_cases hlm:hC h=true
 ·rw[if_pos hlm] at hh;rw[if_pos hlm];exact Db hX hh hQ
 rw[if_neg hlm] at hh;rw[if_neg hlm]
 split at hh
 ·rename_i s1 h1;refine ny hX h1 ?_
  split at hh
  ·rename_i s2 h2;rw[h2];exact nA hX hh hQ
  simp at hh
 simp at hh
theorem rQ {rs:List ResultVar} {s:aa} {r:ew} (h:UN E rs s=some r):yc E rs (XQ r) s:=by
 unfold UN at h;unfold yc
 split at h
 ·simp at h
 rename_i vs hvs;rw[hvs];dsimp only
 split at h
 ·rename_i hn;rw[if_pos hn];simp at h;subst h;exact⟨rfl,rfl,rfl⟩
 rename_i hn;rw[if_neg hn]
 split at h
 rename_i s' vs' he;rw[he];dsimp only
 split at h
 ·rename_i hn2;rw[if_pos hn2];simp at h;subst h;exact⟨rfl,rfl,rfl⟩
 simp at h
def FOk (P:Program) (moves caps:FuncId->Bool) (F:FuncId->Option fL):Prop:=
 ∀f x,F f=some x->∃fn:Func,P.funcs[f]?=some fn/\fn.body=some x.code/\fn.ntmps=x.ntmps/\fn.results.toList=x.results/\cR ⟨moves,x.ord,caps,false⟩ x.code=true
end
def fL.of (fn:Func) (ord:Nat->ay) (live:Nat->Nat):fL:=⟨match fn.body with|some c=>c|none=>.skip,fn.ntmps,fn.results.toList,ord,live⟩
inductive aO where
 |nil
 |node (l:aO) (k:Nat) (fn:Func) (ord:Nat->ay) (live:Nat->Nat) (r:aO)
def aO.find:aO->Nat->Option fL
 | .nil,_=>none
 | .node l k fn ord live r,t=>match Nat.blt t k with
  | true=>l.find t
  | false=>(match Nat.blt k t with|true=>r.find t|false=>some (fL.of fn ord live))
def EG (moves caps:FuncId->Bool) (fn:Func) (ord:Nat->ay):Bool:=
 match fn.body with
 | some c=>cR ⟨moves,ord,caps,false⟩ c
 | none=>false
def aD (P:Program) (moves caps:FuncId->Bool) (k:Nat) (fn:Func) (ord:Nat->ay):Prop:=P.funcs[k]?=some fn/\EG moves caps fn ord=true
theorem aj {P:Program} {moves caps:FuncId->Bool} {k:Nat} {fn:Func} {ord:Nat->ay} (h1:P.funcs[k]?=some fn) (h2:EG moves caps fn ord=true):aD P moves caps k fn ord:=⟨h1,h2⟩
def aO.HL (P:Program) (moves caps:FuncId->Bool):aO->Prop
 | .nil=>True
 | .node l k fn ord _ r=>l.HL P moves caps/\aD P moves caps k fn ord/\r.HL P moves caps
theorem aO.all_nil {P:Program} {moves caps:FuncId->Bool}:aO.HL P moves caps .nil:=trivial
theorem aO.ae {P:Program} {moves caps:FuncId->Bool} {l r:aO} {k:Nat} {fn:Func} {ord:Nat->ay} {live:Nat->Nat} (h1:l.HL P moves caps) (h2:aD P moves caps k fn ord) (h3:r.HL P moves caps):aO.HL P moves caps (.node l k fn ord live r):=⟨h1,h2,h3⟩
theorem aO.ok {P:Program} {moves caps:FuncId->Bool}:∀{t:aO},t.HL P moves caps->FOk P moves caps t.find
 | .nil,_=>by intro f x h;simp[aO.find] at h
 | .node l k fn ord live r,⟨h1,h2,h3⟩=>by
  intro f x h;simp only[aO.find] at h
  cases h1':Nat.blt f k with
  | true=>rw[h1'] at h;exact aO.ok h1 f x h
  | false=>
   rw[h1'] at h
   cases h2':Nat.blt k f with
   | true=>rw[h2'] at h;exact aO.ok h3 f x h
   | false=>
    rw[h2'] at h;have a:¬ @LT.lt Nat _ f k:=fun h=>by rw[←Nat.blt_eq,h1'] at h;simp at h
    have b:¬ @LT.lt Nat _ k f:=fun h=>by rw[←Nat.blt_eq,h2'] at h;simp at h
    have hk:@Eq Nat f k:=by omega
    subst hk;simp at h;subst h;obtain⟨g1,g2⟩:=h2;refine⟨fn,g1,?_,rfl,rfl,?_⟩
    ·unfold EG at g2;simp only[fL.of]
     cases hb:fn.body with
     | none=>rw[hb] at g2;simp at g2
     | some c=>rfl
    unfold EG at g2;simp only[fL.of]
    cases hb:fn.body with
    | none=>rw[hb] at g2;simp at g2
    | some c=>rw[hb] at g2;exact g2
end Go.Tp
namespace Go.Tp
def dv:List UInt8->List UInt8->Bool
 | [],[]=>true
 | a::x,b::y=>(match Nat.beq a.toNat b.toNat with|true=>dv x y|false=>false)
 | _,_=>false
def jE:List UInt8->List UInt8->Bool
 | _,[]=>false
 | [],_::_=>true
 | a::x,b::y=>(match Nat.blt a.toNat b.toNat with
  | true=>true
  | false=>(match Nat.beq a.toNat b.toNat with|true=>jE x y|false=>false))
theorem Ke (a b:UInt8):Nat.beq a.toNat b.toNat=(a==b):=by
 rw[Bool.eq_iff_iff,Nat.beq_eq,beq_iff_eq];exact⟨UInt8.toNat_inj.1,fun h=>by rw[h]⟩
theorem Um (a b:UInt8):Nat.blt a.toNat b.toNat=decide (a < b):=by
 rw[Bool.eq_iff_iff,Nat.blt_eq,decide_eq_true_eq];exact UInt8.lt_iff_toNat_lt.symm
theorem io:∀x y,dv x y=(x==y)
 | [],[]=>rfl
 | [],_::_=>rfl
 | _::_,[]=>rfl
 | a::x,b::y=>by
  simp only[dv,Ke,io x y]
  cases h:a==b <;> simp_all
theorem I2:∀x y,jE x y=Op.bytesLess x y
 | [],[]=>rfl
 | [],_::_=>rfl
 | _::_,[]=>rfl
 | a::x,b::y=>by
  simp only[jE,Um,Ke,I2 x y,Op.bytesLess]
  cases decide (a < b) <;> cases h:a==b <;> simp_all
theorem toList_data (x:ByteArray):x.toList=x.data.toList:=ByteArray.toList_eq x
def aG (k:IntKind) (n:Int):Int:=
 match k with
 | .i64=>(match n with
  | .ofNat m=>(match Nat.blt m 9223372036854775808 with|true=>.ofNat m|false=>k.wrap n)
  | .negSucc m=>(match Nat.blt m 9223372036854775808 with|true=>.negSucc m|false=>k.wrap n))
 | .u8=>(match n with
  | .ofNat m=>(match Nat.blt m 256 with|true=>.ofNat m|false=>k.wrap n)
  | .negSucc _=>k.wrap n)
 | .u64=>(match n with
  | .ofNat m=>(match Nat.blt m 18446744073709551616 with|true=>.ofNat m|false=>k.wrap n)
  | .negSucc _=>k.wrap n)
 | _=>k.wrap n
theorem fS {a b:Nat} (h:a<=b):Nat.ble a b=true:=by rw[Nat.ble_eq];exact h
theorem fH {a b:Nat} (h:Nat.ble a b=true):a<=b:=by rwa [Nat.ble_eq] at h
theorem qi {a b:Nat} (h:Nat.blt a b=true):a < b:=by rwa [Nat.blt_eq] at h
theorem dR (k:IntKind) (n:Int):aG k n=k.wrap n:=by
 unfold aG
 split
 ·split
  ·split
   ·rename_i m h;have h:=qi h;simp[IntKind.wrap,IntKind.signed,IntKind.bits];omega
   rfl
  rename_i m
  split
  ·rename_i h;have h:=qi h;have e:(Int.negSucc m:Int)=-(m:Int) - 1:=by rw[Int.negSucc_eq];omega
   exact (wrap_i64 (by rw[e];omega) (by rw[e];omega)).symm
  rfl
 ·split
  ·split
   ·rename_i m h;have h:=qi h;simp[IntKind.wrap,IntKind.signed,IntKind.bits];omega
   rfl
  rfl
 ·split
  ·split
   ·rename_i m h;have h:=qi h;simp[IntKind.wrap,IntKind.signed,IntKind.bits];omega
   rfl
  rfl
 rfl
def bn (a b:Int):Bool:=
 match a,b with
 | .ofNat x,.ofNat y=>Nat.blt x y
 | .negSucc x,.negSucc y=>Nat.blt y x
 | .negSucc _,.ofNat _=>true
 | .ofNat _,.negSucc _=>false
theorem gr (a b:Int):bn a b=decide (a < b):=by
 cases a <;> cases b <;> simp only[bn] <;> rw[Bool.eq_iff_iff] <;> simp[Nat.blt_eq] <;> omega
def aQ (a b:Int):Bool:=
 match a,b with
 | .ofNat x,.ofNat y=>Nat.beq x y
 | .negSucc x,.negSucc y=>Nat.beq x y
 | .negSucc _,.ofNat _=>false
 | .ofNat _,.negSucc _=>false
theorem gV (a b:Int):aQ a b=(a==b):=by
 cases a <;> cases b <;> simp only[aQ] <;> rw[Bool.eq_iff_iff] <;> simp <;> omega
def tu:TypeDesc->Value->Value->Option Bool
 | .string,.string a,.string b=>some (dv a.data.toList b.data.toList)
 | td,a,b=>Instr.sameNow td a b
theorem PI (td:TypeDesc) (a b:Value):tu td a b=Instr.sameNow td a b:=by
 unfold tu
 split
 ·rename_i x y;simp only[Instr.sameNow,io,Option.some.injEq];obtain⟨⟨a⟩⟩:=x;obtain⟨⟨b⟩⟩:=y;have e:((⟨⟨a⟩⟩:ByteArray)==⟨⟨b⟩⟩)=((Array.mk a)==(Array.mk b)):=rfl;rw[e];simp
 rfl
def findF (td:TypeDesc) (k:Value):List (Value×aq)->Nat->Option (Option (Nat×aq))
 | [],_=>some none
 |(x,d)::es,i=>
  match tu td k x with
  | some true=>some (some (i,d))
  | some false=>findF td k es (i+1)
  | none=>none
theorem GU (td:TypeDesc) (k:Value):∀es i,findF td k es i=findKey td k es i
 | [],_=>rfl
 |(x,d)::es,i=>by
  simp only[findF,findKey,PI]
  cases h:Instr.sameNow td k x with
  | none=>rfl
  | some b=>cases b <;> simp[GU td k es]
def sizedB (size:Nat):List aq->Bool
 | []=>true
 | d::r=>(match Nat.beq d.cells.length size with|true=>sizedB size r|false=>false)
theorem gg {size:Nat}:∀{l:List aq},sizedB size l=true↔∀d∈l,d.cells.length=size
 | []=>by simp[sizedB]
 | d::r=>by
  simp only[sizedB]
  split
  ·rename_i h;rw[Nat.beq_eq] at h;rw[gg];simp[h]
  rename_i h
  have:¬d.cells.length=size:=fun e=>by rw[←Nat.beq_eq] at e;rw[e] at h;simp at h
  simp[this]
def D6 {α:Type}:List α->Nat->Option α
 | [],_=>none
 | a::_,0=>some a
 | _::r,n+1=>D6 r n
theorem uj {α:Type}:∀(l:List α) (n:Nat),D6 l n=l[n]?
 | [],_=>by simp[D6]
 | _::_,0=>by simp[D6]
 | _::r,n+1=>by simp[D6,uj r n]
def au.aI:au where
 wrap:=aG
 add k a b:=aG k (a+b)
 dif k a b:=aG k (a - b)
 mul k a b:=aG k (a*b)
 lt:=bn
 eq:=aQ
 slt x y:=jE x.data.toList y.data.toList
 seq x y:=dv x.data.toList y.data.toList
 cat x y:=(match Nat.ble (x.size+y.size) 9223372036854775807 with|true=>some ⟨⟨x.data.toList++y.data.toList⟩⟩|false=>none)
 elt es i:=(match i with|.ofNat n=>D6 es n|.negSucc _=>none)
 byte s i:=(match i with|.ofNat n=>D6 s.data.toList n|.negSucc _=>none)
 sub size es lo hi:=(match sizedB size es,Nat.blt 0 size with
   | true,true=>(match cP hi es.length,cP lo 0 with
    | some h,some l=>(match Nat.ble l h,Nat.ble h es.length with|true,true=>some ((es.take h).drop l)|_,_=>none)
    | _,_=>none)
   | _,_=>none)
 ssub:=au.mL.ssub
 app size bytes es ds:=(match size with
   | 0=>none
   | s+1=>(match sizedB (s+1) ds,sizedB (s+1) es,Nat.blt 0 bytes,Nat.ble ((es.length+ds.length)*bytes) 140737488355328,Nat.ble (es.length+ds.length) lim with
    | true,true,true,true,true=>some (es++ds)
    | _,_,_,_,_=>none))
 key td k es:=findF td k es 0
 len:=List.length
 slen:=ByteArray.size
 rem:=Int.tmod
 quo:=Int.tdiv
 mx x y:=(match bn x y with|true=>y|false=>x)
theorem To:au.aI=au.mL:=by
 unfold au.aI au.mL;congr 1
 ·funext k n;exact dR k n
 ·funext k a b;exact dR k _
 ·funext k a b;exact dR k _
 ·funext k a b;exact dR k _
 ·funext a b;exact gr a b
 ·funext a b;exact gV a b
 ·funext x y;rw[I2,toList_data,toList_data]
 ·funext x y;rw[io,toList_data,toList_data]
 ·funext x y
  have hm:IntKind.i64.max=9223372036854775807:=by decide
  have hc:(⟨⟨x.data.toList++y.data.toList⟩⟩:ByteArray)=x++y:=by
   have e:x++y=⟨x.data++y.data⟩:=by
    cases x;cases y;simp[ByteArray.ext_iff]
   rw[e]
   cases x;cases y;simp
  rw[hc,hm]
  split
  ·rename_i h;rw[Nat.ble_eq] at h;rw[if_neg (by omega)]
  rename_i h
  have:¬x.size+y.size<=9223372036854775807:=fun e=>by rw[←Nat.ble_eq] at e;rw[e] at h;simp at h
  rw[if_pos (by omega)]
 ·funext es i
  cases i with
  | ofNat n=>simp[uj]
  | negSucc n=>rfl
 ·funext s i
  cases i with
  | ofNat n=>
   simp only[uj];rw[if_pos (show (0:Int)<=Int.ofNat n from Int.natCast_nonneg n)]
   by_cases h:n < s.size
   ·rw[show (Int.ofNat n).toNat=n from rfl,getElem?_pos s n h];have h2:n < s.data.toList.length:=by simpa using h
    rw[List.getElem?_eq_getElem h2];simp[ByteArray.getElem_eq_getElem_data]
   rw[show (Int.ofNat n).toNat=n from rfl,getElem?_neg s n h,List.getElem?_eq_none (by simpa using h)]
  | negSucc n=>rfl
 ·funext size es lo hi
  by_cases h1:∀d∈es,d.cells.length=size
  ·rw[gg.2 h1]
   by_cases h2:0 < size
   ·rw[if_pos ⟨h1,h2⟩,show Nat.blt 0 size=true from by rw[Nat.blt_eq];exact h2];dsimp only
    cases cP hi es.length with
    | none=>rfl
    | some h=>
     cases cP lo 0 with
     | none=>rfl
     | some l=>
      dsimp only
      by_cases h3:l<=h <;> by_cases h4:h<=es.length
      ·rw[if_pos ⟨h3,h4⟩,fS h3,fS h4]
      ·rw[if_neg (fun h=>h4 h.2),fS h3,show Nat.ble h es.length=false from by rw[Bool.eq_false_iff];intro e;exact h4 (fH e)]
      ·rw[if_neg (fun h=>h3 h.1),show Nat.ble l h=false from by rw[Bool.eq_false_iff];intro e;exact h3 (fH e)]
      rw[if_neg (fun h=>h3 h.1),show Nat.ble l h=false from by rw[Bool.eq_false_iff];intro e;exact h3 (fH e)]
   rw[if_neg (fun h=>h2 h.2),show Nat.blt 0 size=false from by rw[Bool.eq_false_iff];intro e;exact h2 (by rwa [Nat.blt_eq] at e)]
  rw[if_neg (fun h=>h1 h.1),show sizedB size es=false from by rw[Bool.eq_false_iff];intro e;exact h1 (gg.1 e)]
 ·funext size bytes es ds
  cases size with
  | zero=>rfl
  | succ s=>
   dsimp only
   by_cases hc:(∀d∈ds,d.cells.length=s+1)/\(∀d∈es,d.cells.length=s+1)/\0 < bytes/\(es.length+ds.length)*bytes<=140737488355328/\es.length+ds.length<=lim
   ·rw[gg.2 hc.1,gg.2 hc.2.1,show Nat.blt 0 bytes=true from by rw[Nat.blt_eq];exact hc.2.2.1,fS hc.2.2.2.1,fS hc.2.2.2.2];exact (if_pos hc).symm
   rw[if_neg hc]
   split
   ·rename_i a1 a2 a3 a4 a5;rw[Nat.blt_eq] at a3;exact absurd ⟨gg.1 a1,gg.1 a2,a3,fH a4,fH a5⟩ hc
   rfl
 ·funext td k es;exact GU td k es 0
 funext x y
 rw[gr]
 by_cases h:x < y <;> simp[h]
end Go.Tp
namespace Go.Tp
abbrev Sl:=List (Nat×ac)
structure ab where
 sl:Sl
 locs:Heap
 heap:Heap
 next:Nat
noncomputable def rh (l:Sl) (t:Nat):ac:=
 @List.rec (Nat×ac) (fun _=>ac) .undef (fun p _ ih=>@Bool.rec (fun _=>ac) ih p.2 (Nat.beq p.1 t)) l
theorem AD (t:Nat):rh [] t=.undef:=rfl
theorem iw (d:Nat) (v:ac) (r:Sl) (t:Nat):rh ((d,v)::r) t=if d=t then v else rh r t:=by
 have e:rh ((d,v)::r) t=@Bool.rec (fun _=>ac) (rh r t) v (Nat.beq d t):=rfl;rw[e]
 by_cases h:d=t
 ·have:Nat.beq d t=true:=by rw[Nat.beq_eq];exact h
  rw[this,if_pos h]
 have:Nat.beq d t=false:=by rw[Bool.eq_false_iff];intro hc;rw[Nat.beq_eq] at hc;exact h hc
 rw[this,if_neg h]
noncomputable def Gb:Nat->Nat->Sl->List ac
 | 0,_,_=>[]
 | n+1,k,l=>rh l k::Gb n (k+1) l
theorem nM:∀(n k:Nat) (l:Sl),(Gb n k l).length=n
 | 0,_,_=>rfl
 | n+1,k,l=>by simp[Gb,nM n]
theorem lR:∀(n k:Nat) (l:Sl) (t:Nat),(Gb n k l)[t]?=if t < n then some (rh l (k+t)) else none
 | 0,_,_,_=>by simp[Gb]
 | n+1,k,l,0=>by simp[Gb]
 | n+1,k,l,t+1=>by
  simp only[Gb,List.getElem?_cons_succ,lR n (k+1) l t];rw[show k+1+t=k+(t+1) by omega]
  by_cases h:t < n
  ·rw[if_pos h,if_pos (by omega)]
  rw[if_neg h,if_neg (by omega)]
theorem DL (n:Nat) (l:Sl) (d:Nat) (v:ac):(Gb n 0 l).set d v=Gb n 0 ((d,v)::l):=by
 apply List.ext_getElem?
 intro i;rw[List.getElem?_set,nM,lR,lR,Nat.zero_add,iw]
 by_cases h:d=i
 ·subst h;simp
 rw[if_neg h,if_neg h]
noncomputable def BE (f:ac->ac) (l:Sl):Sl:=@List.rec (Nat×ac) (fun _=>Sl) [] (fun p _ ih=>(p.1,f p.2)::ih) l
theorem Gg {f:ac->ac} (hf:f .undef=.undef) (t:Nat):∀l:Sl,rh (BE f l) t=f (rh l t)
 | []=>by rw[show BE f []=[] from rfl,AD,hf]
 |(d,v)::r=>by
  have e:BE f ((d,v)::r)=(d,f v)::BE f r:=rfl;rw[e,iw,iw]
  split
  ·rfl
  exact Gg hf t r
theorem qG {f:ac->ac} (hf:f .undef=.undef):∀(n k:Nat) (l:Sl),(Gb n k l).map f=Gb n k (BE f l)
 | 0,_,_=>rfl
 | n+1,k,l=>by simp only[Gb,List.map_cons,Gg hf,qG hf n]
def sg (n:Name) (a:ac):ac:=if mentions n a=true then .undef else a
theorem sh (n:Name):∀l,de n l=l.map (sg n)
 | []=>rfl
 | a::r=>by rw[de,sh n r];rfl
theorem GJ (n:Name) (ds:List aq):∀l,il n ds l=l.map (xX n ds)
 | []=>by simp[il]
 | a::r=>by simp[il,GJ n ds r]
theorem zG (n m:Name):∀l,eG n m l=l.map (tz n m)
 | []=>by simp[eG]
 | a::r=>by simp[eG,zG n m r]
noncomputable def ab.aw (n:Nat) (f:ab):aa:=⟨Gb n 0 f.sl,f.locs,f.heap,f.next⟩
section
variable (E:bG) (G:bJ) (H:Hints) (n:Nat)
noncomputable def rl (f:ab) (t:Nat):ac:=@Bool.rec (fun _=>ac) .undef (rh f.sl t) (Nat.blt t n)
theorem jH (f:ab) (t:Nat):bC (f.aw n).tmps t=rl n f t:=by
 unfold bC rl ab.aw;rw[lR]
 by_cases h:t < n
 ·have:Nat.blt t n=true:=by rw[Nat.blt_eq];exact h
  rw[if_pos h,this,Nat.zero_add]
 have:Nat.blt t n=false:=by rw[Bool.eq_false_iff];intro hc;rw[Nat.blt_eq] at hc;exact h hc
 rw[if_neg h,this]
def jY (f:ab) (dst:Option Tmp) (v:ac):ab:=
 match f,dst with
 | ⟨sl,locs,heap,next⟩,some d=>⟨(d,v)::sl,locs,heap,next⟩
 | f,none=>f
theorem eI (f:ab) (dst:Option Tmp) (v:ac):(jY f dst v).aw n=(f.aw n).put dst v:=by
 cases dst with
 | none=>rfl
 | some d=>simp only[jY,ab.aw,aa.put,DL]
noncomputable def oR (f:ab):Operand->ac
 | .tmp t=>rl n f t
 | .const v=>cI v
 | .global g=>match G g with|some cs=>.ref cs|none=>.undef
 | .func g=>.fn (.func g) [] []
theorem nb (f:ab) (x:Operand):eT G (f.aw n) x=oR G n f x:=by
 cases x with
 | tmp t=>exact jH n f t
 | const v=>rfl
 | global g=>rfl
 | func g=>rfl
def SV (mv:Option Nat) (k:Nat):Bool:=match mv with|none=>false|some j=>Nat.beq j k
theorem LP (mv:Option Nat) (k:Nat):(SV mv k=true)↔mv=some k:=by
 cases mv with
 | none=>simp[SV]
 | some j=>simp[SV]
noncomputable def gz (f:ab) (mv:Option Nat):Nat->List Operand->List ac
 | _,[]=>[]
 | k,x::r=>(match SV mv k with|true=>oR G n f x|false=>cQ (oR G n f x))::gz f mv (k+1) r
theorem pW (f:ab) (mv:Option Nat):∀(xs:List Operand) (k:Nat),aP G (f.aw n) mv k xs=gz G n f mv k xs
 | [],_=>rfl
 | x::r,k=>by
  simp only[aP,gz,nb,pW f mv r (k+1)]
  by_cases h:mv=some k
  ·rw[if_pos h,(LP mv k).2 h]
  have:SV mv k=false:=by rw[Bool.eq_false_iff];intro hc;exact h ((LP mv k).1 hc)
  rw[if_neg h,this]
noncomputable def uz (f:ab) (mv:Option Nat) (xs:List Operand):ab:=
 match mv with
 | none=>f
 | some k=>match xs[k]? with
  | some (.tmp t)=>jY f (some t) (cQ (rl n f t))
  | _=>f
theorem AM (f:ab) (mv:Option Nat) (xs:List Operand):(uz n f mv xs).aw n=bO (f.aw n) mv xs:=by
 unfold uz bO
 cases mv with
 | none=>rfl
 | some k=>
  dsimp only
  cases h:xs[k]? with
  | none=>rfl
  | some x=>
   cases x with
   | tmp t=>rw[eI];simp only[aa.put,jH]
   | _=>rfl
def tN:Name->Name->Bool
 | .loc i,.loc j=>Nat.beq i j
 | .out i,.out j=>Nat.beq i j
 | _,_=>false
theorem kM (a b:Name):tN a b=true↔a=b:=by
 cases a <;> cases b <;> simp[tN]
def qm (k:Name):Heap->Option aT
 | []=>none
 |(m,o)::r=>match tN m k with|true=>some o|false=>qm k r
theorem lq (k:Name):∀l,qm k l=ev k l
 | []=>rfl
 |(m,o)::r=>by
  simp only[qm,ev,lq k r]
  by_cases h:m=k
  ·rw[if_pos h,(kM m k).2 h]
  have:tN m k=false:=by rw[Bool.eq_false_iff];intro hc;exact h ((kM m k).1 hc)
  rw[if_neg h,this]
def qk (k:Name) (o':aT):Heap->Heap
 | []=>[]
 |(m,o)::r=>match tN m k with|true=>(m,o')::r|false=>(m,o)::qk k o' r
def uS (k:Name):Heap->Heap
 | []=>[]
 |(m,o)::r=>match tN m k with|true=>uS k r|false=>(m,o)::uS k r
theorem nt (k:Name) (o':aT):∀l,qk k o' l=jb k o' l
 | []=>rfl
 |(m,o)::r=>by
  simp only[qk,jb,nt k o' r]
  by_cases h:m=k
  ·rw[if_pos h,(kM m k).2 h]
  have:tN m k=false:=by rw[Bool.eq_false_iff];intro hc;exact h ((kM m k).1 hc)
  rw[if_neg h,this]
theorem qo (k:Name):∀l,uS k l=kd k l
 | []=>rfl
 |(m,o)::r=>by
  simp only[uS,kd,qo k r]
  by_cases h:m=k
  ·rw[if_pos h,(kM m k).2 h]
  have:tN m k=false:=by rw[Bool.eq_false_iff];intro hc;exact h ((kM m k).1 hc)
  rw[if_neg h,this]
def Th (f:ab) (k:Name):Option aT:=
 match k with
 | .loc i=>qm (.loc i) f.locs
 | .out o=>qm (.out o) f.heap
theorem Ed (f:ab) (k:Name):(f.aw n).obj k=Th f k:=by
 cases k <;> simp[aa.obj,Th,ab.aw,lq]
def qR (f:ab) (o:Op) (vals:List ac):Option aT:=match looks o vals with|some k=>Th f k|none=>none
theorem AI (f:ab) (o:Op) (vals:List ac):bp (f.aw n) o vals=qR f o vals:=by
 unfold bp qR
 cases looks o vals with
 | none=>rfl
 | some k=>exact Ed n f k
def ur (f:ab) (k:Name) (o:aT):Option ab:=
 match f,k with
 | ⟨sl,locs,heap,next⟩,.loc i=>some ⟨sl,qk (.loc i) o locs,heap,next⟩
 | ⟨sl,locs,heap,next⟩,.out i=>if dj o=true then some ⟨sl,locs,qk (.out i) o heap,next⟩ else none
theorem JH (f:ab) (k:Name) (o:aT):(f.aw n).setObj k o=(ur f k o).map (·.aw n):=by
 obtain⟨sl,locs,heap,next⟩:=f
 cases k with
 | loc i=>simp[aa.setObj,ur,ab.aw,nt]
 | out i=>
  simp only[aa.setObj,ur,ab.aw,nt]
  split <;> simp[ab.aw]
noncomputable def Xy (f:ab) (d:Nat) (o:aT):ab:=
 match f with
 | ⟨sl,locs,heap,next⟩=>⟨(d,Ag d o)::BE (sg (.loc d)) sl,(.loc d,o)::kZ (.loc d) locs,heap,next⟩
theorem L0 (f:ab) (d:Nat) (o:aT):(Xy f d o).aw n=newObj (f.aw n) d o:=by
 obtain⟨sl,locs,heap,next⟩:=f;simp only[Xy,newObj,ab.aw,sh];rw[qG (f:=sg (.loc d)) (by simp[sg,mentions]),DL]
noncomputable def Ee (f:ab) (d:Nat) (o:aT) (sz len:Nat):ab:=
 match f with
 | ⟨sl,locs,heap,next⟩=>⟨(d,.win (.loc d) sz 0 len)::BE (sg (.loc d)) sl,(.loc d,o)::kZ (.loc d) locs,heap,next⟩
theorem JK (f:ab) (d:Nat) (o:aT) (sz len:Nat):(Ee f d o sz len).aw n=nL (f.aw n) d o sz len:=by
 obtain⟨sl,locs,heap,next⟩:=f;simp only[Ee,nL,ab.aw,sh];rw[qG (f:=sg (.loc d)) (by simp[sg,mentions]),DL]
noncomputable def mW (o:Oper) (k:Option Name) (f:ab) (out:Out):Option ab:=
 match out with
 | ⟨val,eff⟩=>match eff with
  | .keep=>some (jY f o.dst val)
  | .set ob'=>(match k with
   | some k=>(match ur f k ob' with|some f=>some (jY f o.dst val)|none=>none)
   | none=>none)
  | .new ob'=>(match o.dst with
   | some d=>if mX d ob'=true then some (Xy f d ob') else none
   | none=>none)
  | .row ob' sz len=>(match o.dst with
   | some d=>if mX d ob'=true then some (Ee f d ob' sz len) else none
   | none=>none)
  | .fresh ob'=>(match f with
   | ⟨sl,locs,heap,next⟩=>if dj ob'=true then some (jY ⟨sl,locs,(.out next,ob')::heap,next+1⟩ o.dst (sr next ob')) else none)
  | .grow ob' sz len=>(match f with
   | ⟨sl,locs,heap,next⟩=>match k with
    | some (.loc j)=>if dj ob'=true then some (jY ⟨sl,uS (.loc j) locs,(.out next,ob')::heap,next+1⟩ o.dst (.win (.out next) sz 0 len)) else none
    | some (.out j)=>if dj ob'=true then some (jY ⟨sl,locs,(.out next,ob')::uS (.out j) heap,next+1⟩ o.dst (.win (.out next) sz 0 len)) else none
    | none=>if dj ob'=true then some (jY ⟨sl,locs,(.out next,ob')::heap,next+1⟩ o.dst (.win (.out next) sz 0 len)) else none)
theorem GI (o:Oper) (k:Option Name) (f:ab) (out:Out):dL o k (f.aw n) out=(mW o k f out).map (·.aw n):=by
 obtain⟨val,eff⟩:=out;unfold dL mW
 cases eff with
 | keep=>simp[eI]
 | set ob'=>
  cases k with
  | none=>rfl
  | some k=>
   dsimp only;rw[JH]
   cases ur f k ob' with
   | none=>rfl
   | some f'=>simp[eI]
 | new ob'=>
  dsimp only
  cases o.dst with
  | none=>rfl
  | some d=>dsimp only;split <;> simp[L0]
 | row ob' sz len=>
  dsimp only
  cases o.dst with
  | none=>rfl
  | some d=>dsimp only;split <;> simp[JK]
 | fresh ob'=>
  obtain⟨sl,locs,heap,next⟩:=f;dsimp only
  split
  ·simp only[Option.map_some,eI];rfl
  rfl
 | grow ob' sz len=>
  obtain⟨sl,locs,heap,next⟩:=f;dsimp only
  cases k with
  | none=>
   dsimp only
   split
   ·simp only[Option.map_some,eI,qo];rfl
   rfl
  | some k=>
   cases k with
   | loc j=>
    dsimp only
    split
    ·simp only[Option.map_some,eI,qo];rfl
    rfl
   | out j=>
    dsimp only
    split
    ·simp only[Option.map_some,eI,qo];rfl
    rfl
noncomputable def D9 (o:Oper) (mv:Option Nat) (xs:List Operand) (take:Bool) (f:ab) (vals:List ac):Option ab:=
 match jJ E take o.op vals (qR f o.op vals) with
 | none=>none
 | some out=>mW o (looks o.op vals) (uz n f mv xs) out
noncomputable def xi (q take:Bool) (o:Oper) (f:ab):Option ab:=
 D9 E n o (kN q o.op) (opsL o.op) take f (gz G n f (kN q o.op) 0 (opsL o.op))
theorem uq (q take:Bool) (o:Oper) (f:ab):cY E G q take o (f.aw n)=(xi E G n q take o f).map (·.aw n):=by
 unfold cY xi D9;rw[pW,AI]
 split
 ·rename_i h;rw[h];rfl
 rename_i out h;rw[h];dsimp only;rw[←AM,GI]
noncomputable def oQ:ab->List Operand->List ac×ab
 | f,[]=>([],f)
 | f,x::r=>
  match oQ (uz n f (some 0) [x]) r with
  |(vs,f')=>(oR G n f x::vs,f')
theorem AH:∀(xs:List Operand) (f:ab),cL G (f.aw n) xs=((oQ G n f xs).1,(oQ G n f xs).2.aw n)
 | [],f=>rfl
 | x::r,f=>by
  simp only[cL,oQ,←AM,AH r,nb]
noncomputable def vS (fz:Bool) (k:Name) (f:ab) (args:List ac):Option (ab×List ac):=
 match f with
 | ⟨sl,locs,heap,next⟩=>match k,qm k locs with
  | .loc _,some (.cells cs)=>
   match uu fz k args cs with
   | some ds=>some (⟨BE (xX k ds) sl,sx (il k ds) (kd k locs),heap,next⟩,il k ds args)
   | none=>if bS (eG k (.out next) cs)=true then
    some (⟨BE (tz k (.out next)) sl,sx (eG k (.out next)) (kd k locs),(.out next,.cells (eG k (.out next) cs))::heap,next+1⟩,eG k (.out next) args)
   else none
  | .loc _,some (.map es)=>
   some (⟨BE (tz k (.out next)) sl,sx (eG k (.out next)) (kd k locs),(.out next,.map es)::heap,next+1⟩,eG k (.out next) args)
  | _,_=>none
theorem CG (fz:Bool) (k:Name) (f:ab) (args:List ac):tG fz k (f.aw n) args=(vS fz k f args).map (fun x=>(x.1.aw n,x.2)):=by
 obtain⟨sl,locs,heap,next⟩:=f;unfold tG vS;simp only[ab.aw,lq]
 cases k with
 | out i=>rfl
 | loc i=>
  cases ev (.loc i) locs with
  | none=>rfl
  | some ob=>
   cases ob with
   | cells cs=>
    dsimp only
    cases uu fz (.loc i) args cs with
    | some ds=>simp only[GJ,Option.map_some,ab.aw];rw[qG (by simp[xX])]
    | none=>
     dsimp only
     by_cases hno:bS (eG (.loc i) (.out next) cs)=true
     ·refine (if_pos hno).trans ?_;rw[if_pos hno];simp only[zG,Option.map_some,ab.aw];rw[qG (by simp[tz])]
     refine (if_neg hno).trans ?_;rw[if_neg hno];rfl
   | map es=>simp only[zG,Option.map_some,ab.aw];rw[qG (by simp[tz])]
noncomputable def xk (fz:Bool):List Name->ab->List ac->ab×List ac
 | [],f,args=>(f,args)
 | k::ks,f,args=>
  match vS fz k f args with
  | some (f',args')=>xk fz ks f' args'
  | none=>xk fz ks f args
theorem uw (fz:Bool):∀(ks:List Name) (f:ab) (args:List ac),vv fz ks (f.aw n) args=((xk fz ks f args).1.aw n,(xk fz ks f args).2)
 | [],_,_=>rfl
 | k::ks,f,args=>by
  simp only[vv,xk,CG]
  cases vS fz k f args with
  | none=>exact uw fz ks f args
  | some x=>exact uw fz ks x.1 x.2
def ux (f:ab) (args:List ac):List Name:=
 match sR (py args) [] with
 | []=>[]
 | l=>Yt (AZ f.locs f.locs.length l)
theorem JL (f:ab) (args:List ac):I1 (f.aw n) args=ux f args:=rfl
noncomputable def qT (c:Call) (f:ab):Option (FuncId×List ac×ab):=
 match c.callee with
 | .value x=>(match oR G n f x with
  | .fn (.func g) first captured=>
   if E.fn g=true then
    match (match H.moves g with|true=>oQ G n f c.args.toList|false=>(gz G n f none 0 c.args.toList,f)) with
    |(vs,f1)=>(match xk (!H.caps g) (ux f1 (first++vs++captured)) f1 (first++vs++captured) with
     |(f2,args)=>if bS args=true then some (g,args,f2) else none)
   else none
  | _=>none)
 | _=>none
theorem AN (c:Call) (f:ab):mf E G H c (f.aw n)=(qT E G H n c f).map (fun x=>(x.1,x.2.1,x.2.2.aw n)):=by
 unfold mf qT
 cases c.callee with
 | builtin b=>rfl
 | invoke a b=>rfl
 | value x=>
  dsimp only;rw[nb]
  cases oR G n f x with
  | fn fo first captured=>
   cases fo with
   | func g=>
    dsimp only
    by_cases hfn:E.fn g=true
    ·rw[if_pos hfn,if_pos hfn];have e:(if H.moves g=true then cL G (f.aw n) c.args.toList else (aP G (f.aw n) none 0 c.args.toList,f.aw n)) =
       ((match H.moves g with|true=>oQ G n f c.args.toList|false=>(gz G n f none 0 c.args.toList,f)).1,(match H.moves g with|true=>oQ G n f c.args.toList|false=>(gz G n f none 0 c.args.toList,f)).2.aw n):=by
      cases hm:H.moves g with
      | true=>rw[if_pos rfl,AH]
      | false=>rw[if_neg (by simp),pW]
     rw[e];generalize (match H.moves g with|true=>oQ G n f c.args.toList|false=>(gz G n f none 0 c.args.toList,f))=pr;obtain⟨vs,f1⟩:=pr;dsimp only;rw[JL,uw];generalize xk (!H.caps g) (ux f1 (first++vs++captured)) f1 (first++vs++captured)=pr;obtain⟨f2,args⟩:=pr;dsimp only
     by_cases hno:bS args=true
     ·rw[if_pos hno,if_pos hno];rfl
     rw[if_neg hno,if_neg hno];rfl
    rw[if_neg hfn,if_neg hfn];rfl
   | _=>rfl
  | _=>rfl
noncomputable def nc (c:Call) (f:ab):Option (FuncId×List ac×ab):=
 match c.callee with
 | .value x=>(match oR G n f x with
  | .fn (.func g) first captured=>
   if E.fn g=true then
    match (match H.moves g with|true=>oQ G n f c.args.toList|false=>(gz G n f none 0 c.args.toList,f)) with
    |(vs,f1)=>if bS (first++vs++captured)=true then some (g,first++vs++captured,f1) else none
   else none
  | _=>none)
 | _=>none
theorem xq (c:Call) (f:ab):dM E G H c (f.aw n)=(nc E G H n c f).map (fun x=>(x.1,x.2.1,x.2.2.aw n)):=by
 unfold dM nc
 cases c.callee with
 | builtin b=>rfl
 | invoke a b=>rfl
 | value x=>
  dsimp only;rw[nb]
  cases oR G n f x with
  | fn fo first captured=>
   cases fo with
   | func g=>
    dsimp only
    by_cases hfn:E.fn g=true
    ·rw[if_pos hfn,if_pos hfn];have e:(if H.moves g=true then cL G (f.aw n) c.args.toList else (aP G (f.aw n) none 0 c.args.toList,f.aw n)) =
       ((match H.moves g with|true=>oQ G n f c.args.toList|false=>(gz G n f none 0 c.args.toList,f)).1,(match H.moves g with|true=>oQ G n f c.args.toList|false=>(gz G n f none 0 c.args.toList,f)).2.aw n):=by
      cases hm:H.moves g with
      | true=>rw[if_pos rfl,AH]
      | false=>rw[if_neg (by simp),pW]
     rw[e];generalize (match H.moves g with|true=>oQ G n f c.args.toList|false=>(gz G n f none 0 c.args.toList,f))=pr;obtain⟨vs,f1⟩:=pr;dsimp only
     by_cases hno:bS (first++vs++captured)=true
     ·rw[if_pos hno,if_pos hno];rfl
     rw[if_neg hno,if_neg hno];rfl
    rw[if_neg hfn,if_neg hfn];rfl
   | _=>rfl
  | _=>rfl
noncomputable def ib (ops:List Oper) (f:ab) (g:Option (Nat×Bool)):Option Bool:=
 match g with
 | none=>some true
 | some (j,want)=>(match ops[j]? with
  | some o=>(match o.dst with
   | some t=>(match rl n f t with
    | .dat (.flat (.bool b))=>some (b==want)
    | .tup []=>some false
    | _=>none)
   | none=>none)
  | none=>none)
theorem lg (ops:List Oper) (f:ab) (g:Option (Nat×Bool)):dF ops (f.aw n) g=ib n ops f g:=by
 unfold dF ib
 cases g with
 | none=>rfl
 | some p=>
  obtain⟨j,want⟩:=p;dsimp only
  cases ops[j]? with
  | none=>rfl
  | some o=>
   dsimp only
   cases o.dst with
   | none=>rfl
   | some t=>dsimp only;rw[jH];rfl
noncomputable def pO (fh:Bool) (all:List Oper) (o:Oper) (f:ab):Option ac:=
 match ib n all f o.guard with
 | none=>none
 | some b=>
  if b=true then
   if nY o.op=true then (match jJ E false o.op [] none with|some _=>some .undef|none=>none)
   else (match dq o.op with
    | some _=>none
    | none=>
     if (jn o.op&&pA fh (looks o.op (gz G n f none 0 (opsL o.op))))=true then
      (match jJ E false o.op (gz G n f none 0 (opsL o.op)) (qR f o.op (gz G n f none 0 (opsL o.op))) with
       | some out=>(match out.eff with|.keep=>some out.val|_=>none)
       | none=>none)
     else none)
  else some (.tup [])
theorem CE (fh:Bool) (all:List Oper) (o:Oper) (f:ab):fp E G fh all o (f.aw n)=pO E G n fh all o f:=by
 unfold fp pO;rw[lg,pW,AI];rfl
def Tg (f:ab) (k:Name) (o:aT):ab:=
 match f,k with
 | ⟨sl,locs,heap,next⟩,.loc i=>⟨sl,qk (.loc i) o locs,heap,next⟩
 | ⟨sl,locs,heap,next⟩,.out i=>⟨sl,locs,qk (.out i) o heap,next⟩
theorem Tf (f:ab) (k:Name) (o:aT):(Tg f k o).aw n=(f.aw n).km k o:=by
 obtain⟨sl,locs,heap,next⟩:=f
 cases k <;> simp[Tg,ab.aw,aa.km,nt]
noncomputable def lV (fh:Bool) (all:List Oper):List Nat->ab->Option ab
 | [],f=>some f
 | i::r,f=>
  match all[i]? with
  | some o=>(match o.op,o.dst,o.guard with
   | .load _ (.tmp u),some t,none=>(match rl n f u with
    | .ptr k off=>if DK fh k=true then (match Th f k with
     | some (.cells cs)=>(match cs[off]? with
      | some (.own es)=>(match rl n f t with
       | .dat (.slice _)=>lV fh all r (Tg (jY f (some t) (.own es)) k (.cells (dx off [.dat (.slice es)] cs)))
       | _=>none)
      | _=>none)
     | _=>none) else none
    | _=>none)
   | _,_,_=>none)
  | none=>none
theorem om (fh:Bool) (all:List Oper):∀(tk:List Nat) (f f':ab),lV n fh all tk f=some f'->dA fh all tk (f.aw n)=some (f'.aw n)
 | [],f,f',h=>by simp[lV] at h;subst h;rfl
 | i::r,f,f',h=>by
  simp only[lV] at h
  split at h
  ·rename_i o ho
   split at h
   ·rename_i T u t hop hd hg
    split at h
    ·rename_i k off hu
     split at h
     ·rename_i hok
      split at h
      ·rename_i cs hob
       split at h
       ·rename_i es hes
        split at h
        ·rename_i es2 ht;have ih:=om fh all r _ _ h;rw[Tf,eI] at ih;simp only[dA,ho,hop,hd,hg];rw[jH,hu];dsimp only;rw[if_pos hok,Ed,hob];dsimp only;rw[hes];dsimp only;rw[jH,ht];exact ih
        simp at h
       simp at h
      simp at h
     simp at h
    simp at h
   simp at h
  simp at h
noncomputable def Sf (m:Name) (l:Sl):Bool:=@List.rec (Nat×ac) (fun _=>Bool) false (fun p _ ih=>mentions m p.2||ih) l
theorem Ge {m:Name} (t:Nat):∀{l:Sl},Sf m l=false->mentions m (rh l t)=false
 | [],_=>by rw[AD];simp[mentions]
 |(d,v)::r,h=>by
  have e:Sf m ((d,v)::r)=(mentions m v||Sf m r):=rfl;rw[e,Bool.or_eq_false_iff] at h;rw[iw]
  split
  ·exact h.1
  exact Ge t h.2
theorem Ln {m:Name} {l:Sl} (h:Sf m l=false):∀n k:Nat,bg m (Gb n k l)=false
 | 0,_=>by simp[Gb,bg]
 | n+1,k=>by simp only[Gb,bg,Ge k h,Ln h n (k+1),Bool.or_self]
noncomputable def oq (all:List Oper) (mk:Option Nat) (f:ab):Option ab:=
 match mk with
 | none=>some f
 | some i=>(match all[i]? with
  | some o=>(match o.op,o.dst,o.guard with
   | .alloc t,some d,none=>(match E.ty t with
    | some ti=>if eV (bN (cI ti.zero))=true/\bg (.loc d) (bN (cI ti.zero))=false/\d < n/\Sf (.loc d) f.sl=false then some (Xy f d (.cells (bN (cI ti.zero)))) else none
    | none=>none)
   | _,_,_=>none)
  | none=>none)
theorem kz (all:List Oper) (mk:Option Nat) (f f':ab) (h:oq E n all mk f=some f'):iE E all mk (f.aw n)=some (f'.aw n):=by
 unfold oq at h;unfold iE;have hl:(f.aw n).tmps.length=n:=nM n 0 f.sl
 cases mk with
 | none=>simp at h;subst h;rfl
 | some i=>
  dsimp only at h ⊢
  cases hi:all[i]? with
  | none=>rw[hi] at h;simp at h
  | some o=>
   rw[hi] at h;dsimp only at h ⊢
   split at h
   ·rename_i t d hop hd hg;rw[hop,hd,hg];dsimp only
    cases hty:E.ty t with
    | none=>rw[hty] at h;simp at h
    | some ti=>
     rw[hty] at h;dsimp only at h ⊢;rw[hl]
     split at h
     ·rename_i hc;rw[if_pos ⟨hc.1,hc.2.1,hc.2.2.1,Ln hc.2.2.2 n 0⟩];simp at h;subst h;rw[L0]
     simp at h
   simp at h
end
end Go.Tp
namespace Go.Tp
def qW:ac->Option aq
 | .dat (.flat v)=>some (.flat v)
 | .dat (.slice es)=>some (.slice es)
 | .own es=>some (.slice es)
 | _=>none
def nk:Nat->List ac->Option (List aq)
 | 0,_=>some []
 | n+1,a::r=>(match qW a with|some d=>(match nk n r with|some l=>some (d::l)|none=>none)|none=>none)
 | _+1,[]=>none
def Dm (n len:Nat) (ob:Option aT):Option (Nat×List aq):=
 match ob with
 | some (.cells cs)=>(match Nat.ble len 4294967296 with
  | true=>(match nk len cs with|some (e::es)=>some (n,e::es)|_=>none)
  | false=>none)
 | _=>none
def rowOf (a:ac):Option (Nat×Nat):=
 match a with
 | .win (.out n) 1 0 len=>some (n,len)
 | _=>none
def yg (a:ac) (heap:List (Name×aT)):Option (Nat×List aq):=
 match rowOf a with
 | some x=>Dm x.1 x.2 (ev (.out x.1) heap)
 | none=>none
def Dn (t:Nat) (s:aa):Option aa:=
 match yg (bC s.tmps t) s.heap with
 | some (n,es)=>some {s with tmps:=s.tmps.set t (.dat (.slice es)),heap:=kd (.out n) s.heap }
 | none=>none
def iC (G:bJ) (s s2:aa):Prop:=
 ∀(w:World) (R:Own) (N:Name->Option Nat) (tmps:List Value) (bsT bsL bsH bsF:List Nat),dh G w R N tmps s undef .undef [] bsT bsL bsH bsF->
  ∃R' N' bsT' bsL' bsH',dh G w R' N' tmps s2 undef .undef [] bsT' bsL' bsH' bsF/\bA w R w R' bsF/\(∀o b,N (.out o)=some b->N' (.out o)=some b)
theorem iC.refl (G:bJ) (s:aa):iC G s s:=fun _ R N _ bsT bsL bsH _ h=>⟨R,N,bsT,bsL,bsH,h,bj _,fun _ _ h=>h⟩
theorem iC.trans {G:bJ} {s s2 s3:aa} (h:iC G s s2) (k:iC G s2 s3):iC G s s3:=fun w R N tmps bsT bsL bsH bsF hr=>by
 obtain⟨R1,N1,t1,l1,h1,q1,q2,q3⟩:=h w R N tmps bsT bsL bsH bsF hr;obtain⟨R2,N2,t2,l2,h2,p1,p2,p3⟩:=k w R1 N1 tmps t1 l1 h1 bsF q1;exact⟨R2,N2,t2,l2,h2,p1,q2.trans p2,fun o b ho=>p3 o b (q3 o b ho)⟩
theorem rJ:∀{n:Nat} {cs:List ac} {es:List aq},nk n cs=some es->es.length=n/\∀(i:Nat) (d:aq),es[i]?=some d->∃a,cs[i]?=some a/\qW a=some d
 | 0,_,es,h=>by simp[nk] at h;subst h;simp
 | n+1,[],es,h=>by simp[nk] at h
 | n+1,a::r,es,h=>by
  unfold nk at h
  split at h
  ·rename_i d hd
   split at h
   ·rename_i l hl;simp at h;subst h;obtain⟨h1,h2⟩:=rJ hl;refine⟨by simp[h1],fun i d' hi=>?_⟩
    cases i with
    | zero=>simp at hi;subst hi;exact⟨a,rfl,hd⟩
    | succ i=>simpa using h2 i d' (by simpa using hi)
   simp at h
  simp at h
theorem xw {w:World} {R:Own} {N:Name->Option Nat} {a:ac} {d:aq} (h:qW a=some d) {v:Value} {bs:List Nat} (hr:al w R N a v bs):dN w R v d/\d.cells.length=1:=by
 unfold qW at h
 split at h
 ·simp at h;subst h;exact⟨(cB hr).2,rfl⟩
 ·simp at h;subst h;exact⟨(cB hr).2,rfl⟩
 ·simp at h;subst h;exact⟨(ct hr).rep,rfl⟩
 simp at h
theorem NF {G:bJ} {t:Nat} {s s2:aa} (h:Dn t s=some s2):iC G s s2:=by
 unfold Dn at h
 split at h
 rotate_left
 ·simp at h
 rename_i n es hv;simp only[Option.some.injEq] at h;subst h;unfold yg at hv
 split at hv
 rotate_left
 ·simp at hv
 rename_i x hx;obtain⟨m,len⟩:=x;have hwin:bC s.tmps t=.win (.out m) 1 0 len:=by
  unfold rowOf at hx
  split at hx
  ·rename_i n' len' h';simp only[Option.some.injEq,Prod.mk.injEq] at hx;obtain⟨rfl,rfl⟩:=hx;exact h'
  simp at hx
 dsimp only at hv;unfold Dm at hv
 split at hv
 rotate_left
 ·simp at hv
 rename_i cs hob
 split at hv
 rotate_left
 ·simp at hv
 rename_i hlen;have hlen:=Nat.le_of_ble_eq_true hlen
 split at hv
 rotate_left
 ·simp at hv
 rename_i e0 es0 hcd;simp only[Option.some.injEq,Prod.mk.injEq] at hv;obtain⟨rfl,rfl⟩:=hv;obtain⟨hel,hcs⟩:=rJ hcd;intro w R N tmps bsT bsL bsH bsF hr;have htg:=vP hwin (by simp);obtain⟨v,bs0,g1,g2,_⟩:=eD hr.tmps htg;simp only[al] at g2;obtain⟨_,b,cap,hb,rfl,hcap,_,hblt,hrow⟩:=g2;obtain⟨pre,b',b1,post,e1,hb',hobj,_,bs',hdel,hsub⟩:=ao.qy hr.heap hob
 have:b'=b:=by simp only[outs] at hb';rw[hb] at hb';simpa using hb'.symm
 subst this;obtain⟨vs,elem,sp,hblk,hrv,hRv,_⟩:=hobj;obtain⟨R',hR'⟩:∃R':Own,R'=fun c off=>c≠b'/\R c off:=⟨_,rfl⟩
 have hstep:Step w R w R':=⟨rfl,rfl,rfl,Nat.le_refl _,fun c _ hno=>⟨rfl,fun off h=>by subst hR';exact hno off h.2⟩,fun c off _ hno=>⟨fun h=>by subst hR';exact hno h.2,rfl⟩,fun _ _=>rfl⟩;have hk:∀bs,b'∉bs->bA w R w R' bs:=fun bs hbs=>⟨hstep,fun c hc _=>⟨rfl,fun off h=>by subst hR';exact⟨fun e=>hbs (e ▸ hc),h⟩⟩⟩
 have hnd:=hr.nodup;simp only[List.nil_append] at hnd;subst e1;have hp:(bsT++(bsL++((pre++(b'::b1)++post)++bsF))).Perm (b'::(b1++(bsT++(bsL++((pre++post)++bsF))))):=by
  rw[List.perm_iff_count];intro q;simp only[List.count_append,List.count_cons];omega
 have hnd2:=List.nodup_cons.1 (hp.nodup_iff.1 hnd);have hno:=hnd2.1;simp only[List.mem_append,not_or] at hno;obtain⟨_,n1,n2,⟨n3,n3'⟩,n4⟩:=hno;have n5:b'∉bs':=fun hm=>by
  rcases List.mem_append.1 (hsub.subset hm) with h|h
  ·exact n3 h
  exact n3' h
 have hrep:dN w R' (.slice (some ⟨b',0,none⟩) len cap) (.slice (e0::es0)):=by
  have hl:(e0::es0).length=len:=hel;rw[←hl];have hcell:∀i,i < (e0::es0).length->∃a x bx,cs[i]?=some a/\qW a=some (e0::es0)[i]! /\ vs[i]?=some x/\al w R (outs N) a x bx:=by
   intro i hi;obtain⟨a,ha,hd⟩:=hcs i _ (List.getElem?_eq_getElem hi);obtain⟨x,bx,q1,q2,_⟩:=eD hrv (yB ha);exact⟨a,x,bx,ha,by rw[hd,getElem!_pos _ i hi],by rw[←Array.getElem?_toList];exact q1,q2⟩
  refine .slice b' 0 cap 1 _ (fun i _=>vs[i]?.getD default) (by omega) ?_ (by rw[hl];exact hcap) (by rw[hl];simp only[lim];omega) ?_ ?_
  ·intro e he;obtain⟨i,hi,rfl⟩:=List.getElem_of_mem he;obtain⟨a,x,bx,_,hd,_,hx⟩:=hcell i hi;rw[getElem!_pos _ i hi] at hd;exact (xw hd hx).2
  ·intro i j hi hj;obtain⟨a,x,bx,_,hd,hvx,hx⟩:=hcell i hi
   have:j=0:=by omega
   subst this;refine⟨?_,fun h=>by subst hR';exact h.1 rfl⟩;rw[cell_of_row w b' _ vs elem (0,0) hblk];simp[hvx]
  ·intro i j e c he hc;have hi:i < (e0::es0).length:=(List.getElem?_eq_some_iff.1 he).1;obtain⟨a,x,bx,_,hd,hvx,hx⟩:=hcell i hi;have hee:(e0::es0)[i]! = e:=by
    rw[getElem!_pos _ i hi];rw[List.getElem?_eq_getElem hi] at he;simpa using he
   rw[hee] at hd;obtain⟨k1,k2⟩:=xw hd hx;have hc':c=e:=by
    unfold qW at hd
    split at hd
    all_goals first
     |(simp at hd;subst hd;cases j with
      | zero=>simpa [aq.cells] using hc.symm
      | succ j=>simp[aq.cells] at hc)
     |simp at hd
   subst hc';rw[hvx];exact k1.step hstep
 obtain⟨bsT2,p1,p2⟩:=mQ (a:=.dat (.slice (e0::es0))) (v:=.slice (some ⟨b',0,none⟩) len cap) (b:=[]) (X:=bsL++(bs'++bsF)) t (hr.tmps.keep (hk bsT n1)) (bX (d:=.slice (e0::es0)) hrep) (by
  have h2:=(List.nodup_append.1 hnd2.2).2.1;rw[List.nil_append];refine List.Nodup.sublist ?_ h2;exact List.Sublist.append (.refl _) (List.Sublist.append (.refl _) (List.Sublist.append hsub (.refl _))))
 have hsame:tmps.set t (.slice (some ⟨b',0,none⟩) len cap)=tmps:=by
  apply List.ext_getElem?
  intro j;rw[List.getElem?_set]
  split
  ·rename_i hj;subst hj;split
   ·exact g1.symm
   rename_i hl;rw[List.getElem?_eq_none (by omega)]
  rfl
 rw[hsame] at p1;exact⟨R',N,bsT2,bsL,bs',⟨aW _,p1,hr.locs.keep (hk bsL n2),hdel.keep (hk bs' n5),by simpa using p2,hr.next,fun g cs hg=>(hr.glob g cs hg).step hstep,hr.frame⟩,hk bsF n4,fun _ _ h=>h⟩
theorem JF {G:bJ} (ns:List Name) (s:aa):iC G s (vv false ns s []).1:=by
 intro w R N tmps bsT bsL bsH bsF hr;have hr0:dh G w R N tmps s (.tuple ([]:List Value).toArray) (.tup []) [] bsT bsL bsH bsF:=⟨by simp[al,ak],hr.tmps,hr.locs,hr.heap,hr.nodup,hr.next,hr.glob,hr.frame⟩;have he:vv false ns s []=((vv false ns s []).1,(vv false ns s []).2):=rfl;obtain⟨R',N',bsV',bsT',bsL',bsH',h1,h2,h3,_⟩:=nK he hr0;refine⟨R',N',bsT',bsL',bsH',⟨aW _,h1.tmps,h1.locs,h1.heap,?_,h1.next,h1.glob,h1.frame⟩,h2,h3⟩
 have:=h1.nodup
 simpa using (List.nodup_append.1 this).2.1
end Go.Tp
