/- HierarchyMonotone returns true and changes nothing, for arguments of bulk at most 1048576 (the card of the second form; conditions: those of the given row). Names are shortened by a program, for the claim's bound. Part 2. -/
import Derived.Test.YtiihadmgkoamoaaGreatDoorQ01
set_option linter.unusedVariables false
set_option linter.unusedSimpArgs false
set_option maxRecDepth 100000
set_option maxHeartbeats 4000000
namespace Go.Tp
section
variable {P:Program} {E:bG} {G:bL} {H:Hints}
variable (P E G H) in
def opC (ops:Array Oper) (h:ax) (i:Nat) (K:aa->Prop) (s:aa):Prop:=
 ∃(lone:Bool) (o:Oper),(i,lone)∈h.pre/\ops[i]?=some o/\(if lone=true then Ns (aB P G) E G H (aV H ops.toList h.pre) h.tk ops.toList o K s else ∃a,fm E G (aV H ops.toList h.pre||quietAt H ops.toList h.pre i) ops.toList o s=some a/\K (s.put o.dst a))
theorem oW {fh:Bool} {tk:List Nat} {all:List Oper} {o:Oper} {K K':aa->Prop} {s:aa} (hk:∀s,K s->K' s) (h:Ns (aB P G) E G H fh tk all o K s):Ns (aB P G) E G H fh tk all o K' s:=by
 unfold Ns at h ⊢
 split
 ·rename_i hw;simp[hw] at h
 rename_i b hw;simp only[hw] at h
 split
 ·rename_i hb;simp only[hb,if_true] at h
  split
  ·rename_i c hc;simp only[hc] at h
   split
   ·rename_i f args s2 ha;simp only[ha] at h
    cases hpu:hO H o with
    | true=>rw[hpu] at h;exact h.mono fun v heap n hq h1 h2=>⟨(hq h1 h2).1,hk _ (hq h1 h2).2⟩
    | false=>rw[hpu] at h;exact h.mono fun v heap n hq h1 h2=>⟨(hq h1 h2).1,hk _ (hq h1 h2).2⟩
   rename_i ha;simp[ha] at h
  rename_i hc;simp only[hc] at h
  split
  ·rename_i t ht;simp only[ht] at h
   split
   ·rename_i s1 hs1;simp only[hs1] at h
    split
    ·rename_i s' hs';simp only[hs'] at h;exact hk _ h
    rename_i hs';simp[hs'] at h
   rename_i hs1;simp[hs1] at h
  rename_i ht;simp only[ht] at h
  split
  ·rename_i hst;simp only[hst] at h
   split
   ·rename_i s' hs';simp only[hs'] at h;exact hk _ h
   rename_i hs';simp[hs'] at h
  rename_i hst;simp[hst] at h
 rename_i hb;simp only[hb] at h;exact hk _ h
theorem R8 {ops:Array Oper} {h:ax} {i:Nat} {K K':aa->Prop} {s:aa} (hk:∀s,K s->K' s) (hs:opC P E G H ops h i K s):opC P E G H ops h i K' s:=by
 obtain⟨lone,o,h1,h2,h3⟩:=hs;refine⟨lone,o,h1,h2,?_⟩
 split
 ·rename_i hl;rw[if_pos hl] at h3;exact oW hk h3
 rename_i hl;rw[if_neg hl] at h3;obtain⟨a,h4,h5⟩:=h3;exact⟨a,h4,hk _ h5⟩
theorem ow {all:List Oper} {pre:List (Nat×Bool)}:∀{j:Nat} {o:Oper} {c:Call},(j,true)∈pre->all[j]?=some o->dm o.op=some c->hO H o=false->aV H all pre=false:=by
 induction pre with
 | nil=>intro j o c h;simp at h
 | cons p r ih=>
  intro j o c h ho hc hpu;obtain⟨k,l⟩:=p;simp only[aV]
  rcases List.mem_cons.1 h with h|h
  ·simp at h;obtain⟨rfl,rfl⟩:=h;rw[ho];simp[hc,hpu]
  rw[ih h ho hc hpu];simp
theorem IA {fh q take:Bool} {all:List Oper} {oi oj:Oper} {a:ac} (ha:ju oi oj=true) {s s2:aa} (hq:fm E G fh all oi s=some a) (hs:cX E G q take oj (s.put oi.dst a)=some s2) :
  ∃s3,cX E G q take oj s=some s3/\s3.put oi.dst a=s2/\fm E G fh all oi s3=some a:=by
 unfold ju at ha;simp only[Bool.and_eq_true,Bool.or_eq_true,Option.isNone_iff_eq_none] at ha;obtain⟨⟨⟨⟨g1,_⟩,g3⟩,_⟩,g5⟩:=ha;have hof:∃x d,opsL oi.op=[.tmp x]/\oi.dst=some d/\dm oi.op=none/\nG oi.op=false/\(∀vals,looks oi.op vals=none)/\(opsL oj.op).any (dt x)=false/\(opsL oj.op).any (dt d)=false/\oj.dst≠some x/\oj.dst≠some d:=by
  split at g5
  ·rename_i y k d' e1 e2;simp only[Bool.and_eq_true,Bool.not_eq_true',bne_iff_ne] at g5;exact⟨y,d',by rw[e1];rfl,e2,by rw[e1];rfl,by rw[e1];rfl,fun _=>by rw[e1];rfl,g5.1.1.1,g5.1.1.2,g5.1.2,g5.2⟩
  ·rename_i y d' e1 e2;simp only[Bool.and_eq_true,Bool.not_eq_true',bne_iff_ne] at g5;exact⟨y,d',by rw[e1];rfl,e2,by rw[e1];rfl,by rw[e1];rfl,fun _=>by rw[e1];rfl,g5.1.1.1,g5.1.1.2,g5.1.2,g5.2⟩
  simp at g5
 obtain⟨x,d,hx,hd,hc,hal,hl,h1,h2,hpx,hpd⟩:=hof;rw[hd] at hs ⊢;obtain⟨v,k1,k2⟩:=sy g3 hs;have k1:=k1 s.tmps (by
  intro t ht;have htd:d≠t:=fun e=>by rw[←e,h2] at ht;simp at ht
  simp only[aa.put];rw[cq htd])
 have hst:({(s.put (some d) a) with tmps:=s.tmps }:aa)=s:=rfl;rw[hst] at k1;refine⟨_,k1,?_,?_⟩
 ·obtain⟨t3,l3,h3,n3⟩:=s2;simp only[aa.put] at k2 ⊢;rw[k2,qz h2,sj hpd]
 have hget:bB (hZ (fM s.tmps (kI q oj.op) (opsL oj.op)) oj.dst v) x=bB s.tmps x:=by
  rw[sq hpx,iL h1]
 have hev:aM G ({s2 with tmps:=hZ (fM s.tmps (kI q oj.op) (opsL oj.op)) oj.dst v }:aa) none 0 (opsL oi.op)=aM G s none 0 (opsL oi.op):=by
  rw[hx];simp only[aM,eR,hget]
 have hlk:∀(s':aa) vals,bj s' oi.op vals=none:=fun s' vals=>by unfold bj;rw[hl]
 unfold fm at hq ⊢;simp only[g1,dy,hev,hlk] at hq ⊢;exact hq
theorem Ny {fh q take:Bool} {ops:Array Oper} {oi oj:Oper} {a:ac} (hmv:tO oj=true) (h1:∀d,oi.dst=some d->d∉oj.looksAt ops) (h2:∀d,oi.dst=some d->oj.dst≠some d) (h3:∀d,oj.dst=some d->d∉oi.looksAt ops)
  {s s2:aa} (hq:fm E G fh ops.toList oi s=some a) (hs:cX E G q take oj (s.put oi.dst a)=some s2) :
  ∃s3,cX E G q take oj s=some s3/\s3.put oi.dst a=s2/\fm E G fh ops.toList oi s3=some a:=by
 unfold tO at hmv
 split at hmv
 rotate_left
 ·simp at hmv
 rename_i x d2 hop hd2;have hx:opsL oj.op=[.tmp x]:=by rw[hop];rfl
 have hxl:x∈oj.looksAt ops:=by
  have:=iF (o:=oj) (all:=ops.toList) (t:=x) (by rw[hx];simp)
  simpa using this
 obtain⟨val,e2,k⟩:=Bp hx (fun _=>by rw[hop];rfl) (fun vals ob out h=>by
  rw[hop] at h;simp only[jE,Dp] at h
  split at h
  ·simp at h;subst h;rfl
  simp at h) hd2 hs
 have hgx:bB (s.put oi.dst a).tmps x=bB s.tmps x:=cW (fun e=>h1 x e hxl);have k1:=k s hgx.symm;refine⟨_,k1,?_,?_⟩
 ·rw[e2]
  cases hd:oi.dst with
  | none=>rfl
  | some d=>
   have hdx:x≠d:=fun e=>h1 d hd (e ▸ hxl)
   have hdd:d2≠d:=fun e=>h2 d hd (by rw[hd2,e])
   have hany:List.any [Operand.tmp x] (dt d)=false:=by
    simp only[List.any_cons,List.any_nil,Bool.or_false,dt]
    cases hb:Nat.beq x d with
    | false=>rfl
    | true=>exact absurd (Nat.eq_of_beq_eq_true hb) hdx
   simp only[aa.put];rw[qz hany,List.set_comm _ _ hdd]
 rw[←hq];refine iX ?_ (.of_eq rfl (fun _=>rfl));intro t ht;have htd:d2≠t:=fun e=>h3 d2 hd2 (by rw[e];simpa using ht)
 show cP (bB ((fM s.tmps (kI q oj.op) [.tmp x]).set d2 val) t)=_;rw[cq htd];unfold fM
 cases hm:kI q oj.op with
 | none=>rfl
 | some k=>
  cases k with
  | zero=>
   have e1:=kA (s:=s) (x:=.tmp x) t;simp only[bR,List.getElem?_cons_zero] at e1;simpa using e1
  | succ k=>rfl
theorem VM {ops:Array Oper} {h:ax} (hcs:dS ops h=true) {i j:Nat} {oi oj:Oper} {a:ac} (hi:ops[i]?=some oi) (him:(i,false)∈h.pre) (hj:ops[j]?=some oj) (hap:oi.apart ops oj=true)
  (hntk:∀t k o',fJ oj.op=some t->k∈gf ops.toList t h.tk->ops.toList[k]?=some o'->∀e∈o'.after,Region.binds .any e=true->e.on≠i) {K:aa->Prop} {s:aa}
  (hF:∀c,dm oj.op=some c->hO H oj=false->mc H oj=false->(j,true)∈h.pre->(aV H ops.toList h.pre||quietAt H ops.toList h.pre i)=false)
  (hG:kq oj.op=true->(j,true)∈h.pre->tO oj=true∨ju oi oj=true)
  (hy:fm E G (aV H ops.toList h.pre||quietAt H ops.toList h.pre i) ops.toList oi s=some a) (hs:opC P E G H ops h j K (s.put oi.dst a)) :
  opC P E G H ops h j (fun s'=>fm E G (aV H ops.toList h.pre||quietAt H ops.toList h.pre i) ops.toList oi s'=some a/\K (s'.put oi.dst a)) s:=by
 obtain⟨h1,h2,h3⟩:=Oper.apart_spec hap;obtain⟨lone,o,hm,ho,hs⟩:=hs;rw[hj] at ho;simp at ho;subst ho;refine⟨lone,oj,hm,hj,?_⟩;have hsimj:sD oj ops.toList s (s.put oi.dst a):=FL (by simpa using h1);have hdj:∀(s:aa) (v:ac),sD oi ops.toList s (s.put oj.dst v):=fun s v=>FL (by simpa using h3)
 have hlj:∀{fh:Bool} (s:aa) (d:Option Tmp) (v:ac),xW fh s (s.put d v):=fun s d v=>.of_eq (cZ s d v).1 (fun _=>(cZ s d v).2.1)
 split
 ·rename_i hl;rw[if_pos hl] at hs;subst hl;unfold Ns at hs ⊢;rw[oI hsimj] at hs
  split
  ·rename_i hw;simp[hw] at hs
  rename_i b hw;simp only[hw] at hs
  split
  ·rename_i hb;simp only[hb,if_true] at hs
   split
   ·rename_i c hc;simp only[hc] at hs;have hop:=vx hc;rw[Ff (fun d hd hmem=>h1 d hd (List.mem_append_left _ (List.mem_filterMap.2 ⟨.tmp d,by rw[hop];simpa [Op.operands] using hmem,rfl⟩)))] at hs
    cases hcal:dI E G H c s with
    | none=>rw[hcal] at hs;simp at hs
    | some x=>
     obtain⟨f,args,s2⟩:=x;rw[hcal] at hs;simp only[Option.map_some] at hs;obtain⟨hsim,hlocs⟩:=Fe hcal oi ops.toList;have e1:(s2.put oi.dst a).heap=s2.heap:=(cZ s2 oi.dst a).2.1;have e2:(s2.put oi.dst a).next=s2.next:=(cZ s2 oi.dst a).2.2;rw[e1,e2] at hs;dsimp only at hs ⊢
     cases hpu:hO H oj with
     | true=>
      rw[hpu] at hs;refine hs.mono fun v heap n hq b1 b2=>⟨(hq b1 b2).1,?_,?_⟩
      ·rw[←hy];refine iX ?_ ?_
       ·have k1:sD oi ops.toList s {s2 with next:=n }:=hsim;exact k1.trans (hdj _ v)
       exact .of_eq (by rw[(cZ _ oj.dst v).1];exact hlocs) (fun _=>by rw[(cZ _ oj.dst v).2.1];exact (mr hcal:s2.heap=s.heap))
      have:=(hq b1 b2).2
      have e:(⟨(s2.put oi.dst a).tmps,(s2.put oi.dst a).locs,s2.heap,n⟩:aa)=({s2 with next:=n }:aa).put oi.dst a:=by cases oi.dst <;> rfl
      rw[e,put_comm h2] at this;exact this
     | false=>
      rw[hpu] at hs;refine hs.mono fun v heap n hq b1 b2=>⟨(hq b1 b2).1,?_,?_⟩
      ·cases hrd:mc H oj with
       | true=>
        refine IB ?_ ?_ hy
        ·have k1:sD oi ops.toList s {s2 with heap:=heap,next:=n }:=hsim;exact k1.trans (hdj _ v)
        intro m ob hm1;have hst:=(hq b1 b2).1 hrd;rw[lD]
        cases m with
        | loc k=>simp only[aa.obj] at hm1 ⊢;rw[hlocs];exact hm1
        | out k=>simp only[aa.obj] at hm1 ⊢;exact hst _ _ (by rw[(mr hcal:s2.heap=s.heap)];exact hm1)
       | false=>
        have hfh:=hF c hc hpu hrd hm;rw[←hy];refine iX ?_ ?_
        ·have k1:sD oi ops.toList s {s2 with heap:=heap,next:=n }:=hsim;exact k1.trans (hdj _ v)
        exact .of_eq (by rw[(cZ _ oj.dst v).1];exact hlocs) (fun hf=>by rw[hfh] at hf;simp at hf)
      have:=(hq b1 b2).2
      rw[QB,put_comm h2] at this;exact this
   rename_i hc;simp only[hc] at hs
   split
   ·rename_i t ht;simp only[ht] at hs;obtain⟨_,rr,hops⟩:=tD ht;have htj:t∈oj.looksAt ops:=by
     have:=iF (o:=oj) (all:=ops.toList) (t:=t) (by rw[hops];simp)
     simpa using this
    have hops_not:∀d,oi.dst=some d->Operand.tmp d∉opsL oj.op:=fun d hd hmem=>h1 d hd (by have:=iF (o:=oj) (all:=ops.toList) hmem;simpa using this)
    have etk:lu h.tk t (s.put oi.dst a)=lu h.tk t s:=by unfold lu;rw[cW (fun e=>h1 t e htj)]
    rw[etk] at hs
    -- the loads that the append owns by are others than oi
    have hother:∀k∈gf ops.toList t (lu h.tk t s),k≠i:=fun k hk e=>by
     obtain⟨_,o',ho',hd'⟩:=kE (my hk);rw[e] at ho'
     have:ops[i]?=some o':=by simpa using ho'
     rw[hi] at this;simp at this;subst this;exact h1 t hd' htj
    have hspec:∀k∈gf ops.toList t (lu h.tk t s),∀o',ops.toList[k]?=some o'->(o'.dst=some t/\oi.dst≠some t/\t∉oi.looksAt ops)/\∀T u,o'.op=.load T (.tmp u)->oi.dst≠some u:=fun k hk o' ho'=>by
     obtain⟨hk1,o2,ho2,hd2⟩:=kE (my hk);rw[ho2] at ho';simp at ho';subst ho';obtain⟨⟨d,e1,e2,e3⟩,e4⟩:=mf hcs (i:=k) (by simp[hk1]) (by simpa using ho2) him (Ne.symm (hother k hk)) hi;rw[hd2] at e1;simp at e1;subst e1;exact⟨⟨hd2,e2,e3 rfl⟩,fun T u hop=>by
      rcases e4 T u hop with h|⟨e,he,hb,hon⟩
      ·exact h
      exact absurd hon (hntk t k o2 ht (my hk) ho2 e he hb)⟩
    cases hsh:dv (aV H ops.toList h.pre) ops.toList (gf ops.toList t (lu h.tk t s)) s with
    | none=>
     exfalso
     -- what is shown with the value in its slot is shown without
     have:∀(tk:List Nat) (s s1:aa),(∀k∈tk,∀o',ops.toList[k]?=some o'->(o'.dst=some t/\oi.dst≠some t/\t∉oi.looksAt ops)/\∀T u,o'.op=.load T (.tmp u)->oi.dst≠some u)->dv (aV H ops.toList h.pre) ops.toList tk (s.put oi.dst a)=some s1->∃s2,dv (aV H ops.toList h.pre) ops.toList tk s=some s2:=by
      intro tk
      induction tk with
      | nil=>intro s s1 _ _;exact⟨s,rfl⟩
      | cons k r ih=>
       intro s s1 hh hh2;obtain⟨o',T,u,t',n,off,cs,es,es2,ho',hop,hd,hg,hu,hok,hob,hes,ht',hrest⟩:=gl hh2;obtain⟨⟨q1,q2,_⟩,q3⟩:=hh k (by simp) o' ho';have hdu:=q3 T u hop;rw[hd] at q1;simp at q1;subst q1;rw[cW hdu] at hu;rw[cW q2] at ht';rw[lD] at hob;have e0:(({s.put oi.dst a with tmps:=(s.put oi.dst a).tmps.set t' (.own es)}:aa).kj n (.cells (dr off [.dat (.slice es)] cs)))=(({s with tmps:=s.tmps.set t' (.own es)}:aa).kj n (.cells (dr off [.dat (.slice es)] cs))).put oi.dst a:=by
        rw[←Gg];congr 1
        cases hdd:oi.dst with
        | none=>rfl
        | some d=>
         have hne:d≠t':=fun e=>q2 (by rw[hdd,e])
         simp only[aa.put];rw[List.set_comm _ _ hne]
       rw[e0] at hrest;obtain⟨s3,hs3⟩:=ih _ _ (fun k hk=>hh k (by simp[hk])) hrest;refine⟨s3,?_⟩;simp only[dv,ho',hop,hd,hg,hu,if_pos hok,hob,hes,ht'];exact hs3
     cases hsh2:dv (aV H ops.toList h.pre) ops.toList (gf ops.toList t (lu h.tk t s)) (s.put oi.dst a) with
     | none=>simp[hsh2] at hs
     | some s1=>
      obtain⟨s2,hs2⟩:=this _ _ _ hspec hsh2;rw[hsh] at hs2;simp at hs2
    | some s1=>
     have hput:=ze (v:=a) (dst:=oi.dst) _ _ _ (fun k hk o' ho' _=>by rw[((hspec k hk o' ho').1).1];exact ((hspec k hk o' ho').1).2.1) (fun k hk o' T u ho' hop=>(hspec k hk o' ho').2 T u hop) hsh;simp only[hput] at hs;obtain⟨q1,q3,q4⟩:=zd _ _ _ hsh
     cases hst:cX E G false false oj s1 with
     | none=>
      exfalso
      cases hst2:cX E G false false oj (s1.put oi.dst a) with
      | none=>simp[hst2] at hs
      | some s2=>
       -- the same operands
       unfold cX at hst hst2;rw[me _ _ _ _ hops_not] at hst2;have hlk:∀s':aa,looks oj.op (aM G s1 (kI false oj.op) 0 (opsL oj.op))=none->bj s' oj.op (aM G s1 (kI false oj.op) 0 (opsL oj.op))=none:=fun s' hl=>by unfold bj;rw[hl]
       cases hao:jE E false oj.op (aM G s1 (kI false oj.op) 0 (opsL oj.op)) (bj (s1.put oi.dst a) oj.op (aM G s1 (kI false oj.op) 0 (opsL oj.op))) with
       | none=>simp[hao] at hst2
       | some out=>
        obtain⟨hk,hl⟩:=pO ht hao;rw[hlk _ hl] at hao hst;rw[hao] at hst;simp[dH,hk] at hst
     | some s2=>
      obtain⟨v,he,hback⟩:=uz ht hst;have hb2:=hback oi.dst a hops_not h2;simp only[hb2] at hs;dsimp only;rw[hst];refine⟨?_,hs⟩;rw[←hy];subst he;refine iX ?_ ?_
      ·refine sD.trans (s':={s1 with tmps:=s1.tmps.set t (cP (bB s1.tmps t))}) ?_ (hdj _ v);intro t' ht';have e1:=kA (s:=s1) (x:=.tmp t) t';simp only[bR,List.getElem?_cons_zero] at e1;rw[e1,q4 t' (fun k hk o' ho' e=>by
        obtain⟨⟨g1,_,g3⟩,_⟩:=hspec k hk o' ho';rw[g1] at e;simp at e;subst e;exact g3 (by simpa using ht'))]
      exact q1.trans (.of_eq (by rw[(cZ _ oj.dst v).1]) (fun _=>by rw[(cZ _ oj.dst v).2.1]))
   rename_i ht;simp only[ht] at hs
   split
   ·rename_i hst;simp only[hst] at hs
    cases hs2:cX E G (readOnly H.moves ops.toList oj) (lv H ops.toList oj) oj (s.put oi.dst a) with
    | none=>rw[hs2] at hs;simp at hs
    | some s2=>
     rw[hs2] at hs;obtain⟨s3,k1,k2,k3⟩:∃s3,cX E G (readOnly H.moves ops.toList oj) (lv H ops.toList oj) oj s=some s3/\s3.put oi.dst a=s2/\fm E G (aV H ops.toList h.pre||quietAt H ops.toList h.pre i) ops.toList oi s3=some a:=by
      rcases hG hst hm with hmv|hap
      ·exact Ny hmv (by simpa using h1) h2 (by simpa using h3) hy hs2
      exact IA hap hy hs2
     rw[k1];exact⟨k3,by rw[k2];exact hs⟩
   rename_i hst;simp[hst] at hs
  rename_i hb;simp only[hb] at hs;refine⟨?_,?_⟩
  ·rw[←hy];exact iX (hdj _ _) (hlj _ _ _)
  have:=hs
  simp only[Bool.false_eq_true,if_false] at this;rw[put_comm h2] at this;exact this
 rename_i hl;rw[if_neg hl] at hs;obtain⟨b,hb1,hb2⟩:=hs;rw[iX hsimj (hlj _ _ _)] at hb1;refine⟨b,hb1,?_,?_⟩
 ·rw[←hy];exact iX (hdj _ _) (hlj _ _ _)
 rw[put_comm h2] at hb2;exact hb2
variable (P E G H) in
def pV (ops:Array Oper) (h:ax) (p:Array Bool) (T:aa->Prop):Nat->Array Bool->aa->Prop
 | 0,listed,s=>listed=p/\T s
 | fuel+1,listed,s=>
  (listed=p/\T s)∨(listed≠p/\Region.ready .any ops listed≠[]/\∀i∈Region.ready .any ops listed,opC P E G H ops h i (pV ops h p T fuel (bY listed i)) s) ∨
  (∃i oi a,bY listed i=p/\nE ops h p i=true/\ops[i]?=some oi/\(i,false)∈h.pre/\i∈Region.ready .any ops listed/\fm E G (aV H ops.toList h.pre||quietAt H ops.toList h.pre i) ops.toList oi s=some a/\T (s.put oi.dst a))
theorem cT {ops:Array Oper} {listed:Array Bool} {i:Nat} (h:i∈Region.ready .any ops listed) (hsz:listed.size=ops.size):listed[i]?=some false:=by
 obtain⟨h0,o,ho,_⟩:=mem_ready.1 h;have hlt:i < ops.size:=(Array.getElem?_eq_some_iff.1 ho).1;have hl:i < listed.size:=by omega
 simp[hl] at h0;simp[hl,h0]
theorem sT {listed p:Array Bool} {i:Nat} (h:listed[i]?=some false) (e:bY listed i=p):p.setIfInBounds i false=listed:=by
 subst e;have hl:i < listed.size:=(Array.getElem?_eq_some_iff.1 h).1
 apply Array.ext_getElem?
 intro k;unfold bY
 by_cases hk:i=k
 ·subst hk;rw[h];simp[hl]
 rw[Array.getElem?_setIfInBounds_ne hk,Array.getElem?_setIfInBounds_ne hk]
def gS (ops:Array Oper) (listed:Array Bool):Prop:=∀(d:Nat) (o:Oper),listed[d]?=some true->ops[d]?=some o->∀e∈o.after,Region.binds .any e=true->listed.getD e.on false=true
theorem gS.step {ops:Array Oper} {listed:Array Bool} (h:gS ops listed) {j:Nat} (hj:j∈Region.ready .any ops listed):gS ops (bY listed j):=by
 intro d o hd ho e he hb
 by_cases hdj:d=j
 ·subst hdj;obtain⟨_,o',ho',hafter⟩:=mem_ready.1 hj;rw[ho] at ho';simp at ho';subst ho';exact getD_set_true (hafter e he hb)
 unfold bY at hd;rw[Array.getElem?_setIfInBounds_ne (Ne.symm hdj)] at hd;exact getD_set_true (h d o hd ho e he hb)
theorem MG {ops:Array Oper} {listed:Array Bool} {i:Nat} (hcl:gS ops listed) (hun:listed[i]?=some false) (hl:waited ops (bY listed i) i=true):False:=by
 unfold waited at hl;obtain⟨d,hd,hd2⟩:=List.any_eq_true.1 hl;simp only[Bool.and_eq_true] at hd2;obtain⟨⟨h1,h2⟩,h3⟩:=hd2;have hdi:d≠i:=by simpa using h1
 split at h3
 ·rename_i o ho;obtain⟨ed,he1,he2⟩:=Array.any_eq_true'.1 h3;simp only[Bool.and_eq_true,beq_iff_eq] at he2;have hld:listed[d]?=some true:=by
   unfold bY at h2;rw[getD_set_ne false (Ne.symm hdi),Array.getD_eq_getD_getElem?] at h2
   cases hg:listed[d]? with
   | none=>rw[hg] at h2;simp at h2
   | some b=>rw[hg] at h2;simp at h2;rw[h2]
  have:=hcl d o hld ho ed he1 he2.1
  rw[he2.2,Array.getD_eq_getD_getElem?,hun] at this;simp at this
 simp at h3
theorem Aq {ops:Array Oper} {listed p:Array Bool} {i:Nat} (hcl:gS ops listed) (hun:listed[i]?=some false) (e:bY listed i=p) (hl:(waited ops p i||Region.ready .any ops (p.setIfInBounds i false)==[i])=true):Region.ready .any ops listed=[i]:=by
 have hback:=sT hun e;rw[Bool.or_eq_true] at hl
 rcases hl with hl|hl
 ·exfalso
  unfold waited at hl;obtain⟨d,hd,hd2⟩:=List.any_eq_true.1 hl;simp only[Bool.and_eq_true] at hd2;obtain⟨⟨h1,h2⟩,h3⟩:=hd2;have hdi:d≠i:=by simpa using h1
  split at h3
  ·rename_i o ho;obtain⟨ed,he1,he2⟩:=Array.any_eq_true'.1 h3;simp only[Bool.and_eq_true,beq_iff_eq] at he2;have hld:listed[d]?=some true:=by
    rw[←e] at h2;unfold bY at h2;rw[getD_set_ne false (Ne.symm hdi),Array.getD_eq_getD_getElem?] at h2
    cases hg:listed[d]? with
    | none=>rw[hg] at h2;simp at h2
    | some b=>rw[hg] at h2;simp at h2;rw[h2]
   have:=hcl d o hld ho ed he1 he2.1
   rw[he2.2,Array.getD_eq_getD_getElem?,hun] at this;simp at this
  simp at h3
 rw[←hback];simpa using hl
theorem te {ops:Array Oper} {listed:Array Bool} (hcl:gS ops listed):∀(f i j:Nat),listed.getD i false=true->reach ops.toList f i j=true->listed.getD j false=true
 | 0,_,_,_,h=>by simp[reach] at h
 | f+1,i,j,hi,h=>by
  simp only[reach] at h
  split at h
  ·rename_i o ho;obtain⟨e,he,h2⟩:=List.any_eq_true.1 h;simp only[Bool.and_eq_true,Bool.or_eq_true,Nat.beq_eq] at h2;have hi':listed[i]?=some true:=by
    rw[Array.getD_eq_getD_getElem?] at hi
    cases hg:listed[i]? with
    | none=>rw[hg] at hi;simp at hi
    | some b=>rw[hg] at hi;simp at hi;rw[hi]
   have h3:=hcl i o hi' (by simpa using ho) e (by simpa using he) h2.1
   rcases h2.2 with h4|h4
   ·rw[←h4];exact h3
   exact te hcl f e.on j h3 h4
  simp at h
theorem lB {ops:Array Oper} {listed:Array Bool} (hcl:gS ops listed) {f i j:Nat} (hr:i∈Region.ready .any ops listed) (h:reach ops.toList f i j=true) (hj:listed.getD j true=false):False:=by
 obtain⟨_,o,ho,hafter⟩:=mem_ready.1 hr;have key:listed.getD j false=true:=by
  cases f with
  | zero=>simp[reach] at h
  | succ f=>
   have ho':ops.toList[i]?=some o:=by simpa using ho
   simp only[reach,ho'] at h;obtain⟨e,he,h2⟩:=List.any_eq_true.1 h;simp only[Bool.and_eq_true,Bool.or_eq_true,Nat.beq_eq] at h2;have h3:=hafter e (by simpa using he) h2.1
   rcases h2.2 with h4|h4
   ·rw[←h4];exact h3
   exact te hcl f e.on j h3 h4
 rw[Array.getD_eq_getD_getElem?] at key hj
 cases hg:listed[j]? with
 | none=>rw[hg] at key;simp at key
 | some b=>rw[hg] at key hj;simp at key hj;rw[key] at hj;simp at hj
theorem xC {ops:Array Oper} {h:ax} (hcs:dS ops h=true) (hca:nU ops h=true) (hcst:gI ops h=true) {p:Array Bool} {T:aa->Prop} {i:Nat} {oi:Oper} {a:ac} (hi:ops[i]?=some oi) (hm:(i,false)∈h.pre)
  (hlast:(waited ops p i||Region.ready .any ops (p.setIfInBounds i false)==[i])=true∨nE ops h p i=true) (hp:p[i]?=some true) :
  ∀(fuel:Nat) (listed:Array Bool) (s:aa),listed.size=ops.size->gS ops listed->
   (∀j oj,ops[j]?=some oj->j≠i->listed.getD j true=false->(∀e∈oj.after,Region.binds .any e=true->e.on≠i)->oi.apart ops oj=true)->
   i∈Region.ready .any ops listed->fm E G (aV H ops.toList h.pre||quietAt H ops.toList h.pre i) ops.toList oi s=some a->
   pV P E G H ops h p T fuel (bY listed i) (s.put oi.dst a)->pV P E G H ops h p T (fuel+1) listed s:=by
 intro fuel
 induction fuel with
 | zero=>
  intro listed s hsz hcl hfree hr hy hH;have hun:=cT hr hsz;have hne:listed≠p:=fun e=>by rw[e,hp] at hun;simp at hun
  rcases hlast with hlast|hlast
  rotate_left
  ·exact .inr (.inr ⟨i,oi,a,hH.1,hlast,hi,hm,hr,hy,hH.2⟩)
  have hal:=Aq hcl hun hH.1 hlast;refine .inr (.inl ⟨hne,fun h=>(by rw[h] at hr;cases hr),fun j hj=>?_⟩);have hj':=hj;rw[hal] at hj';simp at hj';subst hj';exact⟨false,oi,hm,hi,by simp only[Bool.false_eq_true,if_false];exact⟨a,hy,hH⟩⟩
 | succ fuel ih=>
  intro listed s hsz hcl hfree hr hy hH;have hun:=cT hr hsz;have hne:listed≠p:=fun e=>by rw[e,hp] at hun;simp at hun
  by_cases hlate:bY listed i=p/\nE ops h p i=true/\¬(waited ops p i||Region.ready .any ops (p.setIfInBounds i false)==[i])=true
  ·have hT:T (s.put oi.dst a):=by
    rcases hH with⟨_,hT⟩|⟨hne2,_⟩|⟨i',oi',a',e',_,hoi',_,hr',_,_⟩
    ·exact hT
    ·exact absurd hlate.1 hne2
    exfalso
    have hun':=cT hr' (by simpa [bY] using hsz);rw[hlate.1] at hun' e'
    have:(bY p i')[i']?=some true:=by
     have hl:i' < p.size:=(Array.getElem?_eq_some_iff.1 hun').1;simp[bY,hl]
    rw[e',hun'] at this;simp at this
   exact .inr (.inr ⟨i,oi,a,hlate.1,hlate.2.1,hi,hm,hr,hy,hT⟩)
  refine .inr (.inl ⟨hne,fun h=>(by rw[h] at hr;cases hr),fun j hj=>?_⟩)
  by_cases hji:j=i
  ·subst hji;exact⟨false,oi,hm,hi,by simp only[Bool.false_eq_true,if_false];exact⟨a,hy,hH⟩⟩
  have h1:opC P E G H ops h j (pV P E G H ops h p T fuel (bY (bY listed i) j)) (s.put oi.dst a):=by
   rcases hH with⟨e,hT⟩|⟨hne2,_,hall⟩|⟨i',oi',a',e',hlk,hoi',hm',hr',hy',hT'⟩
   ·exfalso
    have hlast':(waited ops p i||Region.ready .any ops (p.setIfInBounds i false)==[i])=true:=by
     rcases hlast with h'|h'
     ·exact h'
     exact Classical.byContradiction fun hno=>hlate ⟨e,h',hno⟩
    have hal:=Aq hcl hun e hlast';have hj':=hj;rw[hal] at hj';simp at hj';exact absurd hj' hji
   ·exact hall j (ready_mono hj hji)
   have hun':=cT hr' (by simpa [bY] using hsz);have hii:i≠i':=by
    rintro rfl;have hl:i < listed.size:=(Array.getElem?_eq_some_iff.1 hun).1;simp[bY,hl] at hun'
   have hb1:=sT hun' e';have hb2:=sT hun (rfl:bY listed i=bY listed i);have hjr:j∈Region.ready .any ops (bY listed i):=ready_mono hj hji;have hji':j=i':=by
    refine Classical.byContradiction fun hjn=>?_
    unfold nE at hlk
    split at hlk
    ·simp at hlk
    rename_i j0 r0 htl;simp only[Bool.and_eq_true,Bool.or_eq_true,beq_iff_eq] at hlk;obtain⟨⟨⟨⟨⟨⟨⟨h1,_⟩,_⟩,_⟩,h5⟩,_⟩,_⟩,_⟩:=hlk;rw[hb1] at h1;have hj0:j=j0:=by
     rcases h1 with h1|h1 <;> rw[h1] at hjr <;> simp at hjr <;> rcases hjr with h'|h' <;> first|exact h'|exact absurd h' hjn
    subst hj0;have h6:=List.all_eq_true.1 h5 (i,false) hm;rw[hb1,hb2] at h6;simp only[Bool.or_eq_true,beq_iff_eq,hii,false_or] at h6
    rcases h6 with h6|h6
    ·exact MG hcl hun h6
    simp at h6;exact h6 hj
   subst hji';have hP:pV P E G H ops h p T fuel (bY (bY listed i) j) ((s.put oi.dst a).put oi'.dst a'):=by
    rw[e']
    cases fuel with
    | zero=>exact⟨rfl,hT'⟩
    | succ fuel=>exact .inl ⟨rfl,hT'⟩
   exact⟨false,oi',hm',hoi',by simp only[Bool.false_eq_true,if_false];exact⟨a',hy',hP⟩⟩
  ·obtain⟨hjun,oj,hoj,hafter⟩:=mem_ready.1 hj;have hnot:∀e∈oj.after,Region.binds .any e=true->e.on≠i:=fun e he hb heq=>by
    have h1:=hafter e he hb;rw[heq] at h1;rw[Array.getD_eq_getD_getElem?,hun] at h1;simp at h1
   have hntk:∀t k o',fJ oj.op=some t->k∈gf ops.toList t h.tk->ops.toList[k]?=some o'->∀e∈o'.after,Region.binds .any e=true->e.on≠i:=by
    intro t k o' ht hk ho' e he hb heq;obtain⟨lone,_,hmj,_,_⟩:=h1;have hca':=hca;unfold nU at hca';have g1:=List.all_eq_true.1 hca' (j,lone) hmj;simp only[hoj,ht] at g1;have g2:=List.all_eq_true.1 g1 k hk;obtain⟨e2,he1,he2⟩:=Array.any_eq_true'.1 g2;simp only[Bool.and_eq_true,beq_iff_eq] at he2;have g3:=hafter e2 he1 he2.1;rw[he2.2,Array.getD_eq_getD_getElem?] at g3;have hlk:listed[k]?=some true:=by
     cases hg:listed[k]? with
     | none=>rw[hg] at g3;simp at g3
     | some b=>rw[hg] at g3;simp at g3;rw[g3]
    have:=hcl k o' hlk (by simpa using ho') e he hb
    rw[heq,Array.getD_eq_getD_getElem?,hun] at this;simp at this
   have hF:∀c,dm oj.op=some c->hO H oj=false->mc H oj=false->(j,true)∈h.pre->(aV H ops.toList h.pre||quietAt H ops.toList h.pre i)=false:=by
    intro c hcc hpu hrd hmj;rw[Bool.eq_false_iff];intro ht;rw[ow (all:=ops.toList) hmj (by simpa using hoj) hcc hpu,Bool.false_or] at ht;unfold quietAt at ht;have g:=List.all_eq_true.1 ht (j,true) hmj;have hoj':ops.toList[j]?=some oj:=by simpa using hoj
    simp only[hoj',hcc,hpu,hrd,Bool.not_true,Bool.false_or,Option.isNone_some,Bool.or_eq_true] at g
    rcases g with g|g
    ·exact lB hcl hr g hjun
    refine lB hcl hj g ?_;rw[Array.getD_eq_getD_getElem?,hun];rfl
   have hG:kq oj.op=true->(j,true)∈h.pre->tO oj=true∨ju oi oj=true:=by
    intro hst hmj;unfold gI at hcst;have g1:=List.all_eq_true.1 hcst (j,true) hmj;simp only[hoj,hst,Bool.not_true,Bool.false_or,Bool.and_eq_true] at g1;have g2:=List.all_eq_true.1 g1.2 (i,false) hm;simp only[hi,Bool.false_or,Bool.or_eq_true] at g2
    rcases g2 with ((g|g)|g)|g
    ·exact .inl g
    ·exact .inr g
    ·exact (lB hcl hr g hjun).elim
    refine (lB hcl hj g ?_).elim;rw[Array.getD_eq_getD_getElem?,hun];rfl
   have h2:=VM hcs hi hm hoj (hfree j oj hoj hji hjun hnot) hntk hF hG hy h1;have hfree':∀k ok,ops[k]?=some ok->k≠i->(bY listed j).getD k true=false->(∀e∈ok.after,Region.binds .any e=true->e.on≠i)->oi.apart ops ok=true:=fun k ok hk hki hun' hno=>by
    refine hfree k ok hk hki ?_ hno
    by_cases hjk:j=k
    ·subst hjk;exact hjun
    unfold bY at hun';rw[getD_set_ne true hjk] at hun';exact hun'
   refine R8 (fun s' h3=>ih (bY listed j) s' (by simpa [bY] using hsz) (hcl.step hj) hfree' (ready_mono hr (Ne.symm hji)) h3.1 ?_) h2;have e:bY (bY listed j) i=bY (bY listed i) j:=by unfold bY;rw[Array.setIfInBounds_comm _ _ hji]
   rw[e];exact h3.2
theorem lE:∀(r:List (Nat×Bool)) (l:Array Bool) (i:Nat),l[i]?=some true->(eb r l)[i]?=some true
 | [],_,_,h=>h
 |(j,_)::r,l,i,h=>by
  apply lE r
  unfold bY
  by_cases hj:j=i
  ·subst hj;have hl:j < l.size:=(Array.getElem?_eq_some_iff.1 h).1;simp[hl]
  rw[Array.getElem?_setIfInBounds_ne hj];exact h
theorem pU {ops:Array Oper} {h:ax} (hcs:dS ops h=true) (hca:nU ops h=true) (hcst:gI ops h=true) {T:aa->Prop} {p:Array Bool} (hlast:kC ops h p h.pre=true) :
  ∀(r:List (Nat×Bool)) (listed:Array Bool) (s:aa) (fuel:Nat),(∀x∈r,x∈h.pre)->listed.size=ops.size->gS ops listed->p=eb r listed->nT ops r listed=true->r.length<=fuel->
   lQ (aB P G) E G H h.tk (aV H ops.toList h.pre) (quietAt H ops.toList h.pre) ops.toList T r s->pV P E G H ops h p T fuel listed s
 | [],listed,s,fuel,_,_,_,hp,_,_,h=>by
  cases fuel with
  | zero=>exact⟨hp.symm,h⟩
  | succ fuel=>exact .inl ⟨hp.symm,h⟩
 |(i,lone)::r,listed,s,0,_,_,_,_,_,hf,_=>by simp at hf
 |(i,lone)::r,listed,s,fuel+1,hsub,hsz,hcl,hp,hc,hf,hh=>by
  have hm:=hsub (i,lone) (by simp);simp only[nT,Bool.and_eq_true] at hc;obtain⟨hc1,hc2⟩:=hc;have hrd0:i∈Region.ready .any ops listed:=by
   cases lone
   ·simp at hc1;exact hc1.1
   simp at hc1;rw[hc1];simp
  simp only[lQ,iQ] at hh;have hsz':(bY listed i).size=ops.size:=by simpa [bY] using hsz
  have hp':p=eb r (bY listed i):=hp;have hrec:∀s',lQ (aB P G) E G H h.tk (aV H ops.toList h.pre) (quietAt H ops.toList h.pre) ops.toList T r s'->pV P E G H ops h p T fuel (bY listed i) s':=fun s' h'=>
   pU hcs hca hcst hlast r (bY listed i) s' fuel (fun x hx=>hsub x (by simp[hx])) hsz' (hcl.step hrd0) hp' hc2 (by simp at hf;omega) h'
  split at hh
  ·exact hh.elim
  rename_i o ho;have ho':ops[i]?=some o:=by simpa using ho
  have hlt:i < listed.size:=by rw[hsz];exact (Array.getElem?_eq_some_iff.1 ho').1
  have hpi:p[i]?=some true:=by
   rw[hp']
   apply lE
   simp[bY,hlt]
  cases lone
  ·simp only[Bool.false_eq_true,if_false,Bool.and_eq_true] at hh hc1
   split at hh
   ·rename_i a ha;refine xC hcs hca hcst ho' hm ?_ hpi fuel listed s hsz hcl (Region.free_spec ho' hc1.2) (by simpa using hc1.1) ha (hrec _ hh)
    have:∀(q:List (Nat×Bool)),(i,false)∈q->kC ops h p q=true->(waited ops p i||Region.ready .any ops (p.setIfInBounds i false)==[i])=true∨nE ops h p i=true:=by
     intro q
     induction q with
     | nil=>intro hq;simp at hq
     | cons x q ih=>
      intro hq hcl;obtain⟨k,l⟩:=x;simp only[kC,Bool.and_eq_true,Bool.or_eq_true] at hcl
      rcases List.mem_cons.1 hq with e|hq
      ·simp at e;obtain⟨rfl,rfl⟩:=e
       rcases hcl.1 with (hl|hl)|hl
       ·simp at hl
       ·exact .inl (by rw[Bool.or_eq_true];exact hl)
       exact .inr hl
      exact ih hq hcl.2
    exact this h.pre hm hlast
   exact hh.elim
  simp only[if_true] at hh hc1;have hrd:Region.ready .any ops listed=[i]:=by simpa using hc1
  have hun:=cT (i:=i) (by rw[hrd];simp) hsz;refine .inr (.inl ⟨fun e=>by rw[e,hpi] at hun;simp at hun,by rw[hrd];simp,fun j hj=>?_⟩);rw[hrd] at hj;simp at hj;subst hj;exact⟨true,o,hm,ho',by simp only[if_true];exact oW hrec hh⟩
theorem tj:∀{r:List (Nat×Bool)} {x:Nat×Bool},x∈cd r->x∈r/\x.2=false
 | [],_,h=>by simp[cd] at h
 |(i,true)::r,_,h=>by simp[cd] at h
 |(i,false)::r,x,h=>by
  simp only[cd] at h
  rcases List.mem_cons.1 h with rfl|h
  ·simp
  obtain⟨h1,h2⟩:=tj h;exact⟨by simp[h1],h2⟩
theorem pT {ops:Array Oper} {h:ax} (hcs:dS ops h=true) (hca:nU ops h=true) (hcst:gI ops h=true) {T K:aa->Prop} {p:Array Bool} (hlast:kC ops h p h.pre=true) (hall:∀x∈h.pre,p[x.1]?=some true) (fuel:Nat) :
  ∀(r:List (Nat×Bool)) (listed:Array Bool) (s:aa),(∀x∈r,x∈h.pre/\x.2=false)->listed.size=ops.size->gS ops listed->nT ops r listed=true->
   (∀s',K s'->pV P E G H ops h p T fuel (eb r listed) s')->
   lQ (aB P G) E G H h.tk (aV H ops.toList h.pre) (quietAt H ops.toList h.pre) ops.toList K r s->pV P E G H ops h p T (r.length+fuel) listed s
 | [],listed,s,_,_,_,_,hK,h=>by
  rw[List.length_nil,Nat.zero_add];exact hK s h
 |(i,true)::r,listed,s,hsub,_,_,_,_,_=>by
  have:=(hsub (i,true) (by simp)).2
  simp at this
 |(i,false)::r,listed,s,hsub,hsz,hcl,hc,hK,hh=>by
  obtain⟨hm,_⟩:=hsub (i,false) (by simp);simp only[nT,Bool.and_eq_true] at hc;obtain⟨hc1,hc2⟩:=hc;simp only[Bool.false_eq_true,if_false,Bool.and_eq_true] at hc1;have hrd0:i∈Region.ready .any ops listed:=by simpa using hc1.1
  simp only[lQ,iQ] at hh;have hsz':(bY listed i).size=ops.size:=by simpa [bY] using hsz
  split at hh
  ·exact hh.elim
  rename_i o ho;have ho':ops[i]?=some o:=by simpa using ho
  simp only[Bool.false_eq_true,if_false] at hh
  split at hh
  ·rename_i a ha;have hrec:=pT hcs hca hcst hlast hall fuel r (bY listed i) _ (fun x hx=>hsub x (by simp[hx])) hsz' (hcl.step hrd0) hc2 hK hh;have e:((i,false)::r).length+fuel=(r.length+fuel)+1:=by simp;omega
   rw[e];refine xC hcs hca hcst ho' hm ?_ (hall _ hm) (r.length+fuel) listed s hsz hcl (Region.free_spec ho' hc1.2) hrd0 ha hrec
   have:∀(q:List (Nat×Bool)),(i,false)∈q->kC ops h p q=true->(waited ops p i||Region.ready .any ops (p.setIfInBounds i false)==[i])=true∨nE ops h p i=true:=by
    intro q
    induction q with
    | nil=>intro hq;simp at hq
    | cons x q ih=>
     intro hq hcl;obtain⟨k,l⟩:=x;simp only[kC,Bool.and_eq_true,Bool.or_eq_true] at hcl
     rcases List.mem_cons.1 hq with e|hq
     ·simp at e;obtain⟨rfl,rfl⟩:=e
      rcases hcl.1 with (hl|hl)|hl
      ·simp at hl
      ·exact .inl (by rw[Bool.or_eq_true];exact hl)
      exact .inr hl
     exact ih hq hcl.2
   exact this h.pre hm hlast
  exact hh.elim
theorem rm {ops:Array Oper} {h:ax} {T:aa->Prop} {p:Array Bool}:∀(m:Nat) (listed:Array Bool) (s:aa),
  vZ (aB P G) E G H h ops.toList p T m listed s->pV P E G H ops h p T m listed s
 | 0,listed,s,hh=>hh
 | m+1,listed,s,hh=>by
  simp only[vZ,Array.toArray_toList] at hh;obtain⟨h1,h2,h3⟩:=hh;refine .inr (.inl ⟨h1,h2,fun i hi=>?_⟩);obtain⟨hm,o,ho,hop⟩:=h3 i hi;refine⟨true,o,hm,by simpa using ho,?_⟩;rw[if_pos rfl];exact oW (fun s' h'=>rm m _ s' h') hop
end
end Go.Tp
namespace Go.Tp
section
variable {P:Program} {E:bG} {G:bL} {H:Hints} {D:List Deferred}
theorem UA (hE:E.Ok P) {o:Oper} {s:aa} {out:Out} (hop:jE E false o.op (aM G s none 0 (opsL o.op)) (bj s o.op (aM G s none 0 (opsL o.op)))=some out) (hk:out.eff=.keep)
  {w:World} {R:Own} {N:Name->Option Nat} {act:Act} {bsT bsL bsH bsF:List Nat} (hr:df G w R N act.tmps.toList s undef .undef [] bsT bsL bsH bsF) :
  ∃cv w' R' bsV,Zh P w act.eval o cv w'/\al w' R' N out.val cv bsV/\wj w [] bsV/\bz w R w' R' (bsT++(bsL++(bsH++bsF))):=by
 have ha:=kN hr.tmps hr.glob none 0 (opsL o.op) (by simp);generalize hvals:aM G s none 0 (opsL o.op)=vals at hop ha;have hnd:(bsT++(bsL++(bsH++bsF))).Nodup:=by simpa using hr.nodup
 cases hlo:bj s o.op vals with
 | none=>
  rw[hlo] at hop;have hlk:ez w R N o.op vals none none:=by
   unfold ez
   split
   ·exact⟨rfl,rfl⟩
   exact .inl ⟨rfl,rfl⟩
  obtain⟨cv,w',R',hran,hkeep,hout⟩:=mZ (rest:=bsT++(bsL++(bsH++bsF))) hE hop ha (fun _=>rfl) hlk (by simpa [tA] using hnd) (fun _=>rfl);rw[hk] at hout;obtain⟨bsV,hv,hf,_,_⟩:=hout;exact⟨cv,w',R',bsV,hran,hv,hf,hkeep⟩
 | some obj=>
  rw[hlo] at hop;have hlk:∃b b1,ez w R N o.op vals (some obj) (some (b,b1))/\(b::b1).Nodup:=by
   unfold bj at hlo
   split at hlo
   ·rename_i n hn
    cases n with
    | loc i=>
     simp only[aa.obj] at hlo;obtain⟨pre,b,b1,post,e1,e2,e3,_⟩:=an.split hr.locs hlo;refine⟨b,b1,?_,?_⟩
     ·unfold ez;rw[hn];exact .inr ⟨b,b1,obj,rfl,rfl,e2,e3⟩
     subst e1;refine List.Nodup.sublist ?_ hnd;refine List.Sublist.trans ?_ (List.sublist_append_right _ _);refine List.Sublist.trans ?_ (List.sublist_append_left _ _);exact (List.sublist_append_right _ _).trans (List.sublist_append_left _ _)
    | out k=>
     simp only[aa.obj] at hlo;obtain⟨pre,b,b1,post,e1,e2,e3,_⟩:=an.split hr.heap hlo;have hno:di obj=true:=by
      cases obj with
      | cells cs=>obtain⟨vs,e,sp,hb,hrr,hR⟩:=e3;have:=hrr.cC;rw[ji] at this;exact this
      | map es=>rfl
     refine⟨b,b1,?_,?_⟩
     ·unfold ez;rw[hn];exact .inr ⟨b,b1,obj,rfl,rfl,by simpa [outs] using e2,e3.ya hno (fun _=>rfl)⟩
     subst e1;refine List.Nodup.sublist ?_ hnd;refine List.Sublist.trans ?_ (List.sublist_append_right _ _);refine List.Sublist.trans ?_ (List.sublist_append_right _ _);refine List.Sublist.trans ?_ (List.sublist_append_left _ _);exact (List.sublist_append_right _ _).trans (List.sublist_append_left _ _)
   simp at hlo
  obtain⟨b,b1,hlk,hnd1⟩:=hlk;obtain⟨cv,w',R',hran,hkeep,hout⟩:=mZ (rest:=[]) hE hop ha (fun _=>rfl) hlk (by simpa [tA] using hnd1) (fun _=>rfl);rw[hk] at hout;obtain⟨bsV,hv,hf,_,hsame⟩:=hout
  rcases hsame with h|⟨rfl,rfl⟩
  ·simp at h
  exact⟨cv,w',R',bsV,hran,hv,hf,bi _⟩
theorem K3 {s:aa} {w w':World} {R R':Own} {N:Name->Option Nat} {act:Act} {bsT bsL bsH bsF bsV:List Nat} (bsY:List Nat) {a:ac} {cv:Value} (dst:Option Tmp) (hr:df G w R N act.tmps.toList s undef .undef [] bsT bsL bsH bsF)
  (hv:al w' R' N a cv bsV) (hf:wj w [] (bsV++bsY)) (hy:∀b∈bsY,b < w'.heap.size) (hk:bz w R w' R' (bsT++(bsL++(bsH++bsF)))) :
  ∃bsT',df G w' R' N (act.put dst cv).tmps.toList (s.put dst a) undef .undef [] bsT' bsL bsH (bsY++bsF):=by
 have hlt:∀b∈bsT++(bsL++(bsH++bsF)),b < w.heap.size:=fun b hb=>by
  simp at hb
  rcases hb with h|h|h|h
  ·exact hr.tmps.lt b h
  ·exact hr.locs.lt b h
  ·exact hr.heap.lt b h
  exact hr.frame b h
 have hnd0:((bsV++bsY)++(bsT++(bsL++(bsH++bsF)))).Nodup:=fE (bsM:=[]) (by simpa using hr.nodup) hlt hf;have hnd:(bsV++(bsT++(bsL++(bsH++(bsY++bsF))))).Nodup:=by
  have hp:(bsV++(bsT++(bsL++(bsH++(bsY++bsF))))).Perm ((bsV++bsY)++(bsT++(bsL++(bsH++bsF)))):=by
   rw[List.perm_iff_count];intro q;simp only[List.count_append];omega
  exact hp.nodup_iff.2 hnd0
 obtain⟨bsT',hp1,hp2⟩:=fN dst (hr.tmps.keep (hk.sub (by intro b hb;simp[hb]))) hv hnd;obtain⟨q1,q2,q3⟩:=cZ s dst a;exact⟨bsT',aW _,by rw[(gF act dst cv).1];exact hp1,by rw[q1];exact hr.locs.keep (hk.sub (by intro b hb;simp[hb])),by rw[q2];exact hr.heap.keep (hk.sub (by intro b hb;simp[hb])),by simpa using hp2,by rw[q3];exact hr.next,
  fun g cs hg=>(hr.glob g cs hg).step hk.step,fun b hb=>by
   rcases List.mem_append.1 hb with h|h
   ·exact hy b h
   exact Nat.lt_of_lt_of_le (hr.frame b h) hk.step.size⟩
structure BW (E:bG) (G:bL) (H:Hints) (ops:Array Oper) (h:ax) (listed:Array Bool) (w:World) (R:Own) (N:Name->Option Nat) (act:Act) (s:aa) (bsT bsL bsH bsX bsF:List Nat):Prop where
 rel:df G w R N act.tmps.toList s undef .undef [] bsT bsL bsH (bsX++bsF)
 nwf:∀i o t d ti,h.nw=some i->listed[i]?=some true->ops[i]?=some o->o.op=.alloc t->o.dst=some d->o.guard=none->E.ty t=some ti->d < act.tmps.size->
  ∃b,b∈bsX/\act.tmps[d]?=some (.pointer (some ⟨b,0,none⟩))/\aT w R N (.cells (bO (cH ti.zero))) b []
 tkf:∀i o T u t n off ob,i∈h.tk->listed[i]?=some true->ops[i]?=some o->o.op=.load T (.tmp u)->o.dst=some t->o.guard=none->bB s.tmps u=.ptr n off->D7 (aV H ops.toList h.pre) n=true->s.obj n=some ob->t < act.tmps.size->
  ∃b v,N n=some b/\act.tmps[t]?=some v/\(w.cell? ⟨b,off,none⟩=some v∨∃vs,v=.agg vs)
theorem EX {ops:Array Oper} {h:ax} (hc:dS ops h=true) {i:Nat} (hi:i∈h.nw.toList++h.tk) {o:Oper} (ho:ops[i]?=some o) {T:TypeId} {u:Tmp} (hop:o.op=.load T (.tmp u)):o.dst≠some u:=by
 unfold dS at hc;have h1:=List.all_eq_true.1 hc i hi;rw[ho] at h1;simp only[Bool.and_eq_true] at h1;have h2:=h1.2.1;rw[hop] at h2;simpa using h2
theorem xz {act:Act} {dst:Option Tmp} {v:Value} {t:Nat} (h:dst≠some t):(act.put dst v).tmps[t]?=act.tmps[t]?:=by
 cases dst with
 | none=>rfl
 | some d=>
  have hne:d≠t:=fun e=>h (by rw[e])
  simp[Act.put,Array.getElem?_setIfInBounds_ne hne]
theorem kD {act:Act} {dst:Option Tmp} {v:Value}:(act.put dst v).tmps.size=act.tmps.size:=by
 cases dst <;> simp[Act.put]
theorem zj {listed:Array Bool} {i j:Nat} (h:(bY listed i)[j]?=some true) (hne:j≠i):listed[j]?=some true:=by
 unfold bY at h;rwa [Array.getElem?_setIfInBounds_ne (Ne.symm hne)] at h
theorem C9 {w w':World} {b off:Nat} (h:w'.heap[b]?=w.heap[b]?):w'.cell? ⟨b,off,none⟩=w.cell? ⟨b,off,none⟩:=by
 simp[World.cell?,h]
theorem BW.carry {ops:Array Oper} {h:ax} {listed:Array Bool} {w w':World} {R R':Own} {N N':Name->Option Nat} {act:Act} {s s':aa} {bsT bsL bsH bsX bsF:List Nat} (bsY:List Nat) {o:Oper} {cv:Value}
  (hp:BW E G H ops h listed w R N act s bsT bsL bsH bsX bsF)
  (hc:dS ops h=true) (hcl:gS ops listed) {i:Nat} {l:Bool} (hi:ops[i]?=some o) (hun:listed[i]?=some false) (hm:(i,l)∈h.pre) (hk:bz w R w' R' bsX) (hkL:∀n ob b,D7 (aV H ops.toList h.pre) n=true->s.obj n=some ob->N n=some b->w'.heap[b]?=w.heap[b]?) (hN:∀m c,N m=some c->N' m=some c) (hlocs:∀n ob,D7 (aV H ops.toList h.pre) n=true->s'.obj n=some ob->∃y,s.obj n=some y)
  (hT:∀t n off,D7 (aV H ops.toList h.pre) n=true->o.dst≠some t->bB s'.tmps t=.ptr n off->bB s.tmps t=.ptr n off) :
  (∀j q t d ti,j≠i->h.nw=some j->(bY listed i)[j]?=some true->ops[j]?=some q->q.op=.alloc t->q.dst=some d->q.guard=none->E.ty t=some ti->d < (act.put o.dst cv).tmps.size->
   ∃b,b∈bsY++bsX/\(act.put o.dst cv).tmps[d]?=some (.pointer (some ⟨b,0,none⟩))/\aT w' R' N' (.cells (bO (cH ti.zero))) b []) ∧
  (∀j q T u t n off ob,j≠i->j∈h.tk->(bY listed i)[j]?=some true->ops[j]?=some q->q.op=.load T (.tmp u)->q.dst=some t->q.guard=none->bB s'.tmps u=.ptr n off->D7 (aV H ops.toList h.pre) n=true->s'.obj n=some ob->
   t < (act.put o.dst cv).tmps.size->∃b v,N' n=some b/\(act.put o.dst cv).tmps[t]?=some v/\(w'.cell? ⟨b,off,none⟩=some v∨∃vs,v=.agg vs)):=by
 constructor
 ·intro j q t d ti hji hnw hl hq hop hd hg hty hlt;obtain⟨⟨d',hd',hne,_⟩,_⟩:=mf hc (i:=j) (by simp[hnw]) hq hm (Ne.symm hji) hi;rw[hd] at hd';simp at hd';subst hd';rw[kD] at hlt;obtain⟨b,h1,h2,h3⟩:=hp.nwf j q t d ti hnw (zj hl hji) hq hop hd hg hty hlt;refine⟨b,by simp[h1],by rw[xz hne];exact h2,?_⟩;exact (h3.keep (hk.sub (by intro c hc;simp at hc;subst hc;simp[h1]))).ext hN
 intro j q T u t n off ob hji htk hl hq hop hd hg hu hok hob hlt;obtain⟨⟨d',hd',hne,_⟩,h4⟩:=mf hc (i:=j) (by simp[htk]) hq hm (Ne.symm hji) hi;rw[hd] at hd';simp at hd';subst hd';have hu1:o.dst≠some u:=by
  rcases h4 T u hop with hu1|⟨e,he,hb,hon⟩
  ·exact hu1
  exfalso
  have:=hcl j q (zj hl hji) hq e he hb
  rw[hon,Array.getD_eq_getD_getElem?,hun] at this;simp at this
 have hu2:=hT u n off hok hu1 hu;rw[kD] at hlt;obtain⟨y,hob⟩:=hlocs _ _ hok hob;obtain⟨b,v,h1,h2,h3⟩:=hp.tkf j q T u t n off y htk (zj hl hji) hq hop hd hg hu2 hok hob hlt;refine⟨b,v,hN _ _ h1,by rw[xz hne];exact h2,?_⟩
 rcases h3 with h3|h3
 ·left;rw[C9 (hkL _ _ b hok hob h1)];exact h3
 exact .inr h3
theorem vr {w w':World} {R R':Own} {N:Name->Option Nat} {os:List (Name×aR)} {bsL bs:List Nat} (hl:an w R N os bsL) (hk:bz w R w' R' bs) (hs:∀b∈bsL,b∈bs):∀n ob b,eu n os=some ob->N n=some b->w'.heap[b]?=w.heap[b]?:=by
 intro n ob b hob hb;obtain⟨pre,b',b1,post,e1,e2,_,_⟩:=an.split hl hob;rw[hb] at e2;simp at e2;subst e2;exact (hk.same b (hs b (by rw[e1];simp)) (hl.lt b (by rw[e1];simp))).1
theorem oY {w w':World} {R R':Own} {N:Name->Option Nat} {s:aa} {bsL bsH bs:List Nat} (hl:an w R N s.locs bsL) (hh:an w R (outs N) s.heap bsH) (hk:bz w R w' R' bs) (hs:∀b∈bsL,b∈bs) (hs2:∀b∈bsH,b∈bs):∀n ob b,s.obj n=some ob->N n=some b->w'.heap[b]?=w.heap[b]?:=by
 intro n ob b hob hb
 cases n with
 | loc i=>exact vr hl hk hs _ _ _ hob hb
 | out k=>exact vr hh hk hs2 _ _ _ hob hb
theorem Nt {w:World} {R:Own} {N:Name->Option Nat} {s:aa} {bsL bsH:List Nat} (hl:an w R N s.locs bsL) (hh:an w R (outs N) s.heap bsH) {n:Name} {ob:aR} (h:s.obj n=some ob) :
  ∃b b1,N n=some b/\aT w R N ob b b1/\(b∈bsL∨b∈bsH):=by
 cases n with
 | loc i=>
  obtain⟨pre,b,b1,post,e1,e2,e3,_⟩:=an.split hl h;exact⟨b,b1,e2,e3,.inl (by rw[e1];simp)⟩
 | out k=>
  obtain⟨pre,b,b1,post,e1,e2,e3,_⟩:=an.split hh h;have hno:di ob=true:=by
   cases ob with
   | cells cs=>obtain⟨vs,e,sp,hb,hrr,hR⟩:=e3;have:=hrr.cC;rw[ji] at this;exact this
   | map es=>rfl
  exact⟨b,b1,by simpa [outs] using e2,e3.ya hno (fun _=>rfl),.inr (by rw[e1];simp)⟩
theorem uP {a b:ac} {n:Name} {off:Nat} (h:cP a=cP b) (ha:a=.ptr n off):b=.ptr n off:=by
 subst ha
 cases b with
 | agg cs=>
  rcases jM (bu cs) with⟨ds,h'⟩|h' <;> simp[cP,h'] at h
 | _=>simp[cP] at h <;> simp[h]
theorem NE (hE:E.Ok P) {T:TypeId} {ti:TI} (hty:E.ty T=some ti) {w:World} {R:Own} {N:Name->Option Nat} {b off:Nat} {b1:List Nat} {cs:List ac} (hob:aT w R N (.cells cs) b b1) {v:ac} (hv:loadCells ti off cs=some v)
  {ρ:Operand->Value} {o:Oper} {x:Operand} (ho:o.op=.load T x) (hx:ρ x=.pointer (some ⟨b,off,none⟩)) {cv:Value} {w':World} (hran:Zh P w ρ o cv w'):w.cell? ⟨b,off,none⟩=some cv∨∃vs,cv=.agg vs:=by
 obtain⟨vs,elem,sp,hblk,hr,_⟩:=hob;replace hv:=mb (ps:=List.replicate sp .undef) hv;generalize cs++List.replicate sp .undef=cs at hr hv;obtain⟨cv0,e1,e2,e3⟩:=ma hv hr;obtain⟨cv1,g1,g2⟩:=ni (N:=N) (P:=P) hE hty hblk hr hv;have hrun:(execOp ρ o).run P w=.ok (.value cv1) w:=by
  obtain⟨dst,op,type,pos,after,guard⟩:=o;simp only at ho;subst ho;rw[←hx] at g1;exact ct g1
 have hcv:cv=cv1:=by
  rcases hran with h|⟨h,_⟩
  ·rw[hrun] at h;simp at h;exact h.1.symm
  rw[hrun] at h;simp at h
 subst hcv
 cases ha:ti.isAgg with
 | true=>
  right;unfold loadCells at hv;rw[ha] at hv;simp only[if_true] at hv
  split at hv
  ·simp at hv;subst hv
   rcases jM (bu (fj ti.size (gY off cs))) with⟨ds,h⟩|h
   ·rw[h] at g2;obtain⟨us,e,_⟩:=(cE g2).2;exact⟨_,e⟩
   rw[h] at g2;simp only[al] at g2;obtain⟨us,e,_⟩:=g2;exact⟨_,e⟩
  simp at hv
 | false=>
  left;have hg:=e3 ha;have hc:w.cell? ⟨b,off,none⟩=some cv0:=by rw[cell_of_row w b off vs elem (0,0) hblk];simpa using hg
  have:(Instr.loadAt T (.pointer (some ⟨b,off,none⟩))).run P w=.ok cv0 w:=by
   simp[Instr.loadAt,Instr.sureAddr,loadVar,hE.kF hty,ha,hc]
  rw[this] at g1;simp at g1;rw[hc,g1]
theorem Qz (hE:E.Ok P) {ops:Array Oper} {h:ax} (hc:dS ops h=true) {fh:Bool} {listed:Array Bool} {w:World} {R:Own} {N:Name->Option Nat} {act:Act} {s:aa} {bsT bsL bsH bsX bsF:List Nat}
  (hp:BW E G H ops h listed w R N act s bsT bsL bsH bsX bsF) (hcl:gS ops listed) (hd:act.defers=D) {i:Nat} {o:Oper} (hi:ops[i]?=some o) (hun:listed[i]?=some false) (hm:(i,false)∈h.pre) {a:ac} (hq:fm E G fh ops.toList o s=some a)
  {Qx:Exit->Act->World->Prop} {K:Act->World->Prop}
  (hK:∀cv w' R' bsT' bsX',BW E G H ops h (bY listed i) w' R' N (act.put o.dst cv) (s.put o.dst a) bsT' bsL bsH bsX' bsF->bz w R w' R' bsF->K (act.put o.dst cv) w'):wpOp P ops Qx i K act w:=by
 have hlocs0:(s.put o.dst a).locs=s.locs:=(cZ s o.dst a).1;have hobj0:∀n,(s.put o.dst a).obj n=s.obj n:=fun n=>lD
 have hlocs:∀n ob,D7 (aV H ops.toList h.pre) n=true->(s.put o.dst a).obj n=some ob->∃y,s.obj n=some y:=fun n ob _ h=>⟨ob,by rw[←hobj0];exact h⟩
 have hT:∀t n off,D7 (aV H ops.toList h.pre) n=true->o.dst≠some t->bB (s.put o.dst a).tmps t=.ptr n off->bB s.tmps t=.ptr n off:=fun t n off _ ht h=>by rw[cW ht] at h;exact h
 unfold wpOp;simp only[hi];unfold fm at hq
 split at hq
 ·simp at hq
 rename_i b hw;rw[kf hp.rel.tmps hw]
 split at hq
 ·rename_i hb;subst hb;simp only[if_true];left
  split at hq
  ·
   rename_i hal
   split at hq
   ·rename_i out hop;simp at hq;subst hq;have hop':∃t,o.op=.alloc t:=by
     unfold nG at hal
     split at hal
     ·exact⟨_,by assumption⟩
     simp at hal
    obtain⟨t,hot⟩:=hop';have hops:opsL o.op=[]:=by rw[hot];rfl
    have hnd:([]++(tA none++(bsT++(bsL++(bsH++(bsX++bsF)))))).Nodup:=by simpa [tA] using hp.rel.nodup
    obtain⟨cv,w',R',hran,hkeep,hout⟩:=mZ (ρ:=act.eval) (w:=w) (R:=R) (N:=N) (vals:=[]) (ob:=none) (nm:=none) (bsM:=[]) (rest:=bsT++(bsL++(bsH++(bsX++bsF)))) hE hop (by rw[hops];exact aX) (fun _=>rfl)
     (by unfold ez;rw[hot];exact⟨rfl,rfl⟩) hnd (fun _=>rfl)
    have hnew:∃ti,E.ty t=some ti/\out.eff=.new (.cells (bO (cH ti.zero))):=by
     rw[hot] at hop;simp only[jE,KO] at hop
     split at hop
     ·rename_i ti hti
      split at hop
      ·simp at hop;exact⟨ti,hti,by rw[←hop]⟩
      simp at hop
     simp at hop
    obtain⟨ti,hti,heff⟩:=hnew;rw[heff] at hout;obtain⟨_,b1',hobj,hb1,hsz,hcv⟩:=hout;have hb1':b1'=[]:=List.eq_nil_iff_forall_not_mem.2 fun x hx=>by have:=hb1.2 x hx;simp at this
    subst hb1';simp only at hcv;refine vg hran ?_;obtain⟨bsT',hr1⟩:=K3 (a:=.undef) (cv:=cv) (bsV:=[]) [w.heap.size] o.dst hp.rel (aW _) ⟨by simp,fun b hb=>.inr (by simp at hb;omega)⟩ (by intro b hb;simp at hb;subst hb;exact hsz) hkeep;have hr2:df G w' R' N (act.put o.dst cv).tmps.toList (s.put o.dst .undef) undef .undef [] bsT' bsL bsH (([w.heap.size]++bsX)++bsF):=by
     simpa using hr1
    obtain⟨c1,c2⟩:=hp.carry (cv:=cv) [w.heap.size] hc hcl hi hun hm (hkeep.sub (by intro x hx;simp[hx])) (fun n ob b _=>oY hp.rel.locs hp.rel.heap hkeep (by intro x hx;simp[hx]) (by intro x hx;simp[hx]) n ob b) (fun _ _ h=>h) hlocs hT;refine hK cv w' R' bsT' ([w.heap.size]++bsX) ⟨hr2,?_,?_⟩ (hkeep.sub (by intro x hx;simp[hx]))
    ·intro j q t' d ti' hnw hl hqo hop2 hdd hg hty hlt2
     by_cases hji:j=i
     ·subst hji;rw[hi] at hqo;simp at hqo;subst hqo;rw[hot] at hop2;simp at hop2;subst hop2;rw[hti] at hty;simp at hty;subst hty;refine⟨w.heap.size,by simp,?_,hobj⟩;rw[kD] at hlt2;rw[hdd,hcv];simp[Act.put,hlt2]
     exact c1 j q t' d ti' hji hnw hl hqo hop2 hdd hg hty hlt2
    intro j q T u t' n off ob htk hl hqo hop2 hdd hg hu hok hob hlt2
    by_cases hji:j=i
    ·subst hji;rw[hi] at hqo;simp at hqo;subst hqo;rw[hot] at hop2;simp at hop2
    exact c2 j q T u t' n off ob hji htk hl hqo hop2 hdd hg hu hok hob hlt2
   simp at hq
  -- a value
  rename_i hal
  split at hq
  ·simp at hq
  split at hq
  ·split at hq
   ·rename_i out hop
    split at hq
    ·rename_i heff;simp at hq;subst hq;obtain⟨cv,w',R',bsV,hran,hv,hf,hkeep⟩:=UA hE hop heff hp.rel;refine vg hran ?_;obtain⟨bsT',hr2⟩:=K3 [] o.dst hp.rel hv (by simpa using hf) (by simp) hkeep;rw[List.nil_append] at hr2;obtain⟨c1,c2⟩:=hp.carry (cv:=cv) [] hc hcl hi hun hm (hkeep.sub (by intro x hx;simp[hx])) (fun n ob b _=>oY hp.rel.locs hp.rel.heap hkeep (by intro x hx;simp[hx]) (by intro x hx;simp[hx]) n ob b) (fun _ _ h=>h) hlocs hT;refine hK cv w' R' bsT' bsX ⟨hr2,?_,?_⟩ (hkeep.sub (by intro x hx;simp[hx]))
     ·intro j q t' d ti' hnw hl hqo hop2 hdd hg hty hlt2
      by_cases hji:j=i
      ·subst hji;rw[hi] at hqo;simp at hqo;subst hqo;rw[hop2] at hal;simp[nG] at hal
      simpa using c1 j q t' d ti' hji hnw hl hqo hop2 hdd hg hty hlt2
     intro j q T u t' n off ob htk hl hqo hop2 hdd hg hu hok hob hlt2
     by_cases hji:j=i
     ·subst hji;rw[hi] at hqo;simp at hqo;subst hqo;have hut:o.dst≠some u:=EX hc (by simp[htk]) hi hop2;rw[cW hut] at hu;rw[hobj0] at hob;have hvals:aM G s none 0 (opsL o.op)=[.ptr n off]:=by
       rw[hop2];simp[opsL,aM,eR,hu,cP]
      rw[hvals] at hop;have hlo:bj s o.op [.ptr n off]=some ob:=by
       unfold bj;rw[hop2];simp[looks,hob]
      rw[hlo,hop2] at hop;simp only[jE,lg] at hop
      split at hop
      ·rename_i ti cs hty hcs;simp at hcs;subst hcs;simp only[Bool.false_and,Bool.false_eq_true,if_false] at hop
       cases hld:loadCells ti off cs with
       | none=>rw[hld] at hop;simp[wM] at hop
       | some v=>
        obtain⟨b',b1,e2,e3,e1⟩:=Nt hp.rel.locs hp.rel.heap hob;have hget:s.tmps[u]?=some (.ptr n off):=by
         unfold bB at hu
         cases hs:s.tmps[u]? with
         | none=>rw[hs] at hu;simp at hu
         | some v=>rw[hs] at hu;simp at hu;rw[hu]
        obtain⟨u1,bs',g1,g2,_⟩:=eB hp.rel.tmps hget;simp only[al] at g2;obtain⟨_,b2,hb2,rfl⟩:=g2;rw[e2] at hb2;simp at hb2;subst hb2;have hρ:act.eval (.tmp u)=.pointer (some ⟨b',off,none⟩):=by
         simp at g1;simp[Act.eval,g1]
        have hcell:=NE hE hty e3 hld hop2 hρ hran;refine⟨b',cv,e2,?_,?_⟩
        ·rw[kD] at hlt2;rw[hdd];simp[Act.put,hlt2]
        rcases hcell with hcell|hcell
        ·left;have hsame:=oY hp.rel.locs hp.rel.heap hkeep (by intro x hx;simp[hx]) (by intro x hx;simp[hx]) _ _ _ hob e2;rw[C9 hsame];exact hcell
        exact .inr hcell
      simp at hop
     exact c2 j q T u t' n off ob hji htk hl hqo hop2 hdd hg hu hok hob hlt2
    simp at hq
   simp at hq
  simp at hq
 -- not wanted
 rename_i hb;simp at hq;subst hq;rw[if_neg hb];obtain⟨bsT',hr2⟩:=nc hp.rel o.dst;obtain⟨c1,c2⟩:=hp.carry (cv:=undef) [] hc hcl hi hun hm (bi _) (fun _ _ _ _ _ _=>rfl) (fun _ _ h=>h) hlocs hT;have hng:o.guard≠none:=by
  intro hg;unfold dy at hw;rw[hg] at hw;simp at hw;exact hb hw
 refine hK undef w R bsT' bsX ⟨hr2,?_,?_⟩ (bi _)
 ·intro j q t' d ti' hnw hl hqo hop2 hdd hg hty hlt2
  by_cases hji:j=i
  ·subst hji;rw[hi] at hqo;simp at hqo;subst hqo;exact absurd hg hng
  simpa using c1 j q t' d ti' hji hnw hl hqo hop2 hdd hg hty hlt2
 intro j q T u t' n off ob htk hl hqo hop2 hdd hg hu hok hob hlt2
 by_cases hji:j=i
 ·subst hji;rw[hi] at hqo;simp at hqo;subst hqo;exact absurd hg hng
 exact c2 j q T u t' n off ob hji htk hl hqo hop2 hdd hg hu hok hob hlt2
end
end Go.Tp
namespace Go.Tp
section
variable {P:Program} {E:bG} {G:bL} {H:Hints} {D:List Deferred}
theorem BB (hE:E.Ok P) {c:Call} {s s2:aa} {f:FuncId} {args:List ac} (h:dI E G H c s=some (f,args,s2)) {w:World} {R:Own} {N:Name->Option Nat} {act:Act} {bsT bsL bsH bsF:List Nat}
  (hr:df G w R N act.tmps.toList s undef .undef [] bsT bsL bsH bsF) (o:Oper) (ho:o.op=.call c) :
  ∃cargs:List Value,(execOp act.eval o).run P w=.ok (.enter f cargs.toArray) w/\bU args=true/\∃bsA bsT',df G w R N act.tmps.toList s2 (.tuple cargs.toArray) (.tup args) bsA bsT' bsL bsH bsF:=by
 obtain⟨callee,cargs0,argTypes⟩:=c
 cases callee with
 | builtin _=>simp[dI] at h
 | invoke _ _=>simp[dI] at h
 | value fo=>
  simp only[dI] at h;obtain⟨bf,hfv⟩:=pC hr.tmps hr.glob fo;generalize haf:eR G s fo=af at h hfv
  split at h
  ·rename_i g first captured;simp only[al] at hfv;obtain⟨_,vf,uf,ef,hfirst,hcap⟩:=hfv
   split at h
   ·rename_i hfn;obtain⟨fn,hf1,hf2,hf3⟩:=hE.fn g hfn;have hnd0:(bsT++(bsL++(bsH++bsF))).Nodup:=by simpa using hr.nodup
    have hops:∃(vs:List ac) (s1:aa) (bsM bsT':List Nat),(if H.moves g=true then cK G s cargs0.toList else (aM G s none 0 cargs0.toList,s))=(vs,s1) ∧
      ak w R N vs (cargs0.toList.map act.eval) bsM/\ak w R N s1.tmps act.tmps.toList bsT'/\(bsM++(bsT'++(bsL++(bsH++bsF)))).Nodup/\s1.locs=s.locs/\s1.heap=s.heap/\s1.next=s.next:=by
     split
     ·obtain⟨bsM,bsT',k1,k2,k3⟩:=kO hr.glob cargs0.toList hr.tmps hnd0;obtain⟨q1,q2,q3⟩:=gh G cargs0.toList s;exact⟨_,_,bsM,bsT',rfl,k1,k2,k3,q1,q2,q3⟩
     exact⟨_,_,[],bsT,rfl,kN hr.tmps hr.glob none 0 _ (by simp),hr.tmps,by simpa using hnd0,rfl,rfl,rfl⟩
    obtain⟨vs,s1,bsM,bsT',hpair,hvs,ht1,hnd1,q1,q2,q3⟩:=hops;rw[hpair] at h;simp only at h
    split at h
    ·rename_i hno;simp only[Option.some.injEq,Prod.mk.injEq] at h;obtain⟨rfl,rfl,rfl⟩:=h;have hall:ak w R N (first++vs++captured) (vf++cargs0.toList.map act.eval++uf) bsM:=by
      have:=cD (cD hfirst hvs) hcap
      simpa using this
     refine⟨vf++cargs0.toList.map act.eval++uf,?_,hno,bsM,bsT',⟨by simp only[al];exact⟨_,rfl,hall⟩,ht1,by rw[q1];exact hr.locs,by rw[q2];exact hr.heap,hnd1,by rw[q3];exact hr.next,hr.glob,hr.frame⟩⟩;have hbody:fn.body.isNone=false:=by cases hb:fn.body <;> simp_all
     have hb2:¬fn.body=none:=by intro hb;simp[hb] at hbody
     have hn2:¬fn.name= "runtime.NumGoroutine":=by simpa using hf3
     simp[execOp,ho,resolve,ef,Deferred.ofValue,invoke,callFunc,hf1,hn2,hb2]
    simp at h
   simp at h
  simp at h
theorem wa:∀{os:List (Name×aR)} {n m:Name} {o x:aR},eu m (iS n o os)=some x->∃y,eu m os=some y
 | [],_,_,_,_,h=>by simp[iS,eu] at h
 |(k,y)::os,n,m,o,x,h=>by
  simp only[iS] at h
  split at h
  ·simp only[eu] at h ⊢
   split
   ·exact⟨_,rfl⟩
   rename_i hk;rw[if_neg hk] at h;exact⟨x,h⟩
  simp only[eu] at h ⊢
  split
  ·exact⟨_,rfl⟩
  rename_i hk;rw[if_neg hk] at h;exact wa h
theorem vD {l:List ac} {t:Nat} {v:ac} (h:bB l t=v) (hv:v≠.undef):l[t]?=some v:=by
 unfold bB at h
 split at h
 ·rename_i x hx;rw[hx,h]
 exact absurd h.symm hv
theorem Gh {s:aa} {n m:Name} {o x:aR} (h:(s.kj n o).obj m=some x):∃y,s.obj m=some y:=by
 cases n <;> cases m <;> simp only[aa.kj,aa.obj] at h ⊢
 ·exact wa h
 ·exact⟨_,h⟩
 ·exact⟨_,h⟩
 exact wa h
theorem sR {fh:Bool} {ops:Array Oper} {w:World} {R:Own} {N:Name->Option Nat} {act:Act} {bsF:List Nat} :
  ∀(tk:List Nat) {s s':aa} {bsT bsL bsH:List Nat},dv fh ops.toList tk s=some s'->df G w R N act.tmps.toList s undef .undef [] bsT bsL bsH bsF->
   (∀i o T u t n off ob,i∈tk->ops[i]?=some o->o.op=.load T (.tmp u)->o.dst=some t->o.guard=none->bB s.tmps u=.ptr n off->D7 fh n=true->s.obj n=some ob->t < act.tmps.size->
    ∃b v,N n=some b/\act.tmps[t]?=some v/\(w.cell? ⟨b,off,none⟩=some v∨∃vs,v=.agg vs))->
   ∃bsT' bsL' bsH',df G w R N act.tmps.toList s' undef .undef [] bsT' bsL' bsH' bsF
 | [],s,s',bsT,bsL,bsH,h,hr,_=>by simp[dv] at h;subst h;exact⟨bsT,bsL,bsH,hr⟩
 | i::r,s,s',bsT,bsL,bsH,h,hr,hf=>by
  obtain⟨o,T,u,t,n,off,cs,es,es2,ho,hop,hd,hg,hu,hok,hob,hes,ht,hrest⟩:=gl h;have ho':ops[i]?=some o:=by simpa using ho
  have hsz:act.tmps.size=s.tmps.length:=by have:=hr.tmps.length;simpa using this
  have htg:=vD ht (by simp);have htl:t < act.tmps.size:=by rw[hsz];exact (List.getElem?_eq_some_iff.1 htg).1
  obtain⟨b0,v,hb0,hv,hcell⟩:=hf i o T u t n off (.cells cs) (by simp) ho' hop hd hg hu hok hob htl;obtain⟨v',bs',g1,g2,_⟩:=eB hr.tmps htg;have hvv:v'=v:=by
   have:act.tmps.toList[t]?=some v:=by simpa using hv
   rw[this] at g1;simp at g1;exact g1.symm
  subst hvv;have hsame:act.tmps.toList.set t v'=act.tmps.toList:=by
   apply List.ext_getElem?
   intro j;rw[List.getElem?_set]
   split
   ·rename_i hj;subst hj;split
    ·exact g1.symm
    rename_i hl;rw[List.getElem?_eq_none (by omega)]
   rfl
  have k2:dr off [ac.dat (.slice es)] cs=cs.set off (.dat (.slice es)):=by
   apply List.ext_getElem?
   intro j;rw[jJ,List.getElem?_set]
   by_cases hj:off=j
   ·subst hj
    by_cases hl:off < cs.length
    ·rw[if_pos ⟨Nat.le_refl _,by simp,hl⟩,if_pos rfl,if_pos hl];simp
    rw[if_neg (by omega),if_pos rfl,if_neg hl];exact List.getElem?_eq_none (by omega)
   rw[if_neg (by simp;omega),if_neg hj]
  -- the object's cells, ownership gone
  have hcells:∀(M:Name->Option Nat) (b:Nat) (b1:List Nat),N n=some b->aT w R M (.cells cs) b b1->∃bt b1',ib w R v' es bt/\aT w R M (.cells (dr off [.dat (.slice es)] cs)) b b1'/\b1.Perm (bt++b1'):=by
   intro M b b1 hN hobj;rw[hN] at hb0;simp at hb0;subst hb0;obtain⟨vs,elem,sp,hblk,hrr,hR⟩:=hobj;obtain⟨pre2,bt,post2,cv,f1,f2,f3,f4⟩:=ak.split hrr (yu hes);have hcv:w.cell? ⟨b,off,none⟩=some cv:=by rw[cell_of_row w b off vs elem (0,0) hblk];simpa using f2
   have hvc:v'=cv:=by
    rcases hcell with hcell|⟨us,hus⟩
    ·rw[hcv] at hcell;simp at hcell;exact hcell.symm
    subst hus
    have:=(dD g2).2
    cases this
   subst hvc;have hset:=f4 w R (.dat (.slice es)) v' [] (bi _) (bZ (d:=.slice es) (cA f3).rep);have k1:vs.toList.set off v'=vs.toList:=by
    apply List.ext_getElem?
    intro j;rw[List.getElem?_set]
    split
    ·rename_i hj;subst hj;split
     ·exact f2.symm
     rename_i hl;rw[List.getElem?_eq_none (by omega)]
    rfl
   rw[k1,List.set_append_left (h:=(List.getElem?_eq_some_iff.1 hes).1)] at hset;refine⟨bt,pre2++[]++post2,cA f3,⟨vs,elem,sp,hblk,by rw[k2];exact hset,hR.1,fun hb=>hR.2 (xv hes hb)⟩,?_⟩;subst f1;rw[List.perm_iff_count];intro q;simp only[List.count_append,List.count_nil];omega
  have hstate:∃bt bsL1 bsH1,ib w R v' es bt/\an w R N (s.kj n (.cells (dr off [.dat (.slice es)] cs))).locs bsL1/\an w R (outs N) (s.kj n (.cells (dr off [.dat (.slice es)] cs))).heap bsH1/\(bt++(bsT++(bsL1++(bsH1++bsF)))).Nodup:=by
   have h0:(bsT++(bsL++(bsH++bsF))).Nodup:=by simpa using hr.nodup
   cases n with
   | loc k=>
    obtain⟨pre,b,b1,post,e1,e2,e3,e4⟩:=an.split hr.locs hob;obtain⟨bt,b1',q1,q2,q3⟩:=hcells N b b1 e2 e3;refine⟨bt,_,bsH,q1,e4 w R _ b1' (bi _) q2,hr.heap,?_⟩;subst e1;have hp:(bt++(bsT++((pre++(b::b1')++post)++(bsH++bsF)))).Perm (bsT++((pre++(b::b1)++post)++(bsH++bsF))):=by
     have q3':=List.perm_iff_count.1 q3;rw[List.perm_iff_count];intro q;have:=q3' q;simp only[List.count_append,List.count_cons] at this ⊢;omega
    exact hp.nodup_iff.2 h0
   | out k=>
    obtain⟨pre,b,b1,post,e1,e2,e3,e4⟩:=an.split hr.heap hob;obtain⟨bt,b1',q1,q2,q3⟩:=hcells (outs N) b b1 (by simpa [outs] using e2) e3;refine⟨bt,bsL,_,q1,hr.locs,e4 w R _ b1' (bi _) q2,?_⟩;subst e1;have hp:(bt++(bsT++(bsL++((pre++(b::b1')++post)++bsF)))).Perm (bsT++(bsL++((pre++(b::b1)++post)++bsF))):=by
     have q3':=List.perm_iff_count.1 q3;rw[List.perm_iff_count];intro q;have:=q3' q;simp only[List.count_append,List.count_cons] at this ⊢;omega
    exact hp.nodup_iff.2 h0
  obtain⟨bt,bsL1,bsH1,q1,q2,q3,q4⟩:=hstate;obtain⟨bsT2,p1,p2⟩:=mE (a:=.own es) t hr.tmps (by simpa only[al] using q1) q4;rw[hsame] at p1;have e5:(({s with tmps:=s.tmps.set t (.own es)}:aa).kj n (.cells (dr off [.dat (.slice es)] cs)))={s.kj n (.cells (dr off [.dat (.slice es)] cs)) with tmps:=s.tmps.set t (.own es)}:=by cases n <;> rfl
  rw[e5] at hrest;refine sR r hrest ⟨aW _,p1,q2,q3,by simpa using p2,by simpa only[Cr] using hr.next,hr.glob,hr.frame⟩ ?_;intro i' o' T' u' t' n' off' ob' hi' ho2 hop2 hd2 hg2 hu2 hok2 hob2 hlt2;have hu3:bB s.tmps u'=.ptr n' off':=by
   by_cases hut:t=u'
   ·subst hut
    exfalso
    unfold bB at hu2;rw[List.getElem?_set_self (by rw[←hsz];exact htl)] at hu2;simp at hu2
   rwa [cq hut] at hu2
  have hob3:∃y,s.obj n'=some y:=by
   have hob2':(s.kj n (.cells (dr off [.dat (.slice es)] cs))).obj n'=some ob':=by cases n' <;> exact hob2
   exact Gh hob2'
  obtain⟨y,hy⟩:=hob3;exact hf i' o' T' u' t' n' off' y (by simp[hi']) ho2 hop2 hd2 hg2 hu3 hok2 hy hlt2
theorem zh {fh:Bool} {all:List Oper}:∀(tk:List Nat) (s s':aa),dv fh all tk s=some s'->∀n ob,s'.obj n=some ob->∃y,s.obj n=some y
 | [],s,s',h,n,ob,hn=>by simp[dv] at h;subst h;exact⟨ob,hn⟩
 | i::r,s,s',h,n,ob,hn=>by
  obtain⟨o,T,u,t,m,off,cs,es,es2,ho,hop,hd,hg,hu,hok,hob,hes,ht,hrest⟩:=gl h;obtain⟨y,hy⟩:=zh r _ _ hrest n ob hn;obtain⟨z,hz⟩:=Gh hy;exact⟨z,by cases n <;> exact hz⟩
theorem Br:∀{os:List (Name×aR)} {n m:Name} {o x:aR},eu m os=some x->∃y,eu m (iS n o os)=some y
 | [],_,_,_,_,h=>by simp[eu] at h
 |(k,y)::os,n,m,o,x,h=>by
  simp only[eu] at h;simp only[iS]
  split
  ·simp only[eu]
   split
   ·exact⟨_,rfl⟩
   rename_i hk;rw[if_neg hk] at h;exact⟨x,h⟩
  simp only[eu]
  split
  ·exact⟨_,rfl⟩
  rename_i hk;rw[if_neg hk] at h;exact Br h
theorem QD {s:aa} {n m:Name} {o x:aR} (h:s.obj m=some x):∃y,(s.kj n o).obj m=some y:=by
 cases n <;> cases m <;> simp only[aa.kj,aa.obj] at h ⊢
 ·exact Br h
 ·exact⟨_,h⟩
 ·exact⟨_,h⟩
 exact Br h
theorem zg {fh:Bool} {all:List Oper}:∀(tk:List Nat) (s s':aa),dv fh all tk s=some s'->∀n ob,s.obj n=some ob->∃y,s'.obj n=some y
 | [],s,s',h,n,ob,hn=>by simp[dv] at h;subst h;exact⟨ob,hn⟩
 | i::r,s,s',h,n,ob,hn=>by
  obtain⟨o,T,u,t,m,off,cs,es,es2,ho,hop,hd,hg,hu,hok,hob,hes,ht,hrest⟩:=gl h;obtain⟨y,hy⟩:=QD (s:={s with tmps:=s.tmps.set t (.own es)}) (n:=m) (o:=.cells (dr off [.dat (.slice es)] cs)) (m:=n) (x:=ob) (by cases n <;> exact hn);exact zg r _ _ hrest n y hy
theorem zf {fh:Bool} {all:List Oper}:∀(tk:List Nat) (s s':aa),dv fh all tk s=some s'->∀t n off,bB s'.tmps t=.ptr n off->bB s.tmps t=.ptr n off
 | [],s,s',h,t,n,off,hn=>by simp[dv] at h;subst h;exact hn
 | i::r,s,s',h,t',n',off',hn=>by
  obtain⟨o,T,u,t,m,off,cs,es,es2,ho,hop,hd,hg,hu,hok,hob,hes,ht,hrest⟩:=gl h;have h1:=zf r _ _ hrest t' n' off' hn;rw[Cq] at h1
  by_cases he:t=t'
  ·subst he
   exfalso
   have hlt:=(List.getElem?_eq_some_iff.1 (vD ht (by simp))).1;unfold bB at h1;rw[List.getElem?_set_self hlt] at h1;simp at h1
  rwa [cq he] at h1
theorem OC (hE:E.Ok P) {o:Oper} {t:Tmp} (ht:fJ o.op=some t) {s s':aa} (h:cX E G false false o s=some s') {w:World} {R:Own} {N:Name->Option Nat} {act:Act} {bsT bsL bsH bsF:List Nat}
  (hr:df G w R N act.tmps.toList s undef .undef [] bsT bsL bsH bsF) :
  ∃cv w' R' bsT',Zh P w act.eval o cv w'/\df G w' R' N (act.put o.dst cv).tmps.toList s' undef .undef [] bsT' bsL bsH bsF/\bz w R w' R' (bsL++(bsH++bsF)):=by
 unfold cX at h;have hnd0:(bsT++(bsL++(bsH++bsF))).Nodup:=by simpa using hr.nodup
 obtain⟨bsM,bsT',ha,ht',hnd,hmv⟩:=qE hr.tmps hr.glob (kI false o.op) (opsL o.op) (bsL++(bsH++bsF)) hnd0
 split at h
 ·simp at h
 rename_i out hop;obtain⟨hk,hl⟩:=pO ht hop;have hlo:bj s o.op (aM G s (kI false o.op) 0 (opsL o.op))=none:=by unfold bj;rw[hl]
 rw[hlo] at hop;have hlk:ez w R N o.op (aM G s (kI false o.op) 0 (opsL o.op)) none none:=by unfold ez;rw[hl];exact⟨rfl,rfl⟩
 obtain⟨cv,w',R',hran,hkeep,hout⟩:=mZ (rest:=bsT'++(bsL++(bsH++bsF))) hE hop ha (fun h=>hmv (by unfold kI;simp[h])) hlk (by simpa [tA] using hnd) (fun _=>rfl);rw[hk] at hout;obtain⟨bsV,hv,hf,_,_⟩:=hout;simp only[dH,hk,Option.some.injEq] at h;subst h;obtain⟨dl1,dl2,dl3⟩:=qy s (kI false o.op) (opsL o.op);have hlt:∀b∈bsT'++(bsL++(bsH++bsF)),b < w.heap.size:=fun b hb=>by
  simp at hb
  rcases hb with h|h|h|h
  ·exact ht'.lt b h
  ·exact hr.locs.lt b h
  ·exact hr.heap.lt b h
  exact hr.frame b h
 have hndV:(bsV++(bsT'++(bsL++(bsH++bsF)))).Nodup:=fE hnd hlt hf;obtain⟨bsT2,hp1,hp2⟩:=fN o.dst (ht'.keep (hkeep.sub (by intro b hb;simp[hb]))) hv hndV;obtain⟨q1,q2,q3⟩:=cZ (bR s (kI false o.op) (opsL o.op)) o.dst out.val;refine⟨cv,w',R',bsT2,hran,⟨aW _,?_,?_,?_,by simpa using hp2,?_,fun g cs hg=>(hr.glob g cs hg).step hkeep.step,fun b hb=>Nat.lt_of_lt_of_le (hr.frame b hb) hkeep.step.size⟩,hkeep.sub (by intro b hb;simp at hb;simp;exact .inr hb)⟩
 ·rw[(gF act o.dst cv).1];exact hp1
 ·rw[q1,dl1];exact hr.locs.keep (hkeep.sub (by intro b hb;simp[hb]))
 ·rw[q2,dl2];exact hr.heap.keep (hkeep.sub (by intro b hb;simp[hb]))
 rw[q3,dl3];exact hr.next
theorem aax (hE:E.Ok P) {ops:Array Oper} {h:ax} (hc:dS ops h=true) (hca:nU ops h=true) (hcst:gI ops h=true) {listed:Array Bool} {w:World} {R:Own} {N:Name->Option Nat} {act:Act} {s:aa} {bsT bsL bsH bsX bsF:List Nat}
  (hp:BW E G H ops h listed w R N act s bsT bsL bsH bsX bsF) (hcl:gS ops listed) (hd:act.defers=D) {i:Nat} {o:Oper} (hi:ops[i]?=some o) (hun:listed[i]?=some false) (hm:(i,true)∈h.pre) (hrd:i∈Region.ready .any ops listed) {K:aa->Prop} (hq:Ns (aB P G) E G H (aV H ops.toList h.pre) h.tk ops.toList o K s)
  {Qx:Exit->Act->World->Prop} {Kx:Act->World->Prop}
  (hK:∀s' cv w' R' N' bsT' bsL' bsH',K s'->BW E G H ops h (bY listed i) w' R' N' (act.put o.dst cv) s' bsT' bsL' bsH' bsX bsF->bz w R w' R' bsF->(∀o b,N (.out o)=some b->N' (.out o)=some b)->Kx (act.put o.dst cv) w'):wpOp P ops Qx i Kx act w:=by
 have hself:∀{s':aa} {cv:Value} {w':World} {R':Own} {N':Name->Option Nat} {bsT' bsL' bsH':List Nat},df G w' R' N' (act.put o.dst cv).tmps.toList s' undef .undef [] bsT' bsL' bsH' (bsX++bsF)->bz w R w' R' bsX->(∀n ob b,D7 (aV H ops.toList h.pre) n=true->s.obj n=some ob->N n=some b->w'.heap[b]?=w.heap[b]?)->
   (∀m c,N m=some c->N' m=some c)->(∀n ob,D7 (aV H ops.toList h.pre) n=true->s'.obj n=some ob->∃y,s.obj n=some y)->(∀t n off,D7 (aV H ops.toList h.pre) n=true->o.dst≠some t->bB s'.tmps t=.ptr n off->bB s.tmps t=.ptr n off)->
   (o.guard≠none∨∃c,o.op=.call c)->BW E G H ops h (bY listed i) w' R' N' (act.put o.dst cv) s' bsT' bsL' bsH' bsX bsF:=by
  intro s' cv w' R' N' bsT' bsL' bsH' hr2 hk hkL hN hlocs hT hwhy;obtain⟨c1,c2⟩:=hp.carry (cv:=cv) [] hc hcl hi hun hm hk hkL hN hlocs hT;refine⟨hr2,?_,?_⟩
  ·intro j q t' d ti' hnw hl hqo hop2 hdd hg hty hlt2
   by_cases hji:j=i
   ·subst hji;rw[hi] at hqo;simp at hqo;subst hqo
    rcases hwhy with hwhy|⟨c,hcc⟩
    ·exact absurd hg hwhy
    rw[hop2] at hcc;simp at hcc
   simpa using c1 j q t' d ti' hji hnw hl hqo hop2 hdd hg hty hlt2
  intro j q T u t' n off ob htk hl hqo hop2 hdd hg hu hok hob hlt2
  by_cases hji:j=i
  ·subst hji;rw[hi] at hqo;simp at hqo;subst hqo
   rcases hwhy with hwhy|⟨c,hcc⟩
   ·exact absurd hg hwhy
   rw[hop2] at hcc;simp at hcc
  exact c2 j q T u t' n off ob hji htk hl hqo hop2 hdd hg hu hok hob hlt2
 unfold wpOp;simp only[hi];unfold Ns at hq
 split at hq
 ·exact hq.elim
 rename_i b hw;rw[kf hp.rel.tmps hw]
 split at hq
 ·rename_i hb;subst hb;simp only[if_true];left
  split at hq
  ·rename_i c hcc;have hop:=vx hcc
   split at hq
   ·rename_i f args s2 hcal;obtain⟨cargs,hrun,hno,bsA,bsT2,hr2⟩:=BB hE hcal hp.rel o hop;obtain⟨hsim,hlocs2⟩:=mq hcal
    cases hpu:hO H o with
    | true=>
     rw[hpu] at hq;refine xL hrun hr2 hno hd hq ?_;intro v cv n w' R' N' bsT' hKs hr4 hk hext _;refine hK _ cv w' R' N' bsT' bsL bsH hKs (hself hr4 (hk.sub (by intro x hx;simp[hx])) ?_ hext ?_ ?_ (.inr ⟨c,hop⟩)) (hk.sub (by intro x hx;simp[hx])) (fun o b h=>hext _ _ h)
     ·intro n ob b _ hob hb;exact oY hp.rel.locs hp.rel.heap hk (by intro x hx;simp[hx]) (by intro x hx;simp[hx]) n ob b hob hb
     ·intro n ob _ hn;rw[lD] at hn;have e2:=mr hcal
      cases n with
      | loc k=>simp only[aa.obj] at hn ⊢;exact⟨ob,by rw[←hlocs2];exact hn⟩
      | out k=>simp only[aa.obj] at hn ⊢;exact⟨ob,by rw[←e2];exact hn⟩
     intro t n off _ ht hn;rw[cW ht] at hn;exact uP (hsim t) hn
    | false=>
    rw[hpu] at hq;refine Bb hrun hr2 hno hd (hq.mono fun v heap n hx b1 b2=>(hx b1 b2).2) ?_;intro v cv heap n w' R' N' bsT' bsH' hKs hr4 hk hext _;have hfh:=ow (all:=ops.toList) hm (by simpa using hi) hcc hpu;have hloc:∀n,D7 (aV H ops.toList h.pre) n=true->∃k,n=.loc k:=by
     intro n hn
     cases n with
     | loc k=>exact⟨k,rfl⟩
     | out k=>rw[hfh] at hn;simp[D7] at hn
    refine hK _ cv w' R' N' bsT' bsL bsH' hKs (hself hr4 (hk.sub (by intro x hx;simp[hx])) ?_ hext ?_ ?_ (.inr ⟨c,hop⟩)) (hk.sub (by intro x hx;simp[hx])) (fun o b h=>hext _ _ h)
    ·intro n ob b hn hob hb;obtain⟨k,rfl⟩:=hloc n hn;exact vr hp.rel.locs hk (by intro x hx;simp[hx]) _ ob b hob hb
    ·intro n ob hok hn;obtain⟨k,rfl⟩:=hloc n hok;rw[lD] at hn;simp only[aa.obj] at hn ⊢;exact⟨ob,by rw[←hlocs2];exact hn⟩
    intro t n off _ ht hn;rw[cW ht] at hn;exact uP (hsim t) hn
   exact hq.elim
  split at hq
  ·rename_i t ht
   split at hq
   ·rename_i s1 hs1
    split at hq
    ·rename_i s' hs';obtain⟨c,_,hop,_,_⟩:=nZ ht
     -- the loads by which it owns have come up
     have hlisted:∀k∈gf ops.toList t (lu h.tk t s),listed[k]?=some true:=by
      intro k hk;unfold nU at hca;have h1:=List.all_eq_true.1 hca (i,true) hm;simp only[hi,ht] at h1;have h2:=List.all_eq_true.1 h1 k (my hk);obtain⟨e,he1,he2⟩:=Array.any_eq_true'.1 h2;simp only[Bool.and_eq_true,beq_iff_eq] at he2;obtain⟨_,o',ho',hafter⟩:=mem_ready.1 hrd;rw[hi] at ho';simp at ho';subst ho';have h3:=hafter e he1 he2.1;rw[he2.2] at h3;rw[Array.getD_eq_getD_getElem?] at h3
      cases hg:listed[k]? with
      | none=>rw[hg] at h3;simp at h3
      | some b=>rw[hg] at h3;simp at h3;rw[h3]
     obtain⟨bsT1,bsL1,bsH1,hr1⟩:=sR _ hs1 hp.rel (fun k o' T u t' n off ob hk ho' hop' hd' hg' hu' hok' hob' hlt'=>hp.tkf k o' T u t' n off ob (kE (my hk)).1 (hlisted k hk) ho' hop' hd' hg' hu' hok' hob' hlt');obtain⟨cv,w',R',bsT',hran,hr2,hkeep⟩:=OC hE ht hs' hr1;refine vg hran ?_;obtain⟨v,he,_⟩:=uz ht hs';refine hK s' cv w' R' N bsT' bsL1 bsH1 hq (hself hr2 (hkeep.sub (by intro x hx;simp[hx])) ?_ (fun _ _ h=>h) ?_ ?_ (.inr ⟨c,hop⟩)) (hkeep.sub (by intro x hx;simp[hx])) (fun _ _ h=>h)
     ·intro n ob b _ hob hb;obtain⟨y,hy⟩:=zg _ _ _ hs1 n ob hob;exact oY hr1.locs hr1.heap hkeep (by intro x hx;simp[hx]) (by intro x hx;simp[hx]) n y b hy hb
     ·intro n ob _ hn;rw[he,lD] at hn;exact zh _ _ _ hs1 n ob (by cases n <;> exact hn)
     intro t' n off _ ht' hn;rw[he,cW ht'] at hn;have e1:=kA (s:=s1) (x:=.tmp t) t';simp only[bR,List.getElem?_cons_zero] at e1;exact zf _ _ _ hs1 t' _ _ (uP e1 hn)
    exact hq.elim
   exact hq.elim
  split at hq
  ·rename_i hst
   split at hq
   ·rename_i s' hs';unfold gI at hcst;have g1:=List.all_eq_true.1 hcst (i,true) hm;simp only[hi,hst,Bool.not_true,Bool.false_or,Bool.and_eq_true,Option.isNone_iff_eq_none,List.isEmpty_iff] at g1;obtain⟨⟨⟨hnw,htk⟩,_⟩,_⟩:=g1;obtain⟨cv,w',hran,⟨R',N',bsT',bsL',bsH',hr',hk',hN',_⟩,_⟩:=pM hE hs' hp.rel;refine vg hran (hK s' cv w' R' N' bsT' bsL' bsH' hq ⟨hr',?_,?_⟩ (hk'.sub (by intro x hx;simp[hx])) hN')
    ·intro j q t' d ti' hj;rw[hnw] at hj;simp at hj
    intro j q T u t' n off ob hj;rw[htk] at hj;simp at hj
   exact hq.elim
  exact hq.elim
 rename_i hb;rw[if_neg hb];have hng:o.guard≠none:=by
  intro hg;unfold dy at hw;rw[hg] at hw;simp at hw;exact hb hw
 obtain⟨bsT',hr2⟩:=nc hp.rel o.dst;exact hK _ undef w R N bsT' bsL bsH hq (hself hr2 (bi _) (fun _ _ _ _ _ _=>rfl) (fun _ _ h=>h) (fun n ob _ hn=>⟨ob,by rw[lD] at hn;exact hn⟩) (fun t n off _ ht hn=>by rw[cW ht] at hn;exact hn) (.inl hng)) (bi _) (fun _ _ h=>h)
def nh (E:bG) (all:List Oper) (mk:Option Nat) (s:aa):Option aa:=
 match mk with
 | none=>some s
 | some i=>(match all[i]? with
  | some o=>(match o.op,o.dst,o.guard with
   | .alloc t,some d,none=>(match E.ty t with
    | some ti=>if eT (bO (cH ti.zero))=true/\ba (.loc d) (bO (cH ti.zero))=false/\d < s.tmps.length then some (newObj s d (.cells (bO (cH ti.zero)))) else none
    | none=>none)
   | _,_,_=>none)
  | none=>none)
theorem FM {all:List Oper} {nw:Option Nat} {s s':aa} (h:iu E all nw s=some s'):nh E all nw s=some s':=by
 unfold iu at h;unfold nh
 cases nw with
 | none=>exact h
 | some i=>
  dsimp only at h ⊢
  cases hi:all[i]? with
  | none=>rw[hi] at h;simp at h
  | some o=>
   rw[hi] at h;dsimp only at h ⊢
   split at h
   ·rename_i t d hop hd hg;rw[hop,hd,hg];dsimp only
    cases hty:E.ty t with
    | none=>rw[hty] at h;simp at h
    | some ti=>
     rw[hty] at h;dsimp only at h ⊢
     split at h
     ·rename_i hc;rw[if_pos ⟨hc.1,hc.2.1,hc.2.2.1⟩];exact h
     simp at h
   simp at h
theorem lZ {n:Name}:∀{l:List ac} {t:Nat} {v:ac},ba n l=false->l[t]?=some v->mentions n v=false
 | [],_,_,_,h=>by simp at h
 | a::l,0,v,h,hv=>by simp only[ba,Bool.or_eq_false_iff] at h;simp at hv;rw[←hv];exact h.1
 | a::l,t+1,v,h,hv=>by simp only[ba,Bool.or_eq_false_iff] at h;exact lZ h.2 (by simpa using hv)
theorem vh {n:Name}:∀{l:List ac} {t:Nat},(∀v,l[t]?=some v->mentions n v=false)->(dd n l)[t]?=l[t]?
 | [],_,_=>rfl
 | a::l,0,h=>by simp[dd,h a rfl]
 | a::l,t+1,h=>by simp only[dd,List.getElem?_cons_succ];exact vh (fun v hv=>h v (by simpa using hv))
theorem Ct {n:Name} {l:List ac} {d:Nat} {a:ac} (h:ba n (l.set d a)=false) {t:Nat} (ht:t≠d):(dd n l)[t]?=l[t]?:=
 vh fun v hv=>lZ h (by rw[List.getElem?_set_ne (Ne.symm ht)];exact hv)
theorem Np {n:Name} {l:List ac} {d:Nat} {a:ac} (h:ba n (l.set d a)=false):(dd n l).set d a=l.set d a:=by
 apply List.ext_getElem?
 intro t
 by_cases ht:t=d
 ·subst ht;rw[List.getElem?_set_self',List.getElem?_set_self']
  have:=Cu n l
  by_cases hl:t < l.length
  ·rw[List.getElem?_eq_getElem hl,List.getElem?_eq_getElem (by omega)];rfl
  rw[List.getElem?_eq_none (by omega),List.getElem?_eq_none (by omega)]
 rw[List.getElem?_set_ne (Ne.symm ht),List.getElem?_set_ne (Ne.symm ht)];exact Ct h ht
theorem IV {n:Name} {l:List ac} (h:ba n l=false):dd n l=l:=by
 apply List.ext_getElem?
 intro t;exact vh fun v hv=>lZ h hv
theorem FN {ops:Array Oper} {nw:Option Nat} {s s2:aa} {d:Tmp} {a:ac} (h:iu E ops.toList nw (s.put (some d) a)=some s2) (hnd:oZ ops nw≠some d) :
  ∃s2',nh E ops.toList nw s=some s2'/\s2=s2'.put (some d) a/\∀x,x≠d->oZ ops nw≠some x->bB s2'.tmps x=bB s.tmps x:=by
 unfold iu at h;unfold nh
 cases nw with
 | none=>simp at h;exact⟨s,rfl,h.symm,fun _ _ _=>rfl⟩
 | some i=>
  dsimp only at h ⊢
  cases hi:ops.toList[i]? with
  | none=>rw[hi] at h;simp at h
  | some o=>
   rw[hi] at h;dsimp only at h ⊢
   split at h
   ·rename_i t dn hop hd hg;rw[hop,hd,hg];have hns:oZ ops (some i)=some dn:=by
     unfold oZ
     have:ops[i]?=some o:=by simpa using hi
     simp only[this,hd]
    rw[hns] at hnd;have hdn:dn≠d:=fun e=>hnd (by rw[e])
    dsimp only
    cases hty:E.ty t with
    | none=>rw[hty] at h;simp at h
    | some ti=>
     rw[hty] at h;dsimp only at h ⊢
     split at h
     ·rename_i hc;have hm:ba (.loc dn) (s.tmps.set d a)=false:=hc.2.2.2;rw[if_pos ⟨hc.1,hc.2.1,by simpa [aa.put] using hc.2.2.1⟩];simp only[Option.some.injEq] at h;refine⟨_,rfl,?_,?_⟩
      ·rw[←h];simp only[newObj,aa.put];rw[IV hm,List.set_comm _ _ hdn,Np hm]
      intro x hx hxn;rw[hns] at hxn;simp only[newObj];rw[cq (fun e=>hxn (by rw[e]))];unfold bB;rw[Ct hm hx]
     simp at h
   simp at h
theorem NG {fh:Bool} {all:List Oper} {oi oj:Oper} {x d:Tmp} {a:ac} (ha:ju oi oj=true) (hx:opsL oi.op=[.tmp x]) (hd:oi.dst=some d) {s s2':aa} {K:aa->Prop} (hq:fm E G fh all oi s=some a) (hxe:bB s2'.tmps x=bB s.tmps x)
  (h:mn (aB P G) E G H all oj K (s2'.put (some d) a)) :
  ∃s3',cX E G (readOnly H.moves all oj) (lv H all oj) oj s2'=some s3'/\cX E G true false oi s3'=some (s3'.put (some d) a)/\K (s3'.put (some d) a):=by
 unfold ju at ha;simp only[Bool.and_eq_true,Bool.or_eq_true,Option.isNone_iff_eq_none] at ha;obtain⟨⟨⟨⟨g1,g2⟩,g3⟩,g4⟩,g5⟩:=ha;have hof:dm oi.op=none/\nG oi.op=false/\(∀vals,looks oi.op vals=none)/\(opsL oj.op).any (dt x)=false/\(opsL oj.op).any (dt d)=false/\oj.dst≠some x/\oj.dst≠some d:=by
  split at g5
  ·rename_i y k d' e1 e2;rw[e1] at hx ⊢;simp[opsL] at hx;subst hx;rw[hd] at e2;simp at e2;subst e2;simp only[Bool.and_eq_true,Bool.not_eq_true',bne_iff_ne] at g5;exact⟨rfl,rfl,fun _=>rfl,g5.1.1.1,g5.1.1.2,g5.1.2,g5.2⟩
  ·rename_i y d' e1 e2;rw[e1] at hx ⊢;simp[opsL] at hx;subst hx;rw[hd] at e2;simp at e2;subst e2;simp only[Bool.and_eq_true,Bool.not_eq_true',bne_iff_ne] at g5;exact⟨rfl,rfl,fun _=>rfl,g5.1.1.1,g5.1.1.2,g5.1.2,g5.2⟩
  simp at g5
 obtain⟨hc,hal,hl,h1,h2,hpx,hpd⟩:=hof;unfold mn at h;simp only[g2,dy,g4,if_true] at h
 split at h
 ·rename_i s3 hs3;obtain⟨v,k1,k2⟩:=sy g3 hs3;have k1:=k1 s2'.tmps (by
   intro t ht;have htd:d≠t:=fun e=>by rw[←e,h2] at ht;simp at ht
   simp only[aa.put];rw[cq htd])
  have hst:({(s2'.put (some d) a) with tmps:=s2'.tmps }:aa)=s2':=rfl;rw[hst] at k1;have hs3e:s3=({s3 with tmps:=hZ (fM s2'.tmps (kI (readOnly H.moves all oj) oj.op) (opsL oj.op)) oj.dst v }:aa).put (some d) a:=by
   obtain⟨t3,l3,h3,n3⟩:=s3;simp only[aa.put] at k2 ⊢;rw[k2,qz h2,sj hpd]
  refine⟨_,k1,?_,by rw[←hs3e];exact h⟩;unfold fm at hq;simp only[g1,dy,if_true,hal,Bool.false_eq_true,if_false,hc] at hq
  split at hq
  ·split at hq
   ·rename_i out hout
    split at hq
    ·rename_i hk;simp only[Option.some.injEq] at hq;have hla:∀s4:aa,∀vals,bj s4 oi.op vals=none:=fun s4 vals=>by unfold bj;rw[hl]
     rw[hla] at hout;have hgx:bB (hZ (fM s2'.tmps (kI (readOnly H.moves all oj) oj.op) (opsL oj.op)) oj.dst v) x=bB s.tmps x:=by rw[sq hpx,iL h1,hxe]
     have hv:aM G ({s3 with tmps:=hZ (fM s2'.tmps (kI (readOnly H.moves all oj) oj.op) (opsL oj.op)) oj.dst v }:aa) none 0 (opsL oi.op)=aM G s none 0 (opsL oi.op):=by
      rw[hx];simp only[aM,eR,hgx]
     have hm:kI true oi.op=none:=rfl;unfold cX;rw[hm,hv,hla,hout];simp only[dH,hk,bR,hd,hq]
    simp at hq
   simp at hq
  simp at hq
 exact h.elim
theorem KT (hE:E.Ok P) (ops:Array Oper) {i:Nat} {o:Oper} (hi:ops[i]?=some o) (hg:o.guard=none) {q take:Bool} {s s':aa} (hst:cX E G q take o s=some s') {Qx:Exit->Act->World->Prop}
  {w:World} {R:Own} {N:Name->Option Nat} {act:Act} {bsT bsL bsH bsF:List Nat} (hr:df G w R N act.tmps.toList s undef .undef [] bsT bsL bsH bsF) (hd:act.defers=D) :
  wpOp P ops Qx i (UL G D (fun s1=>s1=s') w R N bsF) act w:=by
 unfold wpOp;simp only[hi];have hwt:=kf (ops:=ops) (o:=o) (b:=true) hr.tmps (by rw[hg];rfl);rw[hwt,if_pos rfl];left;obtain⟨cv,w',hran,⟨R',N',bsT',bsL',bsH',hr',hk',hN',_⟩,_⟩:=pM hE hst hr;exact vg hran ⟨s',R',N',bsT',bsL',bsH',rfl,hr',by rw[(gF act o.dst cv).2];exact hd,hk',fun o b h=>hN' _ _ h⟩
theorem sS {ops:Array Oper} {w:World} {R:Own} {N:Name->Option Nat} {act:Act} {bsT bsL bsH bsX bsF:List Nat} {nw:Option Nat} {s s':aa} (h:nh E ops.toList nw s=some s')
  (hr:df G w R N act.tmps.toList s undef .undef [] bsT bsL bsH (bsX++bsF))
  (hf:∀i o t d ti,nw=some i->ops[i]?=some o->o.op=.alloc t->o.dst=some d->o.guard=none->E.ty t=some ti->d < act.tmps.size->
   ∃b,b∈bsX/\act.tmps[d]?=some (.pointer (some ⟨b,0,none⟩))/\aT w R N (.cells (bO (cH ti.zero))) b []) :
  ∃N' bsT' bsL',df G w R N' act.tmps.toList s' undef .undef [] bsT' bsL' bsH bsF/\∀k,N' (.out k)=N (.out k):=by
 cases nw with
 | none=>
  simp[nh] at h;subst h;refine⟨N,bsT,bsL,⟨hr.val,hr.tmps,hr.locs,hr.heap,?_,hr.next,hr.glob,fun b hb=>hr.frame b (by simp[hb])⟩,fun _=>rfl⟩;refine List.Nodup.sublist ?_ hr.nodup;exact List.Sublist.append (.refl _) (List.Sublist.append (.refl _) (List.Sublist.append (.refl _) (List.Sublist.append (.refl _) (List.sublist_append_right _ _))))
 | some i=>
  simp only[nh] at h
  split at h
  ·rename_i o ho
   split at h
   ·rename_i t d hop hd hg
    split at h
    ·rename_i ti hti
     split at h
     ·rename_i hcond;simp at h;subst h;have hsz:act.tmps.size=s.tmps.length:=by have:=hr.tmps.length;simpa using this
      obtain⟨b,hbX,hdt,hobj⟩:=hf i o t d ti rfl (by simpa using ho) hop hd hg hti (by rw[hsz];exact hcond.2.2);have hN:∀m,m≠Name.loc d->bN N (.loc d) b m=N m:=fun m hm=>by simp[bN,hm]
      obtain⟨bsT2,t1,t2⟩:=ak.oV hN hr.tmps;obtain⟨bsL2,l1,l2⟩:=an.oV hN hr.locs;have hob2:aT w R (bN N (.loc d) b) (.cells (bO (cH ti.zero))) b []:=nj hobj (fun cs hcs=>by simp at hcs;subst hcs;exact hcond.2.1);have hH2:an w R (outs (bN N (.loc d) b)) s.heap bsH:=hr.heap.tw (fun k=>by simp[bN]);have hpv:al w R (bN N (.loc d) b) (.ptr (.loc d) 0) (.pointer (some ⟨b,0,none⟩)) []:=by simp[al,bN]
      have hnd3:([]++(bsT2++((b::([]++bsL2))++(bsH++bsF)))).Nodup:=by
       have h0:=hr.nodup;obtain⟨x1,x2,e⟩:=List.append_of_mem hbX;subst e;have h1:(b::(bsT++(bsL++(bsH++bsF)))).Nodup:=by
        have hp:([]++(bsT++(bsL++(bsH++((x1++b::x2)++bsF))))).Perm ((x1++x2)++(b::(bsT++(bsL++(bsH++bsF))))):=by
         rw[List.perm_iff_count];intro q;simp only[List.count_append,List.count_cons,List.count_nil];omega
        exact (List.nodup_append.1 (hp.nodup_iff.1 h0)).2.1
       have hp:([]++(bsT2++((b::([]++bsL2))++(bsH++bsF)))).Perm (b::(bsT2++(bsL2++(bsH++bsF)))):=by rw[List.perm_iff_count];intro q;simp only[List.count_append,List.count_cons,List.count_nil];omega
       refine hp.nodup_iff.2 (List.Nodup.sublist ?_ h1);exact (List.Sublist.append t2 (List.Sublist.append l2 (.refl _))).cons_cons _
      obtain⟨bsT'',hp1,hp2⟩:=mE d t1 hpv hnd3;have hdt':act.tmps.toList[d]?=some (.pointer (some ⟨b,0,none⟩)):=by simpa using hdt
      have hsame:act.tmps.toList.set d (.pointer (some ⟨b,0,none⟩))=act.tmps.toList:=by
       apply List.ext_getElem?
       intro j;rw[List.getElem?_set]
       split
       ·rename_i hj;subst hj;split
        ·exact hdt'.symm
        rename_i hl;rw[List.getElem?_eq_none (by omega)]
       rfl
      rw[hsame] at hp1;refine⟨bN N (.loc d) b,bsT'',b::([]++bsL2),⟨aW _,?_,?_,?_,by simpa using hp2,?_,hr.glob,fun x hx=>hr.frame x (by simp[hx])⟩,fun k=>by simp[bN]⟩
      ·simp only[newObj,Ae];exact hp1
      ·simp only[newObj];exact⟨b,[],bsL2,rfl,by simp[bN],hob2,l1⟩
      ·simp only[newObj];exact hH2
      intro k c hk;simp[bN] at hk;simp only[newObj];exact hr.next k c hk
     simp at h
    simp at h
   simp at h
  simp at h
theorem re {ops:Array Oper}:∀(r:List (Nat×Bool)) (l:Array Bool),nT ops r l=true->l.size=ops.size->∀x∈r,(eb r l)[x.1]?=some true
 | [],_,_,_,x,hx=>by simp at hx
 |(i,lone)::r,l,hc,hsz,x,hx=>by
  simp only[nT,Bool.and_eq_true] at hc
  rcases List.mem_cons.1 hx with rfl|hx
  ·simp only[eb]
   apply lE
   have hrd:i∈Region.ready .any ops l:=by
    cases lone
    ·have:=hc.1;simp at this;simpa using this.1
    have:=hc.1;simp at this;rw[this];simp
   obtain⟨_,o,ho,_⟩:=mem_ready.1 hrd;have hlt:i < l.size:=by rw[hsz];exact (Array.getElem?_eq_some_iff.1 ho).1
   simp[bY,hlt]
  exact re r (bY l i) hc.2 (by simpa [bY] using hsz) x hx
theorem xB (hE:E.Ok P) {ops:Array Oper} {h:ax} (hc:dS ops h=true) (hca:nU ops h=true) (hcst:gI ops h=true) {p:Array Bool} {Q:aa->Prop} {Kx:Exit->Act->World->Prop} (hall:∀x∈h.pre,p[x.1]?=some true) (htail:iP ops h.tail p=true) :
  ∀(fuel F:Nat) (listed:Array Bool) (s:aa),fuel+h.tail.length<=F->listed.size=ops.size->gS ops listed->
   pV P E G H ops h p (fun s1=>match iu E ops.toList h.nw s1 with
    | some s2=>ml (aB P G) E G H ops.toList Q (dJ ops.toList h.tail) s2
    | none=>False) fuel listed s->
   ∀(w:World) (R:Own) (N:Name->Option Nat) (act:Act) (bsT bsL bsH bsX bsF:List Nat),BW E G H ops h listed w R N act s bsT bsL bsH bsX bsF->act.defers=D->
   (∀a' w',UL G D Q w R N bsF a' w'->Kx .normal a' w')->wpAny P .any ops Kx F listed act w:=by
 have hfin:∀(F:Nat) (s:aa),h.tail.length<=F->(match iu E ops.toList h.nw s with
    | some s2=>ml (aB P G) E G H ops.toList Q (dJ ops.toList h.tail) s2
    | none=>False)->
   ∀(w:World) (R:Own) (N:Name->Option Nat) (act:Act) (bsT bsL bsH bsX bsF:List Nat),BW E G H ops h p w R N act s bsT bsL bsH bsX bsF->act.defers=D->
   (∀a' w',UL G D Q w R N bsF a' w'->Kx .normal a' w')->wpAny P .any ops Kx F p act w:=by
  intro F s hF hT w R N act bsT bsL bsH bsX bsF hp hd hK;have hin:∀i,i∈h.nw.toList++h.tk->p[i]?=some true:=by
   intro i hi;unfold dS at hc;have h1:=List.all_eq_true.1 hc i hi;simp only[Bool.and_eq_true] at h1;exact hall (i,false) (by simpa using h1.1)
  split at hT
  ·rename_i s3 hs3;obtain⟨N3,bsT3,bsL3,hr3,hN3⟩:=sS (FM hs3) hp.rel (fun i o t d ti hi ho hop hd hg hty hlt=>hp.nwf i o t d ti hi (hin i (by simp[hi])) ho hop hd hg hty hlt);exact lP hE ops Q Kx h.tail p F s3 htail hF hT w R N3 act bsT3 bsL3 bsH bsF hr3 hd (fun a' w' h'=>hK a' w' (h'.trans (bi _) (fun o b hb=>by rw[hN3];exact hb)))
  exact hT.elim
 have lateCase:∀{fuel:Nat} (F:Nat) (listed:Array Bool) (s:aa),fuel+1+h.tail.length<=F->listed.size=ops.size->gS ops listed->∀(i:Nat) (oi:Oper) (a:ac),bY listed i=p->nE ops h p i=true->ops[i]?=some oi->(i,false)∈h.pre->
   i∈Region.ready .any ops listed->fm E G (aV H ops.toList h.pre||quietAt H ops.toList h.pre i) ops.toList oi s=some a->
   (match iu E ops.toList h.nw (s.put oi.dst a) with
    | some s2=>ml (aB P G) E G H ops.toList Q (dJ ops.toList h.tail) s2
    | none=>False)->
   ∀(w:World) (R:Own) (N:Name->Option Nat) (act:Act) (bsT bsL bsH bsX bsF:List Nat),BW E G H ops h listed w R N act s bsT bsL bsH bsX bsF->act.defers=D->
   (∀a' w',UL G D Q w R N bsF a' w'->Kx .normal a' w')->wpAny P .any ops Kx F listed act w:=by
  intro fuel F listed s hF hsz hcl i oi a hpe hlt hoi hm hri hq hT w R N act bsT bsL bsH bsX bsF hp hd hK;have hun:=cT hri hsz;have hb:=sT hun hpe;have hlt0:=hlt;unfold nE at hlt
  split at hlt
  ·simp at hlt
  ·rename_i j r htl;rw[hb] at hlt;simp only[Bool.and_eq_true,Bool.or_eq_true,beq_iff_eq] at hlt;obtain⟨⟨⟨⟨⟨⟨⟨hrd,hrj⟩,hrp⟩,hct⟩,_⟩,hnw⟩,htk⟩,hlast⟩:=hlt
   split at hlast
   rotate_left
   ·simp at hlast
   rename_i oi' oj hoi' hoj;rw[hoi] at hoi';simp at hoi';subst hoi';simp only[Bool.and_eq_true] at hlast;obtain⟨⟨hap,hxs⟩,hnd⟩:=hlast;obtain⟨F',rfl⟩:∃F',F=F'+1:=⟨F - 1,by omega⟩
   -- i first
   have hi:wpOp P ops Kx i (wpAny P .any ops Kx F' (listed.setIfInBounds i true)) act w:=by
    refine Qz hE hc hp hcl hd hoi hun hm hq ?_;intro cv w' R' bsT' bsX' hp' hk;rw[show listed.setIfInBounds i true=p from hpe];rw[hpe] at hp';exact hfin F' _ (by omega) hT w' R' N _ bsT' bsL bsH bsX' bsF hp' (by rw[(gF act oi.dst cv).2];exact hd) (fun a' w2 h'=>hK a' w2 (h'.trans hk (fun _ _ hb=>hb)))
   -- j first
   have hj:wpOp P ops Kx j (wpAny P .any ops Kx F' (listed.setIfInBounds j true)) act w:=by
    obtain⟨x,d,hx,hdd⟩:∃x d,opsL oi.op=[.tmp x]/\oi.dst=some d:=by
     have hap':=hap;unfold ju at hap';simp only[Bool.and_eq_true] at hap';have g5:=hap'.2
     split at g5
     ·rename_i x k d e1 e2;exact⟨x,d,by rw[e1];rfl,e2⟩
     ·rename_i x d e1 e2;exact⟨x,d,by rw[e1];rfl,e2⟩
     simp at g5
    rw[hdd] at hT
    split at hT
    ·rename_i s2 hs2;have hnd':oZ ops h.nw≠some d:=by rw[←hdd];simpa using hnd
     obtain⟨s2',hm0,rfl,hgx⟩:=FN hs2 hnd';rw[hx,hdd] at hxs;simp at hxs;have hxd:x≠d:=fun e=>by have:=hxs.1;rw[e] at this;simp[dt] at this
     have hxn:oZ ops h.nw≠some x:=fun e=>by
      have:=hxs.2
      rw[e] at this;simp[dt] at this
     have hj':ops.toList[j]?=some oj:=by simpa using hoj
     rw[htl] at hT;simp only[dJ,hj',ml,iQ] at hT;obtain⟨s3',k1,k2,k3⟩:=NG hap hx hdd hq (hgx x hxd hxn) hT;have hin:∀k,k∈h.nw.toList->listed[k]?=some true:=by
      intro k hk;have h1:=List.all_eq_true.1 (by unfold dS at hc;exact hc) k (List.mem_append_left _ hk);simp only[Bool.and_eq_true] at h1;have h2:=hall (k,false) (by simpa using h1.1);have hki:i≠k:=fun e=>by subst e;simp[hk] at hnw
      rw[←hpe] at h2;unfold bY at h2;rwa [Array.getElem?_setIfInBounds_ne hki] at h2
     obtain⟨N3,bsT3,bsL3,hr3,hN3⟩:=sS hm0 hp.rel (fun k o t dk ti hk ho hop hdk hg hty hlt=>hp.nwf k o t dk ti hk (hin k (by simp[hk])) ho hop hdk hg hty hlt);have gj:oj.guard=none/\oi.guard=none:=by
      unfold ju at hap;simp only[Bool.and_eq_true,Bool.or_eq_true,Option.isNone_iff_eq_none] at hap;exact⟨hap.1.1.1.2,hap.1.1.1.1⟩
     refine wpOp_mono ?_ (KT hE ops hoj gj.1 k1 hr3 hd);rintro a' w' ⟨s',R',N',bsT',bsL',bsH',rfl,hr',hd',hk',hN'⟩;have htl2:h.tail.length=r.length+1:=by rw[htl];rfl
     obtain⟨F2,rfl⟩:∃F2,F'=F2+1:=⟨F' - 1,by omega⟩;refine wpAny_all hrj (by simp) ?_;intro k hk;simp at hk;subst hk;refine wpOp_mono ?_ (KT hE ops hoi gj.2 k2 hr' hd');rintro a2 w2 ⟨s'',R2,N2,bsT2,bsL2,bsH2,rfl,hr2,hd2,hk2,hN2⟩;have hcm:(listed.setIfInBounds j true).setIfInBounds k true=bY p j:=by
      rw[←hpe];unfold bY
      by_cases hjk:j=k
      ·subst hjk;rfl
      exact Array.setIfInBounds_comm _ _ hjk
     rw[hcm];refine lP hE ops Q Kx r (bY p j) F2 _ hct (by omega) k3 w2 R2 N2 a2 bsT2 bsL2 bsH2 bsF hr2 hd2 (fun a3 w3 h3=>hK a3 w3 ?_);exact ((h3.trans hk2 hN2).trans hk' hN').trans (bi _) (fun o b hb=>by rw[hN3];exact hb)
    exact hT.elim
   rcases hrd with hrd|hrd
   ·refine wpAny_all hrd (by simp) ?_;intro k hk;simp at hk
    rcases hk with rfl|rfl
    ·exact hi
    exact hj
   refine wpAny_all hrd (by simp) ?_;intro k hk;simp at hk
   rcases hk with rfl|rfl
   ·exact hj
   exact hi
 intro fuel
 induction fuel with
 | zero=>
  intro F listed s hF _ _ ha w R N act bsT bsL bsH bsX bsF hp hd hK;obtain⟨rfl,hT⟩:=ha;exact hfin F s (by omega) hT w R N act bsT bsL bsH bsX bsF hp hd hK
 | succ fuel ih=>
  intro F listed s hF hsz hcl ha w R N act bsT bsL bsH bsX bsF hp hd hK
  rcases ha with⟨rfl,hT⟩|⟨_,hne,hsteps⟩|⟨i,oi,a,hpe,hlt,hoi,hm,hri,hq,hT⟩
  rotate_right
  ·exact lateCase F listed s hF hsz hcl i oi a hpe hlt hoi hm hri hq hT w R N act bsT bsL bsH bsX bsF hp hd hK
  ·exact hfin F s (by omega) hT w R N act bsT bsL bsH bsX bsF hp hd hK
  obtain⟨F',rfl⟩:∃F',F=F'+1:=⟨F - 1,by omega⟩;refine⟨fun h0=>absurd h0 hne,fun i hi=>?_⟩;obtain⟨lone,o,hm,ho,hs⟩:=hsteps i hi
  cases lone
  ·simp only[Bool.false_eq_true,if_false] at hs;obtain⟨a,ha1,ha2⟩:=hs;refine Qz hE hc hp hcl hd ho (cT hi hsz) hm ha1 ?_;intro cv w' R' bsT' bsX' hp' hk;exact ih F' (bY listed i) _ (by omega) (by simpa [bY] using hsz) (hcl.step hi) ha2 w' R' N _ bsT' bsL bsH bsX' bsF hp' (by rw[(gF act o.dst cv).2];exact hd) (fun a' w2 h'=>hK a' w2 (h'.trans hk (fun _ _ hb=>hb)))
  simp only[if_true] at hs;refine aax hE hc hca hcst hp hcl hd ho (cT hi hsz) hm hi hs ?_;intro s' cv w' R' N' bsT' bsL' bsH' hKs hp' hk hN;exact ih F' (bY listed i) s' (by omega) (by simpa [bY] using hsz) (hcl.step hi) hKs w' R' N' _ bsT' bsL' bsH' bsX bsF hp' (by rw[(gF act o.dst cv).2];exact hd) (fun a' w2 h'=>hK a' w2 (h'.trans hk (fun o b hb=>hN _ _ hb)))
theorem Ib (hE:E.Ok P) {ops:Array Oper} {Q:aa->Prop} {Kx:Exit->Act->World->Prop} :
  ∀(m F:Nat) (listed:Array Bool) (s:aa),oD (aB P G) E G H ops.toList Q m listed s->m<=F->∀(w:World) (R:Own) (N:Name->Option Nat) (act:Act) (bsT bsL bsH bsF:List Nat),
   df G w R N act.tmps.toList s undef .undef [] bsT bsL bsH bsF->act.defers=D->(∀a' w',UL G D Q w R N bsF a' w'->Kx .normal a' w')->wpAny P .any ops Kx F listed act w:=by
 intro m
 induction m with
 | zero=>
  intro F listed s h _ w R N act bsT bsL bsH bsF hr hd hK;simp only[oD,Array.toArray_toList] at h;exact wpAny_done h.1 (hK _ _ ⟨s,R,N,bsT,bsL,bsH,h.2,hr,hd,bi _,fun _ _ h=>h⟩) F
 | succ m ih=>
  intro F listed s h hF w R N act bsT bsL bsH bsF hr hd hK;simp only[oD,Array.toArray_toList] at h
  rcases h with h|⟨hne,hall⟩
  ·exact wpAny_done h.1 (hK _ _ ⟨s,R,N,bsT,bsL,bsH,h.2,hr,hd,bi _,fun _ _ h=>h⟩) F
  obtain⟨F',rfl⟩:∃F',F=F'+1:=⟨F - 1,by omega⟩;refine wpAny_all (rs:=Region.ready .any ops listed) rfl hne ?_;intro j hj;obtain⟨o,ho,h2⟩:=hall j hj;refine wpOp_mono ?_ (jv hE ops (by simpa using ho) h2 hr hd);rintro a' w' ⟨s',R',N',bsT',bsL',bsH',hq,hr',hd',hk',hN'⟩;exact ih F' _ s' hq (by omega) w' R' N' a' bsT' bsL' bsH' bsF hr' hd' (fun a2 w2 h2=>hK a2 w2 (h2.trans hk' hN'))
theorem tp:∀(r:List (Nat×Bool)),(cd r).length<=r.length
 | []=>by simp[cd]
 |(i,true)::r=>by simp[cd]
 |(i,false)::r=>by simp only[cd,List.length_cons];have:=tp r;omega
theorem zN:∀(r:List (Nat×Bool)) (l:Array Bool) {n:Nat},l.size=n->(∀y∈r,y.1 < n)->∀x∈r,(eb r l)[x.1]?=some true
 | [],_,_,_,_,x,hx=>by simp at hx
 |(i,b)::r,l,n,hn,hlt,x,hx=>by
  have hs:(bY l i).size=n:=by simpa [bY] using hn
  rcases List.mem_cons.1 hx with rfl|hx
  ·have:i < l.size:=by rw[hn];exact hlt (i,b) (by simp)
   exact lE r (bY l i) i (by simp[bY,this])
  exact zN r (bY l i) hs (fun y hy=>hlt y (by simp[hy])) x hx
theorem BA (hE:E.Ok P) (hm:P.follows .mixedOrders=true) {id:Nat} {ops:Array Oper} {h:ax} {Q:Exit->aa->Prop} {s:aa} (hc:(gy h||(if gV h=true then T8 ops (fY h) else (acI ops h||Jo ops h)))=true) (hs:By (aB P G) E G H ops.toList h (Q .normal) s):du P G (.region id ops true) Q s:=by
 by_cases hx:gy h=true
 ·intro w R N act bsT bsL bsH bsF hr D hd;unfold By at hs;rw[if_pos hx,Array.length_toList] at hs
  apply wp_region_any hm
  have hst:Step w R {w with drawn:=w.drawn+1 } R:=⟨rfl,rfl,rfl,Nat.le_refl _,fun _ _ h=>⟨rfl,h⟩,fun _ _ _ h=>⟨h,rfl⟩,fun _ _=>rfl⟩;have hkeep:∀bs,bz w R {w with drawn:=w.drawn+1 } R bs:=fun bs=>⟨hst,fun _ _ _=>⟨rfl,fun _ h=>h⟩⟩
  have hr':df G {w with drawn:=w.drawn+1 } R N act.tmps.toList s undef .undef [] bsT bsL bsH bsF:=
   ⟨aW _,hr.tmps.keep (hkeep _),hr.locs.keep (hkeep _),hr.heap.keep (hkeep _),hr.nodup,hr.next,fun g cs hg=>(hr.glob g cs hg).step hst,hr.frame⟩
  refine Ib hE ops.size ops.size _ s hs (Nat.le_refl _) _ R N act bsT bsL bsH bsF hr' hd ?_;rintro a' w' ⟨s',R',N',bsT',bsL',bsH',⟨s0,hq,hren⟩,hr2,hd',hk',hN'⟩;obtain⟨N2,bsT2,bsL2,bsH2,hr3,hN2⟩:=hren _ _ _ _ _ _ _ _ hr2;exact⟨s0,R',N2,bsT2,bsL2,bsH2,hq,hr3,hd',(hkeep _).trans hk',fun o b hb=>hN2 o b (hr.next o b hb) (hN' o b hb)⟩
 have hxf:gy h=false:=by simpa using hx
 rw[hxf,Bool.false_or] at hc;unfold By at hs;rw[if_neg hx] at hs
 by_cases hlm:gV h=true
 ·rw[if_pos hlm] at hc hs;obtain⟨h',hh'⟩:∃h',h'=fY h:=⟨_,rfl⟩;rw[←hh'] at hc hs;clear hlm hx hxf hh';intro w R N act bsT bsL bsH bsF hr D hd;unfold T8 at hc;simp only[Bool.and_eq_true,decide_eq_true_eq] at hc;obtain⟨⟨⟨⟨⟨⟨⟨hpre,hlast⟩,htail⟩,hslots⟩,happ⟩,hstores⟩,hlen⟩,hidx⟩:=hc
  apply wp_region_any hm
  unfold Bx at hs;rw[Array.length_toList] at hs;have hql:(cd h'.pre).length<=h'.pre.length:=tp h'.pre;have hclo:gS ops (Array.replicate ops.size false):=fun d o hd=>by
   rw[Array.getElem?_replicate] at hd
   split at hd <;> simp at hd
  have hall:∀x∈h'.pre,(eb h'.pre (Array.replicate ops.size false))[x.1]?=some true:=fun x hx=>zN h'.pre _ (n:=ops.size) (by simp) (fun y hy=>by have:=List.all_eq_true.1 hidx y hy;simpa using this) x hx
  have hord:=pT (P:=P) (E:=E) (G:=G) (H:=H) hslots happ hstores hlast hall (h'.pre.length - (cd h'.pre).length) (cd h'.pre) (Array.replicate ops.size false) s (fun _ h=>tj h) (by simp) hclo hpre (fun s' h=>rm _ _ _ h) hs;have hst:Step w R {w with drawn:=w.drawn+1 } R:=⟨rfl,rfl,rfl,Nat.le_refl _,fun _ _ h=>⟨rfl,h⟩,fun _ _ _ h=>⟨h,rfl⟩,fun _ _=>rfl⟩;have hkeep:∀bs,bz w R {w with drawn:=w.drawn+1 } R bs:=fun bs=>⟨hst,fun _ _ _=>⟨rfl,fun _ h=>h⟩⟩
  have hr':df G {w with drawn:=w.drawn+1 } R N act.tmps.toList s undef .undef [] bsT bsL bsH ([]++bsF):=
   ⟨aW _,hr.tmps.keep (hkeep _),hr.locs.keep (hkeep _),hr.heap.keep (hkeep _),hr.nodup,hr.next,fun g cs hg=>(hr.glob g cs hg).step hst,hr.frame⟩
  have hnone:∀(i:Nat),(Array.replicate ops.size false)[i]?≠some true:=by
   intro i hi;rw[Array.getElem?_replicate] at hi
   split at hi <;> simp at hi
  refine xB hE hslots happ hstores hall htail _ ops.size _ s (by omega) (by simp) hclo hord _ R N act bsT bsL bsH [] bsF ⟨hr',?_,?_⟩ hd ?_
  ·intro i o t d ti _ hl;exact absurd hl (hnone i)
  ·intro i o T u t n off ob _ hl;exact absurd hl (hnone i)
  intro a' w' h';exact h'.trans (hkeep _) (fun _ _ h=>h)
 rw[if_neg hlm] at hc hs;rw[Bool.or_eq_true] at hc
 rcases hc with hc|hc
 rotate_left
 ·exfalso
  unfold Jo at hc;simp only[Bool.and_eq_true,List.isEmpty_iff] at hc;obtain⟨h1,h2⟩:=hc;rw[h1] at hs;simp only[lQ] at hs
  split at h2
  ·rename_i k hk;rw[hk] at hs
   have:ops.toList[k]?=none:=by simpa using h2
   simp only[iu,this] at hs
  simp at h2
 intro w R N act bsT bsL bsH bsF hr D hd;unfold acI at hc;simp only[Bool.and_eq_true,decide_eq_true_eq] at hc;obtain⟨⟨⟨⟨⟨⟨⟨_,hpre⟩,hlast⟩,htail⟩,hslots⟩,happ⟩,hstores⟩,hlen⟩:=hc
 apply wp_region_any hm
 have hord:=pU (P:=P) (E:=E) (G:=G) (H:=H) hslots happ hstores hlast h.pre (Array.replicate ops.size false) s h.pre.length (fun _ h=>h) (by simp) (fun d o hd=>by rw[Array.getElem?_replicate] at hd;split at hd <;> simp at hd) rfl hpre (Nat.le_refl _) hs;have hst:Step w R {w with drawn:=w.drawn+1 } R:=⟨rfl,rfl,rfl,Nat.le_refl _,fun _ _ h=>⟨rfl,h⟩,fun _ _ _ h=>⟨h,rfl⟩,fun _ _=>rfl⟩;have hkeep:∀bs,bz w R {w with drawn:=w.drawn+1 } R bs:=fun bs=>⟨hst,fun _ _ _=>⟨rfl,fun _ h=>h⟩⟩
 have hr':df G {w with drawn:=w.drawn+1 } R N act.tmps.toList s undef .undef [] bsT bsL bsH ([]++bsF):=
  ⟨aW _,hr.tmps.keep (hkeep _),hr.locs.keep (hkeep _),hr.heap.keep (hkeep _),hr.nodup,hr.next,fun g cs hg=>(hr.glob g cs hg).step hst,hr.frame⟩
 have hnone:∀(i:Nat),(Array.replicate ops.size false)[i]?≠some true:=by
  intro i hi;rw[Array.getElem?_replicate] at hi
  split at hi <;> simp at hi
 refine xB hE hslots happ hstores (re h.pre _ hpre (by simp)) htail h.pre.length ops.size _ s hlen (by simp) (fun d o hd=>by rw[Array.getElem?_replicate] at hd;split at hd <;> simp at hd) hord _ R N act bsT bsL bsH [] bsF ⟨hr',?_,?_⟩ hd ?_
 ·intro i o t d ti _ hl;exact absurd hl (hnone i)
 ·intro i o T u t n off ob _ hl;exact absurd hl (hnone i)
 intro a' w' h';exact h'.trans (hkeep _) (fun _ _ h=>h)
end
end Go.Tp
namespace Go.Tp
section
variable {P:Program} {E:bG} {G:bL} {H:Hints} {D:List Deferred}
theorem Dr.trans {Q:Exit->aa->Prop} {w w1:World} {R R1:Own} {N N1:Name->Option Nat} {bsF:List Nat} (hk:bz w R w1 R1 bsF) (hN:∀o b,N (.out o)=some b->N1 (.out o)=some b) {e:Exit} {a:Act} {w2:World}
  (h:Dr G D Q w1 R1 N1 bsF e a w2):Dr G D Q w R N bsF e a w2:=by
 obtain⟨s',R',N',bsT,bsL,bsH,hq,hr,hd,hk',hN'⟩:=h;exact⟨s',R',N',bsT,bsL,bsH,hq,hr,hd,hk.trans hk',fun o b h=>hN' o b (hN o b h)⟩
theorem Dm {x y:Code} {Q:Exit->aa->Prop} {s:aa} (h:du P G x (fun e s'=>match e with|.normal=>du P G y Q s'|e=>Q e s') s):du P G (.seq x y) Q s:=by
 intro w R N act bsT bsL bsH bsF hr D hd
 apply wp_seq
 refine wp_mono (h w R N act bsT bsL bsH bsF hr hd) ?_;rintro e a w' ⟨s',R',N',bsT',bsL',bsH',hq,hr',hd',hk,hN⟩
 cases e with
 | normal=>exact wp_mono (hq w' R' N' a bsT' bsL' bsH' bsF hr' hd') (fun e a w h=>h.trans hk hN)
 | _=>exact⟨s',R',N',bsT',bsL',bsH',hq,hr',hd',hk,hN⟩
theorem du.mono {c:Code} {Q Q':Exit->aa->Prop} {s:aa} (h:du P G c Q s) (hq:∀e s,Q e s->Q' e s):du P G c Q' s:=by
 intro w R N act bsT bsL bsH bsF hr D hd;refine wp_mono (h w R N act bsT bsL bsH bsF hr hd) ?_;rintro e a w' ⟨s',R',N',bsT',bsL',bsH',hQ,rest⟩;exact⟨s',R',N',bsT',bsL',bsH',hq _ _ hQ,rest⟩
theorem gC {c:Code} {e:Exit} {Q:Exit->aa->Prop} {s:aa} (hc:∀{Q:Exit->Act->World->Prop} {a:Act} {w:World},Q e a w->c.wp P Q a w) (h:Q e s):du P G c Q s:=by
 intro w R N act bsT bsL bsH bsF hr D hd;exact hc ⟨s,R,N,bsT,bsL,bsH,h,hr,hd,bi _,fun _ _ h=>h⟩
theorem O2 {w:World} {R:Own} {N:Name->Option Nat} {a:ac} {v:Value} {bs:List Nat} (h:al w R N a v bs):∃bs',al w R N (tidy a) v bs'/\bs'.Sublist bs:=by
 unfold tidy
 split
 ·exact⟨[],pY h,List.nil_sublist _⟩
 exact⟨bs,h,.refl _⟩
theorem B4 {w:World} {R:Own} {N:Name->Option Nat}:∀{as:List ac} {vs:List Value} {bs:List Nat},ak w R N as vs bs->∃bs',ak w R N (jF as) vs bs'/\bs'.Sublist bs
 | [],_,_,h=>by obtain⟨rfl,rfl⟩:=aS h;exact⟨[],aX,.refl _⟩
 | a::as,_,_,h=>by
  obtain⟨v,vs',b1,b2,rfl,rfl,h1,h2⟩:=az h;obtain⟨c1,k1,k2⟩:=O2 h1;obtain⟨c2,k3,k4⟩:=B4 h2;exact⟨c1++c2,by simpa [jF] using aG k1 k3,List.Sublist.append k2 k4⟩
def uZ (tmps:Array Value):ResultVar->Sem Value
 | .tmp t=>pure (tmps.getD t undef)
 | .cell a t=>do loadVar t (←asAddr (tmps.getD a undef))
theorem lW (hE:E.Ok P) {w:World} {R:Own} {N:Name->Option Nat} {act:Act} (hg:∀g cs,G g=some cs->dY w R g 0 cs):∀(rs:List ResultVar) {s:aa} {vs:List ac} {bsT bsL bsH rest:List Nat},hC E s rs=some vs->
  ak w R N s.tmps act.tmps.toList bsT->an w R N s.locs bsL->an w R (outs N) s.heap bsH->(bsT++rest).Nodup->
  ∃cvs bsM bsT',(rs.mapM (uZ act.tmps)).run P w=.ok cvs w/\ak w R N vs cvs bsM/\cvs.length=rs.length/\(bsM++(bsT'++rest)).Nodup
 | [],s,vs,bsT,bsL,bsH,rest,h,ht,_,_,hnd=>by
  simp[hC] at h;subst h;exact⟨[],[],bsT,by simp,aX,rfl,by simpa using hnd⟩
 | .tmp t::rs,s,vs,bsT,bsL,bsH,rest,h,ht,hl,hh,hnd=>by
  simp only[hC] at h
  split at h
  ·rename_i vs' hvs;simp at h;subst h;obtain⟨bM,bT,h1,h2,h3,_⟩:=qE ht hg (some 0) [.tmp t] rest hnd;obtain⟨b0,e0,hb0⟩:=dw h1;simp only[aM,if_true,List.cons.injEq,and_true] at e0;subst e0;obtain⟨q1,q2,_⟩:=qy s (some 0) [.tmp t];have hnd2:(bT++(bM++rest)).Nodup:=by
    have hp:(bT++(bM++rest)).Perm (bM++(bT++rest)):=List.perm_append_comm_assoc _ _ _;exact hp.nodup_iff.2 h3
   obtain⟨cvs,bM2,bT2,k1,k2,k3,k4⟩:=lW hE hg rs hvs h2 (by rw[q1];exact hl) (by rw[q2];exact hh) hnd2;refine⟨act.eval (.tmp t)::cvs,bM++bM2,bT2,?_,aG hb0 k2,by simp[k3],?_⟩
   ·simp only[List.mapM_cons,Sem.run_bind,uZ,Sem.run_pure,Result.andThen_ok,k1];rfl
   have hp:((bM++bM2)++(bT2++rest)).Perm (bM2++(bT2++(bM++rest))):=by
    rw[List.perm_iff_count];intro q;simp only[List.count_append];omega
   exact hp.nodup_iff.2 k4
  simp at h
 | .cell a t::rs,s,vs,bsT,bsL,bsH,rest,h,ht,hl,hh,hnd=>by
  simp only[hC] at h
  split at h
  ·rename_i v vs' hv hvs;simp at h;subst h;obtain⟨cvs,bM2,bT2,k1,k2,k3,k4⟩:=lW hE hg rs hvs ht hl hh hnd;unfold yz at hv
   split at hv
   ·rename_i n off hp
    split at hv
    ·rename_i cs i hob hty;have hget:s.tmps[a]?=some (.ptr n off):=by
      unfold bB at hp
      cases hs:s.tmps[a]? with
      | none=>rw[hs] at hp;simp at hp
      | some v=>rw[hs] at hp;simp at hp;rw[hp]
     obtain⟨u,b',e1,e2,_⟩:=eB ht hget;simp only[al] at e2;obtain⟨_,b,hb,rfl⟩:=e2;have hobj:∃b1,aT w R N (.cells cs) b b1:=by
      unfold aa.obj at hob
      cases n with
      | loc j=>
       obtain⟨pre,c,c1,post,_,f2,f3,_⟩:=an.split hl hob;rw[hb] at f2;simp at f2;subst f2;exact⟨c1,f3⟩
      | out j=>
       obtain⟨pre,c,c1,post,_,f2,f3,_⟩:=an.split hh hob;simp only[outs] at f2;rw[hb] at f2;simp at f2;subst f2;refine⟨c1,f3.ya ?_ (fun _=>rfl)⟩;obtain⟨vs,e,sp,_,hrr,_⟩:=f3
       have:=hrr.cC
       rw[ji] at this;exact this
     obtain⟨b1,vs0,el,sp,hblk,hrr,_⟩:=hobj;obtain⟨cv,g1,g2⟩:=ni (N:=N) hE hty hblk hrr (mb hv);refine⟨cv::cvs,[]++bM2,bT2,?_,aG g2 k2,by simp[k3],by simpa using k4⟩;have hgd:act.tmps.getD a undef=.pointer (some ⟨b,off,none⟩):=by simp at e1;simp[e1]
     have g1':(loadVar t ⟨b,off,none⟩).run P w=.ok cv w:=by simpa [Instr.loadAt,Instr.sureAddr] using g1
     simp only[List.mapM_cons,Sem.run_bind,uZ,hgd,asAddr,Sem.run_pure,Result.andThen_ok,g1',k1]
    simp at hv
   simp at hv
  simp at h
def Lh:List Value->Value
 | [v]=>v
 | vs=>.tuple vs.toArray
theorem FX {fn:Func} {act:Act} {w:World} {cvs:List Value} (h:(fn.results.toList.mapM (uZ act.tmps)).run P w=.ok cvs w) :
  (results fn act.tmps).run P w=.ok (Lh cvs) w:=by
 have hres:results fn act.tmps=(do
   let vs ←fn.results.mapM (uZ act.tmps)
   pure (if h:vs.size=1 then vs[0] else .tuple vs)):=rfl
 have e:(fn.results.mapM (uZ act.tmps)).run P w=.ok cvs.toArray w:=by
  rw[Array.mapM_eq_mapM_toList];simp[h]
 rw[hres];simp only[Sem.run_bind,e,Result.andThen_ok]
 cases cvs with
 | nil=>rfl
 | cons v cvs=>cases cvs <;> rfl
theorem kz {w:World}:∀(ns:List Name) {s s':aa} {args args':List ac} {R:Own} {N:Name->Option Nat},hY ns s args=(s',args')->∀{tmps:List Value} {cargs:List Value} {bsV bsT bsL bsH bsF:List Nat},
  df G w R N tmps s (.tuple cargs.toArray) (.tup args) bsV bsT bsL bsH bsF->
  ∃R' N' bsV' bsT' bsL' bsH',df G w R' N' tmps s' (.tuple cargs.toArray) (.tup args') bsV' bsT' bsL' bsH' bsF/\bz w R w R' bsF/\(∀o b,N (.out o)=some b->N' (.out o)=some b)
 | [],s,s',args,args',R,N,h,tmps,cargs,bsV,bsT,bsL,bsH,bsF,hr=>by
  simp[hY] at h;obtain⟨rfl,rfl⟩:=h;exact⟨R,N,bsV,bsT,bsL,bsH,hr,bi _,fun _ _ h=>h⟩
 | n::ns,s,s',args,args',R,N,h,tmps,cargs,bsV,bsT,bsL,bsH,bsF,hr=>by
  simp only[hY] at h
  split at h
  ·split at h
   ·rename_i s1 args1 h1;obtain⟨R1,N1,v1,t1,l1,g1,hr1,hk1,hN1,_⟩:=wG h1 hr;obtain⟨R2,N2,v2,t2,l2,g2,hr2,hk2,hN2⟩:=kz ns h hr1;exact⟨R2,N2,v2,t2,l2,g2,hr2,hk1.trans hk2,fun o b h=>hN2 o b (hN1 o b h)⟩
   exact kz ns h hr
  exact kz ns h hr
theorem Gj {w:World} {R:Own} {N:Name->Option Nat} {vs:List ac} {cvs:List Value} {bs:List Nat} (h:ak w R N vs cvs bs):al w R N (pack vs) (Lh cvs) bs:=by
 cases vs with
 | nil=>
  obtain⟨rfl,rfl⟩:=aS h;simp only[pack,Lh,al];exact⟨[],rfl,aX⟩
 | cons a vs=>
  have hl:=h.length
  cases vs with
  | nil=>
   cases cvs with
   | nil=>simp at hl
   | cons v cvs=>
    simp at hl;subst hl;obtain⟨a',e,ha⟩:=dw h;simp at e;subst e;exact ha
  | cons a2 vs=>
   cases cvs with
   | nil=>simp at hl
   | cons v cvs=>
    cases cvs with
    | nil=>simp at hl
    | cons v2 cvs=>simp only[pack,Lh,al];exact⟨_,rfl,h⟩
theorem zQ {vs:List ac} (h:bU vs=true):fV (pack vs)=true:=by
 unfold pack
 split
 ·simpa [bU] using h
 simpa [fV] using h
theorem KI (hE:E.Ok P) {fn:Func} {Q:ac->List (Name×aR)->Nat->Prop} {s:aa} (h:xV E fn.results.toList Q s) {w:World} {R:Own} {N:Name->Option Nat} {act:Act} {bsT bsL bsH bsF:List Nat}
  (hr:df G w R N act.tmps.toList s undef .undef [] bsT bsL bsH bsF) :
  ∃cv,(results fn act.tmps).run P w=.ok cv w/\∃v heap' next' R' N' bsV bsH',Q v heap' next'/\al w R' (outs N') v cv bsV/\an w R' (outs N') heap' bsH'/\(bsV++(bsH'++bsF)).Nodup ∧
   (∀o b,N' (.out o)=some b->o < next')/\bz w R w R' bsF/\(∀o b,N (.out o)=some b->N' (.out o)=some b):=by
 unfold xV at h
 split at h
 ·exact h.elim
 rename_i vs hvs;have hnd0:(bsT++(bsL++(bsH++bsF))).Nodup:=by simpa using hr.nodup
 obtain⟨cvs,bsM,bsT',k1,k2,k3,k4⟩:=lW hE hr.glob fn.results.toList hvs hr.tmps hr.locs hr.heap hnd0;obtain⟨bsM',k5,k6⟩:=B4 k2;refine⟨_,FX k1,?_⟩
 split at h
 ·rename_i hno;refine⟨_,_,_,R,N,bsM',bsH,h,(Gj k5).KQ (zQ hno),hr.heap,?_,hr.next,bi _,fun _ _ h=>h⟩;refine List.Nodup.sublist ?_ k4;exact List.Sublist.append k6 ((List.sublist_append_right _ _).trans (List.sublist_append_right _ _))
 split at h
 rename_i s' vs' hexp
 split at h
 ·rename_i hno
  -- the slots are no longer needed: a state without them
  have hr1:df G w R N [] {s with tmps:=[]} (.tuple cvs.toArray) (.tup (jF vs)) bsM' [] bsL bsH bsF:=
   ⟨by simp only[al];exact⟨cvs,rfl,k5⟩,aX,hr.locs,hr.heap,by
    refine List.Nodup.sublist ?_ k4;exact List.Sublist.append k6 (by simp),hr.next,hr.glob,hr.frame⟩
  have hexp':∀(ns:List Name) (s1 s2:aa) (a1 a2:List ac),hY ns s1 a1=(s2,a2)->hY ns {s1 with tmps:=[]} a1=({s2 with tmps:=[]},a2):=by
   intro ns
   induction ns with
   | nil=>intro s1 s2 a1 a2 h;simp only[hY,Prod.mk.injEq] at h ⊢;obtain⟨rfl,rfl⟩:=h;exact⟨rfl,rfl⟩
   | cons n ns ih=>
    intro s1 s2 a1 a2 h;simp only[hY] at h ⊢
    split at h
    ·rename_i hm;rw[if_pos hm];have hp:tu true n {s1 with tmps:=[]} a1=(tu true n s1 a1).map (fun x=>({x.1 with tmps:=[]},x.2)):=by
      unfold tu;dsimp only
      split
      ·split
       ·simp[hU]
       split <;> simp[eE]
      ·simp[eE]
      simp
     rw[hp]
     split at h
     ·rename_i s3 a3 h3;rw[h3];exact ih s3 s2 a3 a2 h
     rename_i h3;rw[h3];exact ih s1 s2 a1 a2 h
    rename_i hm;rw[if_neg hm];exact ih s1 s2 a1 a2 h
  obtain⟨R2,N2,v2,t2,l2,g2,hr2,hk2,hN2⟩:=kz _ (hexp' _ _ _ _ _ hexp) hr1;have hv:=hr2.val;simp only[al] at hv;obtain⟨cs0,ec,hargs⟩:=hv;simp at ec;subst ec;refine⟨_,_,_,R2,N2,v2,g2,h,(Gj hargs).KQ (zQ hno),hr2.heap,?_,hr2.next,hk2,hN2⟩;refine List.Nodup.sublist ?_ hr2.nodup;exact List.Sublist.append (.refl _) ((List.sublist_append_right _ _).trans (List.sublist_append_right _ _))
 exact h.elim
theorem ww {w:World} {R:Own} {N:Name->Option Nat}:∀(k:Nat),ak w R N (List.replicate k .undef) (List.replicate k undef) []
 | 0=>aX
 | k+1=>by simpa [List.replicate_succ] using aG (b1:=[]) (b2:=[]) (aW (w:=w) (R:=R) (N:=N) undef) (ww k)
theorem kb (hE:E.Ok P) {f:FuncId} {fn:Func} {c:Code} (hf:P.funcs[f]?=some fn) (hb:fn.body=some c) {args:List ac} {heap:List (Name×aR)} {next:Nat} {Q:ac->List (Name×aR)->Nat->Prop}
  (h:qO args->xT heap->du P G c (afL E fn.results.toList Q) (enter fn.ntmps args heap next)):aB P G f args heap next Q:=by
 intro w R N cargs bsA bsH bsF ha hh hnd hnx hg hF;replace h:=h ha.oH hh.oH;refine calls_of_wp hf hb ?_;have hlen:=ha.length;have hr:df G w R (outs N) ((cargs.toArray++Array.replicate (fn.ntmps - cargs.toArray.size) undef).toList) (enter fn.ntmps args heap next) undef .undef [] bsA [] bsH bsF:=by
  refine⟨aW _,?_,rfl,?_,by simpa using hnd,?_,hg,hF⟩
  ·have:=cD ha (ww (w:=w) (R:=R) (N:=outs N) (fn.ntmps - args.length))
   simpa [enter,hlen] using this
  ·exact hh.ext (fun m b hm=>by cases m with|loc i=>simp[outs] at hm|out o=>exact hm)
  intro o b ho;exact hnx o b ho
 refine wp_mono (h w R (outs N) _ bsA [] bsH bsF hr rfl) ?_;rintro e a w' ⟨s',R',N',bsT,bsL,bsH',hq,hr',hd',hk,hN⟩;have key:xV E fn.results.toList Q s'->a.defers=[]/\∃v,(results fn a.tmps).run P w'=.ok v w'/\(∃v2 cv heap' next' R'' N'' bsV bsH'',Ending.returned v=.returned cv/\Q v2 heap' next'/\al w' R'' (outs N'') v2 cv bsV/\an w' R'' (outs N'') heap' bsH'' ∧
   (bsV++(bsH''++bsF)).Nodup/\(∀o b,N'' (.out o)=some b->o < next')/\bz w R w' R'' bsF/\(∀o b,N (.out o)=some b->N'' (.out o)=some b)):=by
  intro hret;obtain⟨cv,g1,v2,heap',next',R'',N'',bsV,bsH'',q1,q2,q3,q4,q5,q6,q7⟩:=KI hE hret hr';exact⟨hd',cv,g1,v2,cv,heap',next',R'',N'',bsV,bsH'',rfl,q1,q2,q3,q4,q5,hk.trans q6,fun o b h=>q7 o b (hN o b h)⟩
 cases e with
 | ret=>exact key hq
 | normal=>exact key hq
 | exit i=>exact hq.elim
 | goto l=>exact hq.elim
 | panic ch=>exact hq.elim
 | outgrown=>exact hq.elim
inductive Tr where
 |nil
 |node (l:Tr) (k:Nat) (v:TI) (r:Tr)
def Tr.find:Tr->Nat->Option TI
 | .nil,_=>none
 | .node l k v r,t=>match Nat.blt t k with
  | true=>l.find t
  | false=>(match Nat.blt k t with|true=>r.find t|false=>some v)
def Tr.Ik (P:Program):Tr->Prop
 | .nil=>True
 | .node l k v r=>l.Ik P/\v.ok P k/\r.Ik P
theorem Tr.all_nil {P:Program}:Tr.Ik P .nil:=trivial
theorem Tr.ae {P:Program} {l r:Tr} {k:Nat} {v:TI} (hl:l.Ik P) (hv:v.ok P k) (hr:r.Ik P):Tr.Ik P (.node l k v r):=⟨hl,hv,hr⟩
theorem Tr.EJ {P:Program}:∀{tr:Tr},tr.Ik P->∀{t:Nat} {i:TI},tr.find t=some i->i.ok P t
 | .nil,_,t,i,h=>by simp[Tr.find] at h
 | .node l k v r,⟨hl,hv,hr⟩,t,i,h=>by
  simp only[Tr.find] at h
  cases h1:Nat.blt t k with
  | true=>rw[h1] at h;exact Tr.EJ hl h
  | false=>
   rw[h1] at h
   cases h2:Nat.blt k t with
   | true=>rw[h2] at h;exact Tr.EJ hr h
   | false=>
    rw[h2] at h;have h1':¬t < k:=fun h=>by rw[←Nat.blt_eq,h1] at h;simp at h
    have h2':¬k < t:=fun h=>by rw[←Nat.blt_eq,h2] at h;simp at h
    have:t=k:=by omega
    subst this;simp at h;subst h;exact hv
def acp (P:Program) (f:FuncId):Bool:=match P.funcs[f]? with
 | some g=>g.body.isSome&&!(g.name== "runtime.NumGoroutine")
 | none=>false
theorem wp_loop_ghost {c:Code} {Q:Exit->Act->World->Prop} (I:Nat->Act->World->Prop) {n0:Nat} {a:Act} {w:World} (h0:I n0 a w)
  (round:∀n a w,I n a w->c.wp P (Exit.then (fun a' w'=>∃n',n' < n/\I n' a' w') Q) a w):(Code.loop c).wp P Q a w:=by
 intro b k cs;have key:∀n a w,I n a w->∃e a' w',Q e a' w'/\Arrives P (lone (b.at a (.code c::.inLoop c::k)) cs w) b k cs e a' w':=by
  intro n
  induction n using Nat.strongRecOn with
  | _ n ih=>
   intro a w hI;obtain⟨e,a1,w1,hq,harr⟩:=round n a w hI b (.inLoop c::k) cs
   cases e with
   | normal=>
    obtain⟨n',hlt,hI1⟩:=hq;obtain⟨e2,a2,w2,hq2,harr2⟩:=ih n' hlt a1 w1 hI1;exact⟨e2,a2,w2,hq2,.of_steps (Steps.trans harr (.one step_inLoop)) harr2⟩
   | exit id=>exact⟨_,a1,w1,hq,.pass (x:=.inLoop c) rfl (fun _ _=>.inl (by simp)) harr⟩
   | goto l=>exact⟨_,a1,w1,hq,.pass (x:=.inLoop c) rfl (fun _ _=>.inl (by simp)) harr⟩
   | ret=>exact⟨_,a1,w1,hq,.pass (x:=.inLoop c) rfl (fun _ _=>.inl (by simp)) harr⟩
   | panic ch=>exact⟨_,a1,w1,hq,.pass (x:=.inLoop c) rfl (fun _ _=>.inl (by simp)) harr⟩
   | outgrown=>exact⟨_,a1,w1,hq,.pass (x:=.inLoop c) rfl (fun _ _=>.inl (by simp)) harr⟩
 obtain⟨e,a',w',hq,harr⟩:=key n0 a w h0;exact⟨e,a',w',hq,.of_steps (.one step_loop) harr⟩
end
end Go.Tp
namespace Go.Tp
abbrev iv (n:Int):ac:=.dat (.flat (.int .i64 n))
abbrev bv (b:Bool):ac:=.dat (.flat (.bool b))
abbrev Heap:=List (Name×aR)
section
variable {w w':World} {R R':Own} {M M' M'':Name->Option Nat}
end
section
variable {P:Program} {G:bL} {H:Hints} {Ef:ay->bG} {A:Fg} {C:Zi} {pr:ay}
section
variable {wrap:IntKind->Int->Int} {add dif mul:IntKind->Int->Int->Int} {lt eq:Int->Int->Bool} {slt seq:ByteArray->ByteArray->Bool} {cat:ByteArray->ByteArray->Option ByteArray} {elt:List ap->Int->Option ap} {byte:ByteArray->Int->Option UInt8}
 {sub:Nat->List ap->Option Int->Option Int->Option (List ap)} {ssub:ByteArray->Option Int->Option Int->Option ByteArray} {app:Nat->Nat->List ap->List ap->Option (List ap)}
 {key:TypeDesc->Value->List (Value×ap)->Option (Option (Nat×ap))} {len:List ap->Nat} {slen:ByteArray->Nat} {rem quo mx:Int->Int->Int}
end
end
theorem wrap_i64 {n:Int} (h1:-9223372036854775808<=n) (h2:n<=9223372036854775807):IntKind.i64.wrap n=n:=by
 simp[IntKind.wrap,IntKind.signed,IntKind.bits];omega
end Go.Tp
namespace Go.Tp
def UU:Value->Value->Bool
 | .int k n,.int k' n'=>decide (k=k')&&eqZ n n'
 | .string s,.string s'=>eqY s.data.toList s'.data.toList
 | .bool b,.bool b'=>(match b,b' with|true,true=>true|false,false=>true|_,_=>false)
 | .pointer none,.pointer none=>true
 | .map none,.map none=>true
 | .nilFunc,.nilFunc=>true
 | .nilIface,.nilIface=>true
 | .slice none 0 0,.slice none 0 0=>true
 | _,_=>false
where
 eqZ:Int->Int->Bool
  | .ofNat a,.ofNat b=>Nat.beq a b
  | .negSucc a,.negSucc b=>Nat.beq a b
  | _,_=>false
 eqY:List UInt8->List UInt8->Bool
  | [],[]=>true
  | a::l,b::r=>(match Nat.beq a.toNat b.toNat with|true=>eqY l r|false=>false)
  | _,_=>false
theorem Tz {a b:Int} (h:UU.eqZ a b=true):a=b:=by
 unfold UU.eqZ at h
 split at h
 ·rw[Nat.eq_of_beq_eq_true h]
 ·rw[Nat.eq_of_beq_eq_true h]
 simp at h
theorem Hs:∀{a b:List UInt8},UU.eqY a b=true->a=b
 | [],[],_=>rfl
 | [],_::_,h=>by simp[UU.eqY] at h
 | _::_,[],h=>by simp[UU.eqY] at h
 | a::l,b::r,h=>by
  unfold UU.eqY at h
  split at h
  ·rename_i hab;rw[UInt8.toNat_inj.1 (Nat.eq_of_beq_eq_true hab),Hs h]
  simp at h
theorem Ht {a b:Value} (h:UU a b=true):a=b:=by
 unfold UU at h
 split at h
 ·simp only[Bool.and_eq_true,decide_eq_true_eq] at h;rw[h.1,Tz h.2]
 ·rename_i s s';obtain⟨⟨l⟩⟩:=s;obtain⟨⟨l'⟩⟩:=s'
  have:=Hs h
  simp at this;rw[this]
 ·split at h <;> simp at h ⊢
 all_goals first|rfl|simp at h
mutual
def Ob:ap->ap->Bool
 | .flat v,.flat u=>UU v u
 | .slice es,.slice fs=>vM es fs
 | .agg es,.agg fs=>vM es fs
 | _,_=>false
def vM:List ap->List ap->Bool
 | [],[]=>true
 | a::l,b::r=>(match Ob a b with|true=>vM l r|false=>false)
 | _,_=>false
end
mutual
theorem AW:∀{a b:ap},Ob a b=true->a=b
 | .flat v,.flat u,h=>by simp only[Ob] at h;rw[Ht h]
 | .slice es,.slice fs,h=>by simp only[Ob] at h;rw[mQ h]
 | .agg es,.agg fs,h=>by simp only[Ob] at h;rw[mQ h]
 | .flat _,.slice _,h=>by simp[Ob] at h
 | .flat _,.agg _,h=>by simp[Ob] at h
 | .slice _,.flat _,h=>by simp[Ob] at h
 | .slice _,.agg _,h=>by simp[Ob] at h
 | .agg _,.flat _,h=>by simp[Ob] at h
 | .agg _,.slice _,h=>by simp[Ob] at h
theorem mQ:∀{a b:List ap},vM a b=true->a=b
 | [],[],_=>rfl
 | [],_::_,h=>by simp[vM] at h
 | _::_,[],h=>by simp[vM] at h
 | a::l,b::r,h=>by
  simp only[vM] at h
  split at h
  ·rename_i hab;rw[AW hab,mQ h]
  simp at h
end
def XE:Name->Name->Bool
 | .loc a,.loc b=>Nat.beq a b
 | .out a,.out b=>Nat.beq a b
 | _,_=>false
theorem pD {a b:Name} (h:XE a b=true):a=b:=by
 unfold XE at h
 split at h
 ·rw[Nat.eq_of_beq_eq_true h]
 ·rw[Nat.eq_of_beq_eq_true h]
 simp at h
def acC:Fn->Fn->Bool
 | .func a,.func b=>Nat.beq a b
 | _,_=>false
theorem N8 {a b:Fn} (h:acC a b=true):a=b:=by
 unfold acC at h
 split at h
 ·rw[Nat.eq_of_beq_eq_true h]
 simp at h
mutual
def ON:ac->ac->Bool
 | .dat a,.dat b=>Ob a b
 | .own a,.own b=>vM a b
 | .ref a,.ref b=>vM a b
 | .ptr n i,.ptr m j=>XE n m&&Nat.beq i j
 | .map n,.map m=>XE n m
 | .win n a b c,.win n' a' b' c'=>XE n n'&&Nat.beq a a'&&Nat.beq b b'&&Nat.beq c c'
 | .fn f a b,.fn f' a' b'=>acC f f'&&xS a a'&&xS b b'
 | .agg a,.agg b=>xS a b
 | .tup a,.tup b=>xS a b
 | .undef,.undef=>true
 | _,_=>false
def xS:List ac->List ac->Bool
 | [],[]=>true
 | a::l,b::r=>(match ON a b with|true=>xS l r|false=>false)
 | _,_=>false
end
mutual
theorem TB:∀{a b:ac},ON a b=true->a=b
 | .dat a,b,h=>by cases b <;> simp only[ON,Bool.false_eq_true] at h;rw[AW h]
 | .own a,b,h=>by cases b <;> simp only[ON,Bool.false_eq_true] at h;rw[mQ h]
 | .ref a,b,h=>by cases b <;> simp only[ON,Bool.false_eq_true] at h;rw[mQ h]
 | .ptr n i,b,h=>by cases b <;> simp only[ON,Bool.false_eq_true,Bool.and_eq_true] at h;rw[pD h.1,Nat.eq_of_beq_eq_true h.2]
 | .map n,b,h=>by cases b <;> simp only[ON,Bool.false_eq_true] at h;rw[pD h]
 | .win n x y z,b,h=>by cases b <;> simp only[ON,Bool.false_eq_true,Bool.and_eq_true] at h;rw[pD h.1.1.1,Nat.eq_of_beq_eq_true h.1.1.2,Nat.eq_of_beq_eq_true h.1.2,Nat.eq_of_beq_eq_true h.2]
 | .fn f x y,b,h=>by cases b <;> simp only[ON,Bool.false_eq_true,Bool.and_eq_true] at h;rw[N8 h.1.1,io h.1.2,io h.2]
 | .agg a,b,h=>by cases b <;> simp only[ON,Bool.false_eq_true] at h;rw[io h]
 | .tup a,b,h=>by cases b <;> simp only[ON,Bool.false_eq_true] at h;rw[io h]
 | .undef,b,h=>by cases b <;> simp only[ON,Bool.false_eq_true] at h;rfl
theorem io:∀{a b:List ac},xS a b=true->a=b
 | [],[],_=>rfl
 | [],_::_,h=>by simp[xS] at h
 | _::_,[],h=>by simp[xS] at h
 | a::l,b::r,h=>by
  simp only[xS] at h
  split at h
  ·rename_i hab;rw[TB hab,io h]
  simp at h
end
def N7:List (Value×ap)->List (Value×ap)->Bool
 | [],[]=>true
 |(k,d)::l,(k',d')::r=>(match UU k k'&&Ob d d' with|true=>N7 l r|false=>false)
 | _,_=>false
theorem CZ:∀{a b:List (Value×ap)},N7 a b=true->a=b
 | [],[],_=>rfl
 | [],_::_,h=>by simp[N7] at h
 | _::_,[],h=>by simp[N7] at h
 |(k,d)::l,(k',d')::r,h=>by
  simp only[N7] at h
  split at h
  ·rename_i hab;simp only[Bool.and_eq_true] at hab;rw[Ht hab.1,AW hab.2,CZ h]
  simp at h
def eqO:aR->aR->Bool
 | .cells a,.cells b=>xS a b
 | .map a,.map b=>N7 a b
 | _,_=>false
theorem Hu {a b:aR} (h:eqO a b=true):a=b:=by
 unfold eqO at h
 split at h
 ·rw[io h]
 ·rw[CZ h]
 simp at h
theorem TA (n:Name):XE n n=true:=by cases n <;> simp[XE]
def Hh (n:Name):List (Name×aR)->Option aR
 | []=>none
 |(m,o)::l=>match XE m n with|true=>some o|false=>Hh n l
theorem AO {n:Name}:∀{l:List (Name×aR)} {o:aR},Hh n l=some o->eu n l=some o
 | [],o,h=>by simp[Hh] at h
 |(m,p)::l,o,h=>by
  simp only[Hh] at h;simp only[eu]
  split at h
  ·rename_i hm;rw[if_pos (pD hm)];exact h
  rename_i hm;rw[if_neg (fun e=>by rw[e,TA] at hm;simp at hm)];exact AO h
def uS:List (Name×aR)->List (Name×aR)->Bool
 | [],_=>true
 |(n,o)::l,h=>(match Hh n h with
  | some p=>(match eqO o p with|true=>uS l h|false=>false)
  | none=>false)
theorem wq:∀{a b:List (Name×aR)},uS a b=true->UK a b
 | [],_,_=>fun n ob h=>by simp[eu] at h
 |(n,o)::l,b,h=>by
  simp only[uS] at h
  split at h
  ·rename_i p hp
   split at h
   ·rename_i hab;obtain rfl:=Hu hab;intro k ob hk;simp only[eu] at hk
    split at hk
    ·rename_i hkn;simp only[Option.some.injEq] at hk;subst hk;subst hkn;exact AO hp
    exact wq h k ob hk
   simp at h
  simp at h
def Ke:(List (Name×aR))->(List (Name×aR))->Bool
 | [],[]=>true
 |(n,o)::l,(m,p)::r=>(match XE n m&&eqO o p with|true=>Ke l r|false=>false)
 | _,_=>false
theorem vL:∀{a b:List (Name×aR)},Ke a b=true->a=b
 | [],[],_=>rfl
 | [],_::_,h=>by simp[Ke] at h
 | _::_,[],h=>by simp[Ke] at h
 |(n,o)::l,(m,p)::r,h=>by
  simp only[Ke] at h
  split at h
  ·rename_i hab;simp only[Bool.and_eq_true] at hab;rw[pD hab.1,Hu hab.2,vL h]
  simp at h
def Ca (k:Nat):Name->Name
 | .loc i=>.loc i
 | .out o=>match Nat.beq o k with
  | true=>.out (k+1)
  | false=>(match Nat.beq o (k+1) with|true=>.out k|false=>.out o)
mutual
def Fk (k:Nat):ac->ac
 | .dat d=>.dat d
 | .own es=>.own es
 | .ref cs=>.ref cs
 | .ptr n off=>.ptr (Ca k n) off
 | .map n=>.map (Ca k n)
 | .win n s off len=>.win (Ca k n) s off len
 | .fn f a b=>.fn f (yQ k a) (yQ k b)
 | .agg cs=>.agg (yQ k cs)
 | .tup cs=>.tup (yQ k cs)
 | .undef=>.undef
def yQ (k:Nat):List ac->List ac
 | []=>[]
 | a::r=>Fk k a::yQ k r
end
def swO (k:Nat):aR->aR
 | .cells cs=>.cells (yQ k cs)
 | .map es=>.map es
def swH (k:Nat):List (Name×aR)->List (Name×aR)
 | []=>[]
 |(n,o)::r=>(Ca k n,swO k o)::swH k r
def KS:List (Name×aR)->List (Name×aR)
 | x::y::r=>y::x::r
 | r=>r
def swS (k:Nat) (s:aa):aa:=⟨yQ k s.tmps,swH k s.locs,KS (swH k s.heap),s.next⟩
theorem ng (k o:Nat):Ca k (.out o)=if o=k then .out (k+1) else if o=k+1 then .out k else .out o:=by
 simp only[Ca]
 by_cases h1:o=k
 ·subst h1;simp
 have e1:Nat.beq o k=false:=by cases h:Nat.beq o k;rfl;exact absurd (Nat.eq_of_beq_eq_true h) h1
 rw[e1,if_neg h1]
 by_cases h2:o=k+1
 ·subst h2;simp
 have e2:Nat.beq o (k+1)=false:=by cases h:Nat.beq o (k+1);rfl;exact absurd (Nat.eq_of_beq_eq_true h) h2
 simp only[e2,if_neg h2]
theorem xX (k:Nat):∀n,Ca k (Ca k n)=n
 | .loc _=>rfl
 | .out o=>by
  rw[ng]
  by_cases h1:o=k
  ·subst h1;rw[if_pos rfl,ng];simp
  rw[if_neg h1]
  by_cases h2:o=k+1
  ·subst h2;rw[if_pos rfl,ng];simp
  rw[if_neg h2,ng,if_neg h1,if_neg h2]
section
variable {w:World} {R:Own} {N:Name->Option Nat} {k:Nat}
mutual
theorem al.sw:∀{a:ac} {v:Value} {bs:List Nat},al w R N a v bs->al w R (fun n=>N (Ca k n)) (Fk k a) v bs
 | .dat _,_,_,h=>by simp only[Fk,al] at h ⊢;exact h
 | .own _,_,_,h=>by simp only[Fk,al] at h ⊢;exact h
 | .ref _,_,_,h=>by simp only[Fk,al] at h ⊢;exact h
 | .ptr n off,_,_,h=>by
  simp only[Fk,al] at h ⊢;obtain⟨h0,b,hb,e⟩:=h;exact⟨h0,b,by rw[xX];exact hb,e⟩
 | .map n,_,_,h=>by
  simp only[Fk,al] at h ⊢;obtain⟨h0,b,hb,e⟩:=h;exact⟨h0,b,by rw[xX];exact hb,e⟩
 | .win n s off len,_,_,h=>by
  simp only[Fk,al] at h ⊢;obtain⟨h0,b,cap,hb,e⟩:=h;exact⟨h0,b,cap,by rw[xX];exact hb,e⟩
 | .fn f a c,_,_,h=>by
  simp only[Fk,al] at h ⊢;obtain⟨h0,vs,us,e,h1,h2⟩:=h;exact⟨h0,vs,us,e,ak.sw (as:=a) h1,ak.sw (as:=c) h2⟩
 | .agg cs,_,_,h=>by
  simp only[Fk,al] at h ⊢;obtain⟨vs,e,h1⟩:=h;exact⟨vs,e,ak.sw (as:=cs) h1⟩
 | .tup cs,_,_,h=>by
  simp only[Fk,al] at h ⊢;obtain⟨vs,e,h1⟩:=h;exact⟨vs,e,ak.sw (as:=cs) h1⟩
 | .undef,_,_,h=>by simp only[Fk,al] at h ⊢;exact h
theorem ak.sw:∀{as:List ac} {vs:List Value} {bs:List Nat},ak w R N as vs bs->ak w R (fun n=>N (Ca k n)) (yQ k as) vs bs
 | [],_,_,h=>by simp only[yQ,ak] at h ⊢;exact h
 | a::as,_,_,h=>by
  simp only[yQ,ak] at h ⊢;obtain⟨v,vs',b1,b2,e1,e2,h1,h2⟩:=h;exact⟨v,vs',b1,b2,e1,e2,al.sw (a:=a) h1,ak.sw (as:=as) h2⟩
end
theorem yP:∀(a b:List ac),yQ k (a++b)=yQ k a++yQ k b
 | [],b=>rfl
 | x::a,b=>by simp only[List.cons_append,yQ,yP a b]
theorem Cb:∀(n:Nat),yQ k (List.replicate n .undef)=List.replicate n .undef
 | 0=>rfl
 | n+1=>by simp only[List.replicate_succ,yQ,Fk,Cb n]
theorem JL {a:ac} (h:xN (Fk k a)=true):xN a=true:=by
 cases a <;> simp only[Fk] at h <;> first|exact h|rfl|simp[xN] at h
theorem Us {cs:List ac} (h:cM (yQ k cs)=true):cM cs=true:=by
 match cs with
 | []=>simp[yQ,cM] at h
 | [a]=>simp[yQ,cM] at h
 | [a,b]=>
  cases b with
  | own es=>simp only[yQ,Fk,cM] at h ⊢;exact JL h
  | dat d=>
   simp only[yQ,Fk] at h;unfold cM at h
   split at h
   ·rename_i heq;simp at heq
   ·rename_i p es heq;simp at heq;obtain⟨rfl,rfl⟩:=heq;exact JL h
   ·rename_i p heq;simp at heq;obtain⟨rfl,rfl⟩:=heq;exact JL h
   simp at h
  | _=>simp[yQ,Fk,cM] at h
 | a::b::c::r=>simp[yQ,cM] at h
theorem aT.sw {o:aR} {b:Nat} {bs:List Nat} (h:aT w R N o b bs):aT w R (fun n=>N (Ca k n)) (swO k o) b bs:=by
 cases o with
 | cells cs=>
  obtain⟨vs,elem,sp,hb,hr,hR,hsh⟩:=h;refine⟨vs,elem,sp,hb,?_,hR,fun hh=>hsh (Us hh)⟩
  have:=hr.sw (k:=k)
  rwa [yP,Cb] at this
 | map es=>exact h
theorem an.sw:∀{os:List (Name×aR)} {bs:List Nat},an w R N os bs->an w R (fun n=>N (Ca k n)) (swH k os) bs
 | [],_,h=>h
 |(n,_)::_,_,⟨b,b1,b2,e,hN,h1,h2⟩=>⟨b,b1,b2,e,by show N (Ca k (Ca k n))=_;rw[xX];exact hN,h1.sw,an.sw h2⟩
theorem an.KS {os:List (Name×aR)} {bs:List Nat} (h:an w R N os bs):∃bs',an w R N (KS os) bs'/\bs'.Perm bs:=by
 match os with
 | []=>exact⟨bs,h,List.Perm.refl _⟩
 | [x]=>exact⟨bs,h,List.Perm.refl _⟩
 |(n,o)::(m,p)::r=>
  obtain⟨b,b1,b2,rfl,hN,h1,c,c1,c2,rfl,hM,h2,h3⟩:=h;refine⟨_,⟨c,c1,_,rfl,hM,h2,b,b1,c2,rfl,hN,h1,h3⟩,?_⟩;rw[List.perm_iff_count];intro q;simp only[List.count_append,List.count_cons];omega
theorem VI:outs (fun n=>N (Ca k n))=fun n=>outs N (Ca k n):=by
 funext n
 cases n with
 | loc i=>rfl
 | out o=>
  have:∃o',Ca k (.out o)=.out o':=by rw[ng];split;exact⟨_,rfl⟩;split;exact⟨_,rfl⟩;exact⟨_,rfl⟩
  obtain⟨o',e⟩:=this;simp only[outs,e]
end
theorem Qd {G:bL} {k:Nat} {s:aa} (hk:k+1 < s.next):Ym G k (swS k s) s:=by
 intro w R N tmps bsT bsL bsH bsF hr;obtain⟨bsH',hH,hp⟩:=(hr.heap.sw (k:=k)).KS;refine⟨fun n=>N (Ca k n),bsT,bsL,bsH',⟨by simp only[al],hr.tmps.sw,hr.locs.sw,by rw[VI];exact hH,?_,?_,hr.glob,hr.frame⟩,?_⟩
 ·have:=hr.nodup
  simp only[List.nil_append] at this ⊢;refine (List.Perm.nodup_iff ?_).1 this;exact (((hp.symm.append_right bsF).append_left bsL).append_left bsT)
 ·intro o b hb;have hb:N (Ca k (.out o))=some b:=hb;rw[ng] at hb;show o < s.next
  split at hb
  ·rename_i h;subst h;omega
  split at hb
  ·rename_i h;subst h;exact hk
  exact hr.next o b hb
 intro o b ho hb;show N (Ca k (.out o))=some b;rw[ng,if_neg (by omega),if_neg (by omega)];exact hb
def Cj (s s':aa):Bool:=xS s.tmps s'.tmps&&Ke s.locs s'.locs&&Ke s.heap s'.heap&&Nat.beq s.next s'.next
theorem rB {s s':aa} (h:Cj s s'=true):s=s':=by
 unfold Cj at h;simp only[Bool.and_eq_true] at h;obtain⟨t,l,hh,n⟩:=s;obtain⟨t',l',hh',n'⟩:=s';obtain⟨⟨⟨h1,h2⟩,h3⟩,h4⟩:=h;rw[show t=t' from io h1,show l=l' from vL h2,show hh=hh' from vL h3,show n=n' from Nat.eq_of_beq_eq_true h4]
def Nf (k:Nat) (s0 s:aa):Bool:=match Cj s0 s with|true=>true|false=>Nat.blt (k+1) s.next&&Cj s0 (swS k s)
theorem Co {G:bL} {k:Nat} {s0 s:aa} (h:Nf k s0 s=true):Ym G k s0 s:=by
 unfold Nf at h
 split at h
 ·rename_i hs;rw[rB hs];exact fun w R N tmps bsT bsL bsH bsF hr=>⟨N,bsT,bsL,bsH,hr,fun _ _ _ h=>h⟩
 simp only[Bool.and_eq_true,Nat.blt_eq] at h;rw[rB h.2];exact Qd h.1
end Go.Tp
namespace Go.Tp
structure ey where
 val:ac
 heap:Heap
 next:Nat
abbrev jx:=FuncId->List ac->Heap->Nat->Option ey
structure gU where
 code:Code
 ntmps:Nat
 results:List ResultVar
 ord:Nat->ax
 live:Nat->Nat
section
variable (X:jx) (E:bG) (G:bL) (H:Hints)
def Im (all:List Oper) (o:Oper) (s:aa):Option aa:=
 match dy all s o.guard with
 | none=>none
 | some b=>
  if b=true then
   (match dm o.op with
    | some c=>(match lS E G H c s with
     | some (f,args,s2)=>(match X f args s2.heap s2.next with
      | some r=>some (({s2 with heap:=r.heap,next:=r.next }:aa).put o.dst r.val)
      | none=>none)
     | none=>none)
    | none=>cX E G (readOnly H.moves all o) (lv H all o) o s)
  else some (s.put o.dst (.tup []))
def Fm (all:List Oper):List Oper->aa->Option aa
 | [],s=>some s
 | o::rest,s=>(match Im X E G H all o s with|some s'=>Fm all rest s'|none=>none)
def Il (fh:Bool) (tk:List Nat) (all:List Oper) (o:Oper) (s:aa):Option aa:=
 match dy all s o.guard with
 | none=>none
 | some b=>
  if b=true then
   (match dm o.op with
    | some c=>(match dI E G H c s with
     | some (f,args,s2)=>(match hO H o with
      | true=>(match X f args [] s2.next with
       | some ⟨v,[],n⟩=>some (({s2 with next:=n }:aa).put o.dst v)
       | _=>none)
      | false=>(match X f args s2.heap s2.next with
       | some r=>(match !mc H o||uS s2.heap r.heap with
        | true=>some (({s2 with heap:=r.heap,next:=r.next }:aa).put o.dst r.val)
        | false=>none)
       | none=>none))
     | none=>none)
    | none=>(match fJ o.op with
     | some t=>(match dv fh all (gf all t (lu tk t s)) s with
      | some s1=>cX E G false false o s1
      | none=>none)
     | none=>(match kq o.op with
      | true=>cX E G (readOnly H.moves all o) (lv H all o) o s
      | false=>none)))
  else some (s.put o.dst (.tup []))
def Ds (tk:List Nat) (fh:Bool) (fq:Nat->Bool) (all:List Oper):List (Nat×Bool)->aa->Option aa
 | [],s=>some s
 |(i,lone)::r,s=>
  match all[i]? with
  | none=>none
  | some o=>
   if lone=true then (match Il X E G H fh tk all o s with|some s'=>Ds tk fh fq all r s'|none=>none)
   else (match fm E G (fh||fq i) all o s with
    | some a=>Ds tk fh fq all r (s.put o.dst a)
    | none=>none)
def Du (all:List Oper):Nat->Array Bool->aa->Option aa
 | 0,_,s=>some s
 | m+1,listed,s=>match Region.ready .any all.toArray listed with
  | []=>some s
  | i::_=>(match all[i]? with
   | some o=>(match Im X E G H all o s with|some s1=>Du all m (bY listed i) s1|none=>none)
   | none=>none)
def ru (all:List Oper) (k:Nat) (s0:aa):Nat->Array Bool->aa->Bool
 | 0,listed,s=>(Region.ready .any all.toArray listed).isEmpty&&Nf k s0 s
 | m+1,listed,s=>match Region.ready .any all.toArray listed with
  | []=>Nf k s0 s
  | i::l=>(i::l).all fun i=>match all[i]? with
   | some o=>(match Im X E G H all o s with|some s1=>ru all k s0 m (bY listed i) s1|none=>false)
   | none=>false
def qL:List Bool->List Bool->Bool
 | [],[]=>true
 | true::l,true::r=>qL l r
 | false::l,false::r=>qL l r
 | _,_=>false
def Dt (h:ax) (all:List Oper):Nat->Array Bool->aa->Option aa
 | 0,_,s=>some s
 | m+1,listed,s=>match Region.ready .any all.toArray listed with
  | []=>none
  | i::_=>(match all[i]? with
   | some o=>(match Il X E G H (aV H all h.pre) h.tk all o s with|some s1=>Dt h all m (bY listed i) s1|none=>none)
   | none=>none)
def rq (h:ax) (all:List Oper) (p:Array Bool) (s0:aa):Nat->Array Bool->aa->Bool
 | 0,listed,s=>qL listed.toList p.toList&&Cj s0 s
 | m+1,listed,s=>!qL listed.toList p.toList&&!(Region.ready .any all.toArray listed).isEmpty&&(Region.ready .any all.toArray listed).all fun i=>h.pre.contains (i,true)&&(match all[i]? with
   | some o=>(match Il X E G H (aV H all h.pre) h.tk all o s with|some s1=>rq h all p s0 m (bY listed i) s1|none=>false)
   | none=>false)
def yD (all:List Oper) (h:ax) (s:aa):Option aa:=
 match Ds X E G H h.tk (aV H all h.pre) (quietAt H all h.pre) all (cd h.pre) s with
 | some s1=>(match Dt X E G H h all (h.pre.length - (cd h.pre).length) (eb (cd h.pre) (Array.replicate all.length false)) s1 with
  | some s0=>(match rq X E G H h all (eb h.pre (Array.replicate all.length false)) s0 (h.pre.length - (cd h.pre).length) (eb (cd h.pre) (Array.replicate all.length false)) s1 with
   | true=>(match iu E all h.nw s0 with
    | some s2=>Fm X E G H all (dJ all h.tail) s2
    | none=>none)
   | false=>none)
  | none=>none)
 | none=>none
def KP (all:List Oper) (h:ax) (s:aa):Option aa:=
 if gy h=true then (match Du X E G H all all.length (Array.replicate all.length false) s with
  | some s0=>(match ru X E G H all s.next s0 all.length (Array.replicate all.length false) s with|true=>some s0|false=>none)
  | none=>none)
 else
 if gV h=true then yD X E G H all (fY h) s else
 match Ds X E G H h.tk (aV H all h.pre) (quietAt H all h.pre) all h.pre s with
 | some s1=>(match iu E all h.nw s1 with
  | some s2=>Fm X E G H all (dJ all h.tail) s2
  | none=>none)
 | none=>none
def UX (rs:List ResultVar) (s:aa):Option ey:=
 match hC E s rs with
 | none=>none
 | some vs=>
  if bU (jF vs)=true then some ⟨pack (jF vs),s.heap,s.next⟩
  else match hY (repeatL s.locs.length (mH s.locs)) s (jF vs) with
   |(s',vs')=>if bU vs'=true then some ⟨pack vs',s'.heap,s'.next⟩ else none
end
def XQ (r:ey):ac->Heap->Nat->Prop:=fun v h n=>v=r.val/\h=r.heap/\n=r.next
section
variable {P:Program} {X:jx} {E:bG} {G:bL} {H:Hints}
def Ig (P:Program) (G:bL) (X:jx):Prop:=∀f args heap next r,X f args heap next=some r->aB P G f args heap next (XQ r)
theorem yC (hX:Ig P G X) {all:List Oper} {o:Oper} {s s':aa} (h:Im X E G H all o s=some s') {K:aa->Prop} (hK:K s'):mn (aB P G) E G H all o K s:=by
 unfold Im at h;unfold mn
 split at h
 ·simp at h
 rename_i b hb;rw[hb];dsimp only
 split at h
 ·rename_i hb1;rw[if_pos hb1]
  split at h
  ·rename_i c hc;rw[hc];dsimp only
   split at h
   ·rename_i f args s2 hcal;rw[hcal];dsimp only
    split at h
    ·rename_i r hr;simp at h;refine (hX _ _ _ _ _ hr).mono ?_;rintro v hh n ⟨rfl,rfl,rfl⟩ _ _;rw[h];exact hK
    simp at h
   simp at h
  rename_i hc;rw[hc];dsimp only;rw[h];exact hK
 rename_i hb1;rw[if_neg hb1];simp at h;rw[h];exact hK
theorem nb (hX:Ig P G X) {all:List Oper} {K:aa->Prop}:∀{ops:List Oper} {s s':aa},Fm X E G H all ops s=some s'->K s'->ml (aB P G) E G H all K ops s
 | [],s,s',h,hK=>by simp[Fm] at h;subst h;exact hK
 | o::rest,s,s',h,hK=>by
  simp only[Fm] at h;simp only[ml,iQ]
  split at h
  ·rename_i s1 h1;exact yC hX h1 (nb hX h hK)
  simp at h
theorem yB (hX:Ig P G X) {fh:Bool} {tk:List Nat} {all:List Oper} {o:Oper} {s s':aa} (h:Il X E G H fh tk all o s=some s') {K:aa->Prop} (hK:K s'):Ns (aB P G) E G H fh tk all o K s:=by
 unfold Il at h;unfold Ns
 split at h
 ·simp at h
 rename_i b hb;rw[hb];dsimp only
 split at h
 ·rename_i hb1;rw[if_pos hb1]
  split at h
  ·rename_i c hc;rw[hc];dsimp only
   split at h
   ·rename_i f args s2 hcal;rw[hcal];dsimp only
    cases hpu:hO H o with
    | true=>
     rw[hpu] at h;dsimp only at h ⊢
     split at h
     ·rename_i v n hr;simp at h;refine (hX _ _ _ _ _ hr).mono ?_;rintro v hh n ⟨rfl,rfl,rfl⟩ _ _;exact⟨rfl,by rw[h];exact hK⟩
     simp at h
    | false=>
     rw[hpu] at h;dsimp only at h ⊢
     split at h
     ·rename_i r hr
      split at h
      ·rename_i hst;simp at h;refine (hX _ _ _ _ _ hr).mono ?_;rintro v hh n ⟨rfl,rfl,rfl⟩ _ _;refine⟨fun hrd=>?_,by rw[h];exact hK⟩;rw[hrd] at hst;exact wq (by simpa using hst)
      simp at h
     simp at h
   simp at h
  rename_i hc;rw[hc];dsimp only
  split at h
  ·rename_i t ht;rw[ht];dsimp only
   split at h
   ·rename_i s1 hs1;rw[hs1];dsimp only;rw[h];exact hK
   simp at h
  rename_i ht;rw[ht];dsimp only
  split at h
  ·rename_i hst;rw[hst];dsimp only;rw[h];exact hK
  simp at h
 rename_i hb1;rw[if_neg hb1];simp at h;rw[h];exact hK
theorem na (hX:Ig P G X) {tk:List Nat} {fh:Bool} {fq:Nat->Bool} {all:List Oper} {T:aa->Prop}:∀{l:List (Nat×Bool)} {s s':aa},Ds X E G H tk fh fq all l s=some s'->T s'->lQ (aB P G) E G H tk fh fq all T l s
 | [],s,s',h,hK=>by simp[Ds] at h;subst h;exact hK
 |(i,lone)::rest,s,s',h,hK=>by
  simp only[Ds] at h;simp only[lQ]
  split at h
  ·simp at h
  rename_i o ho;rw[ho];dsimp only;simp only[iQ]
  split at h
  ·rename_i hl;rw[if_pos hl]
   split at h
   ·rename_i s1 h1;exact yB hX h1 (na hX h hK)
   simp at h
  rename_i hl;rw[if_neg hl]
  split at h
  ·rename_i a ha;rw[ha];exact na hX h hK
  simp at h
theorem sI (hX:Ig P G X) {all:List Oper} {k:Nat} {s0:aa} {Q:aa->Prop} (hQ:Q s0):∀(m:Nat) (listed:Array Bool) (s:aa),ru X E G H all k s0 m listed s=true->oD (aB P G) E G H all (fun s'=>∃s0,Q s0/\Ym G k s0 s') m listed s
 | 0,listed,s,h=>by
  simp only[ru,Bool.and_eq_true,List.isEmpty_iff] at h;exact⟨h.1,s0,hQ,Co h.2⟩
 | m+1,listed,s,h=>by
  simp only[ru] at h;simp only[oD]
  split at h
  ·rename_i he;exact .inl ⟨he,s0,hQ,Co h⟩
  rename_i i l he;refine .inr ⟨by rw[he];simp,?_⟩;rw[he];intro j hj;have h1:=List.all_eq_true.1 h j hj
  split at h1
  ·rename_i o ho
   split at h1
   ·rename_i s1 hs1;exact⟨o,ho,yC hX hs1 (sI hX hQ m _ s1 h1)⟩
   simp at h1
  simp at h1
theorem kM:∀{a b:List Bool},qL a b=true↔a=b
 | [],[]=>by simp[qL]
 | [],_::_=>by simp[qL]
 | _::_,[]=>by simp[qL]
 | true::l,true::r=>by simp[qL,kM (a:=l) (b:=r)]
 | false::l,false::r=>by simp[qL,kM (a:=l) (b:=r)]
 | true::l,false::r=>by simp[qL]
 | false::l,true::r=>by simp[qL]
theorem sH (hX:Ig P G X) {h:ax} {all:List Oper} {p:Array Bool} {s0:aa} {K:aa->Prop} (hK:K s0):∀(m:Nat) (listed:Array Bool) (s:aa),rq X E G H h all p s0 m listed s=true->vZ (aB P G) E G H h all p K m listed s
 | 0,listed,s,hh=>by
  simp only[rq,Bool.and_eq_true] at hh;refine⟨Array.ext' (kM.1 hh.1),?_⟩;rw[←rB hh.2];exact hK
 | m+1,listed,s,hh=>by
  simp only[rq,Bool.and_eq_true,Bool.not_eq_true'] at hh;obtain⟨⟨h1,h2⟩,h3⟩:=hh;refine⟨fun e=>?_,fun e=>by rw[e] at h2;simp at h2,fun i hi=>?_⟩
  ·rw[e,kM.2 rfl] at h1;simp at h1
  have h4:=List.all_eq_true.1 h3 i hi;simp only[Bool.and_eq_true] at h4;refine⟨by simpa using h4.1,?_⟩;have h5:=h4.2
  split at h5
  ·rename_i o ho
   split at h5
   ·rename_i s1 hs1;exact⟨o,ho,yB hX hs1 (sH hX hK m _ s1 h5)⟩
   simp at h5
  simp at h5
theorem Dv (hX:Ig P G X) {all:List Oper} {h:ax} {s s':aa} (hh:yD X E G H all h s=some s') {Q:aa->Prop} (hQ:Q s'):Bx (aB P G) E G H all h Q s:=by
 unfold yD at hh;unfold Bx
 split at hh
 ·rename_i s1 h1;refine na hX h1 ?_
  split at hh
  ·rename_i s0 _
   split at hh
   ·rename_i h2;refine sH hX ?_ _ _ _ h2
    split at hh
    ·rename_i s2 h3;rw[h3];exact nb hX hh hQ
    simp at hh
   simp at hh
  simp at hh
 simp at hh
theorem Fo (hX:Ig P G X) {all:List Oper} {h:ax} {s s':aa} (hh:KP X E G H all h s=some s') {Q:aa->Prop} (hQ:Q s'):By (aB P G) E G H all h Q s:=by
 unfold KP at hh;unfold By
 by_cases hx:gy h=true
 ·rw[if_pos hx] at hh;rw[if_pos hx]
  split at hh
  ·rename_i s0 _
   split at hh
   ·rename_i h2;simp only[Option.some.injEq] at hh;subst hh;exact sI hX hQ _ _ _ h2
   simp at hh
  simp at hh
 rw[if_neg hx] at hh;rw[if_neg hx]
 by_cases hlm:gV h=true
 ·rw[if_pos hlm] at hh;rw[if_pos hlm];exact Dv hX hh hQ
 rw[if_neg hlm] at hh;rw[if_neg hlm]
 split at hh
 ·rename_i s1 h1;refine na hX h1 ?_
  split at hh
  ·rename_i s2 h2;rw[h2];exact nb hX hh hQ
  simp at hh
 simp at hh
theorem rp {rs:List ResultVar} {s:aa} {r:ey} (h:UX E rs s=some r):xV E rs (XQ r) s:=by
 unfold UX at h;unfold xV
 split at h
 ·simp at h
 rename_i vs hvs;rw[hvs];dsimp only
 split at h
 ·rename_i hn;rw[if_pos hn];simp at h;subst h;exact⟨rfl,rfl,rfl⟩
 rename_i hn;rw[if_neg hn]
 split at h
 rename_i s' vs' he;rw[he];dsimp only
 split at h
 ·rename_i hn2;rw[if_pos hn2];simp at h;subst h;exact⟨rfl,rfl,rfl⟩
 simp at h
def FOk (P:Program) (moves caps:FuncId->Bool) (F:FuncId->Option gU):Prop:=
 ∀f x,F f=some x->∃fn:Func,P.funcs[f]?=some fn/\fn.body=some x.code/\fn.ntmps=x.ntmps/\fn.results.toList=x.results/\cQ ⟨moves,x.ord,caps,false⟩ x.code=true
end
def gU.of (fn:Func) (ord:Nat->ax) (live:Nat->Nat):gU:=⟨match fn.body with|some c=>c|none=>.skip,fn.ntmps,fn.results.toList,ord,live⟩
inductive aO where
 |nil
 |node (l:aO) (k:Nat) (fn:Func) (ord:Nat->ax) (live:Nat->Nat) (r:aO)
def aO.find:aO->Nat->Option gU
 | .nil,_=>none
 | .node l k fn ord live r,t=>match Nat.blt t k with
  | true=>l.find t
  | false=>(match Nat.blt k t with|true=>r.find t|false=>some (gU.of fn ord live))
def Fa (moves caps:FuncId->Bool) (fn:Func) (ord:Nat->ax):Bool:=
 match fn.body with
 | some c=>cQ ⟨moves,ord,caps,false⟩ c
 | none=>false
def aE (P:Program) (moves caps:FuncId->Bool) (k:Nat) (fn:Func) (ord:Nat->ax):Prop:=P.funcs[k]?=some fn/\Fa moves caps fn ord=true
theorem aj {P:Program} {moves caps:FuncId->Bool} {k:Nat} {fn:Func} {ord:Nat->ax} (h1:P.funcs[k]?=some fn) (h2:Fa moves caps fn ord=true):aE P moves caps k fn ord:=⟨h1,h2⟩
def aO.Ik (P:Program) (moves caps:FuncId->Bool):aO->Prop
 | .nil=>True
 | .node l k fn ord _ r=>l.Ik P moves caps/\aE P moves caps k fn ord/\r.Ik P moves caps
theorem aO.all_nil {P:Program} {moves caps:FuncId->Bool}:aO.Ik P moves caps .nil:=trivial
theorem aO.ae {P:Program} {moves caps:FuncId->Bool} {l r:aO} {k:Nat} {fn:Func} {ord:Nat->ax} {live:Nat->Nat} (h1:l.Ik P moves caps) (h2:aE P moves caps k fn ord) (h3:r.Ik P moves caps):aO.Ik P moves caps (.node l k fn ord live r):=⟨h1,h2,h3⟩
theorem aO.ok {P:Program} {moves caps:FuncId->Bool}:∀{t:aO},t.Ik P moves caps->FOk P moves caps t.find
 | .nil,_=>by intro f x h;simp[aO.find] at h
 | .node l k fn ord live r,⟨h1,h2,h3⟩=>by
  intro f x h;simp only[aO.find] at h
  cases h1':Nat.blt f k with
  | true=>rw[h1'] at h;exact aO.ok h1 f x h
  | false=>
   rw[h1'] at h
   cases h2':Nat.blt k f with
   | true=>rw[h2'] at h;exact aO.ok h3 f x h
   | false=>
    rw[h2'] at h;have a:¬ @LT.lt Nat _ f k:=fun h=>by rw[←Nat.blt_eq,h1'] at h;simp at h
    have b:¬ @LT.lt Nat _ k f:=fun h=>by rw[←Nat.blt_eq,h2'] at h;simp at h
    have hk:@Eq Nat f k:=by omega
    subst hk;simp at h;subst h;obtain⟨g1,g2⟩:=h2;refine⟨fn,g1,?_,rfl,rfl,?_⟩
    ·unfold Fa at g2;simp only[gU.of]
     cases hb:fn.body with
     | none=>rw[hb] at g2;simp at g2
     | some c=>rfl
    unfold Fa at g2;simp only[gU.of]
    cases hb:fn.body with
    | none=>rw[hb] at g2;simp at g2
    | some c=>rw[hb] at g2;exact g2
end Go.Tp
namespace Go.Tp
def dU:List UInt8->List UInt8->Bool
 | [],[]=>true
 | a::x,b::y=>(match Nat.beq a.toNat b.toNat with|true=>dU x y|false=>false)
 | _,_=>false
def mu:List UInt8->List UInt8->Bool
 | _,[]=>false
 | [],_::_=>true
 | a::x,b::y=>(match Nat.blt a.toNat b.toNat with
  | true=>true
  | false=>(match Nat.beq a.toNat b.toNat with|true=>mu x y|false=>false))
theorem KG (a b:UInt8):Nat.beq a.toNat b.toNat=(a==b):=by
 rw[Bool.eq_iff_iff,Nat.beq_eq,beq_iff_eq];exact⟨UInt8.toNat_inj.1,fun h=>by rw[h]⟩
theorem Ur (a b:UInt8):Nat.blt a.toNat b.toNat=decide (a < b):=by
 rw[Bool.eq_iff_iff,Nat.blt_eq,decide_eq_true_eq];exact UInt8.lt_iff_toNat_lt.symm
theorem jo:∀x y,dU x y=(x==y)
 | [],[]=>rfl
 | [],_::_=>rfl
 | _::_,[]=>rfl
 | a::x,b::y=>by
  simp only[dU,KG,jo x y]
  cases h:a==b <;> simp_all
theorem Jr:∀x y,mu x y=Op.bytesLess x y
 | [],[]=>rfl
 | [],_::_=>rfl
 | _::_,[]=>rfl
 | a::x,b::y=>by
  simp only[mu,Ur,KG,Jr x y,Op.bytesLess]
  cases decide (a < b) <;> cases h:a==b <;> simp_all
theorem toList_data (x:ByteArray):x.toList=x.data.toList:=ByteArray.toList_eq x
def aH (k:IntKind) (n:Int):Int:=
 match k with
 | .i64=>(match n with
  | .ofNat m=>(match Nat.blt m 9223372036854775808 with|true=>.ofNat m|false=>k.wrap n)
  | .negSucc m=>(match Nat.blt m 9223372036854775808 with|true=>.negSucc m|false=>k.wrap n))
 | .u8=>(match n with
  | .ofNat m=>(match Nat.blt m 256 with|true=>.ofNat m|false=>k.wrap n)
  | .negSucc _=>k.wrap n)
 | .u64=>(match n with
  | .ofNat m=>(match Nat.blt m 18446744073709551616 with|true=>.ofNat m|false=>k.wrap n)
  | .negSucc _=>k.wrap n)
 | _=>k.wrap n
theorem fS {a b:Nat} (h:a<=b):Nat.ble a b=true:=by rw[Nat.ble_eq];exact h
theorem fe {a b:Nat} (h:Nat.ble a b=true):a<=b:=by rwa [Nat.ble_eq] at h
theorem pL {a b:Nat} (h:Nat.blt a b=true):a < b:=by rwa [Nat.blt_eq] at h
theorem dP (k:IntKind) (n:Int):aH k n=k.wrap n:=by
 unfold aH
 split
 ·split
  ·split
   ·rename_i m h;have h:=pL h;simp[IntKind.wrap,IntKind.signed,IntKind.bits];omega
   rfl
  rename_i m
  split
  ·rename_i h;have h:=pL h;have e:(Int.negSucc m:Int)=-(m:Int) - 1:=by rw[Int.negSucc_eq];omega
   exact (wrap_i64 (by rw[e];omega) (by rw[e];omega)).symm
  rfl
 ·split
  ·split
   ·rename_i m h;have h:=pL h;simp[IntKind.wrap,IntKind.signed,IntKind.bits];omega
   rfl
  rfl
 ·split
  ·split
   ·rename_i m h;have h:=pL h;simp[IntKind.wrap,IntKind.signed,IntKind.bits];omega
   rfl
  rfl
 rfl
def bq (a b:Int):Bool:=
 match a,b with
 | .ofNat x,.ofNat y=>Nat.blt x y
 | .negSucc x,.negSucc y=>Nat.blt y x
 | .negSucc _,.ofNat _=>true
 | .ofNat _,.negSucc _=>false
theorem gr (a b:Int):bq a b=decide (a < b):=by
 cases a <;> cases b <;> simp only[bq] <;> rw[Bool.eq_iff_iff] <;> simp[Nat.blt_eq] <;> omega
def aP (a b:Int):Bool:=
 match a,b with
 | .ofNat x,.ofNat y=>Nat.beq x y
 | .negSucc x,.negSucc y=>Nat.beq x y
 | .negSucc _,.ofNat _=>false
 | .ofNat _,.negSucc _=>false
theorem gQ (a b:Int):aP a b=(a==b):=by
 cases a <;> cases b <;> simp only[aP] <;> rw[Bool.eq_iff_iff] <;> simp <;> omega
def sV:TypeDesc->Value->Value->Option Bool
 | .string,.string a,.string b=>some (dU a.data.toList b.data.toList)
 | td,a,b=>Instr.sameNow td a b
theorem PX (td:TypeDesc) (a b:Value):sV td a b=Instr.sameNow td a b:=by
 unfold sV
 split
 ·rename_i x y;simp only[Instr.sameNow,jo,Option.some.injEq];obtain⟨⟨a⟩⟩:=x;obtain⟨⟨b⟩⟩:=y;have e:((⟨⟨a⟩⟩:ByteArray)==⟨⟨b⟩⟩)=((Array.mk a)==(Array.mk b)):=rfl;rw[e];simp
 rfl
def findF (td:TypeDesc) (k:Value):List (Value×ap)->Nat->Option (Option (Nat×ap))
 | [],_=>some none
 |(x,d)::es,i=>
  match sV td k x with
  | some true=>some (some (i,d))
  | some false=>findF td k es (i+1)
  | none=>none
theorem Hi (td:TypeDesc) (k:Value):∀es i,findF td k es i=findKey td k es i
 | [],_=>rfl
 |(x,d)::es,i=>by
  simp only[findF,findKey,PX]
  cases h:Instr.sameNow td k x with
  | none=>rfl
  | some b=>cases b <;> simp[Hi td k es]
def sizedB (size:Nat):List ap->Bool
 | []=>true
 | d::r=>(match Nat.beq d.cells.length size with|true=>sizedB size r|false=>false)
theorem gk {size:Nat}:∀{l:List ap},sizedB size l=true↔∀d∈l,d.cells.length=size
 | []=>by simp[sizedB]
 | d::r=>by
  simp only[sizedB]
  split
  ·rename_i h;rw[Nat.beq_eq] at h;rw[gk];simp[h]
  rename_i h
  have:¬d.cells.length=size:=fun e=>by rw[←Nat.beq_eq] at e;rw[e] at h;simp at h
  simp[this]
def Ey {α:Type}:List α->Nat->Option α
 | [],_=>none
 | a::_,0=>some a
 | _::r,n+1=>Ey r n
theorem tS {α:Type}:∀(l:List α) (n:Nat),Ey l n=l[n]?
 | [],_=>by simp[Ey]
 | _::_,0=>by simp[Ey]
 | _::r,n+1=>by simp[Ey,tS r n]
def ay.aN:ay where
 wrap:=aH
 add k a b:=aH k (a+b)
 dif k a b:=aH k (a - b)
 mul k a b:=aH k (a*b)
 lt:=bq
 eq:=aP
 slt x y:=mu x.data.toList y.data.toList
 seq x y:=dU x.data.toList y.data.toList
 cat x y:=(match Nat.ble (x.size+y.size) 9223372036854775807 with|true=>some ⟨⟨x.data.toList++y.data.toList⟩⟩|false=>none)
 elt es i:=(match i with|.ofNat n=>Ey es n|.negSucc _=>none)
 byte s i:=(match i with|.ofNat n=>Ey s.data.toList n|.negSucc _=>none)
 sub size es lo hi:=(match sizedB size es,Nat.blt 0 size with
   | true,true=>(match dW hi es.length,dW lo 0 with
    | some h,some l=>(match Nat.ble l h,Nat.ble h es.length with|true,true=>some ((es.take h).drop l)|_,_=>none)
    | _,_=>none)
   | _,_=>none)
 ssub:=ay.mz.ssub
 app size bytes es ds:=(match size with
   | 0=>none
   | s+1=>(match sizedB (s+1) ds,sizedB (s+1) es,Nat.blt 0 bytes,Nat.ble ((es.length+ds.length)*bytes) 140737488355328,Nat.ble (es.length+ds.length) lim with
    | true,true,true,true,true=>some (es++ds)
    | _,_,_,_,_=>none))
 key td k es:=findF td k es 0
 len:=List.length
 slen:=ByteArray.size
 rem:=Int.tmod
 quo:=Int.tdiv
 mx x y:=(match bq x y with|true=>y|false=>x)
theorem Tv:ay.aN=ay.mz:=by
 unfold ay.aN ay.mz;congr 1
 ·funext k n;exact dP k n
 ·funext k a b;exact dP k _
 ·funext k a b;exact dP k _
 ·funext k a b;exact dP k _
 ·funext a b;exact gr a b
 ·funext a b;exact gQ a b
 ·funext x y;rw[Jr,toList_data,toList_data]
 ·funext x y;rw[jo,toList_data,toList_data]
 ·funext x y
  have hm:IntKind.i64.max=9223372036854775807:=by decide
  have hc:(⟨⟨x.data.toList++y.data.toList⟩⟩:ByteArray)=x++y:=by
   have e:x++y=⟨x.data++y.data⟩:=by
    cases x;cases y;simp[ByteArray.ext_iff]
   rw[e]
   cases x;cases y;simp
  rw[hc,hm]
  split
  ·rename_i h;rw[Nat.ble_eq] at h;rw[if_neg (by omega)]
  rename_i h
  have:¬x.size+y.size<=9223372036854775807:=fun e=>by rw[←Nat.ble_eq] at e;rw[e] at h;simp at h
  rw[if_pos (by omega)]
 ·funext es i
  cases i with
  | ofNat n=>simp[tS]
  | negSucc n=>rfl
 ·funext s i
  cases i with
  | ofNat n=>
   simp only[tS];rw[if_pos (show (0:Int)<=Int.ofNat n from Int.natCast_nonneg n)]
   by_cases h:n < s.size
   ·rw[show (Int.ofNat n).toNat=n from rfl,getElem?_pos s n h];have h2:n < s.data.toList.length:=by simpa using h
    rw[List.getElem?_eq_getElem h2];simp[ByteArray.getElem_eq_getElem_data]
   rw[show (Int.ofNat n).toNat=n from rfl,getElem?_neg s n h,List.getElem?_eq_none (by simpa using h)]
  | negSucc n=>rfl
 ·funext size es lo hi
  by_cases h1:∀d∈es,d.cells.length=size
  ·rw[gk.2 h1]
   by_cases h2:0 < size
   ·rw[if_pos ⟨h1,h2⟩,show Nat.blt 0 size=true from by rw[Nat.blt_eq];exact h2];dsimp only
    cases dW hi es.length with
    | none=>rfl
    | some h=>
     cases dW lo 0 with
     | none=>rfl
     | some l=>
      dsimp only
      by_cases h3:l<=h <;> by_cases h4:h<=es.length
      ·rw[if_pos ⟨h3,h4⟩,fS h3,fS h4]
      ·rw[if_neg (fun h=>h4 h.2),fS h3,show Nat.ble h es.length=false from by rw[Bool.eq_false_iff];intro e;exact h4 (fe e)]
      ·rw[if_neg (fun h=>h3 h.1),show Nat.ble l h=false from by rw[Bool.eq_false_iff];intro e;exact h3 (fe e)]
      rw[if_neg (fun h=>h3 h.1),show Nat.ble l h=false from by rw[Bool.eq_false_iff];intro e;exact h3 (fe e)]
   rw[if_neg (fun h=>h2 h.2),show Nat.blt 0 size=false from by rw[Bool.eq_false_iff];intro e;exact h2 (by rwa [Nat.blt_eq] at e)]
  rw[if_neg (fun h=>h1 h.1),show sizedB size es=false from by rw[Bool.eq_false_iff];intro e;exact h1 (gk.1 e)]
 ·funext size bytes es ds
  cases size with
  | zero=>rfl
  | succ s=>
   dsimp only
   by_cases hc:(∀d∈ds,d.cells.length=s+1)/\(∀d∈es,d.cells.length=s+1)/\0 < bytes/\(es.length+ds.length)*bytes<=140737488355328/\es.length+ds.length<=lim
   ·rw[gk.2 hc.1,gk.2 hc.2.1,show Nat.blt 0 bytes=true from by rw[Nat.blt_eq];exact hc.2.2.1,fS hc.2.2.2.1,fS hc.2.2.2.2];exact (if_pos hc).symm
   rw[if_neg hc]
   split
   ·rename_i a1 a2 a3 a4 a5;rw[Nat.blt_eq] at a3;exact absurd ⟨gk.1 a1,gk.1 a2,a3,fe a4,fe a5⟩ hc
   rfl
 ·funext td k es;exact Hi td k es 0
 funext x y
 rw[gr]
 by_cases h:x < y <;> simp[h]
end Go.Tp
namespace Go.Tp
abbrev Sl:=List (Nat×ac)
structure ab where
 sl:Sl
 locs:Heap
 heap:Heap
 next:Nat
noncomputable def qI (l:Sl) (t:Nat):ac:=
 @List.rec (Nat×ac) (fun _=>ac) .undef (fun p _ ih=>@Bool.rec (fun _=>ac) ih p.2 (Nat.beq p.1 t)) l
theorem AF (t:Nat):qI [] t=.undef:=rfl
theorem ik (d:Nat) (v:ac) (r:Sl) (t:Nat):qI ((d,v)::r) t=if d=t then v else qI r t:=by
 have e:qI ((d,v)::r) t=@Bool.rec (fun _=>ac) (qI r t) v (Nat.beq d t):=rfl;rw[e]
 by_cases h:d=t
 ·have:Nat.beq d t=true:=by rw[Nat.beq_eq];exact h
  rw[this,if_pos h]
 have:Nat.beq d t=false:=by rw[Bool.eq_false_iff];intro hc;rw[Nat.beq_eq] at hc;exact h hc
 rw[this,if_neg h]
noncomputable def GH:Nat->Nat->Sl->List ac
 | 0,_,_=>[]
 | n+1,k,l=>qI l k::GH n (k+1) l
theorem nt:∀(n k:Nat) (l:Sl),(GH n k l).length=n
 | 0,_,_=>rfl
 | n+1,k,l=>by simp[GH,nt n]
theorem lG:∀(n k:Nat) (l:Sl) (t:Nat),(GH n k l)[t]?=if t < n then some (qI l (k+t)) else none
 | 0,_,_,_=>by simp[GH]
 | n+1,k,l,0=>by simp[GH]
 | n+1,k,l,t+1=>by
  simp only[GH,List.getElem?_cons_succ,lG n (k+1) l t];rw[show k+1+t=k+(t+1) by omega]
  by_cases h:t < n
  ·rw[if_pos h,if_pos (by omega)]
  rw[if_neg h,if_neg (by omega)]
theorem D8 (n:Nat) (l:Sl) (d:Nat) (v:ac):(GH n 0 l).set d v=GH n 0 ((d,v)::l):=by
 apply List.ext_getElem?
 intro i;rw[List.getElem?_set,nt,lG,lG,Nat.zero_add,ik]
 by_cases h:d=i
 ·subst h;simp
 rw[if_neg h,if_neg h]
noncomputable def BQ (f:ac->ac) (l:Sl):Sl:=@List.rec (Nat×ac) (fun _=>Sl) [] (fun p _ ih=>(p.1,f p.2)::ih) l
theorem GM {f:ac->ac} (hf:f .undef=.undef) (t:Nat):∀l:Sl,qI (BQ f l) t=f (qI l t)
 | []=>by rw[show BQ f []=[] from rfl,AF,hf]
 |(d,v)::r=>by
  have e:BQ f ((d,v)::r)=(d,f v)::BQ f r:=rfl;rw[e,ik,ik]
  split
  ·rfl
  exact GM hf t r
theorem qj {f:ac->ac} (hf:f .undef=.undef):∀(n k:Nat) (l:Sl),(GH n k l).map f=GH n k (BQ f l)
 | 0,_,_=>rfl
 | n+1,k,l=>by simp only[GH,List.map_cons,GM hf,qj hf n]
def rK (n:Name) (a:ac):ac:=if mentions n a=true then .undef else a
theorem rL (n:Name):∀l,dd n l=l.map (rK n)
 | []=>rfl
 | a::r=>by rw[dd,rL n r];rfl
theorem G9 (n:Name) (ds:List ap):∀l,hU n ds l=l.map (xQ n ds)
 | []=>by simp[hU]
 | a::r=>by simp[hU,G9 n ds r]
theorem zA (n m:Name):∀l,eE n m l=l.map (tb n m)
 | []=>by simp[eE]
 | a::r=>by simp[eE,zA n m r]
noncomputable def ab.aw (n:Nat) (f:ab):aa:=⟨GH n 0 f.sl,f.locs,f.heap,f.next⟩
section
variable (E:bG) (G:bL) (H:Hints) (n:Nat)
noncomputable def qK (f:ab) (t:Nat):ac:=@Bool.rec (fun _=>ac) .undef (qI f.sl t) (Nat.blt t n)
theorem jC (f:ab) (t:Nat):bB (f.aw n).tmps t=qK n f t:=by
 unfold bB qK ab.aw;rw[lG]
 by_cases h:t < n
 ·have:Nat.blt t n=true:=by rw[Nat.blt_eq];exact h
  rw[if_pos h,this,Nat.zero_add]
 have:Nat.blt t n=false:=by rw[Bool.eq_false_iff];intro hc;rw[Nat.blt_eq] at hc;exact h hc
 rw[if_neg h,this]
def jS (f:ab) (dst:Option Tmp) (v:ac):ab:=
 match f,dst with
 | ⟨sl,locs,heap,next⟩,some d=>⟨(d,v)::sl,locs,heap,next⟩
 | f,none=>f
theorem eH (f:ab) (dst:Option Tmp) (v:ac):(jS f dst v).aw n=(f.aw n).put dst v:=by
 cases dst with
 | none=>rfl
 | some d=>simp only[jS,ab.aw,aa.put,D8]
noncomputable def oB (f:ab):Operand->ac
 | .tmp t=>qK n f t
 | .const v=>cH v
 | .global g=>match G g with|some cs=>.ref cs|none=>.undef
 | .func g=>.fn (.func g) [] []
theorem mO (f:ab) (x:Operand):eR G (f.aw n) x=oB G n f x:=by
 cases x with
 | tmp t=>exact jC n f t
 | const v=>rfl
 | global g=>rfl
 | func g=>rfl
def SZ (mv:Option Nat) (k:Nat):Bool:=match mv with|none=>false|some j=>Nat.beq j k
theorem Mb (mv:Option Nat) (k:Nat):(SZ mv k=true)↔mv=some k:=by
 cases mv with
 | none=>simp[SZ]
 | some j=>simp[SZ]
noncomputable def gx (f:ab) (mv:Option Nat):Nat->List Operand->List ac
 | _,[]=>[]
 | k,x::r=>(match SZ mv k with|true=>oB G n f x|false=>cP (oB G n f x))::gx f mv (k+1) r
theorem pA (f:ab) (mv:Option Nat):∀(xs:List Operand) (k:Nat),aM G (f.aw n) mv k xs=gx G n f mv k xs
 | [],_=>rfl
 | x::r,k=>by
  simp only[aM,gx,mO,pA f mv r (k+1)]
  by_cases h:mv=some k
  ·rw[if_pos h,(Mb mv k).2 h]
  have:SZ mv k=false:=by rw[Bool.eq_false_iff];intro hc;exact h ((Mb mv k).1 hc)
  rw[if_neg h,this]
noncomputable def ub (f:ab) (mv:Option Nat) (xs:List Operand):ab:=
 match mv with
 | none=>f
 | some k=>match xs[k]? with
  | some (.tmp t)=>jS f (some t) (cP (qK n f t))
  | _=>f
theorem AT (f:ab) (mv:Option Nat) (xs:List Operand):(ub n f mv xs).aw n=bR (f.aw n) mv xs:=by
 unfold ub bR
 cases mv with
 | none=>rfl
 | some k=>
  dsimp only
  cases h:xs[k]? with
  | none=>rfl
  | some x=>
   cases x with
   | tmp t=>rw[eH];simp only[aa.put,jC]
   | _=>rfl
def tC:Name->Name->Bool
 | .loc i,.loc j=>Nat.beq i j
 | .out i,.out j=>Nat.beq i j
 | _,_=>false
theorem kG (a b:Name):tC a b=true↔a=b:=by
 cases a <;> cases b <;> simp[tC]
def pQ (k:Name):Heap->Option aR
 | []=>none
 |(m,o)::r=>match tC m k with|true=>some o|false=>pQ k r
theorem lf (k:Name):∀l,pQ k l=eu k l
 | []=>rfl
 |(m,o)::r=>by
  simp only[pQ,eu,lf k r]
  by_cases h:m=k
  ·rw[if_pos h,(kG m k).2 h]
  have:tC m k=false:=by rw[Bool.eq_false_iff];intro hc;exact h ((kG m k).1 hc)
  rw[if_neg h,this]
def pN (k:Name) (o':aR):Heap->Heap
 | []=>[]
 |(m,o)::r=>match tC m k with|true=>(m,o')::r|false=>(m,o)::pN k o' r
def uF (k:Name):Heap->Heap
 | []=>[]
 |(m,o)::r=>match tC m k with|true=>uF k r|false=>(m,o)::uF k r
theorem mX (k:Name) (o':aR):∀l,pN k o' l=iS k o' l
 | []=>rfl
 |(m,o)::r=>by
  simp only[pN,iS,mX k o' r]
  by_cases h:m=k
  ·rw[if_pos h,(kG m k).2 h]
  have:tC m k=false:=by rw[Bool.eq_false_iff];intro hc;exact h ((kG m k).1 hc)
  rw[if_neg h,this]
theorem pS (k:Name):∀l,uF k l=ka k l
 | []=>rfl
 |(m,o)::r=>by
  simp only[uF,ka,pS k r]
  by_cases h:m=k
  ·rw[if_pos h,(kG m k).2 h]
  have:tC m k=false:=by rw[Bool.eq_false_iff];intro hc;exact h ((kG m k).1 hc)
  rw[if_neg h,this]
def Tm (f:ab) (k:Name):Option aR:=
 match k with
 | .loc i=>pQ (.loc i) f.locs
 | .out o=>pQ (.out o) f.heap
theorem EG (f:ab) (k:Name):(f.aw n).obj k=Tm f k:=by
 cases k <;> simp[aa.obj,Tm,ab.aw,lf]
def qv (f:ab) (o:Op) (vals:List ac):Option aR:=match looks o vals with|some k=>Tm f k|none=>none
theorem AK (f:ab) (o:Op) (vals:List ac):bj (f.aw n) o vals=qv f o vals:=by
 unfold bj qv
 cases looks o vals with
 | none=>rfl
 | some k=>exact EG n f k
def tV (f:ab) (k:Name) (o:aR):Option ab:=
 match f,k with
 | ⟨sl,locs,heap,next⟩,.loc i=>some ⟨sl,pN (.loc i) o locs,heap,next⟩
 | ⟨sl,locs,heap,next⟩,.out i=>if di o=true then some ⟨sl,locs,pN (.out i) o heap,next⟩ else none
theorem J1 (f:ab) (k:Name) (o:aR):(f.aw n).setObj k o=(tV f k o).map (·.aw n):=by
 obtain⟨sl,locs,heap,next⟩:=f
 cases k with
 | loc i=>simp[aa.setObj,tV,ab.aw,mX]
 | out i=>
  simp only[aa.setObj,tV,ab.aw,mX]
  split <;> simp[ab.aw]
noncomputable def Xu (f:ab) (d:Nat) (o:aR):ab:=
 match f with
 | ⟨sl,locs,heap,next⟩=>⟨(d,Ae d o)::BQ (rK (.loc d)) sl,(.loc d,o)::kS (.loc d) locs,heap,next⟩
theorem Mk (f:ab) (d:Nat) (o:aR):(Xu f d o).aw n=newObj (f.aw n) d o:=by
 obtain⟨sl,locs,heap,next⟩:=f;simp only[Xu,newObj,ab.aw,rL];rw[qj (f:=rK (.loc d)) (by simp[rK,mentions]),D8]
noncomputable def EH (f:ab) (d:Nat) (o:aR) (sz len:Nat):ab:=
 match f with
 | ⟨sl,locs,heap,next⟩=>⟨(d,.win (.loc d) sz 0 len)::BQ (rK (.loc d)) sl,(.loc d,o)::kS (.loc d) locs,heap,next⟩
theorem J4 (f:ab) (d:Nat) (o:aR) (sz len:Nat):(EH f d o sz len).aw n=nr (f.aw n) d o sz len:=by
 obtain⟨sl,locs,heap,next⟩:=f;simp only[EH,nr,ab.aw,rL];rw[qj (f:=rK (.loc d)) (by simp[rK,mentions]),D8]
noncomputable def mK (o:Oper) (k:Option Name) (f:ab) (out:Out):Option ab:=
 match out with
 | ⟨val,eff⟩=>match eff with
  | .keep=>some (jS f o.dst val)
  | .set ob'=>(match k with
   | some k=>(match tV f k ob' with|some f=>some (jS f o.dst val)|none=>none)
   | none=>none)
  | .new ob'=>(match o.dst with
   | some d=>if mL d ob'=true then some (Xu f d ob') else none
   | none=>none)
  | .row ob' sz len=>(match o.dst with
   | some d=>if mL d ob'=true then some (EH f d ob' sz len) else none
   | none=>none)
  | .fresh ob'=>(match f with
   | ⟨sl,locs,heap,next⟩=>if di ob'=true then some (jS ⟨sl,locs,(.out next,ob')::heap,next+1⟩ o.dst (rR next ob')) else none)
  | .grow ob' sz len=>(match f with
   | ⟨sl,locs,heap,next⟩=>match k with
    | some (.loc j)=>if di ob'=true then some (jS ⟨sl,uF (.loc j) locs,(.out next,ob')::heap,next+1⟩ o.dst (.win (.out next) sz 0 len)) else none
    | some (.out j)=>if di ob'=true then some (jS ⟨sl,locs,(.out next,ob')::uF (.out j) heap,next+1⟩ o.dst (.win (.out next) sz 0 len)) else none
    | none=>if di ob'=true then some (jS ⟨sl,locs,(.out next,ob')::heap,next+1⟩ o.dst (.win (.out next) sz 0 len)) else none)
theorem G8 (o:Oper) (k:Option Name) (f:ab) (out:Out):dH o k (f.aw n) out=(mK o k f out).map (·.aw n):=by
 obtain⟨val,eff⟩:=out;unfold dH mK
 cases eff with
 | keep=>simp[eH]
 | set ob'=>
  cases k with
  | none=>rfl
  | some k=>
   dsimp only;rw[J1]
   cases tV f k ob' with
   | none=>rfl
   | some f'=>simp[eH]
 | new ob'=>
  dsimp only
  cases o.dst with
  | none=>rfl
  | some d=>dsimp only;split <;> simp[Mk]
 | row ob' sz len=>
  dsimp only
  cases o.dst with
  | none=>rfl
  | some d=>dsimp only;split <;> simp[J4]
 | fresh ob'=>
  obtain⟨sl,locs,heap,next⟩:=f;dsimp only
  split
  ·simp only[Option.map_some,eH];rfl
  rfl
 | grow ob' sz len=>
  obtain⟨sl,locs,heap,next⟩:=f;dsimp only
  cases k with
  | none=>
   dsimp only
   split
   ·simp only[Option.map_some,eH,pS];rfl
   rfl
  | some k=>
   cases k with
   | loc j=>
    dsimp only
    split
    ·simp only[Option.map_some,eH,pS];rfl
    rfl
   | out j=>
    dsimp only
    split
    ·simp only[Option.map_some,eH,pS];rfl
    rfl
noncomputable def EC (o:Oper) (mv:Option Nat) (xs:List Operand) (take:Bool) (f:ab) (vals:List ac):Option ab:=
 match jE E take o.op vals (qv f o.op vals) with
 | none=>none
 | some out=>mK o (looks o.op vals) (ub n f mv xs) out
noncomputable def wV (q take:Bool) (o:Oper) (f:ab):Option ab:=
 EC E n o (kI q o.op) (opsL o.op) take f (gx G n f (kI q o.op) 0 (opsL o.op))
theorem tU (q take:Bool) (o:Oper) (f:ab):cX E G q take o (f.aw n)=(wV E G n q take o f).map (·.aw n):=by
 unfold cX wV EC;rw[pA,AK]
 split
 ·rename_i h;rw[h];rfl
 rename_i out h;rw[h];dsimp only;rw[←AT,G8]
noncomputable def oA:ab->List Operand->List ac×ab
 | f,[]=>([],f)
 | f,x::r=>
  match oA (ub n f (some 0) [x]) r with
  |(vs,f')=>(oB G n f x::vs,f')
theorem AI:∀(xs:List Operand) (f:ab),cK G (f.aw n) xs=((oA G n f xs).1,(oA G n f xs).2.aw n)
 | [],f=>rfl
 | x::r,f=>by
  simp only[cK,oA,←AT,AI r,mO]
noncomputable def vG (fz:Bool) (k:Name) (f:ab) (args:List ac):Option (ab×List ac):=
 match f with
 | ⟨sl,locs,heap,next⟩=>match k,pQ k locs with
  | .loc _,some (.cells cs)=>
   match tW fz k args cs with
   | some ds=>some (⟨BQ (xQ k ds) sl,rT (hU k ds) (ka k locs),heap,next⟩,hU k ds args)
   | none=>if bU (eE k (.out next) cs)=true then
    some (⟨BQ (tb k (.out next)) sl,rT (eE k (.out next)) (ka k locs),(.out next,.cells (eE k (.out next) cs))::heap,next+1⟩,eE k (.out next) args)
   else none
  | .loc _,some (.map es)=>
   some (⟨BQ (tb k (.out next)) sl,rT (eE k (.out next)) (ka k locs),(.out next,.map es)::heap,next+1⟩,eE k (.out next) args)
  | _,_=>none
theorem CV (fz:Bool) (k:Name) (f:ab) (args:List ac):tu fz k (f.aw n) args=(vG fz k f args).map (fun x=>(x.1.aw n,x.2)):=by
 obtain⟨sl,locs,heap,next⟩:=f;unfold tu vG;simp only[ab.aw,lf]
 cases k with
 | out i=>rfl
 | loc i=>
  cases eu (.loc i) locs with
  | none=>rfl
  | some ob=>
   cases ob with
   | cells cs=>
    dsimp only
    cases tW fz (.loc i) args cs with
    | some ds=>simp only[G9,Option.map_some,ab.aw];rw[qj (by simp[xQ])]
    | none=>
     dsimp only
     by_cases hno:bU (eE (.loc i) (.out next) cs)=true
     ·refine (if_pos hno).trans ?_;rw[if_pos hno];simp only[zA,Option.map_some,ab.aw];rw[qj (by simp[tb])]
     refine (if_neg hno).trans ?_;rw[if_neg hno];rfl
   | map es=>simp only[zA,Option.map_some,ab.aw];rw[qj (by simp[tb])]
noncomputable def wX (fz:Bool):List Name->ab->List ac->ab×List ac
 | [],f,args=>(f,args)
 | k::ks,f,args=>
  match vG fz k f args with
  | some (f',args')=>wX fz ks f' args'
  | none=>wX fz ks f args
theorem tY (fz:Bool):∀(ks:List Name) (f:ab) (args:List ac),vi fz ks (f.aw n) args=((wX fz ks f args).1.aw n,(wX fz ks f args).2)
 | [],_,_=>rfl
 | k::ks,f,args=>by
  simp only[vi,wX,CV]
  cases vG fz k f args with
  | none=>exact tY fz ks f args
  | some x=>exact tY fz ks x.1 x.2
def tZ (f:ab) (args:List ac):List Name:=
 match sA (pb args) [] with
 | []=>[]
 | l=>Yq (Ba f.locs f.locs.length l)
theorem J5 (f:ab) (args:List ac):Jp (f.aw n) args=tZ f args:=rfl
noncomputable def qw (c:Call) (f:ab):Option (FuncId×List ac×ab):=
 match c.callee with
 | .value x=>(match oB G n f x with
  | .fn (.func g) first captured=>
   if E.fn g=true then
    match (match H.moves g with|true=>oA G n f c.args.toList|false=>(gx G n f none 0 c.args.toList,f)) with
    |(vs,f1)=>(match wX (!H.caps g) (tZ f1 (first++vs++captured)) f1 (first++vs++captured) with
     |(f2,args)=>if bU args=true then some (g,args,f2) else none)
   else none
  | _=>none)
 | _=>none
theorem AU (c:Call) (f:ab):lS E G H c (f.aw n)=(qw E G H n c f).map (fun x=>(x.1,x.2.1,x.2.2.aw n)):=by
 unfold lS qw
 cases c.callee with
 | builtin b=>rfl
 | invoke a b=>rfl
 | value x=>
  dsimp only;rw[mO]
  cases oB G n f x with
  | fn fo first captured=>
   cases fo with
   | func g=>
    dsimp only
    by_cases hfn:E.fn g=true
    ·rw[if_pos hfn,if_pos hfn];have e:(if H.moves g=true then cK G (f.aw n) c.args.toList else (aM G (f.aw n) none 0 c.args.toList,f.aw n)) =
       ((match H.moves g with|true=>oA G n f c.args.toList|false=>(gx G n f none 0 c.args.toList,f)).1,(match H.moves g with|true=>oA G n f c.args.toList|false=>(gx G n f none 0 c.args.toList,f)).2.aw n):=by
      cases hm:H.moves g with
      | true=>rw[if_pos rfl,AI]
      | false=>rw[if_neg (by simp),pA]
     rw[e];generalize (match H.moves g with|true=>oA G n f c.args.toList|false=>(gx G n f none 0 c.args.toList,f))=pr;obtain⟨vs,f1⟩:=pr;dsimp only;rw[J5,tY];generalize wX (!H.caps g) (tZ f1 (first++vs++captured)) f1 (first++vs++captured)=pr;obtain⟨f2,args⟩:=pr;dsimp only
     by_cases hno:bU args=true
     ·rw[if_pos hno,if_pos hno];rfl
     rw[if_neg hno,if_neg hno];rfl
    rw[if_neg hfn,if_neg hfn];rfl
   | _=>rfl
  | _=>rfl
noncomputable def mP (c:Call) (f:ab):Option (FuncId×List ac×ab):=
 match c.callee with
 | .value x=>(match oB G n f x with
  | .fn (.func g) first captured=>
   if E.fn g=true then
    match (match H.moves g with|true=>oA G n f c.args.toList|false=>(gx G n f none 0 c.args.toList,f)) with
    |(vs,f1)=>if bU (first++vs++captured)=true then some (g,first++vs++captured,f1) else none
   else none
  | _=>none)
 | _=>none
theorem xe (c:Call) (f:ab):dI E G H c (f.aw n)=(mP E G H n c f).map (fun x=>(x.1,x.2.1,x.2.2.aw n)):=by
 unfold dI mP
 cases c.callee with
 | builtin b=>rfl
 | invoke a b=>rfl
 | value x=>
  dsimp only;rw[mO]
  cases oB G n f x with
  | fn fo first captured=>
   cases fo with
   | func g=>
    dsimp only
    by_cases hfn:E.fn g=true
    ·rw[if_pos hfn,if_pos hfn];have e:(if H.moves g=true then cK G (f.aw n) c.args.toList else (aM G (f.aw n) none 0 c.args.toList,f.aw n)) =
       ((match H.moves g with|true=>oA G n f c.args.toList|false=>(gx G n f none 0 c.args.toList,f)).1,(match H.moves g with|true=>oA G n f c.args.toList|false=>(gx G n f none 0 c.args.toList,f)).2.aw n):=by
      cases hm:H.moves g with
      | true=>rw[if_pos rfl,AI]
      | false=>rw[if_neg (by simp),pA]
     rw[e];generalize (match H.moves g with|true=>oA G n f c.args.toList|false=>(gx G n f none 0 c.args.toList,f))=pr;obtain⟨vs,f1⟩:=pr;dsimp only
     by_cases hno:bU (first++vs++captured)=true
     ·rw[if_pos hno,if_pos hno];rfl
     rw[if_neg hno,if_neg hno];rfl
    rw[if_neg hfn,if_neg hfn];rfl
   | _=>rfl
  | _=>rfl
noncomputable def hJ (ops:List Oper) (f:ab) (g:Option (Nat×Bool)):Option Bool:=
 match g with
 | none=>some true
 | some (j,want)=>(match ops[j]? with
  | some o=>(match o.dst with
   | some t=>(match qK n f t with
    | .dat (.flat (.bool b))=>some (b==want)
    | .tup []=>some false
    | _=>none)
   | none=>none)
  | none=>none)
theorem kV (ops:List Oper) (f:ab) (g:Option (Nat×Bool)):dy ops (f.aw n) g=hJ n ops f g:=by
 unfold dy hJ
 cases g with
 | none=>rfl
 | some p=>
  obtain⟨j,want⟩:=p;dsimp only
  cases ops[j]? with
  | none=>rfl
  | some o=>
   dsimp only
   cases o.dst with
   | none=>rfl
   | some t=>dsimp only;rw[jC];rfl
noncomputable def pu (fh:Bool) (all:List Oper) (o:Oper) (f:ab):Option ac:=
 match hJ n all f o.guard with
 | none=>none
 | some b=>
  if b=true then
   if nG o.op=true then (match jE E false o.op [] none with|some _=>some .undef|none=>none)
   else (match dm o.op with
    | some _=>none
    | none=>
     if (jg o.op&&pc fh (looks o.op (gx G n f none 0 (opsL o.op))))=true then
      (match jE E false o.op (gx G n f none 0 (opsL o.op)) (qv f o.op (gx G n f none 0 (opsL o.op))) with
       | some out=>(match out.eff with|.keep=>some out.val|_=>none)
       | none=>none)
     else none)
  else some (.tup [])
theorem CU (fh:Bool) (all:List Oper) (o:Oper) (f:ab):fm E G fh all o (f.aw n)=pu E G n fh all o f:=by
 unfold fm pu;rw[kV,pA,AK];rfl
def Tj (f:ab) (k:Name) (o:aR):ab:=
 match f,k with
 | ⟨sl,locs,heap,next⟩,.loc i=>⟨sl,pN (.loc i) o locs,heap,next⟩
 | ⟨sl,locs,heap,next⟩,.out i=>⟨sl,locs,pN (.out i) o heap,next⟩
theorem Ti (f:ab) (k:Name) (o:aR):(Tj f k o).aw n=(f.aw n).kj k o:=by
 obtain⟨sl,locs,heap,next⟩:=f
 cases k <;> simp[Tj,ab.aw,aa.kj,mX]
noncomputable def lJ (fh:Bool) (all:List Oper):List Nat->ab->Option ab
 | [],f=>some f
 | i::r,f=>
  match all[i]? with
  | some o=>(match o.op,o.dst,o.guard with
   | .load _ (.tmp u),some t,none=>(match qK n f u with
    | .ptr k off=>if D7 fh k=true then (match Tm f k with
     | some (.cells cs)=>(match cs[off]? with
      | some (.own es)=>(match qK n f t with
       | .dat (.slice _)=>lJ fh all r (Tj (jS f (some t) (.own es)) k (.cells (dr off [.dat (.slice es)] cs)))
       | _=>none)
      | _=>none)
     | _=>none) else none
    | _=>none)
   | _,_,_=>none)
  | none=>none
theorem nL (fh:Bool) (all:List Oper):∀(tk:List Nat) (f f':ab),lJ n fh all tk f=some f'->dv fh all tk (f.aw n)=some (f'.aw n)
 | [],f,f',h=>by simp[lJ] at h;subst h;rfl
 | i::r,f,f',h=>by
  simp only[lJ] at h
  split at h
  ·rename_i o ho
   split at h
   ·rename_i T u t hop hd hg
    split at h
    ·rename_i k off hu
     split at h
     ·rename_i hok
      split at h
      ·rename_i cs hob
       split at h
       ·rename_i es hes
        split at h
        ·rename_i es2 ht;have ih:=nL fh all r _ _ h;rw[Ti,eH] at ih;simp only[dv,ho,hop,hd,hg];rw[jC,hu];dsimp only;rw[if_pos hok,EG,hob];dsimp only;rw[hes];dsimp only;rw[jC,ht];exact ih
        simp at h
       simp at h
      simp at h
     simp at h
    simp at h
   simp at h
  simp at h
noncomputable def Sn (m:Name) (l:Sl):Bool:=@List.rec (Nat×ac) (fun _=>Bool) false (fun p _ ih=>mentions m p.2||ih) l
theorem GK {m:Name} (t:Nat):∀{l:Sl},Sn m l=false->mentions m (qI l t)=false
 | [],_=>by rw[AF];simp[mentions]
 |(d,v)::r,h=>by
  have e:Sn m ((d,v)::r)=(mentions m v||Sn m r):=rfl;rw[e,Bool.or_eq_false_iff] at h;rw[ik]
  split
  ·exact h.1
  exact GK t h.2
theorem LI {m:Name} {l:Sl} (h:Sn m l=false):∀n k:Nat,ba m (GH n k l)=false
 | 0,_=>by simp[GH,ba]
 | n+1,k=>by simp only[GH,ba,GK k h,LI h n (k+1),Bool.or_self]
noncomputable def nM (all:List Oper) (mk:Option Nat) (f:ab):Option ab:=
 match mk with
 | none=>some f
 | some i=>(match all[i]? with
  | some o=>(match o.op,o.dst,o.guard with
   | .alloc t,some d,none=>(match E.ty t with
    | some ti=>if eT (bO (cH ti.zero))=true/\ba (.loc d) (bO (cH ti.zero))=false/\d < n/\Sn (.loc d) f.sl=false then some (Xu f d (.cells (bO (cH ti.zero)))) else none
    | none=>none)
   | _,_,_=>none)
  | none=>none)
theorem ky (all:List Oper) (mk:Option Nat) (f f':ab) (h:nM E n all mk f=some f'):iu E all mk (f.aw n)=some (f'.aw n):=by
 unfold nM at h;unfold iu;have hl:(f.aw n).tmps.length=n:=nt n 0 f.sl
 cases mk with
 | none=>simp at h;subst h;rfl
 | some i=>
  dsimp only at h ⊢
  cases hi:all[i]? with
  | none=>rw[hi] at h;simp at h
  | some o=>
   rw[hi] at h;dsimp only at h ⊢
   split at h
   ·rename_i t d hop hd hg;rw[hop,hd,hg];dsimp only
    cases hty:E.ty t with
    | none=>rw[hty] at h;simp at h
    | some ti=>
     rw[hty] at h;dsimp only at h ⊢;rw[hl]
     split at h
     ·rename_i hc;rw[if_pos ⟨hc.1,hc.2.1,hc.2.2.1,LI hc.2.2.2 n 0⟩];simp at h;subst h;rw[Mk]
     simp at h
   simp at h
end
end Go.Tp
namespace Go.Tp
def qC:ac->Option ap
 | .dat (.flat v)=>some (.flat v)
 | .dat (.slice es)=>some (.slice es)
 | .own es=>some (.slice es)
 | _=>none
def mU:Nat->List ac->Option (List ap)
 | 0,_=>some []
 | n+1,a::r=>(match qC a with|some d=>(match mU n r with|some l=>some (d::l)|none=>none)|none=>none)
 | _+1,[]=>none
def DF (n len:Nat) (ob:Option aR):Option (Nat×List ap):=
 match ob with
 | some (.cells cs)=>(match Nat.ble len 4294967296 with
  | true=>(match mU len cs with|some (e::es)=>some (n,e::es)|_=>none)
  | false=>none)
 | _=>none
def rowOf (a:ac):Option (Nat×Nat):=
 match a with
 | .win (.out n) 1 0 len=>some (n,len)
 | _=>none
def xZ (a:ac) (heap:List (Name×aR)):Option (Nat×List ap):=
 match rowOf a with
 | some x=>DF x.1 x.2 (eu (.out x.1) heap)
 | none=>none
def DG (t:Nat) (s:aa):Option aa:=
 match xZ (bB s.tmps t) s.heap with
 | some (n,es)=>some {s with tmps:=s.tmps.set t (.dat (.slice es)),heap:=ka (.out n) s.heap }
 | none=>none
def iq (G:bL) (s s2:aa):Prop:=
 ∀(w:World) (R:Own) (N:Name->Option Nat) (tmps:List Value) (bsT bsL bsH bsF:List Nat),df G w R N tmps s undef .undef [] bsT bsL bsH bsF->
  ∃R' N' bsT' bsL' bsH',df G w R' N' tmps s2 undef .undef [] bsT' bsL' bsH' bsF/\bz w R w R' bsF/\(∀o b,N (.out o)=some b->N' (.out o)=some b)
theorem iq.refl (G:bL) (s:aa):iq G s s:=fun _ R N _ bsT bsL bsH _ h=>⟨R,N,bsT,bsL,bsH,h,bi _,fun _ _ h=>h⟩
theorem iq.trans {G:bL} {s s2 s3:aa} (h:iq G s s2) (k:iq G s2 s3):iq G s s3:=fun w R N tmps bsT bsL bsH bsF hr=>by
 obtain⟨R1,N1,t1,l1,h1,q1,q2,q3⟩:=h w R N tmps bsT bsL bsH bsF hr;obtain⟨R2,N2,t2,l2,h2,p1,p2,p3⟩:=k w R1 N1 tmps t1 l1 h1 bsF q1;exact⟨R2,N2,t2,l2,h2,p1,q2.trans p2,fun o b ho=>p3 o b (q3 o b ho)⟩
theorem rh:∀{n:Nat} {cs:List ac} {es:List ap},mU n cs=some es->es.length=n/\∀(i:Nat) (d:ap),es[i]?=some d->∃a,cs[i]?=some a/\qC a=some d
 | 0,_,es,h=>by simp[mU] at h;subst h;simp
 | n+1,[],es,h=>by simp[mU] at h
 | n+1,a::r,es,h=>by
  unfold mU at h
  split at h
  ·rename_i d hd
   split at h
   ·rename_i l hl;simp at h;subst h;obtain⟨h1,h2⟩:=rh hl;refine⟨by simp[h1],fun i d' hi=>?_⟩
    cases i with
    | zero=>simp at hi;subst hi;exact⟨a,rfl,hd⟩
    | succ i=>simpa using h2 i d' (by simpa using hi)
   simp at h
  simp at h
theorem xj {w:World} {R:Own} {N:Name->Option Nat} {a:ac} {d:ap} (h:qC a=some d) {v:Value} {bs:List Nat} (hr:al w R N a v bs):dO w R v d/\d.cells.length=1:=by
 unfold qC at h
 split at h
 ·simp at h;subst h;exact⟨(cE hr).2,rfl⟩
 ·simp at h;subst h;exact⟨(cE hr).2,rfl⟩
 ·simp at h;subst h;exact⟨(cA hr).rep,rfl⟩
 simp at h
theorem NS {G:bL} {t:Nat} {s s2:aa} (h:DG t s=some s2):iq G s s2:=by
 unfold DG at h
 split at h
 rotate_left
 ·simp at h
 rename_i n es hv;simp only[Option.some.injEq] at h;subst h;unfold xZ at hv
 split at hv
 rotate_left
 ·simp at hv
 rename_i x hx;obtain⟨m,len⟩:=x;have hwin:bB s.tmps t=.win (.out m) 1 0 len:=by
  unfold rowOf at hx
  split at hx
  ·rename_i n' len' h';simp only[Option.some.injEq,Prod.mk.injEq] at hx;obtain⟨rfl,rfl⟩:=hx;exact h'
  simp at hx
 dsimp only at hv;unfold DF at hv
 split at hv
 rotate_left
 ·simp at hv
 rename_i cs hob
 split at hv
 rotate_left
 ·simp at hv
 rename_i hlen;have hlen:=Nat.le_of_ble_eq_true hlen
 split at hv
 rotate_left
 ·simp at hv
 rename_i e0 es0 hcd;simp only[Option.some.injEq,Prod.mk.injEq] at hv;obtain⟨rfl,rfl⟩:=hv;obtain⟨hel,hcs⟩:=rh hcd;intro w R N tmps bsT bsL bsH bsF hr;have htg:=vD hwin (by simp);obtain⟨v,bs0,g1,g2,_⟩:=eB hr.tmps htg;simp only[al] at g2;obtain⟨_,b,cap,hb,rfl,hcap,_,hblt,hrow⟩:=g2;obtain⟨pre,b',b1,post,e1,hb',hobj,_,bs',hdel,hsub⟩:=an.qb hr.heap hob
 have:b'=b:=by simp only[outs] at hb';rw[hb] at hb';simpa using hb'.symm
 subst this;obtain⟨vs,elem,sp,hblk,hrv,hRv,_⟩:=hobj;obtain⟨R',hR'⟩:∃R':Own,R'=fun c off=>c≠b'/\R c off:=⟨_,rfl⟩
 have hstep:Step w R w R':=⟨rfl,rfl,rfl,Nat.le_refl _,fun c _ hno=>⟨rfl,fun off h=>by subst hR';exact hno off h.2⟩,fun c off _ hno=>⟨fun h=>by subst hR';exact hno h.2,rfl⟩,fun _ _=>rfl⟩;have hk:∀bs,b'∉bs->bz w R w R' bs:=fun bs hbs=>⟨hstep,fun c hc _=>⟨rfl,fun off h=>by subst hR';exact⟨fun e=>hbs (e ▸ hc),h⟩⟩⟩
 have hnd:=hr.nodup;simp only[List.nil_append] at hnd;subst e1;have hp:(bsT++(bsL++((pre++(b'::b1)++post)++bsF))).Perm (b'::(b1++(bsT++(bsL++((pre++post)++bsF))))):=by
  rw[List.perm_iff_count];intro q;simp only[List.count_append,List.count_cons];omega
 have hnd2:=List.nodup_cons.1 (hp.nodup_iff.1 hnd);have hno:=hnd2.1;simp only[List.mem_append,not_or] at hno;obtain⟨_,n1,n2,⟨n3,n3'⟩,n4⟩:=hno;have n5:b'∉bs':=fun hm=>by
  rcases List.mem_append.1 (hsub.subset hm) with h|h
  ·exact n3 h
  exact n3' h
 have hrep:dO w R' (.slice (some ⟨b',0,none⟩) len cap) (.slice (e0::es0)):=by
  have hl:(e0::es0).length=len:=hel;rw[←hl];have hcell:∀i,i < (e0::es0).length->∃a x bx,cs[i]?=some a/\qC a=some (e0::es0)[i]! /\ vs[i]?=some x/\al w R (outs N) a x bx:=by
   intro i hi;obtain⟨a,ha,hd⟩:=hcs i _ (List.getElem?_eq_getElem hi);obtain⟨x,bx,q1,q2,_⟩:=eB hrv (yu ha);exact⟨a,x,bx,ha,by rw[hd,getElem!_pos _ i hi],by rw[←Array.getElem?_toList];exact q1,q2⟩
  refine .slice b' 0 cap 1 _ (fun i _=>vs[i]?.getD default) (by omega) ?_ (by rw[hl];exact hcap) (by rw[hl];simp only[lim];omega) ?_ ?_
  ·intro e he;obtain⟨i,hi,rfl⟩:=List.getElem_of_mem he;obtain⟨a,x,bx,_,hd,_,hx⟩:=hcell i hi;rw[getElem!_pos _ i hi] at hd;exact (xj hd hx).2
  ·intro i j hi hj;obtain⟨a,x,bx,_,hd,hvx,hx⟩:=hcell i hi
   have:j=0:=by omega
   subst this;refine⟨?_,fun h=>by subst hR';exact h.1 rfl⟩;rw[cell_of_row w b' _ vs elem (0,0) hblk];simp[hvx]
  ·intro i j e c he hc;have hi:i < (e0::es0).length:=(List.getElem?_eq_some_iff.1 he).1;obtain⟨a,x,bx,_,hd,hvx,hx⟩:=hcell i hi;have hee:(e0::es0)[i]! = e:=by
    rw[getElem!_pos _ i hi];rw[List.getElem?_eq_getElem hi] at he;simpa using he
   rw[hee] at hd;obtain⟨k1,k2⟩:=xj hd hx;have hc':c=e:=by
    unfold qC at hd
    split at hd
    all_goals first
     |(simp at hd;subst hd;cases j with
      | zero=>simpa [ap.cells] using hc.symm
      | succ j=>simp[ap.cells] at hc)
     |simp at hd
   subst hc';rw[hvx];exact k1.step hstep
 obtain⟨bsT2,p1,p2⟩:=mE (a:=.dat (.slice (e0::es0))) (v:=.slice (some ⟨b',0,none⟩) len cap) (b:=[]) (X:=bsL++(bs'++bsF)) t (hr.tmps.keep (hk bsT n1)) (bZ (d:=.slice (e0::es0)) hrep) (by
  have h2:=(List.nodup_append.1 hnd2.2).2.1;rw[List.nil_append];refine List.Nodup.sublist ?_ h2;exact List.Sublist.append (.refl _) (List.Sublist.append (.refl _) (List.Sublist.append hsub (.refl _))))
 have hsame:tmps.set t (.slice (some ⟨b',0,none⟩) len cap)=tmps:=by
  apply List.ext_getElem?
  intro j;rw[List.getElem?_set]
  split
  ·rename_i hj;subst hj;split
   ·exact g1.symm
   rename_i hl;rw[List.getElem?_eq_none (by omega)]
  rfl
 rw[hsame] at p1;exact⟨R',N,bsT2,bsL,bs',⟨aW _,p1,hr.locs.keep (hk bsL n2),hdel.keep (hk bs' n5),by simpa using p2,hr.next,fun g cs hg=>(hr.glob g cs hg).step hstep,hr.frame⟩,hk bsF n4,fun _ _ h=>h⟩
theorem JZ {G:bL} (ns:List Name) (s:aa):iq G s (vi false ns s []).1:=by
 intro w R N tmps bsT bsL bsH bsF hr;have hr0:df G w R N tmps s (.tuple ([]:List Value).toArray) (.tup []) [] bsT bsL bsH bsF:=⟨by simp[al,ak],hr.tmps,hr.locs,hr.heap,hr.nodup,hr.next,hr.glob,hr.frame⟩;have he:vi false ns s []=((vi false ns s []).1,(vi false ns s []).2):=rfl;obtain⟨R',N',bsV',bsT',bsL',bsH',h1,h2,h3,_⟩:=nq he hr0;refine⟨R',N',bsT',bsL',bsH',⟨aW _,h1.tmps,h1.locs,h1.heap,?_,h1.next,h1.glob,h1.frame⟩,h2,h3⟩
 have:=h1.nodup
 simpa using (List.nodup_append.1 this).2.1
end Go.Tp
