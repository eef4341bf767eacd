/- IrClosed returns true and changes nothing, for arguments of bulk at most 1048576 (the card of the second form; conditions: those of the given row). Names are shortened by a program, for the claim's bound. Part 2. -/
import Derived.Test.YtmpmgmmcaghacaaGreatDoorQ01
set_option linter.unusedVariables false
set_option linter.unusedSimpArgs false
set_option maxRecDepth 100000
set_option maxHeartbeats 4000000
namespace Go.Tp
section
variable {P:Program} {E:bu} {G:bw} {H:Hints}
variable (P E G H) in
def YP (ops:Array Oper) (h:au) (i:Nat) (K:aa->Prop) (s:aa):Prop:=
 ∃(lone:Bool) (o:Oper),(i,lone)∈h.pre/\ops[i]?=some o/\(if lone=true then JT (aD P G) E G H (aL H ops.toList h.pre) h.tk ops.toList o K s else ∃a,ej E G (aL H ops.toList h.pre||quietAt H ops.toList h.pre i) ops.toList o s=some a/\K (s.put o.dst a))
theorem oX {fh:Bool} {tk:List Nat} {all:List Oper} {o:Oper} {K K':aa->Prop} {s:aa} (hk:∀s,K s->K' s) (h:JT (aD P G) E G H fh tk all o K s):JT (aD P G) E G H fh tk all o K' s:=by
 unfold JT at h ⊢
 split
 ·rename_i hw;simp[hw] at h
 rename_i b hw;simp only[hw] at h
 split
 ·rename_i hb;simp only[hb,if_true] at h
  split
  ·rename_i c hc;simp only[hc] at h
   split
   ·rename_i f args s2 ha;simp only[ha] at h
    cases hpu:gL H o with
    | true=>rw[hpu] at h;exact h.mono fun v heap n hq h1 h2=>⟨(hq h1 h2).1,hk _ (hq h1 h2).2⟩
    | false=>rw[hpu] at h;exact h.mono fun v heap n hq h1 h2=>⟨(hq h1 h2).1,hk _ (hq h1 h2).2⟩
   rename_i ha;simp[ha] at h
  rename_i hc;simp only[hc] at h
  split
  ·rename_i t ht;simp only[ht] at h
   split
   ·rename_i s1 hs1;simp only[hs1] at h
    split
    ·rename_i s' hs';simp only[hs'] at h;exact hk _ h
    rename_i hs';simp[hs'] at h
   rename_i hs1;simp[hs1] at h
  rename_i ht;simp only[ht] at h
  split
  ·rename_i hst;simp only[hst] at h
   split
   ·rename_i s' hs';simp only[hs'] at h;exact hk _ h
   rename_i hs';simp[hs'] at h
  rename_i hst;simp only[hst] at h
  split
  ·rename_i a ha;simp only[ha] at h;exact hk _ h
  rename_i ha;simp[ha] at h
 rename_i hb;simp only[hb] at h;exact hk _ h
theorem Ph {ops:Array Oper} {h:au} {i:Nat} {K K':aa->Prop} {s:aa} (hk:∀s,K s->K' s) (hs:YP P E G H ops h i K s):YP P E G H ops h i K' s:=by
 obtain⟨lone,o,h1,h2,h3⟩:=hs;refine⟨lone,o,h1,h2,?_⟩
 split
 ·rename_i hl;rw[if_pos hl] at h3;exact oX hk h3
 rename_i hl;rw[if_neg hl] at h3;obtain⟨a,h4,h5⟩:=h3;exact⟨a,h4,hk _ h5⟩
theorem ou {all:List Oper} {pre:List (Nat×Bool)}:∀{j:Nat} {o:Oper} {c:Call},(j,true)∈pre->all[j]?=some o->cY o.op=some c->gL H o=false->aL H all pre=false:=by
 induction pre with
 | nil=>intro j o c h;simp at h
 | cons p r ih=>
  intro j o c h ho hc hpu;obtain⟨k,l⟩:=p;simp only[aL]
  rcases List.mem_cons.1 h with h|h
  ·simp at h;obtain⟨rfl,rfl⟩:=h;rw[ho];simp[hc,hpu]
  rw[ih h ho hc hpu];simp
theorem GZ {fh q take:Bool} {all:List Oper} {oi oj:Oper} {a:ac} (ha:iT oi oj=true) {s s2:aa} (hq:ej E G fh all oi s=some a) (hs:cM E G q take oj (s.put oi.dst a)=some s2) :
  ∃s3,cM E G q take oj s=some s3/\s3.put oi.dst a=s2/\ej E G fh all oi s3=some a:=by
 unfold iT at ha;simp only[Bool.and_eq_true,Bool.or_eq_true,Option.isNone_iff_eq_none] at ha;obtain⟨⟨⟨⟨g1,_⟩,g3⟩,_⟩,g5⟩:=ha;have hof:∃x d,opsL oi.op=[.tmp x]/\oi.dst=some d/\cY oi.op=none/\nE oi.op=false/\(∀vals,looks oi.op vals=none)/\(opsL oj.op).any (dv x)=false/\(opsL oj.op).any (dv d)=false/\oj.dst≠some x/\oj.dst≠some d:=by
  split at g5
  ·rename_i y k d' e1 e2;simp only[Bool.and_eq_true,Bool.not_eq_true',bne_iff_ne] at g5;exact⟨y,d',by rw[e1];rfl,e2,by rw[e1];rfl,by rw[e1];rfl,fun _=>by rw[e1];rfl,g5.1.1.1,g5.1.1.2,g5.1.2,g5.2⟩
  ·rename_i y d' e1 e2;simp only[Bool.and_eq_true,Bool.not_eq_true',bne_iff_ne] at g5;exact⟨y,d',by rw[e1];rfl,e2,by rw[e1];rfl,by rw[e1];rfl,fun _=>by rw[e1];rfl,g5.1.1.1,g5.1.1.2,g5.1.2,g5.2⟩
  simp at g5
 obtain⟨x,d,hx,hd,hc,hal,hl,h1,h2,hpx,hpd⟩:=hof;rw[hd] at hs ⊢;obtain⟨v,k1,k2⟩:=nY g3 hs;have k1:=k1 s.tmps (by
  intro t ht;have htd:d≠t:=fun e=>by rw[←e,h2] at ht;simp at ht
  simp only[aa.put];rw[bG htd])
 have hst:({(s.put (some d) a) with tmps:=s.tmps }:aa)=s:=rfl;rw[hst] at k1;refine⟨_,k1,?_,?_⟩
 ·obtain⟨t3,l3,h3,n3⟩:=s2;simp only[aa.put] at k2 ⊢;rw[k2,mP h2,nQ hpd]
 have hget:bn (gQ (fI s.tmps (jS q oj.op) (opsL oj.op)) oj.dst v) x=bn s.tmps x:=by
  rw[rL hpx,iq h1]
 have hev:aG G ({s2 with tmps:=gQ (fI s.tmps (jS q oj.op) (opsL oj.op)) oj.dst v }:aa) none 0 (opsL oi.op)=aG G s none 0 (opsL oi.op):=by
  rw[hx];simp only[aG,eR,hget]
 have hlk:∀(s':aa) vals,aX s' oi.op vals=none:=fun s' vals=>by unfold aX;rw[hl]
 unfold ej at hq ⊢;simp only[g1,dh,hev,hlk] at hq ⊢;exact hq
theorem Ee {fh q take:Bool} {all:List Oper} {oi oj:Oper} {a:ac} (ha:Ax oi oj=true) {s s2:aa} (hq:ej E G fh all oi s=some a) (hs:cM E G q take oj (s.put oi.dst a)=some s2) :
  ∃s3,cM E G q take oj s=some s3/\s3.put oi.dst a=s2/\ej E G fh all oi s3=some a:=by
 unfold Ax at ha;simp only[Bool.and_eq_true,Bool.or_eq_true,Option.isNone_iff_eq_none] at ha;obtain⟨⟨⟨⟨g1,_⟩,g3⟩,_⟩,g5⟩:=ha;have hof:∃g T d,oi.op=.load T (.global g)/\oi.dst=some d/\(opsL oj.op).any (dv d)=false/\oj.dst≠some d:=by
  split at g5
  ·rename_i T g d' e1 e2;simp only[Bool.and_eq_true,Bool.not_eq_true',bne_iff_ne] at g5;exact⟨g,T,d',e1,e2,g5.1,g5.2⟩
  simp at g5
 obtain⟨g,T,d,hop,hd,h2,hpd⟩:=hof;rw[hd] at hs ⊢;obtain⟨v,k1,k2⟩:=nY g3 hs;have k1:=k1 s.tmps (by
  intro t ht;have htd:d≠t:=fun e=>by rw[←e,h2] at ht;simp at ht
  simp only[aa.put];rw[bG htd])
 have hst:({(s.put (some d) a) with tmps:=s.tmps }:aa)=s:=rfl;rw[hst] at k1;refine⟨_,k1,?_,?_⟩
 ·obtain⟨t3,l3,h3,n3⟩:=s2;simp only[aa.put] at k2 ⊢;rw[k2,mP h2,nQ hpd]
 have hev:∀s':aa,aG G s' none 0 (opsL oi.op)=aG G s none 0 (opsL oi.op):=fun s'=>by rw[hop];rfl
 have hlk:∀s':aa,aX s' oi.op (aG G s none 0 (opsL oi.op))=none:=fun s'=>by
  rw[hop];show aX s' (.load T (.global g)) (aG G s none 0 [.global g])=none;simp only[aG,eR]
  cases G g <;> rfl
 unfold ej at hq ⊢;simp only[g1,dh,hev,hlk] at hq ⊢;exact hq
theorem LD {fh q take:Bool} {ops:Array Oper} {oi oj:Oper} {a:ac} (hmv:te oj=true) (h1:∀d,oi.dst=some d->d∉oj.looksAt ops) (h2:∀d,oi.dst=some d->oj.dst≠some d) (h3:∀d,oj.dst=some d->d∉oi.looksAt ops)
  {s s2:aa} (hq:ej E G fh ops.toList oi s=some a) (hs:cM E G q take oj (s.put oi.dst a)=some s2) :
  ∃s3,cM E G q take oj s=some s3/\s3.put oi.dst a=s2/\ej E G fh ops.toList oi s3=some a:=by
 unfold te at hmv
 split at hmv
 rotate_left
 ·simp at hmv
 rename_i x d2 hop hd2;have hx:opsL oj.op=[.tmp x]:=by rw[hop];rfl
 have hxl:x∈oj.looksAt ops:=by
  have:=ia (o:=oj) (all:=ops.toList) (t:=x) (by rw[hx];simp)
  simpa using this
 obtain⟨val,e2,k⟩:=Au hx (fun _=>by rw[hop];rfl) (fun vals ob out h=>by
  rw[hop] at h;simp only[jf,Cr] at h
  split at h
  ·simp at h;subst h;rfl
  simp at h) hd2 hs
 have hgx:bn (s.put oi.dst a).tmps x=bn s.tmps x:=cR (fun e=>h1 x e hxl);have k1:=k s hgx.symm;refine⟨_,k1,?_,?_⟩
 ·rw[e2]
  cases hd:oi.dst with
  | none=>rfl
  | some d=>
   have hdx:x≠d:=fun e=>h1 d hd (e ▸ hxl)
   have hdd:d2≠d:=fun e=>h2 d hd (by rw[hd2,e])
   have hany:List.any [Operand.tmp x] (dv d)=false:=by
    simp only[List.any_cons,List.any_nil,Bool.or_false,dv]
    cases hb:Nat.beq x d with
    | false=>rfl
    | true=>exact absurd (Nat.eq_of_beq_eq_true hb) hdx
   simp only[aa.put];rw[mP hany,List.set_comm _ _ hdd]
 rw[←hq];refine gq ?_ (.of_eq rfl (fun _=>rfl));intro t ht;have htd:d2≠t:=fun e=>h3 d2 hd2 (by rw[e];simpa using ht)
 show cL (bn ((fI s.tmps (jS q oj.op) [.tmp x]).set d2 val) t)=_;rw[bG htd];unfold fI
 cases hm:jS q oj.op with
 | none=>rfl
 | some k=>
  cases k with
  | zero=>
   have e1:=ka (s:=s) (x:=.tmp x) t;simp only[bF,List.getElem?_cons_zero] at e1;simpa using e1
  | succ k=>rfl
theorem Sw {ops:Array Oper} {h:au} (hcs:dT ops h=true) {i j:Nat} {oi oj:Oper} {a:ac} (hi:ops[i]?=some oi) (him:(i,false)∈h.pre) (hj:ops[j]?=some oj) (hap:oi.apart ops oj=true)
  (hntk:∀t k o',eQ oj.op=some t->k∈fV ops.toList t h.tk->ops.toList[k]?=some o'->∀e∈o'.after,Region.binds .any e=true->e.on≠i) {K:aa->Prop} {s:aa}
  (hF:∀c,cY oj.op=some c->gL H oj=false->mc H oj=false->(j,true)∈h.pre->(aL H ops.toList h.pre||quietAt H ops.toList h.pre i)=false)
  (hG:ib oj.op=true->(j,true)∈h.pre->te oj=true∨(iT oi oj=true∨Ax oi oj=true))
  (hy:ej E G (aL H ops.toList h.pre||quietAt H ops.toList h.pre i) ops.toList oi s=some a) (hs:YP P E G H ops h j K (s.put oi.dst a)) :
  YP P E G H ops h j (fun s'=>ej E G (aL H ops.toList h.pre||quietAt H ops.toList h.pre i) ops.toList oi s'=some a/\K (s'.put oi.dst a)) s:=by
 obtain⟨h1,h2,h3⟩:=Oper.apart_spec hap;obtain⟨lone,o,hm,ho,hs⟩:=hs;rw[hj] at ho;simp at ho;subst ho;refine⟨lone,oj,hm,hj,?_⟩;have hsimj:rQ oj ops.toList s (s.put oi.dst a):=Ex (by simpa using h1);have hdj:∀(s:aa) (v:ac),rQ oi ops.toList s (s.put oj.dst v):=fun s v=>Ex (by simpa using h3)
 have hlj:∀{fh:Bool} (s:aa) (d:Option Tmp) (v:ac),xb fh s (s.put d v):=fun s d v=>.of_eq (de s d v).1 (fun _=>(de s d v).2.1)
 split
 ·rename_i hl;rw[if_pos hl] at hs;subst hl;unfold JT at hs ⊢;rw[oH hsimj] at hs
  split
  ·rename_i hw;simp[hw] at hs
  rename_i b hw;simp only[hw] at hs
  split
  ·rename_i hb;simp only[hb,if_true] at hs
   split
   ·rename_i c hc;simp only[hc] at hs;have hop:=uT hc;rw[DV (fun d hd hmem=>h1 d hd (List.mem_append_left _ (List.mem_filterMap.2 ⟨.tmp d,by rw[hop];simpa [Op.operands] using hmem,rfl⟩)))] at hs
    cases hcal:dL E G H c s with
    | none=>rw[hcal] at hs;simp at hs
    | some x=>
     obtain⟨f,args,s2⟩:=x;rw[hcal] at hs;simp only[Option.map_some] at hs;obtain⟨hsim,hlocs⟩:=DU hcal oi ops.toList;have e1:(s2.put oi.dst a).heap=s2.heap:=(de s2 oi.dst a).2.1;have e2:(s2.put oi.dst a).next=s2.next:=(de s2 oi.dst a).2.2;rw[e1,e2] at hs;dsimp only at hs ⊢
     cases hpu:gL H oj with
     | true=>
      rw[hpu] at hs;refine hs.mono fun v heap n hq b1 b2=>⟨(hq b1 b2).1,?_,?_⟩
      ·rw[←hy];refine gq ?_ ?_
       ·have k1:rQ oi ops.toList s {s2 with next:=n }:=hsim;exact k1.trans (hdj _ v)
       exact .of_eq (by rw[(de _ oj.dst v).1];exact hlocs) (fun _=>by rw[(de _ oj.dst v).2.1];exact (my hcal:s2.heap=s.heap))
      have:=(hq b1 b2).2
      have e:(⟨(s2.put oi.dst a).tmps,(s2.put oi.dst a).locs,s2.heap,n⟩:aa)=({s2 with next:=n }:aa).put oi.dst a:=by cases oi.dst <;> rfl
      rw[e,put_comm h2] at this;exact this
     | false=>
      rw[hpu] at hs;refine hs.mono fun v heap n hq b1 b2=>⟨(hq b1 b2).1,?_,?_⟩
      ·cases hrd:mc H oj with
       | true=>
        refine G0 ?_ ?_ hy
        ·have k1:rQ oi ops.toList s {s2 with heap:=heap,next:=n }:=hsim;exact k1.trans (hdj _ v)
        intro m ob hm1;have hst:=(hq b1 b2).1 hrd;rw[lz]
        cases m with
        | loc k=>simp only[aa.obj] at hm1 ⊢;rw[hlocs];exact hm1
        | out k=>simp only[aa.obj] at hm1 ⊢;exact hst _ _ (by rw[(my hcal:s2.heap=s.heap)];exact hm1)
       | false=>
        have hfh:=hF c hc hpu hrd hm;rw[←hy];refine gq ?_ ?_
        ·have k1:rQ oi ops.toList s {s2 with heap:=heap,next:=n }:=hsim;exact k1.trans (hdj _ v)
        exact .of_eq (by rw[(de _ oj.dst v).1];exact hlocs) (fun hf=>by rw[hfh] at hf;simp at hf)
      have:=(hq b1 b2).2
      rw[Ol,put_comm h2] at this;exact this
   rename_i hc;simp only[hc] at hs
   split
   ·rename_i t ht;simp only[ht] at hs;obtain⟨_,rr,hops⟩:=sN ht;have htj:t∈oj.looksAt ops:=by
     have:=ia (o:=oj) (all:=ops.toList) (t:=t) (by rw[hops];simp)
     simpa using this
    have hops_not:∀d,oi.dst=some d->Operand.tmp d∉opsL oj.op:=fun d hd hmem=>h1 d hd (by have:=ia (o:=oj) (all:=ops.toList) hmem;simpa using this)
    have etk:ln h.tk t (s.put oi.dst a)=ln h.tk t s:=by unfold ln;rw[cR (fun e=>h1 t e htj)]
    rw[etk] at hs
    -- the loads that the append owns by are others than oi
    have hother:∀k∈fV ops.toList t (ln h.tk t s),k≠i:=fun k hk e=>by
     obtain⟨_,o',ho',hd'⟩:=kg (mB hk);rw[e] at ho'
     have:ops[i]?=some o':=by simpa using ho'
     rw[hi] at this;simp at this;subst this;exact h1 t hd' htj
    have hspec:∀k∈fV ops.toList t (ln h.tk t s),∀o',ops.toList[k]?=some o'->(o'.dst=some t/\oi.dst≠some t/\t∉oi.looksAt ops)/\∀T u,o'.op=.load T (.tmp u)->oi.dst≠some u:=fun k hk o' ho'=>by
     obtain⟨hk1,o2,ho2,hd2⟩:=kg (mB hk);rw[ho2] at ho';simp at ho';subst ho';obtain⟨⟨d,e1,e2,e3⟩,e4⟩:=mh hcs (i:=k) (by simp[hk1]) (by simpa using ho2) him (Ne.symm (hother k hk)) hi;rw[hd2] at e1;simp at e1;subst e1;exact⟨⟨hd2,e2,e3 rfl⟩,fun T u hop=>by
      rcases e4 T u hop with h|⟨e,he,hb,hon⟩
      ·exact h
      exact absurd hon (hntk t k o2 ht (mB hk) ho2 e he hb)⟩
    cases hsh:dB (aL H ops.toList h.pre) ops.toList (fV ops.toList t (ln h.tk t s)) s with
    | none=>
     exfalso
     -- what is shown with the value in its slot is shown without
     have:∀(tk:List Nat) (s s1:aa),(∀k∈tk,∀o',ops.toList[k]?=some o'->(o'.dst=some t/\oi.dst≠some t/\t∉oi.looksAt ops)/\∀T u,o'.op=.load T (.tmp u)->oi.dst≠some u)->dB (aL H ops.toList h.pre) ops.toList tk (s.put oi.dst a)=some s1->∃s2,dB (aL H ops.toList h.pre) ops.toList tk s=some s2:=by
      intro tk
      induction tk with
      | nil=>intro s s1 _ _;exact⟨s,rfl⟩
      | cons k r ih=>
       intro s s1 hh hh2;obtain⟨o',T,u,t',n,off,cs,es,es2,ho',hop,hd,hg,hu,hok,hob,hes,ht',hrest⟩:=fY hh2;obtain⟨⟨q1,q2,_⟩,q3⟩:=hh k (by simp) o' ho';have hdu:=q3 T u hop;rw[hd] at q1;simp at q1;subst q1;rw[cR hdu] at hu;rw[cR q2] at ht';rw[lz] at hob;have e0:(({s.put oi.dst a with tmps:=(s.put oi.dst a).tmps.set t' (.own es)}:aa).jQ n (.cells (cO off [.dat (.slice es)] cs)))=(({s with tmps:=s.tmps.set t' (.own es)}:aa).jQ n (.cells (cO off [.dat (.slice es)] cs))).put oi.dst a:=by
        rw[←EY];congr 1
        cases hdd:oi.dst with
        | none=>rfl
        | some d=>
         have hne:d≠t':=fun e=>q2 (by rw[hdd,e])
         simp only[aa.put];rw[List.set_comm _ _ hne]
       rw[e0] at hrest;obtain⟨s3,hs3⟩:=ih _ _ (fun k hk=>hh k (by simp[hk])) hrest;refine⟨s3,?_⟩;simp only[dB,ho',hop,hd,hg,hu,if_pos hok,hob,hes,ht'];exact hs3
     cases hsh2:dB (aL H ops.toList h.pre) ops.toList (fV ops.toList t (ln h.tk t s)) (s.put oi.dst a) with
     | none=>simp[hsh2] at hs
     | some s1=>
      obtain⟨s2,hs2⟩:=this _ _ _ hspec hsh2;rw[hsh] at hs2;simp at hs2
    | some s1=>
     have hput:=ym (v:=a) (dst:=oi.dst) _ _ _ (fun k hk o' ho' _=>by rw[((hspec k hk o' ho').1).1];exact ((hspec k hk o' ho').1).2.1) (fun k hk o' T u ho' hop=>(hspec k hk o' ho').2 T u hop) hsh;simp only[hput] at hs;obtain⟨q1,q3,q4⟩:=yl _ _ _ hsh
     cases hst:cM E G false false oj s1 with
     | none=>
      exfalso
      cases hst2:cM E G false false oj (s1.put oi.dst a) with
      | none=>simp[hst2] at hs
      | some s2=>
       -- the same operands
       unfold cM at hst hst2;rw[mf _ _ _ _ hops_not] at hst2;have hlk:∀s':aa,looks oj.op (aG G s1 (jS false oj.op) 0 (opsL oj.op))=none->aX s' oj.op (aG G s1 (jS false oj.op) 0 (opsL oj.op))=none:=fun s' hl=>by unfold aX;rw[hl]
       cases hao:jf E false oj.op (aG G s1 (jS false oj.op) 0 (opsL oj.op)) (aX (s1.put oi.dst a) oj.op (aG G s1 (jS false oj.op) 0 (opsL oj.op))) with
       | none=>simp[hao] at hst2
       | some out=>
        obtain⟨hk,hl⟩:=pM ht hao;rw[hlk _ hl] at hao hst;rw[hao] at hst;simp[dK,hk] at hst
     | some s2=>
      obtain⟨v,he,hback⟩:=tO ht hst;have hb2:=hback oi.dst a hops_not h2;simp only[hb2] at hs;dsimp only;rw[hst];refine⟨?_,hs⟩;rw[←hy];subst he;refine gq ?_ ?_
      ·refine rQ.trans (s':={s1 with tmps:=s1.tmps.set t (cL (bn s1.tmps t))}) ?_ (hdj _ v);intro t' ht';have e1:=ka (s:=s1) (x:=.tmp t) t';simp only[bF,List.getElem?_cons_zero] at e1;rw[e1,q4 t' (fun k hk o' ho' e=>by
        obtain⟨⟨g1,_,g3⟩,_⟩:=hspec k hk o' ho';rw[g1] at e;simp at e;subst e;exact g3 (by simpa using ht'))]
      exact q1.trans (.of_eq (by rw[(de _ oj.dst v).1]) (fun _=>by rw[(de _ oj.dst v).2.1]))
   rename_i ht;simp only[ht] at hs
   split
   ·rename_i hst;simp only[hst] at hs
    cases hs2:cM E G (readOnly H.moves ops.toList oj) (lp H ops.toList oj) oj (s.put oi.dst a) with
    | none=>rw[hs2] at hs;simp at hs
    | some s2=>
     rw[hs2] at hs;obtain⟨s3,k1,k2,k3⟩:∃s3,cM E G (readOnly H.moves ops.toList oj) (lp H ops.toList oj) oj s=some s3/\s3.put oi.dst a=s2/\ej E G (aL H ops.toList h.pre||quietAt H ops.toList h.pre i) ops.toList oi s3=some a:=by
      rcases hG hst hm with hmv|hap
      ·exact LD hmv (by simpa using h1) h2 (by simpa using h3) hy hs2
      rcases hap with hap|hap
      ·exact GZ hap hy hs2
      exact Ee hap hy hs2
     rw[k1];exact⟨k3,by rw[k2];exact hs⟩
   rename_i hst;simp only[hst] at hs;rw[gq hsimj (hlj _ _ _)] at hs
   cases hb1:ej E G (aL H ops.toList h.pre) ops.toList oj s with
   | none=>rw[hb1] at hs;exact hs.elim
   | some b=>
    rw[hb1] at hs;dsimp only at hs ⊢;refine⟨?_,?_⟩
    ·rw[←hy];exact gq (hdj _ _) (hlj _ _ _)
    rw[put_comm h2] at hs;exact hs
  rename_i hb;simp only[hb] at hs;refine⟨?_,?_⟩
  ·rw[←hy];exact gq (hdj _ _) (hlj _ _ _)
  have:=hs
  simp only[Bool.false_eq_true,if_false] at this;rw[put_comm h2] at this;exact this
 rename_i hl;rw[if_neg hl] at hs;obtain⟨b,hb1,hb2⟩:=hs;rw[gq hsimj (hlj _ _ _)] at hb1;refine⟨b,hb1,?_,?_⟩
 ·rw[←hy];exact gq (hdj _ _) (hlj _ _ _)
 rw[put_comm h2] at hb2;exact hb2
variable (P E G H) in
def pU (ops:Array Oper) (h:au) (p:Array Bool) (T:aa->Prop):Nat->Array Bool->aa->Prop
 | 0,listed,s=>listed=p/\T s
 | fuel+1,listed,s=>
  (listed=p/\T s)∨(listed≠p/\Region.ready .any ops listed≠[]/\∀i∈Region.ready .any ops listed,YP P E G H ops h i (pU ops h p T fuel (bI listed i)) s) ∨
  (∃i oi a,bI listed i=p/\nC ops h p i=true/\ops[i]?=some oi/\(i,false)∈h.pre/\i∈Region.ready .any ops listed/\ej E G (aL H ops.toList h.pre||quietAt H ops.toList h.pre i) ops.toList oi s=some a/\T (s.put oi.dst a))
theorem cA {ops:Array Oper} {listed:Array Bool} {i:Nat} (h:i∈Region.ready .any ops listed) (hsz:listed.size=ops.size):listed[i]?=some false:=by
 obtain⟨h0,o,ho,_⟩:=mem_ready.1 h;have hlt:i < ops.size:=(Array.getElem?_eq_some_iff.1 ho).1;have hl:i < listed.size:=by omega
 simp[hl] at h0;simp[hl,h0]
theorem si {listed p:Array Bool} {i:Nat} (h:listed[i]?=some false) (e:bI listed i=p):p.setIfInBounds i false=listed:=by
 subst e;have hl:i < listed.size:=(Array.getElem?_eq_some_iff.1 h).1
 apply Array.ext_getElem?
 intro k;unfold bI
 by_cases hk:i=k
 ·subst hk;rw[h];simp[hl]
 rw[Array.getElem?_setIfInBounds_ne hk,Array.getElem?_setIfInBounds_ne hk]
def eX (ops:Array Oper) (listed:Array Bool):Prop:=∀(d:Nat) (o:Oper),listed[d]?=some true->ops[d]?=some o->∀e∈o.after,Region.binds .any e=true->listed.getD e.on false=true
theorem eX.step {ops:Array Oper} {listed:Array Bool} (h:eX ops listed) {j:Nat} (hj:j∈Region.ready .any ops listed):eX ops (bI listed j):=by
 intro d o hd ho e he hb
 by_cases hdj:d=j
 ·subst hdj;obtain⟨_,o',ho',hafter⟩:=mem_ready.1 hj;rw[ho] at ho';simp at ho';subst ho';exact getD_set_true (hafter e he hb)
 unfold bI at hd;rw[Array.getElem?_setIfInBounds_ne (Ne.symm hdj)] at hd;exact getD_set_true (h d o hd ho e he hb)
theorem KM {ops:Array Oper} {listed:Array Bool} {i:Nat} (hcl:eX ops listed) (hun:listed[i]?=some false) (hl:waited ops (bI listed i) i=true):False:=by
 unfold waited at hl;obtain⟨d,hd,hd2⟩:=List.any_eq_true.1 hl;simp only[Bool.and_eq_true] at hd2;obtain⟨⟨h1,h2⟩,h3⟩:=hd2;have hdi:d≠i:=by simpa using h1
 split at h3
 ·rename_i o ho;obtain⟨ed,he1,he2⟩:=Array.any_eq_true'.1 h3;simp only[Bool.and_eq_true,beq_iff_eq] at he2;have hld:listed[d]?=some true:=by
   unfold bI at h2;rw[getD_set_ne false (Ne.symm hdi),Array.getD_eq_getD_getElem?] at h2
   cases hg:listed[d]? with
   | none=>rw[hg] at h2;simp at h2
   | some b=>rw[hg] at h2;simp at h2;rw[h2]
  have:=hcl d o hld ho ed he1 he2.1
  rw[he2.2,Array.getD_eq_getD_getElem?,hun] at this;simp at this
 simp at h3
theorem zr {ops:Array Oper} {listed p:Array Bool} {i:Nat} (hcl:eX ops listed) (hun:listed[i]?=some false) (e:bI listed i=p) (hl:(waited ops p i||Region.ready .any ops (p.setIfInBounds i false)==[i])=true):Region.ready .any ops listed=[i]:=by
 have hback:=si hun e;rw[Bool.or_eq_true] at hl
 rcases hl with hl|hl
 ·exfalso
  unfold waited at hl;obtain⟨d,hd,hd2⟩:=List.any_eq_true.1 hl;simp only[Bool.and_eq_true] at hd2;obtain⟨⟨h1,h2⟩,h3⟩:=hd2;have hdi:d≠i:=by simpa using h1
  split at h3
  ·rename_i o ho;obtain⟨ed,he1,he2⟩:=Array.any_eq_true'.1 h3;simp only[Bool.and_eq_true,beq_iff_eq] at he2;have hld:listed[d]?=some true:=by
    rw[←e] at h2;unfold bI at h2;rw[getD_set_ne false (Ne.symm hdi),Array.getD_eq_getD_getElem?] at h2
    cases hg:listed[d]? with
    | none=>rw[hg] at h2;simp at h2
    | some b=>rw[hg] at h2;simp at h2;rw[h2]
   have:=hcl d o hld ho ed he1 he2.1
   rw[he2.2,Array.getD_eq_getD_getElem?,hun] at this;simp at this
  simp at h3
 rw[←hback];simpa using hl
theorem su {ops:Array Oper} {listed:Array Bool} (hcl:eX ops listed):∀(f i j:Nat),listed.getD i false=true->reach ops.toList f i j=true->listed.getD j false=true
 | 0,_,_,_,h=>by simp[reach] at h
 | f+1,i,j,hi,h=>by
  simp only[reach] at h
  split at h
  ·rename_i o ho;obtain⟨e,he,h2⟩:=List.any_eq_true.1 h;simp only[Bool.and_eq_true,Bool.or_eq_true,Nat.beq_eq] at h2;have hi':listed[i]?=some true:=by
    rw[Array.getD_eq_getD_getElem?] at hi
    cases hg:listed[i]? with
    | none=>rw[hg] at hi;simp at hi
    | some b=>rw[hg] at hi;simp at hi;rw[hi]
   have h3:=hcl i o hi' (by simpa using ho) e (by simpa using he) h2.1
   rcases h2.2 with h4|h4
   ·rw[←h4];exact h3
   exact su hcl f e.on j h3 h4
  simp at h
theorem ly {ops:Array Oper} {listed:Array Bool} (hcl:eX ops listed) {f i j:Nat} (hr:i∈Region.ready .any ops listed) (h:reach ops.toList f i j=true) (hj:listed.getD j true=false):False:=by
 obtain⟨_,o,ho,hafter⟩:=mem_ready.1 hr;have key:listed.getD j false=true:=by
  cases f with
  | zero=>simp[reach] at h
  | succ f=>
   have ho':ops.toList[i]?=some o:=by simpa using ho
   simp only[reach,ho'] at h;obtain⟨e,he,h2⟩:=List.any_eq_true.1 h;simp only[Bool.and_eq_true,Bool.or_eq_true,Nat.beq_eq] at h2;have h3:=hafter e (by simpa using he) h2.1
   rcases h2.2 with h4|h4
   ·rw[←h4];exact h3
   exact su hcl f e.on j h3 h4
 rw[Array.getD_eq_getD_getElem?] at key hj
 cases hg:listed[j]? with
 | none=>rw[hg] at key;simp at key
 | some b=>rw[hg] at key hj;simp at key hj;rw[key] at hj;simp at hj
theorem wK {ops:Array Oper} {h:au} (hcs:dT ops h=true) (hca:nV ops h=true) (hcst:gu ops h=true) {p:Array Bool} {T:aa->Prop} {i:Nat} {oi:Oper} {a:ac} (hi:ops[i]?=some oi) (hm:(i,false)∈h.pre)
  (hlast:(waited ops p i||Region.ready .any ops (p.setIfInBounds i false)==[i])=true∨nC ops h p i=true) (hp:p[i]?=some true) :
  ∀(fuel:Nat) (listed:Array Bool) (s:aa),listed.size=ops.size->eX ops listed->
   (∀j oj,ops[j]?=some oj->j≠i->listed.getD j true=false->(∀e∈oj.after,Region.binds .any e=true->e.on≠i)->oi.apart ops oj=true)->
   i∈Region.ready .any ops listed->ej E G (aL H ops.toList h.pre||quietAt H ops.toList h.pre i) ops.toList oi s=some a->
   pU P E G H ops h p T fuel (bI listed i) (s.put oi.dst a)->pU P E G H ops h p T (fuel+1) listed s:=by
 intro fuel
 induction fuel with
 | zero=>
  intro listed s hsz hcl hfree hr hy hH;have hun:=cA hr hsz;have hne:listed≠p:=fun e=>by rw[e,hp] at hun;simp at hun
  rcases hlast with hlast|hlast
  rotate_left
  ·exact .inr (.inr ⟨i,oi,a,hH.1,hlast,hi,hm,hr,hy,hH.2⟩)
  have hal:=zr hcl hun hH.1 hlast;refine .inr (.inl ⟨hne,fun h=>(by rw[h] at hr;cases hr),fun j hj=>?_⟩);have hj':=hj;rw[hal] at hj';simp at hj';subst hj';exact⟨false,oi,hm,hi,by simp only[Bool.false_eq_true,if_false];exact⟨a,hy,hH⟩⟩
 | succ fuel ih=>
  intro listed s hsz hcl hfree hr hy hH;have hun:=cA hr hsz;have hne:listed≠p:=fun e=>by rw[e,hp] at hun;simp at hun
  by_cases hlate:bI listed i=p/\nC ops h p i=true/\¬(waited ops p i||Region.ready .any ops (p.setIfInBounds i false)==[i])=true
  ·have hT:T (s.put oi.dst a):=by
    rcases hH with⟨_,hT⟩|⟨hne2,_⟩|⟨i',oi',a',e',_,hoi',_,hr',_,_⟩
    ·exact hT
    ·exact absurd hlate.1 hne2
    exfalso
    have hun':=cA hr' (by simpa [bI] using hsz);rw[hlate.1] at hun' e'
    have:(bI p i')[i']?=some true:=by
     have hl:i' < p.size:=(Array.getElem?_eq_some_iff.1 hun').1;simp[bI,hl]
    rw[e',hun'] at this;simp at this
   exact .inr (.inr ⟨i,oi,a,hlate.1,hlate.2.1,hi,hm,hr,hy,hT⟩)
  refine .inr (.inl ⟨hne,fun h=>(by rw[h] at hr;cases hr),fun j hj=>?_⟩)
  by_cases hji:j=i
  ·subst hji;exact⟨false,oi,hm,hi,by simp only[Bool.false_eq_true,if_false];exact⟨a,hy,hH⟩⟩
  have h1:YP P E G H ops h j (pU P E G H ops h p T fuel (bI (bI listed i) j)) (s.put oi.dst a):=by
   rcases hH with⟨e,hT⟩|⟨hne2,_,hall⟩|⟨i',oi',a',e',hlk,hoi',hm',hr',hy',hT'⟩
   ·exfalso
    have hlast':(waited ops p i||Region.ready .any ops (p.setIfInBounds i false)==[i])=true:=by
     rcases hlast with h'|h'
     ·exact h'
     exact Classical.byContradiction fun hno=>hlate ⟨e,h',hno⟩
    have hal:=zr hcl hun e hlast';have hj':=hj;rw[hal] at hj';simp at hj';exact absurd hj' hji
   ·exact hall j (ready_mono hj hji)
   have hun':=cA hr' (by simpa [bI] using hsz);have hii:i≠i':=by
    rintro rfl;have hl:i < listed.size:=(Array.getElem?_eq_some_iff.1 hun).1;simp[bI,hl] at hun'
   have hb1:=si hun' e';have hb2:=si hun (rfl:bI listed i=bI listed i);have hjr:j∈Region.ready .any ops (bI listed i):=ready_mono hj hji;have hji':j=i':=by
    refine Classical.byContradiction fun hjn=>?_
    unfold nC at hlk
    split at hlk
    ·simp at hlk
    rename_i j0 r0 htl;simp only[Bool.and_eq_true,Bool.or_eq_true,beq_iff_eq] at hlk;obtain⟨⟨⟨⟨⟨⟨⟨h1,_⟩,_⟩,_⟩,h5⟩,_⟩,_⟩,_⟩:=hlk;rw[hb1] at h1;have hj0:j=j0:=by
     rcases h1 with h1|h1 <;> rw[h1] at hjr <;> simp at hjr <;> rcases hjr with h'|h' <;> first|exact h'|exact absurd h' hjn
    subst hj0;have h6:=List.all_eq_true.1 h5 (i,false) hm;rw[hb1,hb2] at h6;simp only[Bool.or_eq_true,beq_iff_eq,hii,false_or] at h6
    rcases h6 with h6|h6
    ·exact KM hcl hun h6
    simp at h6;exact h6 hj
   subst hji';have hP:pU P E G H ops h p T fuel (bI (bI listed i) j) ((s.put oi.dst a).put oi'.dst a'):=by
    rw[e']
    cases fuel with
    | zero=>exact⟨rfl,hT'⟩
    | succ fuel=>exact .inl ⟨rfl,hT'⟩
   exact⟨false,oi',hm',hoi',by simp only[Bool.false_eq_true,if_false];exact⟨a',hy',hP⟩⟩
  ·obtain⟨hjun,oj,hoj,hafter⟩:=mem_ready.1 hj;have hnot:∀e∈oj.after,Region.binds .any e=true->e.on≠i:=fun e he hb heq=>by
    have h1:=hafter e he hb;rw[heq] at h1;rw[Array.getD_eq_getD_getElem?,hun] at h1;simp at h1
   have hntk:∀t k o',eQ oj.op=some t->k∈fV ops.toList t h.tk->ops.toList[k]?=some o'->∀e∈o'.after,Region.binds .any e=true->e.on≠i:=by
    intro t k o' ht hk ho' e he hb heq;obtain⟨lone,_,hmj,_,_⟩:=h1;have hca':=hca;unfold nV at hca';have g1:=List.all_eq_true.1 hca' (j,lone) hmj;simp only[hoj,ht] at g1;have g2:=List.all_eq_true.1 g1 k hk;obtain⟨e2,he1,he2⟩:=Array.any_eq_true'.1 g2;simp only[Bool.and_eq_true,beq_iff_eq] at he2;have g3:=hafter e2 he1 he2.1;rw[he2.2,Array.getD_eq_getD_getElem?] at g3;have hlk:listed[k]?=some true:=by
     cases hg:listed[k]? with
     | none=>rw[hg] at g3;simp at g3
     | some b=>rw[hg] at g3;simp at g3;rw[g3]
    have:=hcl k o' hlk (by simpa using ho') e he hb
    rw[heq,Array.getD_eq_getD_getElem?,hun] at this;simp at this
   have hF:∀c,cY oj.op=some c->gL H oj=false->mc H oj=false->(j,true)∈h.pre->(aL H ops.toList h.pre||quietAt H ops.toList h.pre i)=false:=by
    intro c hcc hpu hrd hmj;rw[Bool.eq_false_iff];intro ht;rw[ou (all:=ops.toList) hmj (by simpa using hoj) hcc hpu,Bool.false_or] at ht;unfold quietAt at ht;have g:=List.all_eq_true.1 ht (j,true) hmj;have hoj':ops.toList[j]?=some oj:=by simpa using hoj
    simp only[hoj',hcc,hpu,hrd,Bool.not_true,Bool.false_or,Option.isNone_some,Bool.or_eq_true] at g
    rcases g with g|g
    ·exact ly hcl hr g hjun
    refine ly hcl hj g ?_;rw[Array.getD_eq_getD_getElem?,hun];rfl
   have hG:ib oj.op=true->(j,true)∈h.pre->te oj=true∨(iT oi oj=true∨Ax oi oj=true):=by
    intro hst hmj;unfold gu at hcst;have g1:=List.all_eq_true.1 hcst (j,true) hmj;simp only[hoj,hst,Bool.not_true,Bool.false_or,Bool.and_eq_true] at g1;have g2:=List.all_eq_true.1 g1.2 (i,false) hm;simp only[hi,Bool.false_or,Bool.or_eq_true] at g2
    rcases g2 with ((g|g)|g)|g
    ·exact .inl g
    ·exact .inr g
    ·exact (ly hcl hr g hjun).elim
    refine (ly hcl hj g ?_).elim;rw[Array.getD_eq_getD_getElem?,hun];rfl
   have h2:=Sw hcs hi hm hoj (hfree j oj hoj hji hjun hnot) hntk hF hG hy h1;have hfree':∀k ok,ops[k]?=some ok->k≠i->(bI listed j).getD k true=false->(∀e∈ok.after,Region.binds .any e=true->e.on≠i)->oi.apart ops ok=true:=fun k ok hk hki hun' hno=>by
    refine hfree k ok hk hki ?_ hno
    by_cases hjk:j=k
    ·subst hjk;exact hjun
    unfold bI at hun';rw[getD_set_ne true hjk] at hun';exact hun'
   refine Ph (fun s' h3=>ih (bI listed j) s' (by simpa [bI] using hsz) (hcl.step hj) hfree' (ready_mono hr (Ne.symm hji)) h3.1 ?_) h2;have e:bI (bI listed j) i=bI (bI listed i) j:=by unfold bI;rw[Array.setIfInBounds_comm _ _ hji]
   rw[e];exact h3.2
theorem lA:∀(r:List (Nat×Bool)) (l:Array Bool) (i:Nat),l[i]?=some true->(eA r l)[i]?=some true
 | [],_,_,h=>h
 |(j,_)::r,l,i,h=>by
  apply lA r
  unfold bI
  by_cases hj:j=i
  ·subst hj;have hl:j < l.size:=(Array.getElem?_eq_some_iff.1 h).1;simp[hl]
  rw[Array.getElem?_setIfInBounds_ne hj];exact h
theorem pT {ops:Array Oper} {h:au} (hcs:dT ops h=true) (hca:nV ops h=true) (hcst:gu ops h=true) {T:aa->Prop} {p:Array Bool} (hlast:kc ops h p h.pre=true) :
  ∀(r:List (Nat×Bool)) (listed:Array Bool) (s:aa) (fuel:Nat),(∀x∈r,x∈h.pre)->listed.size=ops.size->eX ops listed->p=eA r listed->nU ops r listed=true->r.length<=fuel->
   lN (aD P G) E G H h.tk (aL H ops.toList h.pre) (quietAt H ops.toList h.pre) ops.toList T r s->pU P E G H ops h p T fuel listed s
 | [],listed,s,fuel,_,_,_,hp,_,_,h=>by
  cases fuel with
  | zero=>exact⟨hp.symm,h⟩
  | succ fuel=>exact .inl ⟨hp.symm,h⟩
 |(i,lone)::r,listed,s,0,_,_,_,_,_,hf,_=>by simp at hf
 |(i,lone)::r,listed,s,fuel+1,hsub,hsz,hcl,hp,hc,hf,hh=>by
  have hm:=hsub (i,lone) (by simp);simp only[nU,Bool.and_eq_true] at hc;obtain⟨hc1,hc2⟩:=hc;have hrd0:i∈Region.ready .any ops listed:=by
   cases lone
   ·simp at hc1;exact hc1.1
   simp at hc1;rw[hc1];simp
  simp only[lN,iw] at hh;have hsz':(bI listed i).size=ops.size:=by simpa [bI] using hsz
  have hp':p=eA r (bI listed i):=hp;have hrec:∀s',lN (aD P G) E G H h.tk (aL H ops.toList h.pre) (quietAt H ops.toList h.pre) ops.toList T r s'->pU P E G H ops h p T fuel (bI listed i) s':=fun s' h'=>
   pT hcs hca hcst hlast r (bI listed i) s' fuel (fun x hx=>hsub x (by simp[hx])) hsz' (hcl.step hrd0) hp' hc2 (by simp at hf;omega) h'
  split at hh
  ·exact hh.elim
  rename_i o ho;have ho':ops[i]?=some o:=by simpa using ho
  have hlt:i < listed.size:=by rw[hsz];exact (Array.getElem?_eq_some_iff.1 ho').1
  have hpi:p[i]?=some true:=by
   rw[hp']
   apply lA
   simp[bI,hlt]
  cases lone
  ·simp only[Bool.false_eq_true,if_false,Bool.and_eq_true] at hh hc1
   split at hh
   ·rename_i a ha;refine wK hcs hca hcst ho' hm ?_ hpi fuel listed s hsz hcl (Region.free_spec ho' hc1.2) (by simpa using hc1.1) ha (hrec _ hh)
    have:∀(q:List (Nat×Bool)),(i,false)∈q->kc ops h p q=true->(waited ops p i||Region.ready .any ops (p.setIfInBounds i false)==[i])=true∨nC ops h p i=true:=by
     intro q
     induction q with
     | nil=>intro hq;simp at hq
     | cons x q ih=>
      intro hq hcl;obtain⟨k,l⟩:=x;simp only[kc,Bool.and_eq_true,Bool.or_eq_true] at hcl
      rcases List.mem_cons.1 hq with e|hq
      ·simp at e;obtain⟨rfl,rfl⟩:=e
       rcases hcl.1 with (hl|hl)|hl
       ·simp at hl
       ·exact .inl (by rw[Bool.or_eq_true];exact hl)
       exact .inr hl
      exact ih hq hcl.2
    exact this h.pre hm hlast
   exact hh.elim
  simp only[if_true] at hh hc1;have hrd:Region.ready .any ops listed=[i]:=by simpa using hc1
  have hun:=cA (i:=i) (by rw[hrd];simp) hsz;refine .inr (.inl ⟨fun e=>by rw[e,hpi] at hun;simp at hun,by rw[hrd];simp,fun j hj=>?_⟩);rw[hrd] at hj;simp at hj;subst hj;exact⟨true,o,hm,ho',by simp only[if_true];exact oX hrec hh⟩
theorem sA:∀{r:List (Nat×Bool)} {x:Nat×Bool},x∈bN r->x∈r/\x.2=false
 | [],_,h=>by simp[bN] at h
 |(i,true)::r,_,h=>by simp[bN] at h
 |(i,false)::r,x,h=>by
  simp only[bN] at h
  rcases List.mem_cons.1 h with rfl|h
  ·simp
  obtain⟨h1,h2⟩:=sA h;exact⟨by simp[h1],h2⟩
theorem pS {ops:Array Oper} {h:au} (hcs:dT ops h=true) (hca:nV ops h=true) (hcst:gu ops h=true) {T K:aa->Prop} {p:Array Bool} (hlast:kc ops h p h.pre=true) (hall:∀x∈h.pre,p[x.1]?=some true) (fuel:Nat) :
  ∀(r:List (Nat×Bool)) (listed:Array Bool) (s:aa),(∀x∈r,x∈h.pre/\x.2=false)->listed.size=ops.size->eX ops listed->nU ops r listed=true->
   (∀s',K s'->pU P E G H ops h p T fuel (eA r listed) s')->
   lN (aD P G) E G H h.tk (aL H ops.toList h.pre) (quietAt H ops.toList h.pre) ops.toList K r s->pU P E G H ops h p T (r.length+fuel) listed s
 | [],listed,s,_,_,_,_,hK,h=>by
  rw[List.length_nil,Nat.zero_add];exact hK s h
 |(i,true)::r,listed,s,hsub,_,_,_,_,_=>by
  have:=(hsub (i,true) (by simp)).2
  simp at this
 |(i,false)::r,listed,s,hsub,hsz,hcl,hc,hK,hh=>by
  obtain⟨hm,_⟩:=hsub (i,false) (by simp);simp only[nU,Bool.and_eq_true] at hc;obtain⟨hc1,hc2⟩:=hc;simp only[Bool.false_eq_true,if_false,Bool.and_eq_true] at hc1;have hrd0:i∈Region.ready .any ops listed:=by simpa using hc1.1
  simp only[lN,iw] at hh;have hsz':(bI listed i).size=ops.size:=by simpa [bI] using hsz
  split at hh
  ·exact hh.elim
  rename_i o ho;have ho':ops[i]?=some o:=by simpa using ho
  simp only[Bool.false_eq_true,if_false] at hh
  split at hh
  ·rename_i a ha;have hrec:=pS hcs hca hcst hlast hall fuel r (bI listed i) _ (fun x hx=>hsub x (by simp[hx])) hsz' (hcl.step hrd0) hc2 hK hh;have e:((i,false)::r).length+fuel=(r.length+fuel)+1:=by simp;omega
   rw[e];refine wK hcs hca hcst ho' hm ?_ (hall _ hm) (r.length+fuel) listed s hsz hcl (Region.free_spec ho' hc1.2) hrd0 ha hrec
   have:∀(q:List (Nat×Bool)),(i,false)∈q->kc ops h p q=true->(waited ops p i||Region.ready .any ops (p.setIfInBounds i false)==[i])=true∨nC ops h p i=true:=by
    intro q
    induction q with
    | nil=>intro hq;simp at hq
    | cons x q ih=>
     intro hq hcl;obtain⟨k,l⟩:=x;simp only[kc,Bool.and_eq_true,Bool.or_eq_true] at hcl
     rcases List.mem_cons.1 hq with e|hq
     ·simp at e;obtain⟨rfl,rfl⟩:=e
      rcases hcl.1 with (hl|hl)|hl
      ·simp at hl
      ·exact .inl (by rw[Bool.or_eq_true];exact hl)
      exact .inr hl
     exact ih hq hcl.2
   exact this h.pre hm hlast
  exact hh.elim
theorem rc {ops:Array Oper} {h:au} {T:aa->Prop} {p:Array Bool}:∀(m:Nat) (listed:Array Bool) (s:aa),
  vF (aD P G) E G H h ops.toList p T m listed s->pU P E G H ops h p T m listed s
 | 0,listed,s,hh=>hh
 | m+1,listed,s,hh=>by
  simp only[vF,Array.toArray_toList] at hh;obtain⟨h1,h2,h3⟩:=hh;refine .inr (.inl ⟨h1,h2,fun i hi=>?_⟩);obtain⟨hm,o,ho,hop⟩:=h3 i hi;refine⟨true,o,hm,by simpa using ho,?_⟩;rw[if_pos rfl];exact oX (fun s' h'=>rc m _ s' h') hop
end
end Go.Tp
namespace Go.Tp
section
variable {P:Program} {E:bu} {G:bw} {H:Hints} {D:List Deferred}
theorem Rj (hE:E.Ok P) {o:Oper} {s:aa} {out:Out} (hop:jf E false o.op (aG G s none 0 (opsL o.op)) (aX s o.op (aG G s none 0 (opsL o.op)))=some out) (hk:out.eff=.keep)
  {w:World} {R:Own} {N:Name->Option Nat} {act:Act} {bsT bsL bsH bsF:List Nat} (hr:cZ G w R N act.tmps.toList s undef .undef [] bsT bsL bsH bsF) :
  ∃cv w' R' bsV,U3 P w act.eval o cv w'/\ai w' R' N out.val cv bsV/\vM w [] bsV/\bm w R w' R' (bsT++(bsL++(bsH++bsF))):=by
 have ha:=ky hr.tmps hr.glob none 0 (opsL o.op) (by simp);generalize hvals:aG G s none 0 (opsL o.op)=vals at hop ha;have hnd:(bsT++(bsL++(bsH++bsF))).Nodup:=by simpa using hr.nodup
 cases hlo:aX s o.op vals with
 | none=>
  rw[hlo] at hop;have hlk:eH w R N o.op vals none none:=by
   unfold eH
   split
   ·exact⟨rfl,rfl⟩
   exact .inl ⟨rfl,rfl⟩
  obtain⟨cv,w',R',hran,hkeep,hout⟩:=mV (rest:=bsT++(bsL++(bsH++bsF))) hE hop ha (fun _=>rfl) hlk (by simpa [sK] using hnd) (fun _=>rfl);rw[hk] at hout;obtain⟨bsV,hv,hf,_,_⟩:=hout;exact⟨cv,w',R',bsV,hran,hv,hf,hkeep⟩
 | some obj=>
  rw[hlo] at hop;have hlk:∃b b1,eH w R N o.op vals (some obj) (some (b,b1))/\(b::b1).Nodup:=by
   unfold aX at hlo
   split at hlo
   ·rename_i n hn
    cases n with
    | loc i=>
     simp only[aa.obj] at hlo;obtain⟨pre,b,b1,post,e1,e2,e3,_⟩:=aj.split hr.locs hlo;refine⟨b,b1,?_,?_⟩
     ·unfold eH;rw[hn];exact .inr ⟨b,b1,obj,rfl,rfl,e2,e3⟩
     subst e1;refine List.Nodup.sublist ?_ hnd;refine List.Sublist.trans ?_ (List.sublist_append_right _ _);refine List.Sublist.trans ?_ (List.sublist_append_left _ _);exact (List.sublist_append_right _ _).trans (List.sublist_append_left _ _)
    | out k=>
     simp only[aa.obj] at hlo;obtain⟨pre,b,b1,post,e1,e2,e3,_⟩:=aj.split hr.heap hlo;have hno:bC obj=true:=by
      cases obj with
      | cells cs=>obtain⟨vs,e,sp,hb,hrr,hR⟩:=e3;have:=hrr.bX;rw[iM] at this;exact this
      | map es=>rfl
     refine⟨b,b1,?_,?_⟩
     ·unfold eH;rw[hn];exact .inr ⟨b,b1,obj,rfl,rfl,by simpa [outs] using e2,e3.xe hno (fun _=>rfl)⟩
     subst e1;refine List.Nodup.sublist ?_ hnd;refine List.Sublist.trans ?_ (List.sublist_append_right _ _);refine List.Sublist.trans ?_ (List.sublist_append_right _ _);refine List.Sublist.trans ?_ (List.sublist_append_left _ _);exact (List.sublist_append_right _ _).trans (List.sublist_append_left _ _)
   simp at hlo
  obtain⟨b,b1,hlk,hnd1⟩:=hlk;obtain⟨cv,w',R',hran,hkeep,hout⟩:=mV (rest:=[]) hE hop ha (fun _=>rfl) hlk (by simpa [sK] using hnd1) (fun _=>rfl);rw[hk] at hout;obtain⟨bsV,hv,hf,_,hsame⟩:=hout
  rcases hsame with h|⟨rfl,rfl⟩
  ·simp at h
  exact⟨cv,w',R',bsV,hran,hv,hf,aY _⟩
theorem Jx {s:aa} {w w':World} {R R':Own} {N:Name->Option Nat} {act:Act} {bsT bsL bsH bsF bsV:List Nat} (bsY:List Nat) {a:ac} {cv:Value} (dst:Option Tmp) (hr:cZ G w R N act.tmps.toList s undef .undef [] bsT bsL bsH bsF)
  (hv:ai w' R' N a cv bsV) (hf:vM w [] (bsV++bsY)) (hy:∀b∈bsY,b < w'.heap.size) (hk:bm w R w' R' (bsT++(bsL++(bsH++bsF)))) :
  ∃bsT',cZ G w' R' N (act.put dst cv).tmps.toList (s.put dst a) undef .undef [] bsT' bsL bsH (bsY++bsF):=by
 have hlt:∀b∈bsT++(bsL++(bsH++bsF)),b < w.heap.size:=fun b hb=>by
  simp at hb
  rcases hb with h|h|h|h
  ·exact hr.tmps.lt b h
  ·exact hr.locs.lt b h
  ·exact hr.heap.lt b h
  exact hr.frame b h
 have hnd0:((bsV++bsY)++(bsT++(bsL++(bsH++bsF)))).Nodup:=fB (bsM:=[]) (by simpa using hr.nodup) hlt hf;have hnd:(bsV++(bsT++(bsL++(bsH++(bsY++bsF))))).Nodup:=by
  have hp:(bsV++(bsT++(bsL++(bsH++(bsY++bsF))))).Perm ((bsV++bsY)++(bsT++(bsL++(bsH++bsF)))):=by
   rw[List.perm_iff_count];intro q;simp only[List.count_append];omega
  exact hp.nodup_iff.2 hnd0
 obtain⟨bsT',hp1,hp2⟩:=fK dst (hr.tmps.keep (hk.sub (by intro b hb;simp[hb]))) hv hnd;obtain⟨q1,q2,q3⟩:=de s dst a;exact⟨bsT',aI _,by rw[(fP act dst cv).1];exact hp1,by rw[q1];exact hr.locs.keep (hk.sub (by intro b hb;simp[hb])),by rw[q2];exact hr.heap.keep (hk.sub (by intro b hb;simp[hb])),by simpa using hp2,by rw[q3];exact hr.next,
  fun g cs hg=>(hr.glob g cs hg).step hk.step,fun b hb=>by
   rcases List.mem_append.1 hb with h|h
   ·exact hy b h
   exact Nat.lt_of_lt_of_le (hr.frame b h) hk.step.size⟩
structure A6 (E:bu) (G:bw) (H:Hints) (ops:Array Oper) (h:au) (listed:Array Bool) (w:World) (R:Own) (N:Name->Option Nat) (act:Act) (s:aa) (bsT bsL bsH bsX bsF:List Nat):Prop where
 rel:cZ G w R N act.tmps.toList s undef .undef [] bsT bsL bsH (bsX++bsF)
 nwf:∀i o t d ti,h.nw=some i->listed[i]?=some true->ops[i]?=some o->o.op=.alloc t->o.dst=some d->o.guard=none->E.ty t=some ti->d < act.tmps.size->
  ∃b,b∈bsX/\act.tmps[d]?=some (.pointer (some ⟨b,0,none⟩))/\aK w R N (.cells (bj (bE ti.zero))) b []
 tkf:∀i o T u t n off ob,i∈h.tk->listed[i]?=some true->ops[i]?=some o->o.op=.load T (.tmp u)->o.dst=some t->o.guard=none->bn s.tmps u=.ptr n off->Da (aL H ops.toList h.pre) n=true->s.obj n=some ob->t < act.tmps.size->
  ∃b v,N n=some b/\act.tmps[t]?=some v/\(w.cell? ⟨b,off,none⟩=some v∨∃vs,v=.agg vs)
theorem DI {ops:Array Oper} {h:au} (hc:dT ops h=true) {i:Nat} (hi:i∈h.nw.toList++h.tk) {o:Oper} (ho:ops[i]?=some o) {T:TypeId} {u:Tmp} (hop:o.op=.load T (.tmp u)):o.dst≠some u:=by
 unfold dT at hc;have h1:=List.all_eq_true.1 hc i hi;rw[ho] at h1;simp only[Bool.and_eq_true] at h1;have h2:=h1.2.1;rw[hop] at h2;simpa using h2
theorem wH {act:Act} {dst:Option Tmp} {v:Value} {t:Nat} (h:dst≠some t):(act.put dst v).tmps[t]?=act.tmps[t]?:=by
 cases dst with
 | none=>rfl
 | some d=>
  have hne:d≠t:=fun e=>h (by rw[e])
  simp[Act.put,Array.getElem?_setIfInBounds_ne hne]
theorem kd {act:Act} {dst:Option Tmp} {v:Value}:(act.put dst v).tmps.size=act.tmps.size:=by
 cases dst <;> simp[Act.put]
theorem yr {listed:Array Bool} {i j:Nat} (h:(bI listed i)[j]?=some true) (hne:j≠i):listed[j]?=some true:=by
 unfold bI at h;rwa [Array.getElem?_setIfInBounds_ne (Ne.symm hne)] at h
theorem Cf {w w':World} {b off:Nat} (h:w'.heap[b]?=w.heap[b]?):w'.cell? ⟨b,off,none⟩=w.cell? ⟨b,off,none⟩:=by
 simp[World.cell?,h]
theorem A6.carry {ops:Array Oper} {h:au} {listed:Array Bool} {w w':World} {R R':Own} {N N':Name->Option Nat} {act:Act} {s s':aa} {bsT bsL bsH bsX bsF:List Nat} (bsY:List Nat) {o:Oper} {cv:Value}
  (hp:A6 E G H ops h listed w R N act s bsT bsL bsH bsX bsF)
  (hc:dT ops h=true) (hcl:eX ops listed) {i:Nat} {l:Bool} (hi:ops[i]?=some o) (hun:listed[i]?=some false) (hm:(i,l)∈h.pre) (hk:bm w R w' R' bsX) (hkL:∀n ob b,Da (aL H ops.toList h.pre) n=true->s.obj n=some ob->N n=some b->w'.heap[b]?=w.heap[b]?) (hN:∀m c,N m=some c->N' m=some c) (hlocs:∀n ob,Da (aL H ops.toList h.pre) n=true->s'.obj n=some ob->∃y,s.obj n=some y)
  (hT:∀t n off,Da (aL H ops.toList h.pre) n=true->o.dst≠some t->bn s'.tmps t=.ptr n off->bn s.tmps t=.ptr n off) :
  (∀j q t d ti,j≠i->h.nw=some j->(bI listed i)[j]?=some true->ops[j]?=some q->q.op=.alloc t->q.dst=some d->q.guard=none->E.ty t=some ti->d < (act.put o.dst cv).tmps.size->
   ∃b,b∈bsY++bsX/\(act.put o.dst cv).tmps[d]?=some (.pointer (some ⟨b,0,none⟩))/\aK w' R' N' (.cells (bj (bE ti.zero))) b []) ∧
  (∀j q T u t n off ob,j≠i->j∈h.tk->(bI listed i)[j]?=some true->ops[j]?=some q->q.op=.load T (.tmp u)->q.dst=some t->q.guard=none->bn s'.tmps u=.ptr n off->Da (aL H ops.toList h.pre) n=true->s'.obj n=some ob->
   t < (act.put o.dst cv).tmps.size->∃b v,N' n=some b/\(act.put o.dst cv).tmps[t]?=some v/\(w'.cell? ⟨b,off,none⟩=some v∨∃vs,v=.agg vs)):=by
 constructor
 ·intro j q t d ti hji hnw hl hq hop hd hg hty hlt;obtain⟨⟨d',hd',hne,_⟩,_⟩:=mh hc (i:=j) (by simp[hnw]) hq hm (Ne.symm hji) hi;rw[hd] at hd';simp at hd';subst hd';rw[kd] at hlt;obtain⟨b,h1,h2,h3⟩:=hp.nwf j q t d ti hnw (yr hl hji) hq hop hd hg hty hlt;refine⟨b,by simp[h1],by rw[wH hne];exact h2,?_⟩;exact (h3.keep (hk.sub (by intro c hc;simp at hc;subst hc;simp[h1]))).ext hN
 intro j q T u t n off ob hji htk hl hq hop hd hg hu hok hob hlt;obtain⟨⟨d',hd',hne,_⟩,h4⟩:=mh hc (i:=j) (by simp[htk]) hq hm (Ne.symm hji) hi;rw[hd] at hd';simp at hd';subst hd';have hu1:o.dst≠some u:=by
  rcases h4 T u hop with hu1|⟨e,he,hb,hon⟩
  ·exact hu1
  exfalso
  have:=hcl j q (yr hl hji) hq e he hb
  rw[hon,Array.getD_eq_getD_getElem?,hun] at this;simp at this
 have hu2:=hT u n off hok hu1 hu;rw[kd] at hlt;obtain⟨y,hob⟩:=hlocs _ _ hok hob;obtain⟨b,v,h1,h2,h3⟩:=hp.tkf j q T u t n off y htk (yr hl hji) hq hop hd hg hu2 hok hob hlt;refine⟨b,v,hN _ _ h1,by rw[wH hne];exact h2,?_⟩
 rcases h3 with h3|h3
 ·left;rw[Cf (hkL _ _ b hok hob h1)];exact h3
 exact .inr h3
theorem uQ {w w':World} {R R':Own} {N:Name->Option Nat} {os:List (Name×aM)} {bsL bs:List Nat} (hl:aj w R N os bsL) (hk:bm w R w' R' bs) (hs:∀b∈bsL,b∈bs):∀n ob b,dV n os=some ob->N n=some b->w'.heap[b]?=w.heap[b]?:=by
 intro n ob b hob hb;obtain⟨pre,b',b1,post,e1,e2,_,_⟩:=aj.split hl hob;rw[hb] at e2;simp at e2;subst e2;exact (hk.same b (hs b (by rw[e1];simp)) (hl.lt b (by rw[e1];simp))).1
theorem pc {w w':World} {R R':Own} {N:Name->Option Nat} {s:aa} {bsL bsH bs:List Nat} (hl:aj w R N s.locs bsL) (hh:aj w R (outs N) s.heap bsH) (hk:bm w R w' R' bs) (hs:∀b∈bsL,b∈bs) (hs2:∀b∈bsH,b∈bs):∀n ob b,s.obj n=some ob->N n=some b->w'.heap[b]?=w.heap[b]?:=by
 intro n ob b hob hb
 cases n with
 | loc i=>exact uQ hl hk hs _ _ _ hob hb
 | out k=>exact uQ hh hk hs2 _ _ _ hob hb
theorem LB {w:World} {R:Own} {N:Name->Option Nat} {s:aa} {bsL bsH:List Nat} (hl:aj w R N s.locs bsL) (hh:aj w R (outs N) s.heap bsH) {n:Name} {ob:aM} (h:s.obj n=some ob) :
  ∃b b1,N n=some b/\aK w R N ob b b1/\(b∈bsL∨b∈bsH):=by
 cases n with
 | loc i=>
  obtain⟨pre,b,b1,post,e1,e2,e3,_⟩:=aj.split hl h;exact⟨b,b1,e2,e3,.inl (by rw[e1];simp)⟩
 | out k=>
  obtain⟨pre,b,b1,post,e1,e2,e3,_⟩:=aj.split hh h;have hno:bC ob=true:=by
   cases ob with
   | cells cs=>obtain⟨vs,e,sp,hb,hrr,hR⟩:=e3;have:=hrr.bX;rw[iM] at this;exact this
   | map es=>rfl
  exact⟨b,b1,by simpa [outs] using e2,e3.xe hno (fun _=>rfl),.inr (by rw[e1];simp)⟩
theorem uc {a b:ac} {n:Name} {off:Nat} (h:cL a=cL b) (ha:a=.ptr n off):b=.ptr n off:=by
 subst ha
 cases b with
 | agg cs=>
  rcases jl (bh cs) with⟨ds,h'⟩|h' <;> simp[cL,h'] at h
 | _=>simp[cL] at h <;> simp[h]
theorem LH (hE:E.Ok P) {T:TypeId} {ti:TI} (hty:E.ty T=some ti) {w:World} {R:Own} {N:Name->Option Nat} {b off:Nat} {b1:List Nat} {cs:List ac} (hob:aK w R N (.cells cs) b b1) {v:ac} (hv:loadCells ti off cs=some v)
  {ρ:Operand->Value} {o:Oper} {x:Operand} (ho:o.op=.load T x) (hx:ρ x=.pointer (some ⟨b,off,none⟩)) {cv:Value} {w':World} (hran:U3 P w ρ o cv w'):w.cell? ⟨b,off,none⟩=some cv∨∃vs,cv=.agg vs:=by
 obtain⟨vs,elem,sp,hblk,hr,_⟩:=hob;replace hv:=ma (ps:=List.replicate sp .undef) hv;generalize cs++List.replicate sp .undef=cs at hr hv;obtain⟨cv0,e1,e2,e3⟩:=lZ hv hr;obtain⟨cv1,g1,g2⟩:=nf (N:=N) (P:=P) hE hty hblk hr hv;have hrun:(execOp ρ o).run P w=.ok (.value cv1) w:=by
  obtain⟨dst,op,type,pos,after,guard⟩:=o;simp only at ho;subst ho;rw[←hx] at g1;exact bQ g1
 have hcv:cv=cv1:=by
  rcases hran with h|⟨h,_⟩
  ·rw[hrun] at h;simp at h;exact h.1.symm
  rw[hrun] at h;simp at h
 subst hcv
 cases ha:ti.isAgg with
 | true=>
  right;unfold loadCells at hv;rw[ha] at hv;simp only[if_true] at hv
  split at hv
  ·simp at hv;subst hv
   rcases jl (bh (ff ti.size (jx off cs))) with⟨ds,h⟩|h
   ·rw[h] at g2;obtain⟨us,e,_⟩:=(cj g2).2;exact⟨_,e⟩
   rw[h] at g2;simp only[ai] at g2;obtain⟨us,e,_⟩:=g2;exact⟨_,e⟩
  simp at hv
 | false=>
  left;have hg:=e3 ha;have hc:w.cell? ⟨b,off,none⟩=some cv0:=by rw[cell_of_row w b off vs elem (0,0) hblk];simpa using hg
  have:(Instr.loadAt T (.pointer (some ⟨b,off,none⟩))).run P w=.ok cv0 w:=by
   simp[Instr.loadAt,Instr.sureAddr,loadVar,hE.kl hty,ha,hc]
  rw[this] at g1;simp at g1;rw[hc,g1]
theorem Hv (hE:E.Ok P) {ops:Array Oper} {h:au} (hc:dT ops h=true) {fh:Bool} {listed:Array Bool} {w:World} {R:Own} {N:Name->Option Nat} {act:Act} {s:aa} {bsT bsL bsH bsX bsF:List Nat}
  (hp:A6 E G H ops h listed w R N act s bsT bsL bsH bsX bsF) (hcl:eX ops listed) (hd:act.defers=D) {i:Nat} {o:Oper} (hi:ops[i]?=some o) (hun:listed[i]?=some false) {lone:Bool} (hm:(i,lone)∈h.pre) {a:ac} (hq:ej E G fh ops.toList o s=some a)
  {Qx:Exit->Act->World->Prop} {K:Act->World->Prop}
  (hK:∀cv w' R' bsT' bsX',A6 E G H ops h (bI listed i) w' R' N (act.put o.dst cv) (s.put o.dst a) bsT' bsL bsH bsX' bsF->bm w R w' R' bsF->K (act.put o.dst cv) w'):wpOp P ops Qx i K act w:=by
 have hlocs0:(s.put o.dst a).locs=s.locs:=(de s o.dst a).1;have hobj0:∀n,(s.put o.dst a).obj n=s.obj n:=fun n=>lz
 have hlocs:∀n ob,Da (aL H ops.toList h.pre) n=true->(s.put o.dst a).obj n=some ob->∃y,s.obj n=some y:=fun n ob _ h=>⟨ob,by rw[←hobj0];exact h⟩
 have hT:∀t n off,Da (aL H ops.toList h.pre) n=true->o.dst≠some t->bn (s.put o.dst a).tmps t=.ptr n off->bn s.tmps t=.ptr n off:=fun t n off _ ht h=>by rw[cR ht] at h;exact h
 unfold wpOp;simp only[hi];unfold ej at hq
 split at hq
 ·simp at hq
 rename_i b hw;rw[jK hp.rel.tmps hw]
 split at hq
 ·rename_i hb;subst hb;simp only[if_true];left
  split at hq
  ·
   rename_i hal
   split at hq
   ·rename_i out hop;simp at hq;subst hq;have hop':∃t,o.op=.alloc t:=by
     unfold nE at hal
     split at hal
     ·exact⟨_,by assumption⟩
     simp at hal
    obtain⟨t,hot⟩:=hop';have hops:opsL o.op=[]:=by rw[hot];rfl
    have hnd:([]++(sK none++(bsT++(bsL++(bsH++(bsX++bsF)))))).Nodup:=by simpa [sK] using hp.rel.nodup
    obtain⟨cv,w',R',hran,hkeep,hout⟩:=mV (ρ:=act.eval) (w:=w) (R:=R) (N:=N) (vals:=[]) (ob:=none) (nm:=none) (bsM:=[]) (rest:=bsT++(bsL++(bsH++(bsX++bsF)))) hE hop (by rw[hops];exact aR) (fun _=>rfl)
     (by unfold eH;rw[hot];exact⟨rfl,rfl⟩) hnd (fun _=>rfl)
    have hnew:∃ti,E.ty t=some ti/\out.eff=.new (.cells (bj (bE ti.zero))):=by
     rw[hot] at hop;simp only[jf,Jc] at hop
     split at hop
     ·rename_i ti hti
      split at hop
      ·simp at hop;exact⟨ti,hti,by rw[←hop]⟩
      simp at hop
     simp at hop
    obtain⟨ti,hti,heff⟩:=hnew;rw[heff] at hout;obtain⟨_,b1',hobj,hb1,hsz,hcv⟩:=hout;have hb1':b1'=[]:=List.eq_nil_iff_forall_not_mem.2 fun x hx=>by have:=hb1.2 x hx;simp at this
    subst hb1';simp only at hcv;refine uE hran ?_;obtain⟨bsT',hr1⟩:=Jx (a:=.undef) (cv:=cv) (bsV:=[]) [w.heap.size] o.dst hp.rel (aI _) ⟨by simp,fun b hb=>.inr (by simp at hb;omega)⟩ (by intro b hb;simp at hb;subst hb;exact hsz) hkeep;have hr2:cZ G w' R' N (act.put o.dst cv).tmps.toList (s.put o.dst .undef) undef .undef [] bsT' bsL bsH (([w.heap.size]++bsX)++bsF):=by
     simpa using hr1
    obtain⟨c1,c2⟩:=hp.carry (cv:=cv) [w.heap.size] hc hcl hi hun hm (hkeep.sub (by intro x hx;simp[hx])) (fun n ob b _=>pc hp.rel.locs hp.rel.heap hkeep (by intro x hx;simp[hx]) (by intro x hx;simp[hx]) n ob b) (fun _ _ h=>h) hlocs hT;refine hK cv w' R' bsT' ([w.heap.size]++bsX) ⟨hr2,?_,?_⟩ (hkeep.sub (by intro x hx;simp[hx]))
    ·intro j q t' d ti' hnw hl hqo hop2 hdd hg hty hlt2
     by_cases hji:j=i
     ·subst hji;rw[hi] at hqo;simp at hqo;subst hqo;rw[hot] at hop2;simp at hop2;subst hop2;rw[hti] at hty;simp at hty;subst hty;refine⟨w.heap.size,by simp,?_,hobj⟩;rw[kd] at hlt2;rw[hdd,hcv];simp[Act.put,hlt2]
     exact c1 j q t' d ti' hji hnw hl hqo hop2 hdd hg hty hlt2
    intro j q T u t' n off ob htk hl hqo hop2 hdd hg hu hok hob hlt2
    by_cases hji:j=i
    ·subst hji;rw[hi] at hqo;simp at hqo;subst hqo;rw[hot] at hop2;simp at hop2
    exact c2 j q T u t' n off ob hji htk hl hqo hop2 hdd hg hu hok hob hlt2
   simp at hq
  -- a value
  rename_i hal
  split at hq
  ·simp at hq
  split at hq
  ·split at hq
   ·rename_i out hop
    split at hq
    ·rename_i heff;simp at hq;subst hq;obtain⟨cv,w',R',bsV,hran,hv,hf,hkeep⟩:=Rj hE hop heff hp.rel;refine uE hran ?_;obtain⟨bsT',hr2⟩:=Jx [] o.dst hp.rel hv (by simpa using hf) (by simp) hkeep;rw[List.nil_append] at hr2;obtain⟨c1,c2⟩:=hp.carry (cv:=cv) [] hc hcl hi hun hm (hkeep.sub (by intro x hx;simp[hx])) (fun n ob b _=>pc hp.rel.locs hp.rel.heap hkeep (by intro x hx;simp[hx]) (by intro x hx;simp[hx]) n ob b) (fun _ _ h=>h) hlocs hT;refine hK cv w' R' bsT' bsX ⟨hr2,?_,?_⟩ (hkeep.sub (by intro x hx;simp[hx]))
     ·intro j q t' d ti' hnw hl hqo hop2 hdd hg hty hlt2
      by_cases hji:j=i
      ·subst hji;rw[hi] at hqo;simp at hqo;subst hqo;rw[hop2] at hal;simp[nE] at hal
      simpa using c1 j q t' d ti' hji hnw hl hqo hop2 hdd hg hty hlt2
     intro j q T u t' n off ob htk hl hqo hop2 hdd hg hu hok hob hlt2
     by_cases hji:j=i
     ·subst hji;rw[hi] at hqo;simp at hqo;subst hqo;have hut:o.dst≠some u:=DI hc (by simp[htk]) hi hop2;rw[cR hut] at hu;rw[hobj0] at hob;have hvals:aG G s none 0 (opsL o.op)=[.ptr n off]:=by
       rw[hop2];simp[opsL,aG,eR,hu,cL]
      rw[hvals] at hop;have hlo:aX s o.op [.ptr n off]=some ob:=by
       unfold aX;rw[hop2];simp[looks,hob]
      rw[hlo,hop2] at hop;simp only[jf,er] at hop
      split at hop
      ·rename_i ti cs hty hcs;simp at hcs;subst hcs;simp only[Bool.false_and,Bool.false_eq_true,if_false] at hop
       cases hld:loadCells ti off cs with
       | none=>rw[hld] at hop;simp[wU] at hop
       | some v=>
        obtain⟨b',b1,e2,e3,e1⟩:=LB hp.rel.locs hp.rel.heap hob;have hget:s.tmps[u]?=some (.ptr n off):=by
         unfold bn at hu
         cases hs:s.tmps[u]? with
         | none=>rw[hs] at hu;simp at hu
         | some v=>rw[hs] at hu;simp at hu;rw[hu]
        obtain⟨u1,bs',g1,g2,_⟩:=dM hp.rel.tmps hget;simp only[ai] at g2;obtain⟨_,b2,hb2,rfl⟩:=g2;rw[e2] at hb2;simp at hb2;subst hb2;have hρ:act.eval (.tmp u)=.pointer (some ⟨b',off,none⟩):=by
         simp at g1;simp[Act.eval,g1]
        have hcell:=LH hE hty e3 hld hop2 hρ hran;refine⟨b',cv,e2,?_,?_⟩
        ·rw[kd] at hlt2;rw[hdd];simp[Act.put,hlt2]
        rcases hcell with hcell|hcell
        ·left;have hsame:=pc hp.rel.locs hp.rel.heap hkeep (by intro x hx;simp[hx]) (by intro x hx;simp[hx]) _ _ _ hob e2;rw[Cf hsame];exact hcell
        exact .inr hcell
      simp at hop
     exact c2 j q T u t' n off ob hji htk hl hqo hop2 hdd hg hu hok hob hlt2
    simp at hq
   simp at hq
  simp at hq
 -- not wanted
 rename_i hb;simp at hq;subst hq;rw[if_neg hb];obtain⟨bsT',hr2⟩:=mZ hp.rel o.dst;obtain⟨c1,c2⟩:=hp.carry (cv:=undef) [] hc hcl hi hun hm (aY _) (fun _ _ _ _ _ _=>rfl) (fun _ _ h=>h) hlocs hT;have hng:o.guard≠none:=by
  intro hg;unfold dh at hw;rw[hg] at hw;simp at hw;exact hb hw
 refine hK undef w R bsT' bsX ⟨hr2,?_,?_⟩ (aY _)
 ·intro j q t' d ti' hnw hl hqo hop2 hdd hg hty hlt2
  by_cases hji:j=i
  ·subst hji;rw[hi] at hqo;simp at hqo;subst hqo;exact absurd hg hng
  simpa using c1 j q t' d ti' hji hnw hl hqo hop2 hdd hg hty hlt2
 intro j q T u t' n off ob htk hl hqo hop2 hdd hg hu hok hob hlt2
 by_cases hji:j=i
 ·subst hji;rw[hi] at hqo;simp at hqo;subst hqo;exact absurd hg hng
 exact c2 j q T u t' n off ob hji htk hl hqo hop2 hdd hg hu hok hob hlt2
end
end Go.Tp
namespace Go.Tp
section
variable {P:Program} {E:bu} {G:bw} {H:Hints} {D:List Deferred}
theorem AH (hE:E.Ok P) {c:Call} {s s2:aa} {f:FuncId} {args:List ac} (h:dL E G H c s=some (f,args,s2)) {w:World} {R:Own} {N:Name->Option Nat} {act:Act} {bsT bsL bsH bsF:List Nat}
  (hr:cZ G w R N act.tmps.toList s undef .undef [] bsT bsL bsH bsF) (o:Oper) (ho:o.op=.call c) :
  ∃cargs:List Value,(execOp act.eval o).run P w=.ok (.enter f cargs.toArray) w/\bA args=true/\∃bsA bsT',cZ G w R N act.tmps.toList s2 (.tuple cargs.toArray) (.tup args) bsA bsT' bsL bsH bsF:=by
 obtain⟨callee,cargs0,argTypes⟩:=c
 cases callee with
 | builtin _=>simp[dL] at h
 | invoke _ _=>simp[dL] at h
 | value fo=>
  simp only[dL] at h;obtain⟨bf,hfv⟩:=pA hr.tmps hr.glob fo;generalize haf:eR G s fo=af at h hfv
  split at h
  ·rename_i g first captured;simp only[ai] at hfv;obtain⟨_,vf,uf,ef,hfirst,hcap⟩:=hfv
   split at h
   ·rename_i hfn;obtain⟨fn,hf1,hf2,hf3⟩:=hE.fn g hfn;have hnd0:(bsT++(bsL++(bsH++bsF))).Nodup:=by simpa using hr.nodup
    have hops:∃(vs:List ac) (s1:aa) (bsM bsT':List Nat),(if H.moves g=true then cG G s cargs0.toList else (aG G s none 0 cargs0.toList,s))=(vs,s1) ∧
      ah w R N vs (cargs0.toList.map act.eval) bsM/\ah w R N s1.tmps act.tmps.toList bsT'/\(bsM++(bsT'++(bsL++(bsH++bsF)))).Nodup/\s1.locs=s.locs/\s1.heap=s.heap/\s1.next=s.next:=by
     split
     ·obtain⟨bsM,bsT',k1,k2,k3⟩:=kz hr.glob cargs0.toList hr.tmps hnd0;obtain⟨q1,q2,q3⟩:=fW G cargs0.toList s;exact⟨_,_,bsM,bsT',rfl,k1,k2,k3,q1,q2,q3⟩
     exact⟨_,_,[],bsT,rfl,ky hr.tmps hr.glob none 0 _ (by simp),hr.tmps,by simpa using hnd0,rfl,rfl,rfl⟩
    obtain⟨vs,s1,bsM,bsT',hpair,hvs,ht1,hnd1,q1,q2,q3⟩:=hops;rw[hpair] at h;simp only at h
    split at h
    ·rename_i hno;simp only[Option.some.injEq,Prod.mk.injEq] at h;obtain⟨rfl,rfl,rfl⟩:=h;have hall:ah w R N (first++vs++captured) (vf++cargs0.toList.map act.eval++uf) bsM:=by
      have:=cB (cB hfirst hvs) hcap
      simpa using this
     refine⟨vf++cargs0.toList.map act.eval++uf,?_,hno,bsM,bsT',⟨by simp only[ai];exact⟨_,rfl,hall⟩,ht1,by rw[q1];exact hr.locs,by rw[q2];exact hr.heap,hnd1,by rw[q3];exact hr.next,hr.glob,hr.frame⟩⟩;have hbody:fn.body.isNone=false:=by cases hb:fn.body <;> simp_all
     have hb2:¬fn.body=none:=by intro hb;simp[hb] at hbody
     have hn2:¬fn.name= "runtime.NumGoroutine":=by simpa using hf3
     simp[execOp,ho,resolve,ef,Deferred.ofValue,invoke,callFunc,hf1,hn2,hb2]
    simp at h
   simp at h
  simp at h
theorem vG:∀{os:List (Name×aM)} {n m:Name} {o x:aM},dV m (iE n o os)=some x->∃y,dV m os=some y
 | [],_,_,_,_,h=>by simp[iE,dV] at h
 |(k,y)::os,n,m,o,x,h=>by
  simp only[iE] at h
  split at h
  ·simp only[dV] at h ⊢
   split
   ·exact⟨_,rfl⟩
   rename_i hk;rw[if_neg hk] at h;exact⟨x,h⟩
  simp only[dV] at h ⊢
  split
  ·exact⟨_,rfl⟩
  rename_i hk;rw[if_neg hk] at h;exact vG h
theorem va {l:List ac} {t:Nat} {v:ac} (h:bn l t=v) (hv:v≠.undef):l[t]?=some v:=by
 unfold bn at h
 split at h
 ·rename_i x hx;rw[hx,h]
 exact absurd h.symm hv
theorem EZ {s:aa} {n m:Name} {o x:aM} (h:(s.jQ n o).obj m=some x):∃y,s.obj m=some y:=by
 cases n <;> cases m <;> simp only[aa.jQ,aa.obj] at h ⊢
 ·exact vG h
 ·exact⟨_,h⟩
 ·exact⟨_,h⟩
 exact vG h
theorem sf {fh:Bool} {ops:Array Oper} {w:World} {R:Own} {N:Name->Option Nat} {act:Act} {bsF:List Nat} :
  ∀(tk:List Nat) {s s':aa} {bsT bsL bsH:List Nat},dB fh ops.toList tk s=some s'->cZ G w R N act.tmps.toList s undef .undef [] bsT bsL bsH bsF->
   (∀i o T u t n off ob,i∈tk->ops[i]?=some o->o.op=.load T (.tmp u)->o.dst=some t->o.guard=none->bn s.tmps u=.ptr n off->Da fh n=true->s.obj n=some ob->t < act.tmps.size->
    ∃b v,N n=some b/\act.tmps[t]?=some v/\(w.cell? ⟨b,off,none⟩=some v∨∃vs,v=.agg vs))->
   ∃bsT' bsL' bsH',cZ G w R N act.tmps.toList s' undef .undef [] bsT' bsL' bsH' bsF
 | [],s,s',bsT,bsL,bsH,h,hr,_=>by simp[dB] at h;subst h;exact⟨bsT,bsL,bsH,hr⟩
 | i::r,s,s',bsT,bsL,bsH,h,hr,hf=>by
  obtain⟨o,T,u,t,n,off,cs,es,es2,ho,hop,hd,hg,hu,hok,hob,hes,ht,hrest⟩:=fY h;have ho':ops[i]?=some o:=by simpa using ho
  have hsz:act.tmps.size=s.tmps.length:=by have:=hr.tmps.length;simpa using this
  have htg:=va ht (by simp);have htl:t < act.tmps.size:=by rw[hsz];exact (List.getElem?_eq_some_iff.1 htg).1
  obtain⟨b0,v,hb0,hv,hcell⟩:=hf i o T u t n off (.cells cs) (by simp) ho' hop hd hg hu hok hob htl;obtain⟨v',bs',g1,g2,_⟩:=dM hr.tmps htg;have hvv:v'=v:=by
   have:act.tmps.toList[t]?=some v:=by simpa using hv
   rw[this] at g1;simp at g1;exact g1.symm
  subst hvv;have hsame:act.tmps.toList.set t v'=act.tmps.toList:=by
   apply List.ext_getElem?
   intro j;rw[List.getElem?_set]
   split
   ·rename_i hj;subst hj;split
    ·exact g1.symm
    rename_i hl;rw[List.getElem?_eq_none (by omega)]
   rfl
  have k2:cO off [ac.dat (.slice es)] cs=cs.set off (.dat (.slice es)):=by
   apply List.ext_getElem?
   intro j;rw[jk,List.getElem?_set]
   by_cases hj:off=j
   ·subst hj
    by_cases hl:off < cs.length
    ·rw[if_pos ⟨Nat.le_refl _,by simp,hl⟩,if_pos rfl,if_pos hl];simp
    rw[if_neg (by omega),if_pos rfl,if_neg hl];exact List.getElem?_eq_none (by omega)
   rw[if_neg (by simp;omega),if_neg hj]
  -- the object's cells, ownership gone
  have hcells:∀(M:Name->Option Nat) (b:Nat) (b1:List Nat),N n=some b->aK w R M (.cells cs) b b1->∃bt b1',iA w R v' es bt/\aK w R M (.cells (cO off [.dat (.slice es)] cs)) b b1'/\b1.Perm (bt++b1'):=by
   intro M b b1 hN hobj;rw[hN] at hb0;simp at hb0;subst hb0;obtain⟨vs,elem,sp,hblk,hrr,hR⟩:=hobj;obtain⟨pre2,bt,post2,cv,f1,f2,f3,f4⟩:=ah.split hrr (qj hes);have hcv:w.cell? ⟨b,off,none⟩=some cv:=by rw[cell_of_row w b off vs elem (0,0) hblk];simpa using f2
   have hvc:v'=cv:=by
    rcases hcell with hcell|⟨us,hus⟩
    ·rw[hcv] at hcell;simp at hcell;exact hcell.symm
    subst hus
    have:=(dr g2).2
    cases this
   subst hvc;have hset:=f4 w R (.dat (.slice es)) v' [] (aY _) (bR (d:=.slice es) (cd f3).rep);have k1:vs.toList.set off v'=vs.toList:=by
    apply List.ext_getElem?
    intro j;rw[List.getElem?_set]
    split
    ·rename_i hj;subst hj;split
     ·exact f2.symm
     rename_i hl;rw[List.getElem?_eq_none (by omega)]
    rfl
   rw[k1,List.set_append_left (h:=(List.getElem?_eq_some_iff.1 hes).1)] at hset;refine⟨bt,pre2++[]++post2,cd f3,⟨vs,elem,sp,hblk,by rw[k2];exact hset,hR.1,fun hb=>hR.2 (wE hes hb)⟩,?_⟩;subst f1;rw[List.perm_iff_count];intro q;simp only[List.count_append,List.count_nil];omega
  have hstate:∃bt bsL1 bsH1,iA w R v' es bt/\aj w R N (s.jQ n (.cells (cO off [.dat (.slice es)] cs))).locs bsL1/\aj w R (outs N) (s.jQ n (.cells (cO off [.dat (.slice es)] cs))).heap bsH1/\(bt++(bsT++(bsL1++(bsH1++bsF)))).Nodup:=by
   have h0:(bsT++(bsL++(bsH++bsF))).Nodup:=by simpa using hr.nodup
   cases n with
   | loc k=>
    obtain⟨pre,b,b1,post,e1,e2,e3,e4⟩:=aj.split hr.locs hob;obtain⟨bt,b1',q1,q2,q3⟩:=hcells N b b1 e2 e3;refine⟨bt,_,bsH,q1,e4 w R _ b1' (aY _) q2,hr.heap,?_⟩;subst e1;have hp:(bt++(bsT++((pre++(b::b1')++post)++(bsH++bsF)))).Perm (bsT++((pre++(b::b1)++post)++(bsH++bsF))):=by
     have q3':=List.perm_iff_count.1 q3;rw[List.perm_iff_count];intro q;have:=q3' q;simp only[List.count_append,List.count_cons] at this ⊢;omega
    exact hp.nodup_iff.2 h0
   | out k=>
    obtain⟨pre,b,b1,post,e1,e2,e3,e4⟩:=aj.split hr.heap hob;obtain⟨bt,b1',q1,q2,q3⟩:=hcells (outs N) b b1 (by simpa [outs] using e2) e3;refine⟨bt,bsL,_,q1,hr.locs,e4 w R _ b1' (aY _) q2,?_⟩;subst e1;have hp:(bt++(bsT++(bsL++((pre++(b::b1')++post)++bsF)))).Perm (bsT++(bsL++((pre++(b::b1)++post)++bsF))):=by
     have q3':=List.perm_iff_count.1 q3;rw[List.perm_iff_count];intro q;have:=q3' q;simp only[List.count_append,List.count_cons] at this ⊢;omega
    exact hp.nodup_iff.2 h0
  obtain⟨bt,bsL1,bsH1,q1,q2,q3,q4⟩:=hstate;obtain⟨bsT2,p1,p2⟩:=mF (a:=.own es) t hr.tmps (by simpa only[ai] using q1) q4;rw[hsame] at p1;have e5:(({s with tmps:=s.tmps.set t (.own es)}:aa).jQ n (.cells (cO off [.dat (.slice es)] cs)))={s.jQ n (.cells (cO off [.dat (.slice es)] cs)) with tmps:=s.tmps.set t (.own es)}:=by cases n <;> rfl
  rw[e5] at hrest;refine sf r hrest ⟨aI _,p1,q2,q3,by simpa using p2,by simpa only[BG] using hr.next,hr.glob,hr.frame⟩ ?_;intro i' o' T' u' t' n' off' ob' hi' ho2 hop2 hd2 hg2 hu2 hok2 hob2 hlt2;have hu3:bn s.tmps u'=.ptr n' off':=by
   by_cases hut:t=u'
   ·subst hut
    exfalso
    unfold bn at hu2;rw[List.getElem?_set_self (by rw[←hsz];exact htl)] at hu2;simp at hu2
   rwa [bG hut] at hu2
  have hob3:∃y,s.obj n'=some y:=by
   have hob2':(s.jQ n (.cells (cO off [.dat (.slice es)] cs))).obj n'=some ob':=by cases n' <;> exact hob2
   exact EZ hob2'
  obtain⟨y,hy⟩:=hob3;exact hf i' o' T' u' t' n' off' y (by simp[hi']) ho2 hop2 hd2 hg2 hu3 hok2 hy hlt2
theorem yp {fh:Bool} {all:List Oper}:∀(tk:List Nat) (s s':aa),dB fh all tk s=some s'->∀n ob,s'.obj n=some ob->∃y,s.obj n=some y
 | [],s,s',h,n,ob,hn=>by simp[dB] at h;subst h;exact⟨ob,hn⟩
 | i::r,s,s',h,n,ob,hn=>by
  obtain⟨o,T,u,t,m,off,cs,es,es2,ho,hop,hd,hg,hu,hok,hob,hes,ht,hrest⟩:=fY h;obtain⟨y,hy⟩:=yp r _ _ hrest n ob hn;obtain⟨z,hz⟩:=EZ hy;exact⟨z,by cases n <;> exact hz⟩
theorem Aw:∀{os:List (Name×aM)} {n m:Name} {o x:aM},dV m os=some x->∃y,dV m (iE n o os)=some y
 | [],_,_,_,_,h=>by simp[dV] at h
 |(k,y)::os,n,m,o,x,h=>by
  simp only[dV] at h;simp only[iE]
  split
  ·simp only[dV]
   split
   ·exact⟨_,rfl⟩
   rename_i hk;rw[if_neg hk] at h;exact⟨x,h⟩
  simp only[dV]
  split
  ·exact⟨_,rfl⟩
  rename_i hk;rw[if_neg hk] at h;exact Aw h
theorem On {s:aa} {n m:Name} {o x:aM} (h:s.obj m=some x):∃y,(s.jQ n o).obj m=some y:=by
 cases n <;> cases m <;> simp only[aa.jQ,aa.obj] at h ⊢
 ·exact Aw h
 ·exact⟨_,h⟩
 ·exact⟨_,h⟩
 exact Aw h
theorem yo {fh:Bool} {all:List Oper}:∀(tk:List Nat) (s s':aa),dB fh all tk s=some s'->∀n ob,s.obj n=some ob->∃y,s'.obj n=some y
 | [],s,s',h,n,ob,hn=>by simp[dB] at h;subst h;exact⟨ob,hn⟩
 | i::r,s,s',h,n,ob,hn=>by
  obtain⟨o,T,u,t,m,off,cs,es,es2,ho,hop,hd,hg,hu,hok,hob,hes,ht,hrest⟩:=fY h;obtain⟨y,hy⟩:=On (s:={s with tmps:=s.tmps.set t (.own es)}) (n:=m) (o:=.cells (cO off [.dat (.slice es)] cs)) (m:=n) (x:=ob) (by cases n <;> exact hn);exact yo r _ _ hrest n y hy
theorem yn {fh:Bool} {all:List Oper}:∀(tk:List Nat) (s s':aa),dB fh all tk s=some s'->∀t n off,bn s'.tmps t=.ptr n off->bn s.tmps t=.ptr n off
 | [],s,s',h,t,n,off,hn=>by simp[dB] at h;subst h;exact hn
 | i::r,s,s',h,t',n',off',hn=>by
  obtain⟨o,T,u,t,m,off,cs,es,es2,ho,hop,hd,hg,hu,hok,hob,hes,ht,hrest⟩:=fY h;have h1:=yn r _ _ hrest t' n' off' hn;rw[BF] at h1
  by_cases he:t=t'
  ·subst he
   exfalso
   have hlt:=(List.getElem?_eq_some_iff.1 (va ht (by simp))).1;unfold bn at h1;rw[List.getElem?_set_self hlt] at h1;simp at h1
  rwa [bG he] at h1
theorem Mu (hE:E.Ok P) {o:Oper} {t:Tmp} (ht:eQ o.op=some t) {s s':aa} (h:cM E G false false o s=some s') {w:World} {R:Own} {N:Name->Option Nat} {act:Act} {bsT bsL bsH bsF:List Nat}
  (hr:cZ G w R N act.tmps.toList s undef .undef [] bsT bsL bsH bsF) :
  ∃cv w' R' bsT',U3 P w act.eval o cv w'/\cZ G w' R' N (act.put o.dst cv).tmps.toList s' undef .undef [] bsT' bsL bsH bsF/\bm w R w' R' (bsL++(bsH++bsF)):=by
 unfold cM at h;have hnd0:(bsT++(bsL++(bsH++bsF))).Nodup:=by simpa using hr.nodup
 obtain⟨bsM,bsT',ha,ht',hnd,hmv⟩:=qu hr.tmps hr.glob (jS false o.op) (opsL o.op) (bsL++(bsH++bsF)) hnd0
 split at h
 ·simp at h
 rename_i out hop;obtain⟨hk,hl⟩:=pM ht hop;have hlo:aX s o.op (aG G s (jS false o.op) 0 (opsL o.op))=none:=by unfold aX;rw[hl]
 rw[hlo] at hop;have hlk:eH w R N o.op (aG G s (jS false o.op) 0 (opsL o.op)) none none:=by unfold eH;rw[hl];exact⟨rfl,rfl⟩
 obtain⟨cv,w',R',hran,hkeep,hout⟩:=mV (rest:=bsT'++(bsL++(bsH++bsF))) hE hop ha (fun h=>hmv (by unfold jS;simp[h])) hlk (by simpa [sK] using hnd) (fun _=>rfl);rw[hk] at hout;obtain⟨bsV,hv,hf,_,_⟩:=hout;simp only[dK,hk,Option.some.injEq] at h;subst h;obtain⟨dl1,dl2,dl3⟩:=qq s (jS false o.op) (opsL o.op);have hlt:∀b∈bsT'++(bsL++(bsH++bsF)),b < w.heap.size:=fun b hb=>by
  simp at hb
  rcases hb with h|h|h|h
  ·exact ht'.lt b h
  ·exact hr.locs.lt b h
  ·exact hr.heap.lt b h
  exact hr.frame b h
 have hndV:(bsV++(bsT'++(bsL++(bsH++bsF)))).Nodup:=fB hnd hlt hf;obtain⟨bsT2,hp1,hp2⟩:=fK o.dst (ht'.keep (hkeep.sub (by intro b hb;simp[hb]))) hv hndV;obtain⟨q1,q2,q3⟩:=de (bF s (jS false o.op) (opsL o.op)) o.dst out.val;refine⟨cv,w',R',bsT2,hran,⟨aI _,?_,?_,?_,by simpa using hp2,?_,fun g cs hg=>(hr.glob g cs hg).step hkeep.step,fun b hb=>Nat.lt_of_lt_of_le (hr.frame b hb) hkeep.step.size⟩,hkeep.sub (by intro b hb;simp at hb;simp;exact .inr hb)⟩
 ·rw[(fP act o.dst cv).1];exact hp1
 ·rw[q1,dl1];exact hr.locs.keep (hkeep.sub (by intro b hb;simp[hb]))
 ·rw[q2,dl2];exact hr.heap.keep (hkeep.sub (by intro b hb;simp[hb]))
 rw[q3,dl3];exact hr.next
theorem WH (hE:E.Ok P) {ops:Array Oper} {h:au} (hc:dT ops h=true) (hca:nV ops h=true) (hcst:gu ops h=true) {listed:Array Bool} {w:World} {R:Own} {N:Name->Option Nat} {act:Act} {s:aa} {bsT bsL bsH bsX bsF:List Nat}
  (hp:A6 E G H ops h listed w R N act s bsT bsL bsH bsX bsF) (hcl:eX ops listed) (hd:act.defers=D) {i:Nat} {o:Oper} (hi:ops[i]?=some o) (hun:listed[i]?=some false) (hm:(i,true)∈h.pre) (hrd:i∈Region.ready .any ops listed) {K:aa->Prop} (hnq:¬(cY o.op=none/\eQ o.op=none/\ib o.op=false/\dh ops.toList s o.guard=some true)) (hq:JT (aD P G) E G H (aL H ops.toList h.pre) h.tk ops.toList o K s)
  {Qx:Exit->Act->World->Prop} {Kx:Act->World->Prop}
  (hK:∀s' cv w' R' N' bsT' bsL' bsH',K s'->A6 E G H ops h (bI listed i) w' R' N' (act.put o.dst cv) s' bsT' bsL' bsH' bsX bsF->bm w R w' R' bsF->(∀o b,N (.out o)=some b->N' (.out o)=some b)->Kx (act.put o.dst cv) w'):wpOp P ops Qx i Kx act w:=by
 have hself:∀{s':aa} {cv:Value} {w':World} {R':Own} {N':Name->Option Nat} {bsT' bsL' bsH':List Nat},cZ G w' R' N' (act.put o.dst cv).tmps.toList s' undef .undef [] bsT' bsL' bsH' (bsX++bsF)->bm w R w' R' bsX->(∀n ob b,Da (aL H ops.toList h.pre) n=true->s.obj n=some ob->N n=some b->w'.heap[b]?=w.heap[b]?)->
   (∀m c,N m=some c->N' m=some c)->(∀n ob,Da (aL H ops.toList h.pre) n=true->s'.obj n=some ob->∃y,s.obj n=some y)->(∀t n off,Da (aL H ops.toList h.pre) n=true->o.dst≠some t->bn s'.tmps t=.ptr n off->bn s.tmps t=.ptr n off)->
   (o.guard≠none∨∃c,o.op=.call c)->A6 E G H ops h (bI listed i) w' R' N' (act.put o.dst cv) s' bsT' bsL' bsH' bsX bsF:=by
  intro s' cv w' R' N' bsT' bsL' bsH' hr2 hk hkL hN hlocs hT hwhy;obtain⟨c1,c2⟩:=hp.carry (cv:=cv) [] hc hcl hi hun hm hk hkL hN hlocs hT;refine⟨hr2,?_,?_⟩
  ·intro j q t' d ti' hnw hl hqo hop2 hdd hg hty hlt2
   by_cases hji:j=i
   ·subst hji;rw[hi] at hqo;simp at hqo;subst hqo
    rcases hwhy with hwhy|⟨c,hcc⟩
    ·exact absurd hg hwhy
    rw[hop2] at hcc;simp at hcc
   simpa using c1 j q t' d ti' hji hnw hl hqo hop2 hdd hg hty hlt2
  intro j q T u t' n off ob htk hl hqo hop2 hdd hg hu hok hob hlt2
  by_cases hji:j=i
  ·subst hji;rw[hi] at hqo;simp at hqo;subst hqo
   rcases hwhy with hwhy|⟨c,hcc⟩
   ·exact absurd hg hwhy
   rw[hop2] at hcc;simp at hcc
  exact c2 j q T u t' n off ob hji htk hl hqo hop2 hdd hg hu hok hob hlt2
 unfold wpOp;simp only[hi];unfold JT at hq
 split at hq
 ·exact hq.elim
 rename_i b hw;rw[jK hp.rel.tmps hw]
 split at hq
 ·rename_i hb;subst hb;simp only[if_true];left
  split at hq
  ·rename_i c hcc;have hop:=uT hcc
   split at hq
   ·rename_i f args s2 hcal;obtain⟨cargs,hrun,hno,bsA,bsT2,hr2⟩:=AH hE hcal hp.rel o hop;obtain⟨hsim,hlocs2⟩:=mw hcal
    cases hpu:gL H o with
    | true=>
     rw[hpu] at hq;refine wT hrun hr2 hno hd hq ?_;intro v cv n w' R' N' bsT' hKs hr4 hk hext _;refine hK _ cv w' R' N' bsT' bsL bsH hKs (hself hr4 (hk.sub (by intro x hx;simp[hx])) ?_ hext ?_ ?_ (.inr ⟨c,hop⟩)) (hk.sub (by intro x hx;simp[hx])) (fun o b h=>hext _ _ h)
     ·intro n ob b _ hob hb;exact pc hp.rel.locs hp.rel.heap hk (by intro x hx;simp[hx]) (by intro x hx;simp[hx]) n ob b hob hb
     ·intro n ob _ hn;rw[lz] at hn;have e2:=my hcal
      cases n with
      | loc k=>simp only[aa.obj] at hn ⊢;exact⟨ob,by rw[←hlocs2];exact hn⟩
      | out k=>simp only[aa.obj] at hn ⊢;exact⟨ob,by rw[←e2];exact hn⟩
     intro t n off _ ht hn;rw[cR ht] at hn;exact uc (hsim t) hn
    | false=>
    rw[hpu] at hq;refine Ak hrun hr2 hno hd (hq.mono fun v heap n hx b1 b2=>(hx b1 b2).2) ?_;intro v cv heap n w' R' N' bsT' bsH' hKs hr4 hk hext _;have hfh:=ou (all:=ops.toList) hm (by simpa using hi) hcc hpu;have hloc:∀n,Da (aL H ops.toList h.pre) n=true->∃k,n=.loc k:=by
     intro n hn
     cases n with
     | loc k=>exact⟨k,rfl⟩
     | out k=>rw[hfh] at hn;simp[Da] at hn
    refine hK _ cv w' R' N' bsT' bsL bsH' hKs (hself hr4 (hk.sub (by intro x hx;simp[hx])) ?_ hext ?_ ?_ (.inr ⟨c,hop⟩)) (hk.sub (by intro x hx;simp[hx])) (fun o b h=>hext _ _ h)
    ·intro n ob b hn hob hb;obtain⟨k,rfl⟩:=hloc n hn;exact uQ hp.rel.locs hk (by intro x hx;simp[hx]) _ ob b hob hb
    ·intro n ob hok hn;obtain⟨k,rfl⟩:=hloc n hok;rw[lz] at hn;simp only[aa.obj] at hn ⊢;exact⟨ob,by rw[←hlocs2];exact hn⟩
    intro t n off _ ht hn;rw[cR ht] at hn;exact uc (hsim t) hn
   exact hq.elim
  split at hq
  ·rename_i t ht
   split at hq
   ·rename_i s1 hs1
    split at hq
    ·rename_i s' hs';obtain⟨c,_,hop,_,_⟩:=nZ ht
     -- the loads by which it owns have come up
     have hlisted:∀k∈fV ops.toList t (ln h.tk t s),listed[k]?=some true:=by
      intro k hk;unfold nV at hca;have h1:=List.all_eq_true.1 hca (i,true) hm;simp only[hi,ht] at h1;have h2:=List.all_eq_true.1 h1 k (mB hk);obtain⟨e,he1,he2⟩:=Array.any_eq_true'.1 h2;simp only[Bool.and_eq_true,beq_iff_eq] at he2;obtain⟨_,o',ho',hafter⟩:=mem_ready.1 hrd;rw[hi] at ho';simp at ho';subst ho';have h3:=hafter e he1 he2.1;rw[he2.2] at h3;rw[Array.getD_eq_getD_getElem?] at h3
      cases hg:listed[k]? with
      | none=>rw[hg] at h3;simp at h3
      | some b=>rw[hg] at h3;simp at h3;rw[h3]
     obtain⟨bsT1,bsL1,bsH1,hr1⟩:=sf _ hs1 hp.rel (fun k o' T u t' n off ob hk ho' hop' hd' hg' hu' hok' hob' hlt'=>hp.tkf k o' T u t' n off ob (kg (mB hk)).1 (hlisted k hk) ho' hop' hd' hg' hu' hok' hob' hlt');obtain⟨cv,w',R',bsT',hran,hr2,hkeep⟩:=Mu hE ht hs' hr1;refine uE hran ?_;obtain⟨v,he,_⟩:=tO ht hs';refine hK s' cv w' R' N bsT' bsL1 bsH1 hq (hself hr2 (hkeep.sub (by intro x hx;simp[hx])) ?_ (fun _ _ h=>h) ?_ ?_ (.inr ⟨c,hop⟩)) (hkeep.sub (by intro x hx;simp[hx])) (fun _ _ h=>h)
     ·intro n ob b _ hob hb;obtain⟨y,hy⟩:=yo _ _ _ hs1 n ob hob;exact pc hr1.locs hr1.heap hkeep (by intro x hx;simp[hx]) (by intro x hx;simp[hx]) n y b hy hb
     ·intro n ob _ hn;rw[he,lz] at hn;exact yp _ _ _ hs1 n ob (by cases n <;> exact hn)
     intro t' n off _ ht' hn;rw[he,cR ht'] at hn;have e1:=ka (s:=s1) (x:=.tmp t) t';simp only[bF,List.getElem?_cons_zero] at e1;exact yn _ _ _ hs1 t' _ _ (uc e1 hn)
    exact hq.elim
   exact hq.elim
  split at hq
  ·rename_i hst
   split at hq
   ·rename_i s' hs';unfold gu at hcst;have g1:=List.all_eq_true.1 hcst (i,true) hm;simp only[hi,hst,Bool.not_true,Bool.false_or,Bool.and_eq_true,Option.isNone_iff_eq_none,List.isEmpty_iff] at g1;obtain⟨⟨⟨hnw,htk⟩,_⟩,_⟩:=g1;obtain⟨cv,w',hran,⟨R',N',bsT',bsL',bsH',hr',hk',hN',_⟩,_⟩:=pK hE hs' hp.rel;refine uE hran (hK s' cv w' R' N' bsT' bsL' bsH' hq ⟨hr',?_,?_⟩ (hk'.sub (by intro x hx;simp[hx])) hN')
    ·intro j q t' d ti' hj;rw[hnw] at hj;simp at hj
    intro j q T u t' n off ob hj;rw[htk] at hj;simp at hj
   exact hq.elim
  rename_i hst;exact (hnq ⟨by assumption,by assumption,hst,hw⟩).elim
 rename_i hb;rw[if_neg hb];have hng:o.guard≠none:=by
  intro hg;unfold dh at hw;rw[hg] at hw;simp at hw;exact hb hw
 obtain⟨bsT',hr2⟩:=mZ hp.rel o.dst;exact hK _ undef w R N bsT' bsL bsH hq (hself hr2 (aY _) (fun _ _ _ _ _ _=>rfl) (fun _ _ h=>h) (fun n ob _ hn=>⟨ob,by rw[lz] at hn;exact hn⟩) (fun t n off _ ht hn=>by rw[cR ht] at hn;exact hn) (.inl hng)) (aY _) (fun _ _ h=>h)
def nc (E:bu) (all:List Oper) (mk:Option Nat) (s:aa):Option aa:=
 match mk with
 | none=>some s
 | some i=>(match all[i]? with
  | some o=>(match o.op,o.dst,o.guard with
   | .alloc t,some d,none=>(match E.ty t with
    | some ti=>if eD (bj (bE ti.zero))=true/\aV (.loc d) (bj (bE ti.zero))=false/\d < s.tmps.length then some (newObj s d (.cells (bj (bE ti.zero)))) else none
    | none=>none)
   | _,_,_=>none)
  | none=>none)
theorem EA {all:List Oper} {nw:Option Nat} {s s':aa} (h:gY E all nw s=some s'):nc E all nw s=some s':=by
 unfold gY at h;unfold nc
 cases nw with
 | none=>exact h
 | some i=>
  dsimp only at h ⊢
  cases hi:all[i]? with
  | none=>rw[hi] at h;simp at h
  | some o=>
   rw[hi] at h;dsimp only at h ⊢
   split at h
   ·rename_i t d hop hd hg;rw[hop,hd,hg];dsimp only
    cases hty:E.ty t with
    | none=>rw[hty] at h;simp at h
    | some ti=>
     rw[hty] at h;dsimp only at h ⊢
     split at h
     ·rename_i hc;rw[if_pos ⟨hc.1,hc.2.1,hc.2.2.1⟩];exact h
     simp at h
   simp at h
theorem lY {n:Name}:∀{l:List ac} {t:Nat} {v:ac},aV n l=false->l[t]?=some v->mentions n v=false
 | [],_,_,_,h=>by simp at h
 | a::l,0,v,h,hv=>by simp only[aV,Bool.or_eq_false_iff] at h;simp at hv;rw[←hv];exact h.1
 | a::l,t+1,v,h,hv=>by simp only[aV,Bool.or_eq_false_iff] at h;exact lY h.2 (by simpa using hv)
theorem uH {n:Name}:∀{l:List ac} {t:Nat},(∀v,l[t]?=some v->mentions n v=false)->(di n l)[t]?=l[t]?
 | [],_,_=>rfl
 | a::l,0,h=>by simp[di,h a rfl]
 | a::l,t+1,h=>by simp only[di,List.getElem?_cons_succ];exact uH (fun v hv=>h v (by simpa using hv))
theorem BI {n:Name} {l:List ac} {d:Nat} {a:ac} (h:aV n (l.set d a)=false) {t:Nat} (ht:t≠d):(di n l)[t]?=l[t]?:=
 uH fun v hv=>lY h (by rw[List.getElem?_set_ne (Ne.symm ht)];exact hv)
theorem Lt {n:Name} {l:List ac} {d:Nat} {a:ac} (h:aV n (l.set d a)=false):(di n l).set d a=l.set d a:=by
 apply List.ext_getElem?
 intro t
 by_cases ht:t=d
 ·subst ht;rw[List.getElem?_set_self',List.getElem?_set_self']
  have:=BJ n l
  by_cases hl:t < l.length
  ·rw[List.getElem?_eq_getElem hl,List.getElem?_eq_getElem (by omega)];rfl
  rw[List.getElem?_eq_none (by omega),List.getElem?_eq_none (by omega)]
 rw[List.getElem?_set_ne (Ne.symm ht),List.getElem?_set_ne (Ne.symm ht)];exact BI h ht
theorem Hw {n:Name} {l:List ac} (h:aV n l=false):di n l=l:=by
 apply List.ext_getElem?
 intro t;exact uH fun v hv=>lY h hv
theorem EB {ops:Array Oper} {nw:Option Nat} {s s2:aa} {d:Tmp} {a:ac} (h:gY E ops.toList nw (s.put (some d) a)=some s2) (hnd:pd ops nw≠some d) :
  ∃s2',nc E ops.toList nw s=some s2'/\s2=s2'.put (some d) a/\∀x,x≠d->pd ops nw≠some x->bn s2'.tmps x=bn s.tmps x:=by
 unfold gY at h;unfold nc
 cases nw with
 | none=>simp at h;exact⟨s,rfl,h.symm,fun _ _ _=>rfl⟩
 | some i=>
  dsimp only at h ⊢
  cases hi:ops.toList[i]? with
  | none=>rw[hi] at h;simp at h
  | some o=>
   rw[hi] at h;dsimp only at h ⊢
   split at h
   ·rename_i t dn hop hd hg;rw[hop,hd,hg];have hns:pd ops (some i)=some dn:=by
     unfold pd
     have:ops[i]?=some o:=by simpa using hi
     simp only[this,hd]
    rw[hns] at hnd;have hdn:dn≠d:=fun e=>hnd (by rw[e])
    dsimp only
    cases hty:E.ty t with
    | none=>rw[hty] at h;simp at h
    | some ti=>
     rw[hty] at h;dsimp only at h ⊢
     split at h
     ·rename_i hc;have hm:aV (.loc dn) (s.tmps.set d a)=false:=hc.2.2.2;rw[if_pos ⟨hc.1,hc.2.1,by simpa [aa.put] using hc.2.2.1⟩];simp only[Option.some.injEq] at h;refine⟨_,rfl,?_,?_⟩
      ·rw[←h];simp only[newObj,aa.put];rw[Hw hm,List.set_comm _ _ hdn,Lt hm]
      intro x hx hxn;rw[hns] at hxn;simp only[newObj];rw[bG (fun e=>hxn (by rw[e]))];unfold bn;rw[BI hm hx]
     simp at h
   simp at h
theorem LK {fh:Bool} {all:List Oper} {oi oj:Oper} {x d:Tmp} {a:ac} (ha:iT oi oj=true) (hx:opsL oi.op=[.tmp x]) (hd:oi.dst=some d) {s s2':aa} {K:aa->Prop} (hq:ej E G fh all oi s=some a) (hxe:bn s2'.tmps x=bn s.tmps x)
  (h:mr (aD P G) E G H all oj K (s2'.put (some d) a)) :
  ∃s3',cM E G (readOnly H.moves all oj) (lp H all oj) oj s2'=some s3'/\cM E G true false oi s3'=some (s3'.put (some d) a)/\K (s3'.put (some d) a):=by
 unfold iT at ha;simp only[Bool.and_eq_true,Bool.or_eq_true,Option.isNone_iff_eq_none] at ha;obtain⟨⟨⟨⟨g1,g2⟩,g3⟩,g4⟩,g5⟩:=ha;have hof:cY oi.op=none/\nE oi.op=false/\(∀vals,looks oi.op vals=none)/\(opsL oj.op).any (dv x)=false/\(opsL oj.op).any (dv d)=false/\oj.dst≠some x/\oj.dst≠some d:=by
  split at g5
  ·rename_i y k d' e1 e2;rw[e1] at hx ⊢;simp[opsL] at hx;subst hx;rw[hd] at e2;simp at e2;subst e2;simp only[Bool.and_eq_true,Bool.not_eq_true',bne_iff_ne] at g5;exact⟨rfl,rfl,fun _=>rfl,g5.1.1.1,g5.1.1.2,g5.1.2,g5.2⟩
  ·rename_i y d' e1 e2;rw[e1] at hx ⊢;simp[opsL] at hx;subst hx;rw[hd] at e2;simp at e2;subst e2;simp only[Bool.and_eq_true,Bool.not_eq_true',bne_iff_ne] at g5;exact⟨rfl,rfl,fun _=>rfl,g5.1.1.1,g5.1.1.2,g5.1.2,g5.2⟩
  simp at g5
 obtain⟨hc,hal,hl,h1,h2,hpx,hpd⟩:=hof;unfold mr at h;simp only[g2,dh,g4,if_true] at h
 split at h
 ·rename_i s3 hs3;obtain⟨v,k1,k2⟩:=nY g3 hs3;have k1:=k1 s2'.tmps (by
   intro t ht;have htd:d≠t:=fun e=>by rw[←e,h2] at ht;simp at ht
   simp only[aa.put];rw[bG htd])
  have hst:({(s2'.put (some d) a) with tmps:=s2'.tmps }:aa)=s2':=rfl;rw[hst] at k1;have hs3e:s3=({s3 with tmps:=gQ (fI s2'.tmps (jS (readOnly H.moves all oj) oj.op) (opsL oj.op)) oj.dst v }:aa).put (some d) a:=by
   obtain⟨t3,l3,h3,n3⟩:=s3;simp only[aa.put] at k2 ⊢;rw[k2,mP h2,nQ hpd]
  refine⟨_,k1,?_,by rw[←hs3e];exact h⟩;unfold ej at hq;simp only[g1,dh,if_true,hal,Bool.false_eq_true,if_false,hc] at hq
  split at hq
  ·split at hq
   ·rename_i out hout
    split at hq
    ·rename_i hk;simp only[Option.some.injEq] at hq;have hla:∀s4:aa,∀vals,aX s4 oi.op vals=none:=fun s4 vals=>by unfold aX;rw[hl]
     rw[hla] at hout;have hgx:bn (gQ (fI s2'.tmps (jS (readOnly H.moves all oj) oj.op) (opsL oj.op)) oj.dst v) x=bn s.tmps x:=by rw[rL hpx,iq h1,hxe]
     have hv:aG G ({s3 with tmps:=gQ (fI s2'.tmps (jS (readOnly H.moves all oj) oj.op) (opsL oj.op)) oj.dst v }:aa) none 0 (opsL oi.op)=aG G s none 0 (opsL oi.op):=by
      rw[hx];simp only[aG,eR,hgx]
     have hm:jS true oi.op=none:=rfl;unfold cM;rw[hm,hv,hla,hout];simp only[dK,hk,bF,hd,hq]
    simp at hq
   simp at hq
  simp at hq
 exact h.elim
theorem Jn (hE:E.Ok P) (ops:Array Oper) {i:Nat} {o:Oper} (hi:ops[i]?=some o) (hg:o.guard=none) {q take:Bool} {s s':aa} (hst:cM E G q take o s=some s') {Qx:Exit->Act->World->Prop}
  {w:World} {R:Own} {N:Name->Option Nat} {act:Act} {bsT bsL bsH bsF:List Nat} (hr:cZ G w R N act.tmps.toList s undef .undef [] bsT bsL bsH bsF) (hd:act.defers=D) :
  wpOp P ops Qx i (Rp G D (fun s1=>s1=s') w R N bsF) act w:=by
 unfold wpOp;simp only[hi];have hwt:=jK (ops:=ops) (o:=o) (b:=true) hr.tmps (by rw[hg];rfl);rw[hwt,if_pos rfl];left;obtain⟨cv,w',hran,⟨R',N',bsT',bsL',bsH',hr',hk',hN',_⟩,_⟩:=pK hE hst hr;exact uE hran ⟨s',R',N',bsT',bsL',bsH',rfl,hr',by rw[(fP act o.dst cv).2];exact hd,hk',fun o b h=>hN' _ _ h⟩
theorem sh {ops:Array Oper} {w:World} {R:Own} {N:Name->Option Nat} {act:Act} {bsT bsL bsH bsX bsF:List Nat} {nw:Option Nat} {s s':aa} (h:nc E ops.toList nw s=some s')
  (hr:cZ G w R N act.tmps.toList s undef .undef [] bsT bsL bsH (bsX++bsF))
  (hf:∀i o t d ti,nw=some i->ops[i]?=some o->o.op=.alloc t->o.dst=some d->o.guard=none->E.ty t=some ti->d < act.tmps.size->
   ∃b,b∈bsX/\act.tmps[d]?=some (.pointer (some ⟨b,0,none⟩))/\aK w R N (.cells (bj (bE ti.zero))) b []) :
  ∃N' bsT' bsL',cZ G w R N' act.tmps.toList s' undef .undef [] bsT' bsL' bsH bsF/\∀k,N' (.out k)=N (.out k):=by
 cases nw with
 | none=>
  simp[nc] at h;subst h;refine⟨N,bsT,bsL,⟨hr.val,hr.tmps,hr.locs,hr.heap,?_,hr.next,hr.glob,fun b hb=>hr.frame b (by simp[hb])⟩,fun _=>rfl⟩;refine List.Nodup.sublist ?_ hr.nodup;exact List.Sublist.append (.refl _) (List.Sublist.append (.refl _) (List.Sublist.append (.refl _) (List.Sublist.append (.refl _) (List.sublist_append_right _ _))))
 | some i=>
  simp only[nc] at h
  split at h
  ·rename_i o ho
   split at h
   ·rename_i t d hop hd hg
    split at h
    ·rename_i ti hti
     split at h
     ·rename_i hcond;simp at h;subst h;have hsz:act.tmps.size=s.tmps.length:=by have:=hr.tmps.length;simpa using this
      obtain⟨b,hbX,hdt,hobj⟩:=hf i o t d ti rfl (by simpa using ho) hop hd hg hti (by rw[hsz];exact hcond.2.2);have hN:∀m,m≠Name.loc d->bV N (.loc d) b m=N m:=fun m hm=>by simp[bV,hm]
      obtain⟨bsT2,t1,t2⟩:=ah.oU hN hr.tmps;obtain⟨bsL2,l1,l2⟩:=aj.oU hN hr.locs;have hob2:aK w R (bV N (.loc d) b) (.cells (bj (bE ti.zero))) b []:=ng hobj (fun cs hcs=>by simp at hcs;subst hcs;exact hcond.2.1);have hH2:aj w R (outs (bV N (.loc d) b)) s.heap bsH:=hr.heap.sF (fun k=>by simp[bV]);have hpv:ai w R (bV N (.loc d) b) (.ptr (.loc d) 0) (.pointer (some ⟨b,0,none⟩)) []:=by simp[ai,bV]
      have hnd3:([]++(bsT2++((b::([]++bsL2))++(bsH++bsF)))).Nodup:=by
       have h0:=hr.nodup;obtain⟨x1,x2,e⟩:=List.append_of_mem hbX;subst e;have h1:(b::(bsT++(bsL++(bsH++bsF)))).Nodup:=by
        have hp:([]++(bsT++(bsL++(bsH++((x1++b::x2)++bsF))))).Perm ((x1++x2)++(b::(bsT++(bsL++(bsH++bsF))))):=by
         rw[List.perm_iff_count];intro q;simp only[List.count_append,List.count_cons,List.count_nil];omega
        exact (List.nodup_append.1 (hp.nodup_iff.1 h0)).2.1
       have hp:([]++(bsT2++((b::([]++bsL2))++(bsH++bsF)))).Perm (b::(bsT2++(bsL2++(bsH++bsF)))):=by rw[List.perm_iff_count];intro q;simp only[List.count_append,List.count_cons,List.count_nil];omega
       refine hp.nodup_iff.2 (List.Nodup.sublist ?_ h1);exact (List.Sublist.append t2 (List.Sublist.append l2 (.refl _))).cons_cons _
      obtain⟨bsT'',hp1,hp2⟩:=mF d t1 hpv hnd3;have hdt':act.tmps.toList[d]?=some (.pointer (some ⟨b,0,none⟩)):=by simpa using hdt
      have hsame:act.tmps.toList.set d (.pointer (some ⟨b,0,none⟩))=act.tmps.toList:=by
       apply List.ext_getElem?
       intro j;rw[List.getElem?_set]
       split
       ·rename_i hj;subst hj;split
        ·exact hdt'.symm
        rename_i hl;rw[List.getElem?_eq_none (by omega)]
       rfl
      rw[hsame] at hp1;refine⟨bV N (.loc d) b,bsT'',b::([]++bsL2),⟨aI _,?_,?_,?_,by simpa using hp2,?_,hr.glob,fun x hx=>hr.frame x (by simp[hx])⟩,fun k=>by simp[bV]⟩
      ·simp only[newObj,zf];exact hp1
      ·simp only[newObj];exact⟨b,[],bsL2,rfl,by simp[bV],hob2,l1⟩
      ·simp only[newObj];exact hH2
      intro k c hk;simp[bV] at hk;simp only[newObj];exact hr.next k c hk
     simp at h
    simp at h
   simp at h
  simp at h
theorem qU {ops:Array Oper}:∀(r:List (Nat×Bool)) (l:Array Bool),nU ops r l=true->l.size=ops.size->∀x∈r,(eA r l)[x.1]?=some true
 | [],_,_,_,x,hx=>by simp at hx
 |(i,lone)::r,l,hc,hsz,x,hx=>by
  simp only[nU,Bool.and_eq_true] at hc
  rcases List.mem_cons.1 hx with rfl|hx
  ·simp only[eA]
   apply lA
   have hrd:i∈Region.ready .any ops l:=by
    cases lone
    ·have:=hc.1;simp at this;simpa using this.1
    have:=hc.1;simp at this;rw[this];simp
   obtain⟨_,o,ho,_⟩:=mem_ready.1 hrd;have hlt:i < l.size:=by rw[hsz];exact (Array.getElem?_eq_some_iff.1 ho).1
   simp[bI,hlt]
  exact qU r (bI l i) hc.2 (by simpa [bI] using hsz) x hx
theorem wJ (hE:E.Ok P) {ops:Array Oper} {h:au} (hc:dT ops h=true) (hca:nV ops h=true) (hcst:gu ops h=true) {p:Array Bool} {Q:aa->Prop} {Kx:Exit->Act->World->Prop} (hall:∀x∈h.pre,p[x.1]?=some true) (htail:iu ops h.tail p=true) :
  ∀(fuel F:Nat) (listed:Array Bool) (s:aa),fuel+h.tail.length<=F->listed.size=ops.size->eX ops listed->
   pU P E G H ops h p (fun s1=>match gY E ops.toList h.nw s1 with
    | some s2=>mq (aD P G) E G H ops.toList Q (dN ops.toList h.tail) s2
    | none=>False) fuel listed s->
   ∀(w:World) (R:Own) (N:Name->Option Nat) (act:Act) (bsT bsL bsH bsX bsF:List Nat),A6 E G H ops h listed w R N act s bsT bsL bsH bsX bsF->act.defers=D->
   (∀a' w',Rp G D Q w R N bsF a' w'->Kx .normal a' w')->wpAny P .any ops Kx F listed act w:=by
 have hfin:∀(F:Nat) (s:aa),h.tail.length<=F->(match gY E ops.toList h.nw s with
    | some s2=>mq (aD P G) E G H ops.toList Q (dN ops.toList h.tail) s2
    | none=>False)->
   ∀(w:World) (R:Own) (N:Name->Option Nat) (act:Act) (bsT bsL bsH bsX bsF:List Nat),A6 E G H ops h p w R N act s bsT bsL bsH bsX bsF->act.defers=D->
   (∀a' w',Rp G D Q w R N bsF a' w'->Kx .normal a' w')->wpAny P .any ops Kx F p act w:=by
  intro F s hF hT w R N act bsT bsL bsH bsX bsF hp hd hK;have hin:∀i,i∈h.nw.toList++h.tk->p[i]?=some true:=by
   intro i hi;unfold dT at hc;have h1:=List.all_eq_true.1 hc i hi;simp only[Bool.and_eq_true] at h1;exact hall (i,false) (by simpa using h1.1)
  split at hT
  ·rename_i s3 hs3;obtain⟨N3,bsT3,bsL3,hr3,hN3⟩:=sh (EA hs3) hp.rel (fun i o t d ti hi ho hop hd hg hty hlt=>hp.nwf i o t d ti hi (hin i (by simp[hi])) ho hop hd hg hty hlt);exact lM hE ops Q Kx h.tail p F s3 htail hF hT w R N3 act bsT3 bsL3 bsH bsF hr3 hd (fun a' w' h'=>hK a' w' (h'.trans (aY _) (fun o b hb=>by rw[hN3];exact hb)))
  exact hT.elim
 have lateCase:∀{fuel:Nat} (F:Nat) (listed:Array Bool) (s:aa),fuel+1+h.tail.length<=F->listed.size=ops.size->eX ops listed->∀(i:Nat) (oi:Oper) (a:ac),bI listed i=p->nC ops h p i=true->ops[i]?=some oi->(i,false)∈h.pre->
   i∈Region.ready .any ops listed->ej E G (aL H ops.toList h.pre||quietAt H ops.toList h.pre i) ops.toList oi s=some a->
   (match gY E ops.toList h.nw (s.put oi.dst a) with
    | some s2=>mq (aD P G) E G H ops.toList Q (dN ops.toList h.tail) s2
    | none=>False)->
   ∀(w:World) (R:Own) (N:Name->Option Nat) (act:Act) (bsT bsL bsH bsX bsF:List Nat),A6 E G H ops h listed w R N act s bsT bsL bsH bsX bsF->act.defers=D->
   (∀a' w',Rp G D Q w R N bsF a' w'->Kx .normal a' w')->wpAny P .any ops Kx F listed act w:=by
  intro fuel F listed s hF hsz hcl i oi a hpe hlt hoi hm hri hq hT w R N act bsT bsL bsH bsX bsF hp hd hK;have hun:=cA hri hsz;have hb:=si hun hpe;have hlt0:=hlt;unfold nC at hlt
  split at hlt
  ·simp at hlt
  ·rename_i j r htl;rw[hb] at hlt;simp only[Bool.and_eq_true,Bool.or_eq_true,beq_iff_eq] at hlt;obtain⟨⟨⟨⟨⟨⟨⟨hrd,hrj⟩,hrp⟩,hct⟩,_⟩,hnw⟩,htk⟩,hlast⟩:=hlt
   split at hlast
   rotate_left
   ·simp at hlast
   rename_i oi' oj hoi' hoj;rw[hoi] at hoi';simp at hoi';subst hoi';simp only[Bool.and_eq_true] at hlast;obtain⟨⟨hap,hxs⟩,hnd⟩:=hlast;obtain⟨F',rfl⟩:∃F',F=F'+1:=⟨F - 1,by omega⟩
   -- i first
   have hi:wpOp P ops Kx i (wpAny P .any ops Kx F' (listed.setIfInBounds i true)) act w:=by
    refine Hv hE hc hp hcl hd hoi hun hm hq ?_;intro cv w' R' bsT' bsX' hp' hk;rw[show listed.setIfInBounds i true=p from hpe];rw[hpe] at hp';exact hfin F' _ (by omega) hT w' R' N _ bsT' bsL bsH bsX' bsF hp' (by rw[(fP act oi.dst cv).2];exact hd) (fun a' w2 h'=>hK a' w2 (h'.trans hk (fun _ _ hb=>hb)))
   -- j first
   have hj:wpOp P ops Kx j (wpAny P .any ops Kx F' (listed.setIfInBounds j true)) act w:=by
    obtain⟨x,d,hx,hdd⟩:∃x d,opsL oi.op=[.tmp x]/\oi.dst=some d:=by
     have hap':=hap;unfold iT at hap';simp only[Bool.and_eq_true] at hap';have g5:=hap'.2
     split at g5
     ·rename_i x k d e1 e2;exact⟨x,d,by rw[e1];rfl,e2⟩
     ·rename_i x d e1 e2;exact⟨x,d,by rw[e1];rfl,e2⟩
     simp at g5
    rw[hdd] at hT
    split at hT
    ·rename_i s2 hs2;have hnd':pd ops h.nw≠some d:=by rw[←hdd];simpa using hnd
     obtain⟨s2',hm0,rfl,hgx⟩:=EB hs2 hnd';rw[hx,hdd] at hxs;simp at hxs;have hxd:x≠d:=fun e=>by have:=hxs.1;rw[e] at this;simp[dv] at this
     have hxn:pd ops h.nw≠some x:=fun e=>by
      have:=hxs.2
      rw[e] at this;simp[dv] at this
     have hj':ops.toList[j]?=some oj:=by simpa using hoj
     rw[htl] at hT;simp only[dN,hj',mq,iw] at hT;obtain⟨s3',k1,k2,k3⟩:=LK hap hx hdd hq (hgx x hxd hxn) hT;have hin:∀k,k∈h.nw.toList->listed[k]?=some true:=by
      intro k hk;have h1:=List.all_eq_true.1 (by unfold dT at hc;exact hc) k (List.mem_append_left _ hk);simp only[Bool.and_eq_true] at h1;have h2:=hall (k,false) (by simpa using h1.1);have hki:i≠k:=fun e=>by subst e;simp[hk] at hnw
      rw[←hpe] at h2;unfold bI at h2;rwa [Array.getElem?_setIfInBounds_ne hki] at h2
     obtain⟨N3,bsT3,bsL3,hr3,hN3⟩:=sh hm0 hp.rel (fun k o t dk ti hk ho hop hdk hg hty hlt=>hp.nwf k o t dk ti hk (hin k (by simp[hk])) ho hop hdk hg hty hlt);have gj:oj.guard=none/\oi.guard=none:=by
      unfold iT at hap;simp only[Bool.and_eq_true,Bool.or_eq_true,Option.isNone_iff_eq_none] at hap;exact⟨hap.1.1.1.2,hap.1.1.1.1⟩
     refine wpOp_mono ?_ (Jn hE ops hoj gj.1 k1 hr3 hd);rintro a' w' ⟨s',R',N',bsT',bsL',bsH',rfl,hr',hd',hk',hN'⟩;have htl2:h.tail.length=r.length+1:=by rw[htl];rfl
     obtain⟨F2,rfl⟩:∃F2,F'=F2+1:=⟨F' - 1,by omega⟩;refine wpAny_all hrj (by simp) ?_;intro k hk;simp at hk;subst hk;refine wpOp_mono ?_ (Jn hE ops hoi gj.2 k2 hr' hd');rintro a2 w2 ⟨s'',R2,N2,bsT2,bsL2,bsH2,rfl,hr2,hd2,hk2,hN2⟩;have hcm:(listed.setIfInBounds j true).setIfInBounds k true=bI p j:=by
      rw[←hpe];unfold bI
      by_cases hjk:j=k
      ·subst hjk;rfl
      exact Array.setIfInBounds_comm _ _ hjk
     rw[hcm];refine lM hE ops Q Kx r (bI p j) F2 _ hct (by omega) k3 w2 R2 N2 a2 bsT2 bsL2 bsH2 bsF hr2 hd2 (fun a3 w3 h3=>hK a3 w3 ?_);exact ((h3.trans hk2 hN2).trans hk' hN').trans (aY _) (fun o b hb=>by rw[hN3];exact hb)
    exact hT.elim
   rcases hrd with hrd|hrd
   ·refine wpAny_all hrd (by simp) ?_;intro k hk;simp at hk
    rcases hk with rfl|rfl
    ·exact hi
    exact hj
   refine wpAny_all hrd (by simp) ?_;intro k hk;simp at hk
   rcases hk with rfl|rfl
   ·exact hj
   exact hi
 intro fuel
 induction fuel with
 | zero=>
  intro F listed s hF _ _ ha w R N act bsT bsL bsH bsX bsF hp hd hK;obtain⟨rfl,hT⟩:=ha;exact hfin F s (by omega) hT w R N act bsT bsL bsH bsX bsF hp hd hK
 | succ fuel ih=>
  intro F listed s hF hsz hcl ha w R N act bsT bsL bsH bsX bsF hp hd hK
  rcases ha with⟨rfl,hT⟩|⟨_,hne,hsteps⟩|⟨i,oi,a,hpe,hlt,hoi,hm,hri,hq,hT⟩
  rotate_right
  ·exact lateCase F listed s hF hsz hcl i oi a hpe hlt hoi hm hri hq hT w R N act bsT bsL bsH bsX bsF hp hd hK
  ·exact hfin F s (by omega) hT w R N act bsT bsL bsH bsX bsF hp hd hK
  obtain⟨F',rfl⟩:∃F',F=F'+1:=⟨F - 1,by omega⟩;refine⟨fun h0=>absurd h0 hne,fun i hi=>?_⟩;obtain⟨lone,o,hm,ho,hs⟩:=hsteps i hi
  cases lone
  ·simp only[Bool.false_eq_true,if_false] at hs;obtain⟨a,ha1,ha2⟩:=hs;refine Hv hE hc hp hcl hd ho (cA hi hsz) hm ha1 ?_;intro cv w' R' bsT' bsX' hp' hk;exact ih F' (bI listed i) _ (by omega) (by simpa [bI] using hsz) (hcl.step hi) ha2 w' R' N _ bsT' bsL bsH bsX' bsF hp' (by rw[(fP act o.dst cv).2];exact hd) (fun a' w2 h'=>hK a' w2 (h'.trans hk (fun _ _ hb=>hb)))
  simp only[if_true] at hs
  by_cases hnq:cY o.op=none/\eQ o.op=none/\ib o.op=false/\dh ops.toList s o.guard=some true
  ·obtain⟨n1,n2,n3,n4⟩:=hnq;unfold JT at hs;simp only[n1,n2,n3,n4,if_true] at hs
   cases ha1:ej E G (aL H ops.toList h.pre) ops.toList o s with
   | none=>rw[ha1] at hs;exact hs.elim
   | some a=>
    rw[ha1] at hs;dsimp only at hs;refine Hv hE hc hp hcl hd ho (cA hi hsz) hm ha1 ?_;intro cv w' R' bsT' bsX' hp' hk;exact ih F' (bI listed i) _ (by omega) (by simpa [bI] using hsz) (hcl.step hi) hs w' R' N _ bsT' bsL bsH bsX' bsF hp' (by rw[(fP act o.dst cv).2];exact hd) (fun a' w2 h'=>hK a' w2 (h'.trans hk (fun _ _ hb=>hb)))
  refine WH hE hc hca hcst hp hcl hd ho (cA hi hsz) hm hi hnq hs ?_;intro s' cv w' R' N' bsT' bsL' bsH' hKs hp' hk hN;exact ih F' (bI listed i) s' (by omega) (by simpa [bI] using hsz) (hcl.step hi) hKs w' R' N' _ bsT' bsL' bsH' bsX bsF hp' (by rw[(fP act o.dst cv).2];exact hd) (fun a' w2 h'=>hK a' w2 (h'.trans hk (fun o b hb=>hN _ _ hb)))
theorem GA (hE:E.Ok P) {ops:Array Oper} {Q:aa->Prop} {Kx:Exit->Act->World->Prop} :
  ∀(m F:Nat) (listed:Array Bool) (s:aa),oD (aD P G) E G H ops.toList Q m listed s->m<=F->∀(w:World) (R:Own) (N:Name->Option Nat) (act:Act) (bsT bsL bsH bsF:List Nat),
   cZ G w R N act.tmps.toList s undef .undef [] bsT bsL bsH bsF->act.defers=D->(∀a' w',Rp G D Q w R N bsF a' w'->Kx .normal a' w')->wpAny P .any ops Kx F listed act w:=by
 intro m
 induction m with
 | zero=>
  intro F listed s h _ w R N act bsT bsL bsH bsF hr hd hK;simp only[oD,Array.toArray_toList] at h;exact wpAny_done h.1 (hK _ _ ⟨s,R,N,bsT,bsL,bsH,h.2,hr,hd,aY _,fun _ _ h=>h⟩) F
 | succ m ih=>
  intro F listed s h hF w R N act bsT bsL bsH bsF hr hd hK;simp only[oD,Array.toArray_toList] at h
  rcases h with h|⟨hne,hall⟩
  ·exact wpAny_done h.1 (hK _ _ ⟨s,R,N,bsT,bsL,bsH,h.2,hr,hd,aY _,fun _ _ h=>h⟩) F
  obtain⟨F',rfl⟩:∃F',F=F'+1:=⟨F - 1,by omega⟩;refine wpAny_all (rs:=Region.ready .any ops listed) rfl hne ?_;intro j hj;obtain⟨o,ho,h2⟩:=hall j hj;refine wpOp_mono ?_ (iU hE ops (by simpa using ho) h2 hr hd);rintro a' w' ⟨s',R',N',bsT',bsL',bsH',hq,hr',hd',hk',hN'⟩;exact ih F' _ s' hq (by omega) w' R' N' a' bsT' bsL' bsH' bsF hr' hd' (fun a2 w2 h2=>hK a2 w2 (h2.trans hk' hN'))
theorem sB:∀(r:List (Nat×Bool)),(bN r).length<=r.length
 | []=>by simp[bN]
 |(i,true)::r=>by simp[bN]
 |(i,false)::r=>by simp only[bN,List.length_cons];have:=sB r;omega
theorem yO:∀(r:List (Nat×Bool)) (l:Array Bool) {n:Nat},l.size=n->(∀y∈r,y.1 < n)->∀x∈r,(eA r l)[x.1]?=some true
 | [],_,_,_,_,x,hx=>by simp at hx
 |(i,b)::r,l,n,hn,hlt,x,hx=>by
  have hs:(bI l i).size=n:=by simpa [bI] using hn
  rcases List.mem_cons.1 hx with rfl|hx
  ·have:i < l.size:=by rw[hn];exact hlt (i,b) (by simp)
   exact lA r (bI l i) i (by simp[bI,this])
  exact yO r (bI l i) hs (fun y hy=>hlt y (by simp[hy])) x hx
theorem AG (hE:E.Ok P) (hm:P.follows .mixedOrders=true) {id:Nat} {ops:Array Oper} {h:au} {Q:Exit->aa->Prop} {s:aa} (hc:(gi h||(if gz h=true then QV ops (fT h) else (Yt ops h||H8 ops h)))=true) (hs:AE (aD P G) E G H ops.toList h (Q .normal) s):cD P G (.region id ops true) Q s:=by
 by_cases hx:gi h=true
 ·intro w R N act bsT bsL bsH bsF hr D hd;unfold AE at hs;rw[if_pos hx,Array.length_toList] at hs
  apply wp_region_any hm
  have hst:Step w R {w with drawn:=w.drawn+1 } R:=⟨rfl,rfl,rfl,Nat.le_refl _,fun _ _ h=>⟨rfl,h⟩,fun _ _ _ h=>⟨h,rfl⟩,fun _ _=>rfl⟩;have hkeep:∀bs,bm w R {w with drawn:=w.drawn+1 } R bs:=fun bs=>⟨hst,fun _ _ _=>⟨rfl,fun _ h=>h⟩⟩
  have hr':cZ G {w with drawn:=w.drawn+1 } R N act.tmps.toList s undef .undef [] bsT bsL bsH bsF:=
   ⟨aI _,hr.tmps.keep (hkeep _),hr.locs.keep (hkeep _),hr.heap.keep (hkeep _),hr.nodup,hr.next,fun g cs hg=>(hr.glob g cs hg).step hst,hr.frame⟩
  refine GA hE ops.size ops.size _ s hs (Nat.le_refl _) _ R N act bsT bsL bsH bsF hr' hd ?_;rintro a' w' ⟨s',R',N',bsT',bsL',bsH',⟨s0,hq,hren⟩,hr2,hd',hk',hN'⟩;obtain⟨N2,bsT2,bsL2,bsH2,hr3,hN2⟩:=hren _ _ _ _ _ _ _ _ hr2;exact⟨s0,R',N2,bsT2,bsL2,bsH2,hq,hr3,hd',(hkeep _).trans hk',fun o b hb=>hN2 o b (hr.next o b hb) (hN' o b hb)⟩
 have hxf:gi h=false:=by simpa using hx
 rw[hxf,Bool.false_or] at hc;unfold AE at hs;rw[if_neg hx] at hs
 by_cases hlm:gz h=true
 ·rw[if_pos hlm] at hc hs;obtain⟨h',hh'⟩:∃h',h'=fT h:=⟨_,rfl⟩;rw[←hh'] at hc hs;clear hlm hx hxf hh';intro w R N act bsT bsL bsH bsF hr D hd;unfold QV at hc;simp only[Bool.and_eq_true,decide_eq_true_eq] at hc;obtain⟨⟨⟨⟨⟨⟨⟨hpre,hlast⟩,htail⟩,hslots⟩,happ⟩,hstores⟩,hlen⟩,hidx⟩:=hc
  apply wp_region_any hm
  unfold AD at hs;rw[Array.length_toList] at hs;have hql:(bN h'.pre).length<=h'.pre.length:=sB h'.pre;have hclo:eX ops (Array.replicate ops.size false):=fun d o hd=>by
   rw[Array.getElem?_replicate] at hd
   split at hd <;> simp at hd
  have hall:∀x∈h'.pre,(eA h'.pre (Array.replicate ops.size false))[x.1]?=some true:=fun x hx=>yO h'.pre _ (n:=ops.size) (by simp) (fun y hy=>by have:=List.all_eq_true.1 hidx y hy;simpa using this) x hx
  have hord:=pS (P:=P) (E:=E) (G:=G) (H:=H) hslots happ hstores hlast hall (h'.pre.length - (bN h'.pre).length) (bN h'.pre) (Array.replicate ops.size false) s (fun _ h=>sA h) (by simp) hclo hpre (fun s' h=>rc _ _ _ h) hs;have hst:Step w R {w with drawn:=w.drawn+1 } R:=⟨rfl,rfl,rfl,Nat.le_refl _,fun _ _ h=>⟨rfl,h⟩,fun _ _ _ h=>⟨h,rfl⟩,fun _ _=>rfl⟩;have hkeep:∀bs,bm w R {w with drawn:=w.drawn+1 } R bs:=fun bs=>⟨hst,fun _ _ _=>⟨rfl,fun _ h=>h⟩⟩
  have hr':cZ G {w with drawn:=w.drawn+1 } R N act.tmps.toList s undef .undef [] bsT bsL bsH ([]++bsF):=
   ⟨aI _,hr.tmps.keep (hkeep _),hr.locs.keep (hkeep _),hr.heap.keep (hkeep _),hr.nodup,hr.next,fun g cs hg=>(hr.glob g cs hg).step hst,hr.frame⟩
  have hnone:∀(i:Nat),(Array.replicate ops.size false)[i]?≠some true:=by
   intro i hi;rw[Array.getElem?_replicate] at hi
   split at hi <;> simp at hi
  refine wJ hE hslots happ hstores hall htail _ ops.size _ s (by omega) (by simp) hclo hord _ R N act bsT bsL bsH [] bsF ⟨hr',?_,?_⟩ hd ?_
  ·intro i o t d ti _ hl;exact absurd hl (hnone i)
  ·intro i o T u t n off ob _ hl;exact absurd hl (hnone i)
  intro a' w' h';exact h'.trans (hkeep _) (fun _ _ h=>h)
 rw[if_neg hlm] at hc hs;rw[Bool.or_eq_true] at hc
 rcases hc with hc|hc
 rotate_left
 ·exfalso
  unfold H8 at hc;simp only[Bool.and_eq_true,List.isEmpty_iff] at hc;obtain⟨h1,h2⟩:=hc;rw[h1] at hs;simp only[lN] at hs
  split at h2
  ·rename_i k hk;rw[hk] at hs
   have:ops.toList[k]?=none:=by simpa using h2
   simp only[gY,this] at hs
  simp at h2
 intro w R N act bsT bsL bsH bsF hr D hd;unfold Yt at hc;simp only[Bool.and_eq_true,decide_eq_true_eq] at hc;obtain⟨⟨⟨⟨⟨⟨⟨_,hpre⟩,hlast⟩,htail⟩,hslots⟩,happ⟩,hstores⟩,hlen⟩:=hc
 apply wp_region_any hm
 have hord:=pT (P:=P) (E:=E) (G:=G) (H:=H) hslots happ hstores hlast h.pre (Array.replicate ops.size false) s h.pre.length (fun _ h=>h) (by simp) (fun d o hd=>by rw[Array.getElem?_replicate] at hd;split at hd <;> simp at hd) rfl hpre (Nat.le_refl _) hs;have hst:Step w R {w with drawn:=w.drawn+1 } R:=⟨rfl,rfl,rfl,Nat.le_refl _,fun _ _ h=>⟨rfl,h⟩,fun _ _ _ h=>⟨h,rfl⟩,fun _ _=>rfl⟩;have hkeep:∀bs,bm w R {w with drawn:=w.drawn+1 } R bs:=fun bs=>⟨hst,fun _ _ _=>⟨rfl,fun _ h=>h⟩⟩
 have hr':cZ G {w with drawn:=w.drawn+1 } R N act.tmps.toList s undef .undef [] bsT bsL bsH ([]++bsF):=
  ⟨aI _,hr.tmps.keep (hkeep _),hr.locs.keep (hkeep _),hr.heap.keep (hkeep _),hr.nodup,hr.next,fun g cs hg=>(hr.glob g cs hg).step hst,hr.frame⟩
 have hnone:∀(i:Nat),(Array.replicate ops.size false)[i]?≠some true:=by
  intro i hi;rw[Array.getElem?_replicate] at hi
  split at hi <;> simp at hi
 refine wJ hE hslots happ hstores (qU h.pre _ hpre (by simp)) htail h.pre.length ops.size _ s hlen (by simp) (fun d o hd=>by rw[Array.getElem?_replicate] at hd;split at hd <;> simp at hd) hord _ R N act bsT bsL bsH [] bsF ⟨hr',?_,?_⟩ hd ?_
 ·intro i o t d ti _ hl;exact absurd hl (hnone i)
 ·intro i o T u t n off ob _ hl;exact absurd hl (hnone i)
 intro a' w' h';exact h'.trans (hkeep _) (fun _ _ h=>h)
end
end Go.Tp
namespace Go.Tp
section
variable {P:Program} {E:bu} {G:bw} {H:Hints} {D:List Deferred}
theorem Ct.trans {Q:Exit->aa->Prop} {w w1:World} {R R1:Own} {N N1:Name->Option Nat} {bsF:List Nat} (hk:bm w R w1 R1 bsF) (hN:∀o b,N (.out o)=some b->N1 (.out o)=some b) {e:Exit} {a:Act} {w2:World}
  (h:Ct G D Q w1 R1 N1 bsF e a w2):Ct G D Q w R N bsF e a w2:=by
 obtain⟨s',R',N',bsT,bsL,bsH,hq,hr,hd,hk',hN'⟩:=h;exact⟨s',R',N',bsT,bsL,bsH,hq,hr,hd,hk.trans hk',fun o b h=>hN' o b (hN o b h)⟩
theorem Cp {x y:Code} {Q:Exit->aa->Prop} {s:aa} (h:cD P G x (fun e s'=>match e with|.normal=>cD P G y Q s'|e=>Q e s') s):cD P G (.seq x y) Q s:=by
 intro w R N act bsT bsL bsH bsF hr D hd
 apply wp_seq
 refine wp_mono (h w R N act bsT bsL bsH bsF hr hd) ?_;rintro e a w' ⟨s',R',N',bsT',bsL',bsH',hq,hr',hd',hk,hN⟩
 cases e with
 | normal=>exact wp_mono (hq w' R' N' a bsT' bsL' bsH' bsF hr' hd') (fun e a w h=>h.trans hk hN)
 | _=>exact⟨s',R',N',bsT',bsL',bsH',hq,hr',hd',hk,hN⟩
theorem cD.mono {c:Code} {Q Q':Exit->aa->Prop} {s:aa} (h:cD P G c Q s) (hq:∀e s,Q e s->Q' e s):cD P G c Q' s:=by
 intro w R N act bsT bsL bsH bsF hr D hd;refine wp_mono (h w R N act bsT bsL bsH bsF hr hd) ?_;rintro e a w' ⟨s',R',N',bsT',bsL',bsH',hQ,rest⟩;exact⟨s',R',N',bsT',bsL',bsH',hq _ _ hQ,rest⟩
theorem gn {c:Code} {e:Exit} {Q:Exit->aa->Prop} {s:aa} (hc:∀{Q:Exit->Act->World->Prop} {a:Act} {w:World},Q e a w->c.wp P Q a w) (h:Q e s):cD P G c Q s:=by
 intro w R N act bsT bsL bsH bsF hr D hd;exact hc ⟨s,R,N,bsT,bsL,bsH,h,hr,hd,aY _,fun _ _ h=>h⟩
theorem MQ {w:World} {R:Own} {N:Name->Option Nat} {a:ac} {v:Value} {bs:List Nat} (h:ai w R N a v bs):∃bs',ai w R N (tidy a) v bs'/\bs'.Sublist bs:=by
 unfold tidy
 split
 ·exact⟨[],pX h,List.nil_sublist _⟩
 exact⟨bs,h,.refl _⟩
theorem Bb {w:World} {R:Own} {N:Name->Option Nat}:∀{as:List ac} {vs:List Value} {bs:List Nat},ah w R N as vs bs->∃bs',ah w R N (jg as) vs bs'/\bs'.Sublist bs
 | [],_,_,h=>by obtain⟨rfl,rfl⟩:=aQ h;exact⟨[],aR,.refl _⟩
 | a::as,_,_,h=>by
  obtain⟨v,vs',b1,b2,rfl,rfl,h1,h2⟩:=aw h;obtain⟨c1,k1,k2⟩:=MQ h1;obtain⟨c2,k3,k4⟩:=Bb h2;exact⟨c1++c2,by simpa [jg] using aF k1 k3,List.Sublist.append k2 k4⟩
def uB (tmps:Array Value):ResultVar->Sem Value
 | .tmp t=>pure (tmps.getD t undef)
 | .cell a t=>do loadVar t (←asAddr (tmps.getD a undef))
theorem lV (hE:E.Ok P) {w:World} {R:Own} {N:Name->Option Nat} {act:Act} (hg:∀g cs,G g=some cs->eu w R g 0 cs):∀(rs:List ResultVar) {s:aa} {vs:List ac} {bsT bsL bsH rest:List Nat},gF E s rs=some vs->
  ah w R N s.tmps act.tmps.toList bsT->aj w R N s.locs bsL->aj w R (outs N) s.heap bsH->(bsT++rest).Nodup->
  ∃cvs bsM bsT',(rs.mapM (uB act.tmps)).run P w=.ok cvs w/\ah w R N vs cvs bsM/\cvs.length=rs.length/\(bsM++(bsT'++rest)).Nodup
 | [],s,vs,bsT,bsL,bsH,rest,h,ht,_,_,hnd=>by
  simp[gF] at h;subst h;exact⟨[],[],bsT,by simp,aR,rfl,by simpa using hnd⟩
 | .tmp t::rs,s,vs,bsT,bsL,bsH,rest,h,ht,hl,hh,hnd=>by
  simp only[gF] at h
  split at h
  ·rename_i vs' hvs;simp at h;subst h;obtain⟨bM,bT,h1,h2,h3,_⟩:=qu ht hg (some 0) [.tmp t] rest hnd;obtain⟨b0,e0,hb0⟩:=dD h1;simp only[aG,if_true,List.cons.injEq,and_true] at e0;subst e0;obtain⟨q1,q2,_⟩:=qq s (some 0) [.tmp t];have hnd2:(bT++(bM++rest)).Nodup:=by
    have hp:(bT++(bM++rest)).Perm (bM++(bT++rest)):=List.perm_append_comm_assoc _ _ _;exact hp.nodup_iff.2 h3
   obtain⟨cvs,bM2,bT2,k1,k2,k3,k4⟩:=lV hE hg rs hvs h2 (by rw[q1];exact hl) (by rw[q2];exact hh) hnd2;refine⟨act.eval (.tmp t)::cvs,bM++bM2,bT2,?_,aF hb0 k2,by simp[k3],?_⟩
   ·simp only[List.mapM_cons,Sem.run_bind,uB,Sem.run_pure,Result.andThen_ok,k1];rfl
   have hp:((bM++bM2)++(bT2++rest)).Perm (bM2++(bT2++(bM++rest))):=by
    rw[List.perm_iff_count];intro q;simp only[List.count_append];omega
   exact hp.nodup_iff.2 k4
  simp at h
 | .cell a t::rs,s,vs,bsT,bsL,bsH,rest,h,ht,hl,hh,hnd=>by
  simp only[gF] at h
  split at h
  ·rename_i v vs' hv hvs;simp at h;subst h;obtain⟨cvs,bM2,bT2,k1,k2,k3,k4⟩:=lV hE hg rs hvs ht hl hh hnd;unfold xA at hv
   split at hv
   ·rename_i n off hp
    split at hv
    ·rename_i cs i hob hty;have hget:s.tmps[a]?=some (.ptr n off):=by
      unfold bn at hp
      cases hs:s.tmps[a]? with
      | none=>rw[hs] at hp;simp at hp
      | some v=>rw[hs] at hp;simp at hp;rw[hp]
     obtain⟨u,b',e1,e2,_⟩:=dM ht hget;simp only[ai] at e2;obtain⟨_,b,hb,rfl⟩:=e2;have hobj:∃b1,aK w R N (.cells cs) b b1:=by
      unfold aa.obj at hob
      cases n with
      | loc j=>
       obtain⟨pre,c,c1,post,_,f2,f3,_⟩:=aj.split hl hob;rw[hb] at f2;simp at f2;subst f2;exact⟨c1,f3⟩
      | out j=>
       obtain⟨pre,c,c1,post,_,f2,f3,_⟩:=aj.split hh hob;simp only[outs] at f2;rw[hb] at f2;simp at f2;subst f2;refine⟨c1,f3.xe ?_ (fun _=>rfl)⟩;obtain⟨vs,e,sp,_,hrr,_⟩:=f3
       have:=hrr.bX
       rw[iM] at this;exact this
     obtain⟨b1,vs0,el,sp,hblk,hrr,_⟩:=hobj;obtain⟨cv,g1,g2⟩:=nf (N:=N) hE hty hblk hrr (ma hv);refine⟨cv::cvs,[]++bM2,bT2,?_,aF g2 k2,by simp[k3],by simpa using k4⟩;have hgd:act.tmps.getD a undef=.pointer (some ⟨b,off,none⟩):=by simp at e1;simp[e1]
     have g1':(loadVar t ⟨b,off,none⟩).run P w=.ok cv w:=by simpa [Instr.loadAt,Instr.sureAddr] using g1
     simp only[List.mapM_cons,Sem.run_bind,uB,hgd,asAddr,Sem.run_pure,Result.andThen_ok,g1',k1]
    simp at hv
   simp at hv
  simp at h
def JK:List Value->Value
 | [v]=>v
 | vs=>.tuple vs.toArray
theorem EJ {fn:Func} {act:Act} {w:World} {cvs:List Value} (h:(fn.results.toList.mapM (uB act.tmps)).run P w=.ok cvs w) :
  (results fn act.tmps).run P w=.ok (JK cvs) w:=by
 have hres:results fn act.tmps=(do
   let vs ←fn.results.mapM (uB act.tmps)
   pure (if h:vs.size=1 then vs[0] else .tuple vs)):=rfl
 have e:(fn.results.mapM (uB act.tmps)).run P w=.ok cvs.toArray w:=by
  rw[Array.mapM_eq_mapM_toList];simp[h]
 rw[hres];simp only[Sem.run_bind,e,Result.andThen_ok]
 cases cvs with
 | nil=>rfl
 | cons v cvs=>cases cvs <;> rfl
theorem jY {w:World}:∀(ns:List Name) {s s':aa} {args args':List ac} {R:Own} {N:Name->Option Nat},gP ns s args=(s',args')->∀{tmps:List Value} {cargs:List Value} {bsV bsT bsL bsH bsF:List Nat},
  cZ G w R N tmps s (.tuple cargs.toArray) (.tup args) bsV bsT bsL bsH bsF->
  ∃R' N' bsV' bsT' bsL' bsH',cZ G w R' N' tmps s' (.tuple cargs.toArray) (.tup args') bsV' bsT' bsL' bsH' bsF/\bm w R w R' bsF/\(∀o b,N (.out o)=some b->N' (.out o)=some b)
 | [],s,s',args,args',R,N,h,tmps,cargs,bsV,bsT,bsL,bsH,bsF,hr=>by
  simp[gP] at h;obtain⟨rfl,rfl⟩:=h;exact⟨R,N,bsV,bsT,bsL,bsH,hr,aY _,fun _ _ h=>h⟩
 | n::ns,s,s',args,args',R,N,h,tmps,cargs,bsV,bsT,bsL,bsH,bsF,hr=>by
  simp only[gP] at h
  split at h
  ·split at h
   ·rename_i s1 args1 h1;obtain⟨R1,N1,v1,t1,l1,g1,hr1,hk1,hN1,_⟩:=wa h1 hr;obtain⟨R2,N2,v2,t2,l2,g2,hr2,hk2,hN2⟩:=jY ns h hr1;exact⟨R2,N2,v2,t2,l2,g2,hr2,hk1.trans hk2,fun o b h=>hN2 o b (hN1 o b h)⟩
   exact jY ns h hr
  exact jY ns h hr
theorem E2 {w:World} {R:Own} {N:Name->Option Nat} {vs:List ac} {cvs:List Value} {bs:List Nat} (h:ah w R N vs cvs bs):ai w R N (pack vs) (JK cvs) bs:=by
 cases vs with
 | nil=>
  obtain⟨rfl,rfl⟩:=aQ h;simp only[pack,JK,ai];exact⟨[],rfl,aR⟩
 | cons a vs=>
  have hl:=h.length
  cases vs with
  | nil=>
   cases cvs with
   | nil=>simp at hl
   | cons v cvs=>
    simp at hl;subst hl;obtain⟨a',e,ha⟩:=dD h;simp at e;subst e;exact ha
  | cons a2 vs=>
   cases cvs with
   | nil=>simp at hl
   | cons v cvs=>
    cases cvs with
    | nil=>simp at hl
    | cons v2 cvs=>simp only[pack,JK,ai];exact⟨_,rfl,h⟩
theorem yP {vs:List ac} (h:bA vs=true):fH (pack vs)=true:=by
 unfold pack
 split
 ·simpa [bA] using h
 simpa [fH] using h
theorem I8 (hE:E.Ok P) {fn:Func} {Q:ac->List (Name×aM)->Nat->Prop} {s:aa} (h:xa E fn.results.toList Q s) {w:World} {R:Own} {N:Name->Option Nat} {act:Act} {bsT bsL bsH bsF:List Nat}
  (hr:cZ G w R N act.tmps.toList s undef .undef [] bsT bsL bsH bsF) :
  ∃cv,(results fn act.tmps).run P w=.ok cv w/\∃v heap' next' R' N' bsV bsH',Q v heap' next'/\ai w R' (outs N') v cv bsV/\aj w R' (outs N') heap' bsH'/\(bsV++(bsH'++bsF)).Nodup ∧
   (∀o b,N' (.out o)=some b->o < next')/\bm w R w R' bsF/\(∀o b,N (.out o)=some b->N' (.out o)=some b):=by
 unfold xa at h
 split at h
 ·exact h.elim
 rename_i vs hvs;have hnd0:(bsT++(bsL++(bsH++bsF))).Nodup:=by simpa using hr.nodup
 obtain⟨cvs,bsM,bsT',k1,k2,k3,k4⟩:=lV hE hr.glob fn.results.toList hvs hr.tmps hr.locs hr.heap hnd0;obtain⟨bsM',k5,k6⟩:=Bb k2;refine⟨_,EJ k1,?_⟩
 split at h
 ·rename_i hno;refine⟨_,_,_,R,N,bsM',bsH,h,(E2 k5).Jh (yP hno),hr.heap,?_,hr.next,aY _,fun _ _ h=>h⟩;refine List.Nodup.sublist ?_ k4;exact List.Sublist.append k6 ((List.sublist_append_right _ _).trans (List.sublist_append_right _ _))
 split at h
 rename_i s' vs' hexp
 split at h
 ·rename_i hno
  -- the slots are no longer needed: a state without them
  have hr1:cZ G w R N [] {s with tmps:=[]} (.tuple cvs.toArray) (.tup (jg vs)) bsM' [] bsL bsH bsF:=
   ⟨by simp only[ai];exact⟨cvs,rfl,k5⟩,aR,hr.locs,hr.heap,by
    refine List.Nodup.sublist ?_ k4;exact List.Sublist.append k6 (by simp),hr.next,hr.glob,hr.frame⟩
  have hexp':∀(ns:List Name) (s1 s2:aa) (a1 a2:List ac),gP ns s1 a1=(s2,a2)->gP ns {s1 with tmps:=[]} a1=({s2 with tmps:=[]},a2):=by
   intro ns
   induction ns with
   | nil=>intro s1 s2 a1 a2 h;simp only[gP,Prod.mk.injEq] at h ⊢;obtain⟨rfl,rfl⟩:=h;exact⟨rfl,rfl⟩
   | cons n ns ih=>
    intro s1 s2 a1 a2 h;simp only[gP] at h ⊢
    split at h
    ·rename_i hm;rw[if_pos hm];have hp:sE true n {s1 with tmps:=[]} a1=(sE true n s1 a1).map (fun x=>({x.1 with tmps:=[]},x.2)):=by
      unfold sE;dsimp only
      split
      ·split
       ·simp[gM]
       split <;> simp[eN]
      ·simp[eN]
      simp
     rw[hp]
     split at h
     ·rename_i s3 a3 h3;rw[h3];exact ih s3 s2 a3 a2 h
     rename_i h3;rw[h3];exact ih s1 s2 a1 a2 h
    rename_i hm;rw[if_neg hm];exact ih s1 s2 a1 a2 h
  obtain⟨R2,N2,v2,t2,l2,g2,hr2,hk2,hN2⟩:=jY _ (hexp' _ _ _ _ _ hexp) hr1;have hv:=hr2.val;simp only[ai] at hv;obtain⟨cs0,ec,hargs⟩:=hv;simp at ec;subst ec;refine⟨_,_,_,R2,N2,v2,g2,h,(E2 hargs).Jh (yP hno),hr2.heap,?_,hr2.next,hk2,hN2⟩;refine List.Nodup.sublist ?_ hr2.nodup;exact List.Sublist.append (.refl _) ((List.sublist_append_right _ _).trans (List.sublist_append_right _ _))
 exact h.elim
theorem vT {w:World} {R:Own} {N:Name->Option Nat}:∀(k:Nat),ah w R N (List.replicate k .undef) (List.replicate k undef) []
 | 0=>aR
 | k+1=>by simpa [List.replicate_succ] using aF (b1:=[]) (b2:=[]) (aI (w:=w) (R:=R) (N:=N) undef) (vT k)
theorem jJ (hE:E.Ok P) {f:FuncId} {fn:Func} {c:Code} (hf:P.funcs[f]?=some fn) (hb:fn.body=some c) {args:List ac} {heap:List (Name×aM)} {next:Nat} {Q:ac->List (Name×aM)->Nat->Prop}
  (h:qE args->wY heap->cD P G c (ace E fn.results.toList Q) (enter fn.ntmps args heap next)):aD P G f args heap next Q:=by
 intro w R N cargs bsA bsH bsF ha hh hnd hnx hg hF;replace h:=h ha.oG hh.oG;refine calls_of_wp hf hb ?_;have hlen:=ha.length;have hr:cZ G w R (outs N) ((cargs.toArray++Array.replicate (fn.ntmps - cargs.toArray.size) undef).toList) (enter fn.ntmps args heap next) undef .undef [] bsA [] bsH bsF:=by
  refine⟨aI _,?_,rfl,?_,by simpa using hnd,?_,hg,hF⟩
  ·have:=cB ha (vT (w:=w) (R:=R) (N:=outs N) (fn.ntmps - args.length))
   simpa [enter,hlen] using this
  ·exact hh.ext (fun m b hm=>by cases m with|loc i=>simp[outs] at hm|out o=>exact hm)
  intro o b ho;exact hnx o b ho
 refine wp_mono (h w R (outs N) _ bsA [] bsH bsF hr rfl) ?_;rintro e a w' ⟨s',R',N',bsT,bsL,bsH',hq,hr',hd',hk,hN⟩;have key:xa E fn.results.toList Q s'->a.defers=[]/\∃v,(results fn a.tmps).run P w'=.ok v w'/\(∃v2 cv heap' next' R'' N'' bsV bsH'',Ending.returned v=.returned cv/\Q v2 heap' next'/\ai w' R'' (outs N'') v2 cv bsV/\aj w' R'' (outs N'') heap' bsH'' ∧
   (bsV++(bsH''++bsF)).Nodup/\(∀o b,N'' (.out o)=some b->o < next')/\bm w R w' R'' bsF/\(∀o b,N (.out o)=some b->N'' (.out o)=some b)):=by
  intro hret;obtain⟨cv,g1,v2,heap',next',R'',N'',bsV,bsH'',q1,q2,q3,q4,q5,q6,q7⟩:=I8 hE hret hr';exact⟨hd',cv,g1,v2,cv,heap',next',R'',N'',bsV,bsH'',rfl,q1,q2,q3,q4,q5,hk.trans q6,fun o b h=>q7 o b (hN o b h)⟩
 cases e with
 | ret=>exact key hq
 | normal=>exact key hq
 | exit i=>exact hq.elim
 | goto l=>exact hq.elim
 | panic ch=>exact hq.elim
 | outgrown=>exact hq.elim
inductive Tr where
 |nil
 |node (l:Tr) (k:Nat) (v:TI) (r:Tr)
def Tr.find:Tr->Nat->Option TI
 | .nil,_=>none
 | .node l k v r,t=>match Nat.blt t k with
  | true=>l.find t
  | false=>(match Nat.blt k t with|true=>r.find t|false=>some v)
def Tr.GI (P:Program):Tr->Prop
 | .nil=>True
 | .node l k v r=>l.GI P/\v.ok P k/\r.GI P
theorem Tr.all_nil {P:Program}:Tr.GI P .nil:=trivial
theorem Tr.ag {P:Program} {l r:Tr} {k:Nat} {v:TI} (hl:l.GI P) (hv:v.ok P k) (hr:r.GI P):Tr.GI P (.node l k v r):=⟨hl,hv,hr⟩
theorem Tr.Dz {P:Program}:∀{tr:Tr},tr.GI P->∀{t:Nat} {i:TI},tr.find t=some i->i.ok P t
 | .nil,_,t,i,h=>by simp[Tr.find] at h
 | .node l k v r,⟨hl,hv,hr⟩,t,i,h=>by
  simp only[Tr.find] at h
  cases h1:Nat.blt t k with
  | true=>rw[h1] at h;exact Tr.Dz hl h
  | false=>
   rw[h1] at h
   cases h2:Nat.blt k t with
   | true=>rw[h2] at h;exact Tr.Dz hr h
   | false=>
    rw[h2] at h;have h1':¬t < k:=fun h=>by rw[←Nat.blt_eq,h1] at h;simp at h
    have h2':¬k < t:=fun h=>by rw[←Nat.blt_eq,h2] at h;simp at h
    have:t=k:=by omega
    subst this;simp at h;subst h;exact hv
def Yc (P:Program) (f:FuncId):Bool:=match P.funcs[f]? with
 | some g=>g.body.isSome&&!(g.name== "runtime.NumGoroutine")
 | none=>false
theorem wp_loop_ghost {c:Code} {Q:Exit->Act->World->Prop} (I:Nat->Act->World->Prop) {n0:Nat} {a:Act} {w:World} (h0:I n0 a w)
  (round:∀n a w,I n a w->c.wp P (Exit.then (fun a' w'=>∃n',n' < n/\I n' a' w') Q) a w):(Code.loop c).wp P Q a w:=by
 intro b k cs;have key:∀n a w,I n a w->∃e a' w',Q e a' w'/\Arrives P (lone (b.at a (.code c::.inLoop c::k)) cs w) b k cs e a' w':=by
  intro n
  induction n using Nat.strongRecOn with
  | _ n ih=>
   intro a w hI;obtain⟨e,a1,w1,hq,harr⟩:=round n a w hI b (.inLoop c::k) cs
   cases e with
   | normal=>
    obtain⟨n',hlt,hI1⟩:=hq;obtain⟨e2,a2,w2,hq2,harr2⟩:=ih n' hlt a1 w1 hI1;exact⟨e2,a2,w2,hq2,.of_steps (Steps.trans harr (.one step_inLoop)) harr2⟩
   | exit id=>exact⟨_,a1,w1,hq,.pass (x:=.inLoop c) rfl (fun _ _=>.inl (by simp)) harr⟩
   | goto l=>exact⟨_,a1,w1,hq,.pass (x:=.inLoop c) rfl (fun _ _=>.inl (by simp)) harr⟩
   | ret=>exact⟨_,a1,w1,hq,.pass (x:=.inLoop c) rfl (fun _ _=>.inl (by simp)) harr⟩
   | panic ch=>exact⟨_,a1,w1,hq,.pass (x:=.inLoop c) rfl (fun _ _=>.inl (by simp)) harr⟩
   | outgrown=>exact⟨_,a1,w1,hq,.pass (x:=.inLoop c) rfl (fun _ _=>.inl (by simp)) harr⟩
 obtain⟨e,a',w',hq,harr⟩:=key n0 a w h0;exact⟨e,a',w',hq,.of_steps (.one step_loop) harr⟩
end
end Go.Tp
namespace Go.Tp
abbrev iv (n:Int):ac:=.dat (.flat (.int .i64 n))
abbrev bv (b:Bool):ac:=.dat (.flat (.bool b))
abbrev sv (s:ByteArray):ac:=.dat (.flat (.string s))
abbrev Heap:=List (Name×aM)
section
variable {w w':World} {R R':Own} {M M' M'':Name->Option Nat}
end
section
variable {P:Program} {G:bw} {H:Hints} {Ef:ak->bu} {A:DW} {C:U4} {pr:ak}
section
variable {wrap:IntKind->Int->Int} {add dif mul:IntKind->Int->Int->Int} {lt eq:Int->Int->Bool} {slt seq:ByteArray->ByteArray->Bool} {cat:ByteArray->ByteArray->Option ByteArray} {elt:List al->Int->Option al} {byte:ByteArray->Int->Option UInt8}
 {sub:Nat->List al->Option Int->Option Int->Option (List al)} {ssub:ByteArray->Option Int->Option Int->Option ByteArray} {app:Nat->Nat->List al->List al->Option (List al)}
 {key:TypeDesc->Value->List (Value×al)->Option (Option (Nat×al))} {len:List al->Nat} {slen:ByteArray->Nat} {rem quo mx:Int->Int->Int}
end
end
theorem wrap_i64 {n:Int} (h1:-9223372036854775808<=n) (h2:n<=9223372036854775807):IntKind.i64.wrap n=n:=by
 simp[IntKind.wrap,IntKind.signed,IntKind.bits];omega
end Go.Tp
namespace Go.Tp
def Rx:Value->Value->Bool
 | .int k n,.int k' n'=>decide (k=k')&&eqZ n n'
 | .string s,.string s'=>eqY s.data.toList s'.data.toList
 | .bool b,.bool b'=>(match b,b' with|true,true=>true|false,false=>true|_,_=>false)
 | .pointer none,.pointer none=>true
 | .map none,.map none=>true
 | .nilFunc,.nilFunc=>true
 | .nilIface,.nilIface=>true
 | .slice none 0 0,.slice none 0 0=>true
 | _,_=>false
where
 eqZ:Int->Int->Bool
  | .ofNat a,.ofNat b=>Nat.beq a b
  | .negSucc a,.negSucc b=>Nat.beq a b
  | _,_=>false
 eqY:List UInt8->List UInt8->Bool
  | [],[]=>true
  | a::l,b::r=>(match Nat.beq a.toNat b.toNat with|true=>eqY l r|false=>false)
  | _,_=>false
theorem Qr {a b:Int} (h:Rx.eqZ a b=true):a=b:=by
 unfold Rx.eqZ at h
 split at h
 ·rw[Nat.eq_of_beq_eq_true h]
 ·rw[Nat.eq_of_beq_eq_true h]
 simp at h
theorem F5:∀{a b:List UInt8},Rx.eqY a b=true->a=b
 | [],[],_=>rfl
 | [],_::_,h=>by simp[Rx.eqY] at h
 | _::_,[],h=>by simp[Rx.eqY] at h
 | a::l,b::r,h=>by
  unfold Rx.eqY at h
  split at h
  ·rename_i hab;rw[UInt8.toNat_inj.1 (Nat.eq_of_beq_eq_true hab),F5 h]
  simp at h
theorem F6 {a b:Value} (h:Rx a b=true):a=b:=by
 unfold Rx at h
 split at h
 ·simp only[Bool.and_eq_true,decide_eq_true_eq] at h;rw[h.1,Qr h.2]
 ·rename_i s s';obtain⟨⟨l⟩⟩:=s;obtain⟨⟨l'⟩⟩:=s'
  have:=F5 h
  simp at this;rw[this]
 ·split at h <;> simp at h ⊢
 all_goals first|rfl|simp at h
mutual
def L9:al->al->Bool
 | .flat v,.flat u=>Rx v u
 | .slice es,.slice fs=>DC es fs
 | .agg es,.agg fs=>DC es fs
 | _,_=>false
def DC:List al->List al->Bool
 | [],[]=>true
 | a::l,b::r=>(match L9 a b with|true=>DC l r|false=>false)
 | _,_=>false
end
mutual
theorem zU:∀{a b:al},L9 a b=true->a=b
 | .flat v,.flat u,h=>by simp only[L9] at h;rw[F6 h]
 | .slice es,.slice fs,h=>by simp only[L9] at h;rw[mN h]
 | .agg es,.agg fs,h=>by simp only[L9] at h;rw[mN h]
 | .flat _,.slice _,h=>by simp[L9] at h
 | .flat _,.agg _,h=>by simp[L9] at h
 | .slice _,.flat _,h=>by simp[L9] at h
 | .slice _,.agg _,h=>by simp[L9] at h
 | .agg _,.flat _,h=>by simp[L9] at h
 | .agg _,.slice _,h=>by simp[L9] at h
theorem mN:∀{a b:List al},DC a b=true->a=b
 | [],[],_=>rfl
 | [],_::_,h=>by simp[DC] at h
 | _::_,[],h=>by simp[DC] at h
 | a::l,b::r,h=>by
  simp only[DC] at h
  split at h
  ·rename_i hab;rw[zU hab,mN h]
  simp at h
end
def TM:Name->Name->Bool
 | .loc a,.loc b=>Nat.beq a b
 | .out a,.out b=>Nat.beq a b
 | _,_=>false
theorem pB {a b:Name} (h:TM a b=true):a=b:=by
 unfold TM at h
 split at h
 ·rw[Nat.eq_of_beq_eq_true h]
 ·rw[Nat.eq_of_beq_eq_true h]
 simp at h
def Yj:Fn->Fn->Bool
 | .func a,.func b=>Nat.beq a b
 | _,_=>false
theorem L8 {a b:Fn} (h:Yj a b=true):a=b:=by
 unfold Yj at h
 split at h
 ·rw[Nat.eq_of_beq_eq_true h]
 simp at h
mutual
def MD:ac->ac->Bool
 | .dat a,.dat b=>L9 a b
 | .own a,.own b=>DC a b
 | .ref a,.ref b=>DC a b
 | .ptr n i,.ptr m j=>TM n m&&Nat.beq i j
 | .map n,.map m=>TM n m
 | .win n a b c,.win n' a' b' c'=>TM n n'&&Nat.beq a a'&&Nat.beq b b'&&Nat.beq c c'
 | .fn f a b,.fn f' a' b'=>Yj f f'&&zW a a'&&zW b b'
 | .agg a,.agg b=>zW a b
 | .tup a,.tup b=>zW a b
 | .undef,.undef=>true
 | _,_=>false
def zW:List ac->List ac->Bool
 | [],[]=>true
 | a::l,b::r=>(match MD a b with|true=>zW l r|false=>false)
 | _,_=>false
end
mutual
theorem Qu:∀{a b:ac},MD a b=true->a=b
 | .dat a,b,h=>by cases b <;> simp only[MD,Bool.false_eq_true] at h;rw[zU h]
 | .own a,b,h=>by cases b <;> simp only[MD,Bool.false_eq_true] at h;rw[mN h]
 | .ref a,b,h=>by cases b <;> simp only[MD,Bool.false_eq_true] at h;rw[mN h]
 | .ptr n i,b,h=>by cases b <;> simp only[MD,Bool.false_eq_true,Bool.and_eq_true] at h;rw[pB h.1,Nat.eq_of_beq_eq_true h.2]
 | .map n,b,h=>by cases b <;> simp only[MD,Bool.false_eq_true] at h;rw[pB h]
 | .win n x y z,b,h=>by cases b <;> simp only[MD,Bool.false_eq_true,Bool.and_eq_true] at h;rw[pB h.1.1.1,Nat.eq_of_beq_eq_true h.1.1.2,Nat.eq_of_beq_eq_true h.1.2,Nat.eq_of_beq_eq_true h.2]
 | .fn f x y,b,h=>by cases b <;> simp only[MD,Bool.false_eq_true,Bool.and_eq_true] at h;rw[L8 h.1.1,iQ h.1.2,iQ h.2]
 | .agg a,b,h=>by cases b <;> simp only[MD,Bool.false_eq_true] at h;rw[iQ h]
 | .tup a,b,h=>by cases b <;> simp only[MD,Bool.false_eq_true] at h;rw[iQ h]
 | .undef,b,h=>by cases b <;> simp only[MD,Bool.false_eq_true] at h;rfl
theorem iQ:∀{a b:List ac},zW a b=true->a=b
 | [],[],_=>rfl
 | [],_::_,h=>by simp[zW] at h
 | _::_,[],h=>by simp[zW] at h
 | a::l,b::r,h=>by
  simp only[zW] at h
  split at h
  ·rename_i hab;rw[Qu hab,iQ h]
  simp at h
end
def L7:List (Value×al)->List (Value×al)->Bool
 | [],[]=>true
 |(k,d)::l,(k',d')::r=>(match Rx k k'&&L9 d d' with|true=>L7 l r|false=>false)
 | _,_=>false
theorem B7:∀{a b:List (Value×al)},L7 a b=true->a=b
 | [],[],_=>rfl
 | [],_::_,h=>by simp[L7] at h
 | _::_,[],h=>by simp[L7] at h
 |(k,d)::l,(k',d')::r,h=>by
  simp only[L7] at h
  split at h
  ·rename_i hab;simp only[Bool.and_eq_true] at hab;rw[F6 hab.1,zU hab.2,B7 h]
  simp at h
def eqO:aM->aM->Bool
 | .cells a,.cells b=>zW a b
 | .map a,.map b=>L7 a b
 | _,_=>false
theorem F7 {a b:aM} (h:eqO a b=true):a=b:=by
 unfold eqO at h
 split at h
 ·rw[iQ h]
 ·rw[B7 h]
 simp at h
theorem Qs (n:Name):TM n n=true:=by cases n <;> simp[TM]
def FT (n:Name):List (Name×aM)->Option aM
 | []=>none
 |(m,o)::l=>match TM m n with|true=>some o|false=>FT n l
theorem zN {n:Name}:∀{l:List (Name×aM)} {o:aM},FT n l=some o->dV n l=some o
 | [],o,h=>by simp[FT] at h
 |(m,p)::l,o,h=>by
  simp only[FT] at h;simp only[dV]
  split at h
  ·rename_i hm;rw[if_pos (pB hm)];exact h
  rename_i hm;rw[if_neg (fun e=>by rw[e,Qs] at hm;simp at hm)];exact zN h
def uj:List (Name×aM)->List (Name×aM)->Bool
 | [],_=>true
 |(n,o)::l,h=>(match FT n h with
  | some p=>(match eqO o p with|true=>uj l h|false=>false)
  | none=>false)
theorem vR:∀{a b:List (Name×aM)},uj a b=true->Ro a b
 | [],_,_=>fun n ob h=>by simp[dV] at h
 |(n,o)::l,b,h=>by
  simp only[uj] at h
  split at h
  ·rename_i p hp
   split at h
   ·rename_i hab;obtain rfl:=F7 hab;intro k ob hk;simp only[dV] at hk
    split at hk
    ·rename_i hkn;simp only[Option.some.injEq] at hk;subst hk;subst hkn;exact zN hp
    exact vR h k ob hk
   simp at h
  simp at h
def IN:(List (Name×aM))->(List (Name×aM))->Bool
 | [],[]=>true
 |(n,o)::l,(m,p)::r=>(match TM n m&&eqO o p with|true=>IN l r|false=>false)
 | _,_=>false
theorem vp:∀{a b:List (Name×aM)},IN a b=true->a=b
 | [],[],_=>rfl
 | [],_::_,h=>by simp[IN] at h
 | _::_,[],h=>by simp[IN] at h
 |(n,o)::l,(m,p)::r,h=>by
  simp only[IN] at h
  split at h
  ·rename_i hab;simp only[Bool.and_eq_true] at hab;rw[pB hab.1,F7 hab.2,vp h]
  simp at h
def Bj (k:Nat):Name->Name
 | .loc i=>.loc i
 | .out o=>match Nat.beq o k with
  | true=>.out (k+1)
  | false=>(match Nat.beq o (k+1) with|true=>.out k|false=>.out o)
mutual
def DX (k:Nat):ac->ac
 | .dat d=>.dat d
 | .own es=>.own es
 | .ref cs=>.ref cs
 | .ptr n off=>.ptr (Bj k n) off
 | .map n=>.map (Bj k n)
 | .win n s off len=>.win (Bj k n) s off len
 | .fn f a b=>.fn f (xQ k a) (xQ k b)
 | .agg cs=>.agg (xQ k cs)
 | .tup cs=>.tup (xQ k cs)
 | .undef=>.undef
def xQ (k:Nat):List ac->List ac
 | []=>[]
 | a::r=>DX k a::xQ k r
end
def swO (k:Nat):aM->aM
 | .cells cs=>.cells (xQ k cs)
 | .map es=>.map es
def swH (k:Nat):List (Name×aM)->List (Name×aM)
 | []=>[]
 |(n,o)::r=>(Bj k n,swO k o)::swH k r
def Jm:List (Name×aM)->List (Name×aM)
 | x::y::r=>y::x::r
 | r=>r
def swS (k:Nat) (s:aa):aa:=⟨xQ k s.tmps,swH k s.locs,Jm (swH k s.heap),s.next⟩
theorem na (k o:Nat):Bj k (.out o)=if o=k then .out (k+1) else if o=k+1 then .out k else .out o:=by
 simp only[Bj]
 by_cases h1:o=k
 ·subst h1;simp
 have e1:Nat.beq o k=false:=by cases h:Nat.beq o k;rfl;exact absurd (Nat.eq_of_beq_eq_true h) h1
 rw[e1,if_neg h1]
 by_cases h2:o=k+1
 ·subst h2;simp
 have e2:Nat.beq o (k+1)=false:=by cases h:Nat.beq o (k+1);rfl;exact absurd (Nat.eq_of_beq_eq_true h) h2
 simp only[e2,if_neg h2]
theorem xc (k:Nat):∀n,Bj k (Bj k n)=n
 | .loc _=>rfl
 | .out o=>by
  rw[na]
  by_cases h1:o=k
  ·subst h1;rw[if_pos rfl,na];simp
  rw[if_neg h1]
  by_cases h2:o=k+1
  ·subst h2;rw[if_pos rfl,na];simp
  rw[if_neg h2,na,if_neg h1,if_neg h2]
section
variable {w:World} {R:Own} {N:Name->Option Nat} {k:Nat}
mutual
theorem ai.sw:∀{a:ac} {v:Value} {bs:List Nat},ai w R N a v bs->ai w R (fun n=>N (Bj k n)) (DX k a) v bs
 | .dat _,_,_,h=>by simp only[DX,ai] at h ⊢;exact h
 | .own _,_,_,h=>by simp only[DX,ai] at h ⊢;exact h
 | .ref _,_,_,h=>by simp only[DX,ai] at h ⊢;exact h
 | .ptr n off,_,_,h=>by
  simp only[DX,ai] at h ⊢;obtain⟨h0,b,hb,e⟩:=h;exact⟨h0,b,by rw[xc];exact hb,e⟩
 | .map n,_,_,h=>by
  simp only[DX,ai] at h ⊢;obtain⟨h0,b,hb,e⟩:=h;exact⟨h0,b,by rw[xc];exact hb,e⟩
 | .win n s off len,_,_,h=>by
  simp only[DX,ai] at h ⊢;obtain⟨h0,b,cap,hb,e⟩:=h;exact⟨h0,b,cap,by rw[xc];exact hb,e⟩
 | .fn f a c,_,_,h=>by
  simp only[DX,ai] at h ⊢;obtain⟨h0,vs,us,e,h1,h2⟩:=h;exact⟨h0,vs,us,e,ah.sw (as:=a) h1,ah.sw (as:=c) h2⟩
 | .agg cs,_,_,h=>by
  simp only[DX,ai] at h ⊢;obtain⟨vs,e,h1⟩:=h;exact⟨vs,e,ah.sw (as:=cs) h1⟩
 | .tup cs,_,_,h=>by
  simp only[DX,ai] at h ⊢;obtain⟨vs,e,h1⟩:=h;exact⟨vs,e,ah.sw (as:=cs) h1⟩
 | .undef,_,_,h=>by simp only[DX,ai] at h ⊢;exact h
theorem ah.sw:∀{as:List ac} {vs:List Value} {bs:List Nat},ah w R N as vs bs->ah w R (fun n=>N (Bj k n)) (xQ k as) vs bs
 | [],_,_,h=>by simp only[xQ,ah] at h ⊢;exact h
 | a::as,_,_,h=>by
  simp only[xQ,ah] at h ⊢;obtain⟨v,vs',b1,b2,e1,e2,h1,h2⟩:=h;exact⟨v,vs',b1,b2,e1,e2,ai.sw (a:=a) h1,ah.sw (as:=as) h2⟩
end
theorem xP:∀(a b:List ac),xQ k (a++b)=xQ k a++xQ k b
 | [],b=>rfl
 | x::a,b=>by simp only[List.cons_append,xQ,xP a b]
theorem Bk:∀(n:Nat),xQ k (List.replicate n .undef)=List.replicate n .undef
 | 0=>rfl
 | n+1=>by simp only[List.replicate_succ,xQ,DX,Bk n]
theorem Iq {a:ac} (h:xr (DX k a)=true):xr a=true:=by
 cases a <;> simp only[DX] at h <;> first|exact h|rfl|simp[xr] at h
theorem Q9 {cs:List ac} (h:cy (xQ k cs)=true):cy cs=true:=by
 match cs with
 | []=>simp[xQ,cy] at h
 | [a]=>simp[xQ,cy] at h
 | [a,b]=>
  cases b with
  | own es=>simp only[xQ,DX,cy] at h ⊢;exact Iq h
  | dat d=>
   simp only[xQ,DX] at h;unfold cy at h
   split at h
   ·rename_i heq;simp at heq
   ·rename_i p es heq;simp at heq;obtain⟨rfl,rfl⟩:=heq;exact Iq h
   ·rename_i p heq;simp at heq;obtain⟨rfl,rfl⟩:=heq;exact Iq h
   simp at h
  | _=>simp[xQ,DX,cy] at h
 | a::b::c::r=>simp[xQ,cy] at h
theorem aK.sw {o:aM} {b:Nat} {bs:List Nat} (h:aK w R N o b bs):aK w R (fun n=>N (Bj k n)) (swO k o) b bs:=by
 cases o with
 | cells cs=>
  obtain⟨vs,elem,sp,hb,hr,hR,hsh⟩:=h;refine⟨vs,elem,sp,hb,?_,hR,fun hh=>hsh (Q9 hh)⟩
  have:=hr.sw (k:=k)
  rwa [xP,Bk] at this
 | map es=>exact h
theorem aj.sw:∀{os:List (Name×aM)} {bs:List Nat},aj w R N os bs->aj w R (fun n=>N (Bj k n)) (swH k os) bs
 | [],_,h=>h
 |(n,_)::_,_,⟨b,b1,b2,e,hN,h1,h2⟩=>⟨b,b1,b2,e,by show N (Bj k (Bj k n))=_;rw[xc];exact hN,h1.sw,aj.sw h2⟩
theorem aj.Jm {os:List (Name×aM)} {bs:List Nat} (h:aj w R N os bs):∃bs',aj w R N (Jm os) bs'/\bs'.Perm bs:=by
 match os with
 | []=>exact⟨bs,h,List.Perm.refl _⟩
 | [x]=>exact⟨bs,h,List.Perm.refl _⟩
 |(n,o)::(m,p)::r=>
  obtain⟨b,b1,b2,rfl,hN,h1,c,c1,c2,rfl,hM,h2,h3⟩:=h;refine⟨_,⟨c,c1,_,rfl,hM,h2,b,b1,c2,rfl,hN,h1,h3⟩,?_⟩;rw[List.perm_iff_count];intro q;simp only[List.count_append,List.count_cons];omega
theorem Sp:outs (fun n=>N (Bj k n))=fun n=>outs N (Bj k n):=by
 funext n
 cases n with
 | loc i=>rfl
 | out o=>
  have:∃o',Bj k (.out o)=.out o':=by rw[na];split;exact⟨_,rfl⟩;split;exact⟨_,rfl⟩;exact⟨_,rfl⟩
  obtain⟨o',e⟩:=this;simp only[outs,e]
end
theorem NQ {G:bw} {k:Nat} {s:aa} (hk:k+1 < s.next):T9 G k (swS k s) s:=by
 intro w R N tmps bsT bsL bsH bsF hr;obtain⟨bsH',hH,hp⟩:=(hr.heap.sw (k:=k)).Jm;refine⟨fun n=>N (Bj k n),bsT,bsL,bsH',⟨by simp only[ai],hr.tmps.sw,hr.locs.sw,by rw[Sp];exact hH,?_,?_,hr.glob,hr.frame⟩,?_⟩
 ·have:=hr.nodup
  simp only[List.nil_append] at this ⊢;refine (List.Perm.nodup_iff ?_).1 this;exact (((hp.symm.append_right bsF).append_left bsL).append_left bsT)
 ·intro o b hb;have hb:N (Bj k (.out o))=some b:=hb;rw[na] at hb;show o < s.next
  split at hb
  ·rename_i h;subst h;omega
  split at hb
  ·rename_i h;subst h;exact hk
  exact hr.next o b hb
 intro o b ho hb;show N (Bj k (.out o))=some b;rw[na,if_neg (by omega),if_neg (by omega)];exact hb
def By (s s':aa):Bool:=zW s.tmps s'.tmps&&IN s.locs s'.locs&&IN s.heap s'.heap&&Nat.beq s.next s'.next
theorem rl {s s':aa} (h:By s s'=true):s=s':=by
 unfold By at h;simp only[Bool.and_eq_true] at h;obtain⟨t,l,hh,n⟩:=s;obtain⟨t',l',hh',n'⟩:=s';obtain⟨⟨⟨h1,h2⟩,h3⟩,h4⟩:=h;rw[show t=t' from iQ h1,show l=l' from vp h2,show hh=hh' from vp h3,show n=n' from Nat.eq_of_beq_eq_true h4]
def Lm (k:Nat) (s0 s:aa):Bool:=match By s0 s with|true=>true|false=>Nat.blt (k+1) s.next&&By s0 (swS k s)
theorem BC {G:bw} {k:Nat} {s0 s:aa} (h:Lm k s0 s=true):T9 G k s0 s:=by
 unfold Lm at h
 split at h
 ·rename_i hs;rw[rl hs];exact fun w R N tmps bsT bsL bsH bsF hr=>⟨N,bsT,bsL,bsH,hr,fun _ _ _ h=>h⟩
 simp only[Bool.and_eq_true,Nat.blt_eq] at h;rw[rl h.2];exact NQ h.1
end Go.Tp
namespace Go.Tp
structure eW where
 val:ac
 heap:Heap
 next:Nat
abbrev ld:=FuncId->List ac->Heap->Nat->Option eW
structure rP where
 code:Code
 ntmps:Nat
 results:List ResultVar
 ord:Nat->au
 live:Nat->Nat
section
variable (X:ld) (E:bu) (G:bw) (H:Hints)
def GK (all:List Oper) (o:Oper) (s:aa):Option aa:=
 match dh all s o.guard with
 | none=>none
 | some b=>
  if b=true then
   (match cY o.op with
    | some c=>(match lP E G H c s with
     | some (f,args,s2)=>(match X f args s2.heap s2.next with
      | some r=>some (({s2 with heap:=r.heap,next:=r.next }:aa).put o.dst r.val)
      | none=>none)
     | none=>none)
    | none=>cM E G (readOnly H.moves all o) (lp H all o) o s)
  else some (s.put o.dst (.tup []))
def DZ (all:List Oper):List Oper->aa->Option aa
 | [],s=>some s
 | o::rest,s=>(match GK X E G H all o s with|some s'=>DZ all rest s'|none=>none)
def GJ (fh:Bool) (tk:List Nat) (all:List Oper) (o:Oper) (s:aa):Option aa:=
 match dh all s o.guard with
 | none=>none
 | some b=>
  if b=true then
   (match cY o.op with
    | some c=>(match dL E G H c s with
     | some (f,args,s2)=>(match gL H o with
      | true=>(match X f args [] s2.next with
       | some ⟨v,[],n⟩=>some (({s2 with next:=n }:aa).put o.dst v)
       | _=>none)
      | false=>(match X f args s2.heap s2.next with
       | some r=>(match !mc H o||uj s2.heap r.heap with
        | true=>some (({s2 with heap:=r.heap,next:=r.next }:aa).put o.dst r.val)
        | false=>none)
       | none=>none))
     | none=>none)
    | none=>(match eQ o.op with
     | some t=>(match dB fh all (fV all t (ln tk t s)) s with
      | some s1=>cM E G false false o s1
      | none=>none)
     | none=>(match ib o.op with
      | true=>cM E G (readOnly H.moves all o) (lp H all o) o s
      | false=>none)))
  else some (s.put o.dst (.tup []))
def Cu (tk:List Nat) (fh:Bool) (fq:Nat->Bool) (all:List Oper):List (Nat×Bool)->aa->Option aa
 | [],s=>some s
 |(i,lone)::r,s=>
  match all[i]? with
  | none=>none
  | some o=>
   if lone=true then (match GJ X E G H fh tk all o s with|some s'=>Cu tk fh fq all r s'|none=>none)
   else (match ej E G (fh||fq i) all o s with
    | some a=>Cu tk fh fq all r (s.put o.dst a)
    | none=>none)
def Cw (all:List Oper):Nat->Array Bool->aa->Option aa
 | 0,_,s=>some s
 | m+1,listed,s=>match Region.ready .any all.toArray listed with
  | []=>some s
  | i::_=>(match all[i]? with
   | some o=>(match GK X E G H all o s with|some s1=>Cw all m (bI listed i) s1|none=>none)
   | none=>none)
def rh (all:List Oper) (k:Nat) (s0:aa):Nat->Array Bool->aa->Bool
 | 0,listed,s=>(Region.ready .any all.toArray listed).isEmpty&&Lm k s0 s
 | m+1,listed,s=>match Region.ready .any all.toArray listed with
  | []=>Lm k s0 s
  | i::l=>(i::l).all fun i=>match all[i]? with
   | some o=>(match GK X E G H all o s with|some s1=>rh all k s0 m (bI listed i) s1|none=>false)
   | none=>false
def qC:List Bool->List Bool->Bool
 | [],[]=>true
 | true::l,true::r=>qC l r
 | false::l,false::r=>qC l r
 | _,_=>false
def Cv (h:au) (all:List Oper):Nat->Array Bool->aa->Option aa
 | 0,_,s=>some s
 | m+1,listed,s=>match Region.ready .any all.toArray listed with
  | []=>none
  | i::_=>(match all[i]? with
   | some o=>(match GJ X E G H (aL H all h.pre) h.tk all o s with|some s1=>Cv h all m (bI listed i) s1|none=>none)
   | none=>none)
def rf (h:au) (all:List Oper) (p:Array Bool) (s0:aa):Nat->Array Bool->aa->Bool
 | 0,listed,s=>qC listed.toList p.toList&&By s0 s
 | m+1,listed,s=>!qC listed.toList p.toList&&!(Region.ready .any all.toArray listed).isEmpty&&(Region.ready .any all.toArray listed).all fun i=>h.pre.contains (i,true)&&(match all[i]? with
   | some o=>(match GJ X E G H (aL H all h.pre) h.tk all o s with|some s1=>rf h all p s0 m (bI listed i) s1|none=>false)
   | none=>false)
def xE (all:List Oper) (h:au) (s:aa):Option aa:=
 match Cu X E G H h.tk (aL H all h.pre) (quietAt H all h.pre) all (bN h.pre) s with
 | some s1=>(match Cv X E G H h all (h.pre.length - (bN h.pre).length) (eA (bN h.pre) (Array.replicate all.length false)) s1 with
  | some s0=>(match rf X E G H h all (eA h.pre (Array.replicate all.length false)) s0 (h.pre.length - (bN h.pre).length) (eA (bN h.pre) (Array.replicate all.length false)) s1 with
   | true=>(match gY E all h.nw s0 with
    | some s2=>DZ X E G H all (dN all h.tail) s2
    | none=>none)
   | false=>none)
  | none=>none)
 | none=>none
def Je (all:List Oper) (h:au) (s:aa):Option aa:=
 if gi h=true then (match Cw X E G H all all.length (Array.replicate all.length false) s with
  | some s0=>(match rh X E G H all s.next s0 all.length (Array.replicate all.length false) s with|true=>some s0|false=>none)
  | none=>none)
 else
 if gz h=true then xE X E G H all (fT h) s else
 match Cu X E G H h.tk (aL H all h.pre) (quietAt H all h.pre) all h.pre s with
 | some s1=>(match gY E all h.nw s1 with
  | some s2=>DZ X E G H all (dN all h.tail) s2
  | none=>none)
 | none=>none
def RA (rs:List ResultVar) (s:aa):Option eW:=
 match gF E s rs with
 | none=>none
 | some vs=>
  if bA (jg vs)=true then some ⟨pack (jg vs),s.heap,s.next⟩
  else match gP (repeatL s.locs.length (mI s.locs)) s (jg vs) with
   |(s',vs')=>if bA vs'=true then some ⟨pack vs',s'.heap,s'.next⟩ else none
end
def XQ (r:eW):ac->Heap->Nat->Prop:=fun v h n=>v=r.val/\h=r.heap/\n=r.next
section
variable {P:Program} {X:ld} {E:bu} {G:bw} {H:Hints}
def Jd (P:Program) (G:bw) (X:ld):Prop:=∀f args heap next r,X f args heap next=some r->aD P G f args heap next (XQ r)
theorem xD (hX:Jd P G X) {all:List Oper} {o:Oper} {s s':aa} (h:GK X E G H all o s=some s') {K:aa->Prop} (hK:K s'):mr (aD P G) E G H all o K s:=by
 unfold GK at h;unfold mr
 split at h
 ·simp at h
 rename_i b hb;rw[hb];dsimp only
 split at h
 ·rename_i hb1;rw[if_pos hb1]
  split at h
  ·rename_i c hc;rw[hc];dsimp only
   split at h
   ·rename_i f args s2 hcal;rw[hcal];dsimp only
    split at h
    ·rename_i r hr;simp at h;refine (hX _ _ _ _ _ hr).mono ?_;rintro v hh n ⟨rfl,rfl,rfl⟩ _ _;rw[h];exact hK
    simp at h
   simp at h
  rename_i hc;rw[hc];dsimp only;rw[h];exact hK
 rename_i hb1;rw[if_neg hb1];simp at h;rw[h];exact hK
theorem mY (hX:Jd P G X) {all:List Oper} {K:aa->Prop}:∀{ops:List Oper} {s s':aa},DZ X E G H all ops s=some s'->K s'->mq (aD P G) E G H all K ops s
 | [],s,s',h,hK=>by simp[DZ] at h;subst h;exact hK
 | o::rest,s,s',h,hK=>by
  simp only[DZ] at h;simp only[mq,iw]
  split at h
  ·rename_i s1 h1;exact xD hX h1 (mY hX h hK)
  simp at h
theorem xC (hX:Jd P G X) {fh:Bool} {tk:List Nat} {all:List Oper} {o:Oper} {s s':aa} (h:GJ X E G H fh tk all o s=some s') {K:aa->Prop} (hK:K s'):JT (aD P G) E G H fh tk all o K s:=by
 unfold GJ at h;unfold JT
 split at h
 ·simp at h
 rename_i b hb;rw[hb];dsimp only
 split at h
 ·rename_i hb1;rw[if_pos hb1]
  split at h
  ·rename_i c hc;rw[hc];dsimp only
   split at h
   ·rename_i f args s2 hcal;rw[hcal];dsimp only
    cases hpu:gL H o with
    | true=>
     rw[hpu] at h;dsimp only at h ⊢
     split at h
     ·rename_i v n hr;simp at h;refine (hX _ _ _ _ _ hr).mono ?_;rintro v hh n ⟨rfl,rfl,rfl⟩ _ _;exact⟨rfl,by rw[h];exact hK⟩
     simp at h
    | false=>
     rw[hpu] at h;dsimp only at h ⊢
     split at h
     ·rename_i r hr
      split at h
      ·rename_i hst;simp at h;refine (hX _ _ _ _ _ hr).mono ?_;rintro v hh n ⟨rfl,rfl,rfl⟩ _ _;refine⟨fun hrd=>?_,by rw[h];exact hK⟩;rw[hrd] at hst;exact vR (by simpa using hst)
      simp at h
     simp at h
   simp at h
  rename_i hc;rw[hc];dsimp only
  split at h
  ·rename_i t ht;rw[ht];dsimp only
   split at h
   ·rename_i s1 hs1;rw[hs1];dsimp only;rw[h];exact hK
   simp at h
  rename_i ht;rw[ht];dsimp only
  split at h
  ·rename_i hst;rw[hst];dsimp only;rw[h];exact hK
  simp at h
 rename_i hb1;rw[if_neg hb1];simp at h;rw[h];exact hK
theorem mX (hX:Jd P G X) {tk:List Nat} {fh:Bool} {fq:Nat->Bool} {all:List Oper} {T:aa->Prop}:∀{l:List (Nat×Bool)} {s s':aa},Cu X E G H tk fh fq all l s=some s'->T s'->lN (aD P G) E G H tk fh fq all T l s
 | [],s,s',h,hK=>by simp[Cu] at h;subst h;exact hK
 |(i,lone)::rest,s,s',h,hK=>by
  simp only[Cu] at h;simp only[lN]
  split at h
  ·simp at h
  rename_i o ho;rw[ho];dsimp only;simp only[iw]
  split at h
  ·rename_i hl;rw[if_pos hl]
   split at h
   ·rename_i s1 h1;exact xC hX h1 (mX hX h hK)
   simp at h
  rename_i hl;rw[if_neg hl]
  split at h
  ·rename_i a ha;rw[ha];exact mX hX h hK
  simp at h
theorem rV (hX:Jd P G X) {all:List Oper} {k:Nat} {s0:aa} {Q:aa->Prop} (hQ:Q s0):∀(m:Nat) (listed:Array Bool) (s:aa),rh X E G H all k s0 m listed s=true->oD (aD P G) E G H all (fun s'=>∃s0,Q s0/\T9 G k s0 s') m listed s
 | 0,listed,s,h=>by
  simp only[rh,Bool.and_eq_true,List.isEmpty_iff] at h;exact⟨h.1,s0,hQ,BC h.2⟩
 | m+1,listed,s,h=>by
  simp only[rh] at h;simp only[oD]
  split at h
  ·rename_i he;exact .inl ⟨he,s0,hQ,BC h⟩
  rename_i i l he;refine .inr ⟨by rw[he];simp,?_⟩;rw[he];intro j hj;have h1:=List.all_eq_true.1 h j hj
  split at h1
  ·rename_i o ho
   split at h1
   ·rename_i s1 hs1;exact⟨o,ho,xD hX hs1 (rV hX hQ m _ s1 h1)⟩
   simp at h1
  simp at h1
theorem kr:∀{a b:List Bool},qC a b=true↔a=b
 | [],[]=>by simp[qC]
 | [],_::_=>by simp[qC]
 | _::_,[]=>by simp[qC]
 | true::l,true::r=>by simp[qC,kr (a:=l) (b:=r)]
 | false::l,false::r=>by simp[qC,kr (a:=l) (b:=r)]
 | true::l,false::r=>by simp[qC]
 | false::l,true::r=>by simp[qC]
theorem rU (hX:Jd P G X) {h:au} {all:List Oper} {p:Array Bool} {s0:aa} {K:aa->Prop} (hK:K s0):∀(m:Nat) (listed:Array Bool) (s:aa),rf X E G H h all p s0 m listed s=true->vF (aD P G) E G H h all p K m listed s
 | 0,listed,s,hh=>by
  simp only[rf,Bool.and_eq_true] at hh;refine⟨Array.ext' (kr.1 hh.1),?_⟩;rw[←rl hh.2];exact hK
 | m+1,listed,s,hh=>by
  simp only[rf,Bool.and_eq_true,Bool.not_eq_true'] at hh;obtain⟨⟨h1,h2⟩,h3⟩:=hh;refine⟨fun e=>?_,fun e=>by rw[e] at h2;simp at h2,fun i hi=>?_⟩
  ·rw[e,kr.2 rfl] at h1;simp at h1
  have h4:=List.all_eq_true.1 h3 i hi;simp only[Bool.and_eq_true] at h4;refine⟨by simpa using h4.1,?_⟩;have h5:=h4.2
  split at h5
  ·rename_i o ho
   split at h5
   ·rename_i s1 hs1;exact⟨o,ho,xC hX hs1 (rU hX hK m _ s1 h5)⟩
   simp at h5
  simp at h5
theorem Cx (hX:Jd P G X) {all:List Oper} {h:au} {s s':aa} (hh:xE X E G H all h s=some s') {Q:aa->Prop} (hQ:Q s'):AD (aD P G) E G H all h Q s:=by
 unfold xE at hh;unfold AD
 split at hh
 ·rename_i s1 h1;refine mX hX h1 ?_
  split at hh
  ·rename_i s0 _
   split at hh
   ·rename_i h2;refine rU hX ?_ _ _ _ h2
    split at hh
    ·rename_i s2 h3;rw[h3];exact mY hX hh hQ
    simp at hh
   simp at hh
  simp at hh
 simp at hh
theorem D0 (hX:Jd P G X) {all:List Oper} {h:au} {s s':aa} (hh:Je X E G H all h s=some s') {Q:aa->Prop} (hQ:Q s'):AE (aD P G) E G H all h Q s:=by
 unfold Je at hh;unfold AE
 by_cases hx:gi h=true
 ·rw[if_pos hx] at hh;rw[if_pos hx]
  split at hh
  ·rename_i s0 _
   split at hh
   ·rename_i h2;simp only[Option.some.injEq] at hh;subst hh;exact rV hX hQ _ _ _ h2
   simp at hh
  simp at hh
 rw[if_neg hx] at hh;rw[if_neg hx]
 by_cases hlm:gz h=true
 ·rw[if_pos hlm] at hh;rw[if_pos hlm];exact Cx hX hh hQ
 rw[if_neg hlm] at hh;rw[if_neg hlm]
 split at hh
 ·rename_i s1 h1;refine mX hX h1 ?_
  split at hh
  ·rename_i s2 h2;rw[h2];exact mY hX hh hQ
  simp at hh
 simp at hh
theorem re {rs:List ResultVar} {s:aa} {r:eW} (h:RA E rs s=some r):xa E rs (XQ r) s:=by
 unfold RA at h;unfold xa
 split at h
 ·simp at h
 rename_i vs hvs;rw[hvs];dsimp only
 split at h
 ·rename_i hn;rw[if_pos hn];simp at h;subst h;exact⟨rfl,rfl,rfl⟩
 rename_i hn;rw[if_neg hn]
 split at h
 rename_i s' vs' he;rw[he];dsimp only
 split at h
 ·rename_i hn2;rw[if_pos hn2];simp at h;subst h;exact⟨rfl,rfl,rfl⟩
 simp at h
def FOk (P:Program) (moves caps:FuncId->Bool) (F:FuncId->Option rP):Prop:=
 ∀f x,F f=some x->∃fn:Func,P.funcs[f]?=some fn/\fn.body=some x.code/\fn.ntmps=x.ntmps/\fn.results.toList=x.results/\cP ⟨moves,x.ord,caps,false⟩ x.code=true
end
def rP.of (fn:Func) (ord:Nat->au) (live:Nat->Nat):rP:=⟨match fn.body with|some c=>c|none=>.skip,fn.ntmps,fn.results.toList,ord,live⟩
inductive aU where
 |nil
 |node (l:aU) (k:Nat) (fn:Func) (ord:Nat->au) (live:Nat->Nat) (r:aU)
def aU.find:aU->Nat->Option rP
 | .nil,_=>none
 | .node l k fn ord live r,t=>match Nat.blt t k with
  | true=>l.find t
  | false=>(match Nat.blt k t with|true=>r.find t|false=>some (rP.of fn ord live))
def DT (moves caps:FuncId->Bool) (fn:Func) (ord:Nat->au):Bool:=
 match fn.body with
 | some c=>cP ⟨moves,ord,caps,false⟩ c
 | none=>false
def Kz (P:Program) (moves caps:FuncId->Bool) (k:Nat) (fn:Func) (ord:Nat->au):Prop:=P.funcs[k]?=some fn/\DT moves caps fn ord=true
theorem ao {P:Program} {moves caps:FuncId->Bool} {k:Nat} {fn:Func} {ord:Nat->au} (h1:P.funcs[k]?=some fn) (h2:DT moves caps fn ord=true):Kz P moves caps k fn ord:=⟨h1,h2⟩
def aU.GI (P:Program) (moves caps:FuncId->Bool):aU->Prop
 | .nil=>True
 | .node l k fn ord _ r=>l.GI P moves caps/\Kz P moves caps k fn ord/\r.GI P moves caps
theorem aU.all_nil {P:Program} {moves caps:FuncId->Bool}:aU.GI P moves caps .nil:=trivial
theorem aU.ag {P:Program} {moves caps:FuncId->Bool} {l r:aU} {k:Nat} {fn:Func} {ord:Nat->au} {live:Nat->Nat} (h1:l.GI P moves caps) (h2:Kz P moves caps k fn ord) (h3:r.GI P moves caps):aU.GI P moves caps (.node l k fn ord live r):=⟨h1,h2,h3⟩
theorem aU.ok {P:Program} {moves caps:FuncId->Bool}:∀{t:aU},t.GI P moves caps->FOk P moves caps t.find
 | .nil,_=>by intro f x h;simp[aU.find] at h
 | .node l k fn ord live r,⟨h1,h2,h3⟩=>by
  intro f x h;simp only[aU.find] at h
  cases h1':Nat.blt f k with
  | true=>rw[h1'] at h;exact aU.ok h1 f x h
  | false=>
   rw[h1'] at h
   cases h2':Nat.blt k f with
   | true=>rw[h2'] at h;exact aU.ok h3 f x h
   | false=>
    rw[h2'] at h;have a:¬ @LT.lt Nat _ f k:=fun h=>by rw[←Nat.blt_eq,h1'] at h;simp at h
    have b:¬ @LT.lt Nat _ k f:=fun h=>by rw[←Nat.blt_eq,h2'] at h;simp at h
    have hk:@Eq Nat f k:=by omega
    subst hk;simp at h;subst h;obtain⟨g1,g2⟩:=h2;refine⟨fn,g1,?_,rfl,rfl,?_⟩
    ·unfold DT at g2;simp only[rP.of]
     cases hb:fn.body with
     | none=>rw[hb] at g2;simp at g2
     | some c=>rfl
    unfold DT at g2;simp only[rP.of]
    cases hb:fn.body with
    | none=>rw[hb] at g2;simp at g2
    | some c=>rw[hb] at g2;exact g2
end Go.Tp
namespace Go.Tp
def ju:List UInt8->List UInt8->Bool
 | [],[]=>true
 | a::x,b::y=>(match Nat.beq a.toNat b.toNat with|true=>ju x y|false=>false)
 | _,_=>false
def LG:List UInt8->List UInt8->Bool
 | _,[]=>false
 | [],_::_=>true
 | a::x,b::y=>(match Nat.blt a.toNat b.toNat with
  | true=>true
  | false=>(match Nat.beq a.toNat b.toNat with|true=>LG x y|false=>false))
theorem Rb (a b:UInt8):Nat.beq a.toNat b.toNat=(a==b):=by
 rw[Bool.eq_iff_iff,Nat.beq_eq,beq_iff_eq];exact⟨UInt8.toNat_inj.1,fun h=>by rw[h]⟩
theorem YH (a b:UInt8):Nat.blt a.toNat b.toNat=decide (a < b):=by
 rw[Bool.eq_iff_iff,Nat.blt_eq,decide_eq_true_eq];exact UInt8.lt_iff_toNat_lt.symm
theorem vr:∀x y,ju x y=(x==y)
 | [],[]=>rfl
 | [],_::_=>rfl
 | _::_,[]=>rfl
 | a::x,b::y=>by
  simp only[ju,Rb,vr x y]
  cases h:a==b <;> simp_all
theorem Pv:∀x y,LG x y=Op.bytesLess x y
 | [],[]=>rfl
 | [],_::_=>rfl
 | _::_,[]=>rfl
 | a::x,b::y=>by
  simp only[LG,YH,Rb,Pv x y,Op.bytesLess]
  cases decide (a < b) <;> cases h:a==b <;> simp_all
theorem toList_data (x:ByteArray):x.toList=x.data.toList:=ByteArray.toList_eq x
def ap (k:IntKind) (n:Int):Int:=
 match k with
 | .i64=>(match n with
  | .ofNat m=>(match Nat.blt m 9223372036854775808 with|true=>.ofNat m|false=>k.wrap n)
  | .negSucc m=>(match Nat.blt m 9223372036854775808 with|true=>.negSucc m|false=>k.wrap n))
 | .u8=>(match n with
  | .ofNat m=>(match Nat.blt m 256 with|true=>.ofNat m|false=>k.wrap n)
  | .negSucc _=>k.wrap n)
 | .u64=>(match n with
  | .ofNat m=>(match Nat.blt m 18446744073709551616 with|true=>.ofNat m|false=>k.wrap n)
  | .negSucc _=>k.wrap n)
 | _=>k.wrap n
theorem gm {a b:Nat} (h:a<=b):Nat.ble a b=true:=by rw[Nat.ble_eq];exact h
theorem fM {a b:Nat} (h:Nat.ble a b=true):a<=b:=by rwa [Nat.ble_eq] at h
theorem nX {a b:Nat} (h:Nat.blt a b=true):a < b:=by rwa [Nat.blt_eq] at h
theorem cF (k:IntKind) (n:Int):ap k n=k.wrap n:=by
 unfold ap
 split
 ·split
  ·split
   ·rename_i m h;have h:=nX h;simp[IntKind.wrap,IntKind.signed,IntKind.bits];omega
   rfl
  rename_i m
  split
  ·rename_i h;have h:=nX h;have e:(Int.negSucc m:Int)=-(m:Int) - 1:=by rw[Int.negSucc_eq];omega
   exact (wrap_i64 (by rw[e];omega) (by rw[e];omega)).symm
  rfl
 ·split
  ·split
   ·rename_i m h;have h:=nX h;simp[IntKind.wrap,IntKind.signed,IntKind.bits];omega
   rfl
  rfl
 ·split
  ·split
   ·rename_i m h;have h:=nX h;simp[IntKind.wrap,IntKind.signed,IntKind.bits];omega
   rfl
  rfl
 rfl
def aH (a b:Int):Bool:=
 match a,b with
 | .ofNat x,.ofNat y=>Nat.blt x y
 | .negSucc x,.negSucc y=>Nat.blt y x
 | .negSucc _,.ofNat _=>true
 | .ofNat _,.negSucc _=>false
theorem cW (a b:Int):aH a b=decide (a < b):=by
 cases a <;> cases b <;> simp only[aH] <;> rw[Bool.eq_iff_iff] <;> simp[Nat.blt_eq] <;> omega
def aB (a b:Int):Bool:=
 match a,b with
 | .ofNat x,.ofNat y=>Nat.beq x y
 | .negSucc x,.negSucc y=>Nat.beq x y
 | .negSucc _,.ofNat _=>false
 | .ofNat _,.negSucc _=>false
theorem ct (a b:Int):aB a b=(a==b):=by
 cases a <;> cases b <;> simp only[aB] <;> rw[Bool.eq_iff_iff] <;> simp <;> omega
def Nx:TypeDesc->Value->Value->Option Bool
 | .string,.string a,.string b=>some (ju a.data.toList b.data.toList)
 | td,a,b=>Instr.sameNow td a b
theorem Nw (td:TypeDesc) (a b:Value):Nx td a b=Instr.sameNow td a b:=by
 unfold Nx
 split
 ·rename_i x y;simp only[Instr.sameNow,vr,Option.some.injEq];obtain⟨⟨a⟩⟩:=x;obtain⟨⟨b⟩⟩:=y;have e:((⟨⟨a⟩⟩:ByteArray)==⟨⟨b⟩⟩)=((Array.mk a)==(Array.mk b)):=rfl;rw[e];simp
 rfl
def findF (td:TypeDesc) (k:Value):List (Value×al)->Nat->Option (Option (Nat×al))
 | [],_=>some none
 |(x,d)::es,i=>
  match Nx td k x with
  | some true=>some (some (i,d))
  | some false=>findF td k es (i+1)
  | none=>none
theorem FU (td:TypeDesc) (k:Value):∀es i,findF td k es i=findKey td k es i
 | [],_=>rfl
 |(x,d)::es,i=>by
  simp only[findF,findKey,Nw]
  cases h:Instr.sameNow td k x with
  | none=>rfl
  | some b=>cases b <;> simp[FU td k es]
def sizedB (size:Nat):List al->Bool
 | []=>true
 | d::r=>(match Nat.beq d.cells.length size with|true=>sizedB size r|false=>false)
theorem fX {size:Nat}:∀{l:List al},sizedB size l=true↔∀d∈l,d.cells.length=size
 | []=>by simp[sizedB]
 | d::r=>by
  simp only[sizedB]
  split
  ·rename_i h;rw[Nat.beq_eq] at h;rw[fX];simp[h]
  rename_i h
  have:¬d.cells.length=size:=fun e=>by rw[←Nat.beq_eq] at e;rw[e] at h;simp at h
  simp[this]
def Dq {α:Type}:List α->Nat->Option α
 | [],_=>none
 | a::_,0=>some a
 | _::r,n+1=>Dq r n
theorem tp {α:Type}:∀(l:List α) (n:Nat),Dq l n=l[n]?
 | [],_=>by simp[Dq]
 | _::_,0=>by simp[Dq]
 | _::r,n+1=>by simp[Dq,tp r n]
def ak.aC:ak where
 wrap:=ap
 add k a b:=ap k (a+b)
 dif k a b:=ap k (a - b)
 mul k a b:=ap k (a*b)
 lt:=aH
 eq:=aB
 slt x y:=LG x.data.toList y.data.toList
 seq x y:=ju x.data.toList y.data.toList
 cat x y:=(match Nat.ble (x.size+y.size) 9223372036854775807 with|true=>some ⟨⟨x.data.toList++y.data.toList⟩⟩|false=>none)
 elt es i:=(match i with|.ofNat n=>Dq es n|.negSucc _=>none)
 byte s i:=(match i with|.ofNat n=>Dq s.data.toList n|.negSucc _=>none)
 sub size es lo hi:=(match sizedB size es,Nat.blt 0 size with
   | true,true=>(match eh hi es.length,eh lo 0 with
    | some h,some l=>(match Nat.ble l h,Nat.ble h es.length with|true,true=>some ((es.take h).drop l)|_,_=>none)
    | _,_=>none)
   | _,_=>none)
 ssub:=ak.mD.ssub
 app size bytes es ds:=(match size with
   | 0=>none
   | s+1=>(match sizedB (s+1) ds,sizedB (s+1) es,Nat.blt 0 bytes,Nat.ble ((es.length+ds.length)*bytes) 140737488355328,Nat.ble (es.length+ds.length) lim with
    | true,true,true,true,true=>some (es++ds)
    | _,_,_,_,_=>none))
 key td k es:=findF td k es 0
 len:=List.length
 slen:=ByteArray.size
 rem:=Int.tmod
 quo:=Int.tdiv
 mx x y:=(match aH x y with|true=>y|false=>x)
theorem Qp:ak.aC=ak.mD:=by
 unfold ak.aC ak.mD;congr 1
 ·funext k n;exact cF k n
 ·funext k a b;exact cF k _
 ·funext k a b;exact cF k _
 ·funext k a b;exact cF k _
 ·funext a b;exact cW a b
 ·funext a b;exact ct a b
 ·funext x y;rw[Pv,toList_data,toList_data]
 ·funext x y;rw[vr,toList_data,toList_data]
 ·funext x y
  have hm:IntKind.i64.max=9223372036854775807:=by decide
  have hc:(⟨⟨x.data.toList++y.data.toList⟩⟩:ByteArray)=x++y:=by
   have e:x++y=⟨x.data++y.data⟩:=by
    cases x;cases y;simp[ByteArray.ext_iff]
   rw[e]
   cases x;cases y;simp
  rw[hc,hm]
  split
  ·rename_i h;rw[Nat.ble_eq] at h;rw[if_neg (by omega)]
  rename_i h
  have:¬x.size+y.size<=9223372036854775807:=fun e=>by rw[←Nat.ble_eq] at e;rw[e] at h;simp at h
  rw[if_pos (by omega)]
 ·funext es i
  cases i with
  | ofNat n=>simp[tp]
  | negSucc n=>rfl
 ·funext s i
  cases i with
  | ofNat n=>
   simp only[tp];rw[if_pos (show (0:Int)<=Int.ofNat n from Int.natCast_nonneg n)]
   by_cases h:n < s.size
   ·rw[show (Int.ofNat n).toNat=n from rfl,getElem?_pos s n h];have h2:n < s.data.toList.length:=by simpa using h
    rw[List.getElem?_eq_getElem h2];simp[ByteArray.getElem_eq_getElem_data]
   rw[show (Int.ofNat n).toNat=n from rfl,getElem?_neg s n h,List.getElem?_eq_none (by simpa using h)]
  | negSucc n=>rfl
 ·funext size es lo hi
  by_cases h1:∀d∈es,d.cells.length=size
  ·rw[fX.2 h1]
   by_cases h2:0 < size
   ·rw[if_pos ⟨h1,h2⟩,show Nat.blt 0 size=true from by rw[Nat.blt_eq];exact h2];dsimp only
    cases eh hi es.length with
    | none=>rfl
    | some h=>
     cases eh lo 0 with
     | none=>rfl
     | some l=>
      dsimp only
      by_cases h3:l<=h <;> by_cases h4:h<=es.length
      ·rw[if_pos ⟨h3,h4⟩,gm h3,gm h4]
      ·rw[if_neg (fun h=>h4 h.2),gm h3,show Nat.ble h es.length=false from by rw[Bool.eq_false_iff];intro e;exact h4 (fM e)]
      ·rw[if_neg (fun h=>h3 h.1),show Nat.ble l h=false from by rw[Bool.eq_false_iff];intro e;exact h3 (fM e)]
      rw[if_neg (fun h=>h3 h.1),show Nat.ble l h=false from by rw[Bool.eq_false_iff];intro e;exact h3 (fM e)]
   rw[if_neg (fun h=>h2 h.2),show Nat.blt 0 size=false from by rw[Bool.eq_false_iff];intro e;exact h2 (by rwa [Nat.blt_eq] at e)]
  rw[if_neg (fun h=>h1 h.1),show sizedB size es=false from by rw[Bool.eq_false_iff];intro e;exact h1 (fX.1 e)]
 ·funext size bytes es ds
  cases size with
  | zero=>rfl
  | succ s=>
   dsimp only
   by_cases hc:(∀d∈ds,d.cells.length=s+1)/\(∀d∈es,d.cells.length=s+1)/\0 < bytes/\(es.length+ds.length)*bytes<=140737488355328/\es.length+ds.length<=lim
   ·rw[fX.2 hc.1,fX.2 hc.2.1,show Nat.blt 0 bytes=true from by rw[Nat.blt_eq];exact hc.2.2.1,gm hc.2.2.2.1,gm hc.2.2.2.2];exact (if_pos hc).symm
   rw[if_neg hc]
   split
   ·rename_i a1 a2 a3 a4 a5;rw[Nat.blt_eq] at a3;exact absurd ⟨fX.1 a1,fX.1 a2,a3,fM a4,fM a5⟩ hc
   rfl
 ·funext td k es;exact FU td k es 0
 funext x y
 rw[cW]
 by_cases h:x < y <;> simp[h]
end Go.Tp
namespace Go.Tp
abbrev Sl:=List (Nat×ac)
structure ab where
 sl:Sl
 locs:Heap
 heap:Heap
 next:Nat
noncomputable def qA (l:Sl) (t:Nat):ac:=
 @List.rec (Nat×ac) (fun _=>ac) .undef (fun p _ ih=>@Bool.rec (fun _=>ac) ih p.2 (Nat.beq p.1 t)) l
theorem zH (t:Nat):qA [] t=.undef:=rfl
theorem gT (d:Nat) (v:ac) (r:Sl) (t:Nat):qA ((d,v)::r) t=if d=t then v else qA r t:=by
 have e:qA ((d,v)::r) t=@Bool.rec (fun _=>ac) (qA r t) v (Nat.beq d t):=rfl;rw[e]
 by_cases h:d=t
 ·have:Nat.beq d t=true:=by rw[Nat.beq_eq];exact h
  rw[this,if_pos h]
 have:Nat.beq d t=false:=by rw[Bool.eq_false_iff];intro hc;rw[Nat.beq_eq] at hc;exact h hc
 rw[this,if_neg h]
noncomputable def Fi:Nat->Nat->Sl->List ac
 | 0,_,_=>[]
 | n+1,k,l=>qA l k::Fi n (k+1) l
theorem nq:∀(n k:Nat) (l:Sl),(Fi n k l).length=n
 | 0,_,_=>rfl
 | n+1,k,l=>by simp[Fi,nq n]
theorem lD:∀(n k:Nat) (l:Sl) (t:Nat),(Fi n k l)[t]?=if t < n then some (qA l (k+t)) else none
 | 0,_,_,_=>by simp[Fi]
 | n+1,k,l,0=>by simp[Fi]
 | n+1,k,l,t+1=>by
  simp only[Fi,List.getElem?_cons_succ,lD n (k+1) l t];rw[show k+1+t=k+(t+1) by omega]
  by_cases h:t < n
  ·rw[if_pos h,if_pos (by omega)]
  rw[if_neg h,if_neg (by omega)]
theorem Db (n:Nat) (l:Sl) (d:Nat) (v:ac):(Fi n 0 l).set d v=Fi n 0 ((d,v)::l):=by
 apply List.ext_getElem?
 intro i;rw[List.getElem?_set,nq,lD,lD,Nat.zero_add,gT]
 by_cases h:d=i
 ·subst h;simp
 rw[if_neg h,if_neg h]
noncomputable def AW (f:ac->ac) (l:Sl):Sl:=@List.rec (Nat×ac) (fun _=>Sl) [] (fun p _ ih=>(p.1,f p.2)::ih) l
theorem Fo {f:ac->ac} (hf:f .undef=.undef) (t:Nat):∀l:Sl,qA (AW f l) t=f (qA l t)
 | []=>by rw[show AW f []=[] from rfl,zH,hf]
 |(d,v)::r=>by
  have e:AW f ((d,v)::r)=(d,f v)::AW f r:=rfl;rw[e,gT,gT]
  split
  ·rfl
  exact Fo hf t r
theorem qc {f:ac->ac} (hf:f .undef=.undef):∀(n k:Nat) (l:Sl),(Fi n k l).map f=Fi n k (AW f l)
 | 0,_,_=>rfl
 | n+1,k,l=>by simp only[Fi,List.map_cons,Fo hf,qc hf n]
def rz (n:Name) (a:ac):ac:=if mentions n a=true then .undef else a
theorem rA (n:Name):∀l,di n l=l.map (rz n)
 | []=>rfl
 | a::r=>by rw[di,rA n r];rfl
theorem FK (n:Name) (ds:List al):∀l,gM n ds l=l.map (vh n ds)
 | []=>by simp[gM]
 | a::r=>by simp[gM,FK n ds r]
theorem yI (n m:Name):∀l,eN n m l=l.map (sr n m)
 | []=>by simp[eN]
 | a::r=>by simp[eN,yI n m r]
noncomputable def ab.an (n:Nat) (f:ab):aa:=⟨Fi n 0 f.sl,f.locs,f.heap,f.next⟩
section
variable (E:bu) (G:bw) (H:Hints) (n:Nat)
noncomputable def qB (f:ab) (t:Nat):ac:=@Bool.rec (fun _=>ac) .undef (qA f.sl t) (Nat.blt t n)
theorem jb (f:ab) (t:Nat):bn (f.an n).tmps t=qB n f t:=by
 unfold bn qB ab.an;rw[lD]
 by_cases h:t < n
 ·have:Nat.blt t n=true:=by rw[Nat.blt_eq];exact h
  rw[if_pos h,this,Nat.zero_add]
 have:Nat.blt t n=false:=by rw[Bool.eq_false_iff];intro hc;rw[Nat.blt_eq] at hc;exact h hc
 rw[if_neg h,this]
def iD (f:ab) (dst:Option Tmp) (v:ac):ab:=
 match f,dst with
 | ⟨sl,locs,heap,next⟩,some d=>⟨(d,v)::sl,locs,heap,next⟩
 | f,none=>f
theorem eE (f:ab) (dst:Option Tmp) (v:ac):(iD f dst v).an n=(f.an n).put dst v:=by
 cases dst with
 | none=>rfl
 | some d=>simp only[iD,ab.an,aa.put,Db]
noncomputable def oA (f:ab):Operand->ac
 | .tmp t=>qB n f t
 | .const v=>bE v
 | .global g=>match G g with|some cs=>.ref cs|none=>.undef
 | .func g=>.fn (.func g) [] []
theorem mL (f:ab) (x:Operand):eR G (f.an n) x=oA G n f x:=by
 cases x with
 | tmp t=>exact jb n f t
 | const v=>rfl
 | global g=>rfl
 | func g=>rfl
def PY (mv:Option Nat) (k:Nat):Bool:=match mv with|none=>false|some j=>Nat.beq j k
theorem Kr (mv:Option Nat) (k:Nat):(PY mv k=true)↔mv=some k:=by
 cases mv with
 | none=>simp[PY]
 | some j=>simp[PY]
noncomputable def fR (f:ab) (mv:Option Nat):Nat->List Operand->List ac
 | _,[]=>[]
 | k,x::r=>(match PY mv k with|true=>oA G n f x|false=>cL (oA G n f x))::fR f mv (k+1) r
theorem pz (f:ab) (mv:Option Nat):∀(xs:List Operand) (k:Nat),aG G (f.an n) mv k xs=fR G n f mv k xs
 | [],_=>rfl
 | x::r,k=>by
  simp only[aG,fR,mL,pz f mv r (k+1)]
  by_cases h:mv=some k
  ·rw[if_pos h,(Kr mv k).2 h]
  have:PY mv k=false:=by rw[Bool.eq_false_iff];intro hc;exact h ((Kr mv k).1 hc)
  rw[if_neg h,this]
noncomputable def tA (f:ab) (mv:Option Nat) (xs:List Operand):ab:=
 match mv with
 | none=>f
 | some k=>match xs[k]? with
  | some (.tmp t)=>iD f (some t) (cL (qB n f t))
  | _=>f
theorem zQ (f:ab) (mv:Option Nat) (xs:List Operand):(tA n f mv xs).an n=bF (f.an n) mv xs:=by
 unfold tA bF
 cases mv with
 | none=>rfl
 | some k=>
  dsimp only
  cases h:xs[k]? with
  | none=>rfl
  | some x=>
   cases x with
   | tmp t=>rw[eE];simp only[aa.put,jb]
   | _=>rfl
def sM:Name->Name->Bool
 | .loc i,.loc j=>Nat.beq i j
 | .out i,.out j=>Nat.beq i j
 | _,_=>false
theorem ko (a b:Name):sM a b=true↔a=b:=by
 cases a <;> cases b <;> simp[sM]
def pO (k:Name):Heap->Option aM
 | []=>none
 |(m,o)::r=>match sM m k with|true=>some o|false=>pO k r
theorem jA (k:Name):∀l,pO k l=dV k l
 | []=>rfl
 |(m,o)::r=>by
  simp only[pO,dV,jA k r]
  by_cases h:m=k
  ·rw[if_pos h,(ko m k).2 h]
  have:sM m k=false:=by rw[Bool.eq_false_iff];intro hc;exact h ((ko m k).1 hc)
  rw[if_neg h,this]
def pL (k:Name) (o':aM):Heap->Heap
 | []=>[]
 |(m,o)::r=>match sM m k with|true=>(m,o')::r|false=>(m,o)::pL k o' r
def pR (k:Name):Heap->Heap
 | []=>[]
 |(m,o)::r=>match sM m k with|true=>pR k r|false=>(m,o)::pR k r
theorem mU (k:Name) (o':aM):∀l,pL k o' l=iE k o' l
 | []=>rfl
 |(m,o)::r=>by
  simp only[pL,iE,mU k o' r]
  by_cases h:m=k
  ·rw[if_pos h,(ko m k).2 h]
  have:sM m k=false:=by rw[Bool.eq_false_iff];intro hc;exact h ((ko m k).1 hc)
  rw[if_neg h,this]
theorem kX (k:Name):∀l,pR k l=iV k l
 | []=>rfl
 |(m,o)::r=>by
  simp only[pR,iV,kX k r]
  by_cases h:m=k
  ·rw[if_pos h,(ko m k).2 h]
  have:sM m k=false:=by rw[Bool.eq_false_iff];intro hc;exact h ((ko m k).1 hc)
  rw[if_neg h,this]
def Qj (f:ab) (k:Name):Option aM:=
 match k with
 | .loc i=>pO (.loc i) f.locs
 | .out o=>pO (.out o) f.heap
theorem Dw (f:ab) (k:Name):(f.an n).obj k=Qj f k:=by
 cases k <;> simp[aa.obj,Qj,ab.an,jA]
def qo (f:ab) (o:Op) (vals:List ac):Option aM:=match looks o vals with|some k=>Qj f k|none=>none
theorem zL (f:ab) (o:Op) (vals:List ac):aX (f.an n) o vals=qo f o vals:=by
 unfold aX qo
 cases looks o vals with
 | none=>rfl
 | some k=>exact Dw n f k
def ql (f:ab) (k:Name) (o:aM):Option ab:=
 match f,k with
 | ⟨sl,locs,heap,next⟩,.loc i=>some ⟨sl,pL (.loc i) o locs,heap,next⟩
 | ⟨sl,locs,heap,next⟩,.out i=>if bC o=true then some ⟨sl,locs,pL (.out i) o heap,next⟩ else none
theorem IB (f:ab) (k:Name) (o:aM):(f.an n).setObj k o=(ql f k o).map (·.an n):=by
 obtain⟨sl,locs,heap,next⟩:=f
 cases k with
 | loc i=>simp[aa.setObj,ql,ab.an,mU]
 | out i=>
  simp only[aa.setObj,ql,ab.an,mU]
  split <;> simp[ab.an]
noncomputable def TF (f:ab) (d:Nat) (o:aM):ab:=
 match f with
 | ⟨sl,locs,heap,next⟩=>⟨(d,zf d o)::AW (rz (.loc d)) sl,(.loc d,o)::kG (.loc d) locs,heap,next⟩
theorem Ky (f:ab) (d:Nat) (o:aM):(TF f d o).an n=newObj (f.an n) d o:=by
 obtain⟨sl,locs,heap,next⟩:=f;simp only[TF,newObj,ab.an,rA];rw[qc (f:=rz (.loc d)) (by simp[rz,mentions]),Db]
noncomputable def Dx (f:ab) (d:Nat) (o:aM) (sz len:Nat):ab:=
 match f with
 | ⟨sl,locs,heap,next⟩=>⟨(d,.win (.loc d) sz 0 len)::AW (rz (.loc d)) sl,(.loc d,o)::kG (.loc d) locs,heap,next⟩
theorem IE (f:ab) (d:Nat) (o:aM) (sz len:Nat):(Dx f d o sz len).an n=nn (f.an n) d o sz len:=by
 obtain⟨sl,locs,heap,next⟩:=f;simp only[Dx,nn,ab.an,rA];rw[qc (f:=rz (.loc d)) (by simp[rz,mentions]),Db]
noncomputable def kR (o:Oper) (k:Option Name) (f:ab) (out:Out):Option ab:=
 match out with
 | ⟨val,eff⟩=>match eff with
  | .keep=>some (iD f o.dst val)
  | .set ob'=>(match k with
   | some k=>(match ql f k ob' with|some f=>some (iD f o.dst val)|none=>none)
   | none=>none)
  | .new ob'=>(match o.dst with
   | some d=>if mK d ob'=true then some (TF f d ob') else none
   | none=>none)
  | .row ob' sz len=>(match o.dst with
   | some d=>if mK d ob'=true then some (Dx f d ob' sz len) else none
   | none=>none)
  | .fresh ob'=>(match f with
   | ⟨sl,locs,heap,next⟩=>if bC ob'=true then some (iD ⟨sl,locs,(.out next,ob')::heap,next+1⟩ o.dst (rD next ob')) else none)
  | .grow ob' sz len=>(match f with
   | ⟨sl,locs,heap,next⟩=>match k with
    | some (.loc j)=>if bC ob'=true then some (iD ⟨sl,pR (.loc j) locs,(.out next,ob')::heap,next+1⟩ o.dst (.win (.out next) sz 0 len)) else none
    | some (.out j)=>if bC ob'=true then some (iD ⟨sl,locs,(.out next,ob')::pR (.out j) heap,next+1⟩ o.dst (.win (.out next) sz 0 len)) else none
    | none=>if bC ob'=true then some (iD ⟨sl,locs,(.out next,ob')::heap,next+1⟩ o.dst (.win (.out next) sz 0 len)) else none)
theorem FJ (o:Oper) (k:Option Name) (f:ab) (out:Out):dK o k (f.an n) out=(kR o k f out).map (·.an n):=by
 obtain⟨val,eff⟩:=out;unfold dK kR
 cases eff with
 | keep=>simp[eE]
 | set ob'=>
  cases k with
  | none=>rfl
  | some k=>
   dsimp only;rw[IB]
   cases ql f k ob' with
   | none=>rfl
   | some f'=>simp[eE]
 | new ob'=>
  dsimp only
  cases o.dst with
  | none=>rfl
  | some d=>dsimp only;split <;> simp[Ky]
 | row ob' sz len=>
  dsimp only
  cases o.dst with
  | none=>rfl
  | some d=>dsimp only;split <;> simp[IE]
 | fresh ob'=>
  obtain⟨sl,locs,heap,next⟩:=f;dsimp only
  split
  ·simp only[Option.map_some,eE];rfl
  rfl
 | grow ob' sz len=>
  obtain⟨sl,locs,heap,next⟩:=f;dsimp only
  cases k with
  | none=>
   dsimp only
   split
   ·simp only[Option.map_some,eE,kX];rfl
   rfl
  | some k=>
   cases k with
   | loc j=>
    dsimp only
    split
    ·simp only[Option.map_some,eE,kX];rfl
    rfl
   | out j=>
    dsimp only
    split
    ·simp only[Option.map_some,eE,kX];rfl
    rfl
noncomputable def Ds (o:Oper) (mv:Option Nat) (xs:List Operand) (take:Bool) (f:ab) (vals:List ac):Option ab:=
 match jf E take o.op vals (qo f o.op vals) with
 | none=>none
 | some out=>kR o (looks o.op vals) (tA n f mv xs) out
noncomputable def wi (q take:Bool) (o:Oper) (f:ab):Option ab:=
 Ds E n o (jS q o.op) (opsL o.op) take f (fR G n f (jS q o.op) 0 (opsL o.op))
theorem tq (q take:Bool) (o:Oper) (f:ab):cM E G q take o (f.an n)=(wi E G n q take o f).map (·.an n):=by
 unfold cM wi Ds;rw[pz,zL]
 split
 ·rename_i h;rw[h];rfl
 rename_i out h;rw[h];dsimp only;rw[←zQ,FJ]
noncomputable def oz:ab->List Operand->List ac×ab
 | f,[]=>([],f)
 | f,x::r=>
  match oz (tA n f (some 0) [x]) r with
  |(vs,f')=>(oA G n f x::vs,f')
theorem zK:∀(xs:List Operand) (f:ab),cG G (f.an n) xs=((oz G n f xs).1,(oz G n f xs).2.an n)
 | [],f=>rfl
 | x::r,f=>by
  simp only[cG,oz,←zQ,zK r,mL]
noncomputable def vk (fz:Bool) (k:Name) (f:ab) (args:List ac):Option (ab×List ac):=
 match f with
 | ⟨sl,locs,heap,next⟩=>match k,pO k locs with
  | .loc _,some (.cells cs)=>
   match tt fz k args cs with
   | some ds=>some (⟨AW (vh k ds) sl,rE (gM k ds) (iV k locs),heap,next⟩,gM k ds args)
   | none=>if bA (eN k (.out next) cs)=true then
    some (⟨AW (sr k (.out next)) sl,rE (eN k (.out next)) (iV k locs),(.out next,.cells (eN k (.out next) cs))::heap,next+1⟩,eN k (.out next) args)
   else none
  | .loc _,some (.map es)=>
   some (⟨AW (sr k (.out next)) sl,rE (eN k (.out next)) (iV k locs),(.out next,.map es)::heap,next+1⟩,eN k (.out next) args)
  | _,_=>none
theorem B2 (fz:Bool) (k:Name) (f:ab) (args:List ac):sE fz k (f.an n) args=(vk fz k f args).map (fun x=>(x.1.an n,x.2)):=by
 obtain⟨sl,locs,heap,next⟩:=f;unfold sE vk;simp only[ab.an,jA]
 cases k with
 | out i=>rfl
 | loc i=>
  cases dV (.loc i) locs with
  | none=>rfl
  | some ob=>
   cases ob with
   | cells cs=>
    dsimp only
    cases tt fz (.loc i) args cs with
    | some ds=>simp only[FK,Option.map_some,ab.an];rw[qc (by simp[vh])]
    | none=>
     dsimp only
     by_cases hno:bA (eN (.loc i) (.out next) cs)=true
     ·refine (if_pos hno).trans ?_;rw[if_pos hno];simp only[yI,Option.map_some,ab.an];rw[qc (by simp[sr])]
     refine (if_neg hno).trans ?_;rw[if_neg hno];rfl
   | map es=>simp only[yI,Option.map_some,ab.an];rw[qc (by simp[sr])]
noncomputable def wl (fz:Bool):List Name->ab->List ac->ab×List ac
 | [],f,args=>(f,args)
 | k::ks,f,args=>
  match vk fz k f args with
  | some (f',args')=>wl fz ks f' args'
  | none=>wl fz ks f args
theorem tx (fz:Bool):∀(ks:List Name) (f:ab) (args:List ac),uI fz ks (f.an n) args=((wl fz ks f args).1.an n,(wl fz ks f args).2)
 | [],_,_=>rfl
 | k::ks,f,args=>by
  simp only[uI,wl,B2]
  cases vk fz k f args with
  | none=>exact tx fz ks f args
  | some x=>exact tx fz ks x.1 x.2
def tz (f:ab) (args:List ac):List Name:=
 match rO (pf args) [] with
 | []=>[]
 | l=>Uc (Ah f.locs f.locs.length l)
theorem IF (f:ab) (args:List ac):H9 (f.an n) args=tz f args:=rfl
noncomputable def qp (c:Call) (f:ab):Option (FuncId×List ac×ab):=
 match c.callee with
 | .value x=>(match oA G n f x with
  | .fn (.func g) first captured=>
   if E.fn g=true then
    match (match H.moves g with|true=>oz G n f c.args.toList|false=>(fR G n f none 0 c.args.toList,f)) with
    |(vs,f1)=>(match wl (!H.caps g) (tz f1 (first++vs++captured)) f1 (first++vs++captured) with
     |(f2,args)=>if bA args=true then some (g,args,f2) else none)
   else none
  | _=>none)
 | _=>none
theorem zR (c:Call) (f:ab):lP E G H c (f.an n)=(qp E G H n c f).map (fun x=>(x.1,x.2.1,x.2.2.an n)):=by
 unfold lP qp
 cases c.callee with
 | builtin b=>rfl
 | invoke a b=>rfl
 | value x=>
  dsimp only;rw[mL]
  cases oA G n f x with
  | fn fo first captured=>
   cases fo with
   | func g=>
    dsimp only
    by_cases hfn:E.fn g=true
    ·rw[if_pos hfn,if_pos hfn];have e:(if H.moves g=true then cG G (f.an n) c.args.toList else (aG G (f.an n) none 0 c.args.toList,f.an n)) =
       ((match H.moves g with|true=>oz G n f c.args.toList|false=>(fR G n f none 0 c.args.toList,f)).1,(match H.moves g with|true=>oz G n f c.args.toList|false=>(fR G n f none 0 c.args.toList,f)).2.an n):=by
      cases hm:H.moves g with
      | true=>rw[if_pos rfl,zK]
      | false=>rw[if_neg (by simp),pz]
     rw[e];generalize (match H.moves g with|true=>oz G n f c.args.toList|false=>(fR G n f none 0 c.args.toList,f))=pr;obtain⟨vs,f1⟩:=pr;dsimp only;rw[IF,tx];generalize wl (!H.caps g) (tz f1 (first++vs++captured)) f1 (first++vs++captured)=pr;obtain⟨f2,args⟩:=pr;dsimp only
     by_cases hno:bA args=true
     ·rw[if_pos hno,if_pos hno];rfl
     rw[if_neg hno,if_neg hno];rfl
    rw[if_neg hfn,if_neg hfn];rfl
   | _=>rfl
  | _=>rfl
noncomputable def mM (c:Call) (f:ab):Option (FuncId×List ac×ab):=
 match c.callee with
 | .value x=>(match oA G n f x with
  | .fn (.func g) first captured=>
   if E.fn g=true then
    match (match H.moves g with|true=>oz G n f c.args.toList|false=>(fR G n f none 0 c.args.toList,f)) with
    |(vs,f1)=>if bA (first++vs++captured)=true then some (g,first++vs++captured,f1) else none
   else none
  | _=>none)
 | _=>none
theorem ww (c:Call) (f:ab):dL E G H c (f.an n)=(mM E G H n c f).map (fun x=>(x.1,x.2.1,x.2.2.an n)):=by
 unfold dL mM
 cases c.callee with
 | builtin b=>rfl
 | invoke a b=>rfl
 | value x=>
  dsimp only;rw[mL]
  cases oA G n f x with
  | fn fo first captured=>
   cases fo with
   | func g=>
    dsimp only
    by_cases hfn:E.fn g=true
    ·rw[if_pos hfn,if_pos hfn];have e:(if H.moves g=true then cG G (f.an n) c.args.toList else (aG G (f.an n) none 0 c.args.toList,f.an n)) =
       ((match H.moves g with|true=>oz G n f c.args.toList|false=>(fR G n f none 0 c.args.toList,f)).1,(match H.moves g with|true=>oz G n f c.args.toList|false=>(fR G n f none 0 c.args.toList,f)).2.an n):=by
      cases hm:H.moves g with
      | true=>rw[if_pos rfl,zK]
      | false=>rw[if_neg (by simp),pz]
     rw[e];generalize (match H.moves g with|true=>oz G n f c.args.toList|false=>(fR G n f none 0 c.args.toList,f))=pr;obtain⟨vs,f1⟩:=pr;dsimp only
     by_cases hno:bA (first++vs++captured)=true
     ·rw[if_pos hno,if_pos hno];rfl
     rw[if_neg hno,if_neg hno];rfl
    rw[if_neg hfn,if_neg hfn];rfl
   | _=>rfl
  | _=>rfl
noncomputable def gH (ops:List Oper) (f:ab) (g:Option (Nat×Bool)):Option Bool:=
 match g with
 | none=>some true
 | some (j,want)=>(match ops[j]? with
  | some o=>(match o.dst with
   | some t=>(match qB n f t with
    | .dat (.flat (.bool b))=>some (b==want)
    | .tup []=>some false
    | _=>none)
   | none=>none)
  | none=>none)
theorem kQ (ops:List Oper) (f:ab) (g:Option (Nat×Bool)):dh ops (f.an n) g=gH n ops f g:=by
 unfold dh gH
 cases g with
 | none=>rfl
 | some p=>
  obtain⟨j,want⟩:=p;dsimp only
  cases ops[j]? with
  | none=>rfl
  | some o=>
   dsimp only
   cases o.dst with
   | none=>rfl
   | some t=>dsimp only;rw[jb];rfl
noncomputable def px (fh:Bool) (all:List Oper) (o:Oper) (f:ab):Option ac:=
 match gH n all f o.guard with
 | none=>none
 | some b=>
  if b=true then
   if nE o.op=true then (match jf E false o.op [] none with|some _=>some .undef|none=>none)
   else (match cY o.op with
    | some _=>none
    | none=>
     if (iK o.op&&ph fh (looks o.op (fR G n f none 0 (opsL o.op))))=true then
      (match jf E false o.op (fR G n f none 0 (opsL o.op)) (qo f o.op (fR G n f none 0 (opsL o.op))) with
       | some out=>(match out.eff with|.keep=>some out.val|_=>none)
       | none=>none)
     else none)
  else some (.tup [])
theorem vg (fh:Bool) (all:List Oper) (o:Oper) (f:ab):ej E G fh all o (f.an n)=px E G n fh all o f:=by
 unfold ej px;rw[kQ,pz,zL];rfl
def Qi (f:ab) (k:Name) (o:aM):ab:=
 match f,k with
 | ⟨sl,locs,heap,next⟩,.loc i=>⟨sl,pL (.loc i) o locs,heap,next⟩
 | ⟨sl,locs,heap,next⟩,.out i=>⟨sl,locs,pL (.out i) o heap,next⟩
theorem Qh (f:ab) (k:Name) (o:aM):(Qi f k o).an n=(f.an n).jQ k o:=by
 obtain⟨sl,locs,heap,next⟩:=f
 cases k <;> simp[Qi,ab.an,aa.jQ,mU]
noncomputable def lF (fh:Bool) (all:List Oper):List Nat->ab->Option ab
 | [],f=>some f
 | i::r,f=>
  match all[i]? with
  | some o=>(match o.op,o.dst,o.guard with
   | .load _ (.tmp u),some t,none=>(match qB n f u with
    | .ptr k off=>if Da fh k=true then (match Qj f k with
     | some (.cells cs)=>(match cs[off]? with
      | some (.own es)=>(match qB n f t with
       | .dat (.slice _)=>lF fh all r (Qi (iD f (some t) (.own es)) k (.cells (cO off [.dat (.slice es)] cs)))
       | _=>none)
      | _=>none)
     | _=>none) else none
    | _=>none)
   | _,_,_=>none)
  | none=>none
theorem nL (fh:Bool) (all:List Oper):∀(tk:List Nat) (f f':ab),lF n fh all tk f=some f'->dB fh all tk (f.an n)=some (f'.an n)
 | [],f,f',h=>by simp[lF] at h;subst h;rfl
 | i::r,f,f',h=>by
  simp only[lF] at h
  split at h
  ·rename_i o ho
   split at h
   ·rename_i T u t hop hd hg
    split at h
    ·rename_i k off hu
     split at h
     ·rename_i hok
      split at h
      ·rename_i cs hob
       split at h
       ·rename_i es hes
        split at h
        ·rename_i es2 ht;have ih:=nL fh all r _ _ h;rw[Qh,eE] at ih;simp only[dB,ho,hop,hd,hg];rw[jb,hu];dsimp only;rw[if_pos hok,Dw,hob];dsimp only;rw[hes];dsimp only;rw[jb,ht];exact ih
        simp at h
       simp at h
      simp at h
     simp at h
    simp at h
   simp at h
  simp at h
noncomputable def Pu (m:Name) (l:Sl):Bool:=@List.rec (Nat×ac) (fun _=>Bool) false (fun p _ ih=>mentions m p.2||ih) l
theorem Fj {m:Name} (t:Nat):∀{l:Sl},Pu m l=false->mentions m (qA l t)=false
 | [],_=>by rw[zH];simp[mentions]
 |(d,v)::r,h=>by
  have e:Pu m ((d,v)::r)=(mentions m v||Pu m r):=rfl;rw[e,Bool.or_eq_false_iff] at h;rw[gT]
  split
  ·exact h.1
  exact Fj t h.2
theorem JX {m:Name} {l:Sl} (h:Pu m l=false):∀n k:Nat,aV m (Fi n k l)=false
 | 0,_=>by simp[Fi,aV]
 | n+1,k=>by simp only[Fi,aV,Fj k h,JX h n (k+1),Bool.or_self]
noncomputable def nM (all:List Oper) (mk:Option Nat) (f:ab):Option ab:=
 match mk with
 | none=>some f
 | some i=>(match all[i]? with
  | some o=>(match o.op,o.dst,o.guard with
   | .alloc t,some d,none=>(match E.ty t with
    | some ti=>if eD (bj (bE ti.zero))=true/\aV (.loc d) (bj (bE ti.zero))=false/\d < n/\Pu (.loc d) f.sl=false then some (TF f d (.cells (bj (bE ti.zero)))) else none
    | none=>none)
   | _,_,_=>none)
  | none=>none)
theorem jX (all:List Oper) (mk:Option Nat) (f f':ab) (h:nM E n all mk f=some f'):gY E all mk (f.an n)=some (f'.an n):=by
 unfold nM at h;unfold gY;have hl:(f.an n).tmps.length=n:=nq n 0 f.sl
 cases mk with
 | none=>simp at h;subst h;rfl
 | some i=>
  dsimp only at h ⊢
  cases hi:all[i]? with
  | none=>rw[hi] at h;simp at h
  | some o=>
   rw[hi] at h;dsimp only at h ⊢
   split at h
   ·rename_i t d hop hd hg;rw[hop,hd,hg];dsimp only
    cases hty:E.ty t with
    | none=>rw[hty] at h;simp at h
    | some ti=>
     rw[hty] at h;dsimp only at h ⊢;rw[hl]
     split at h
     ·rename_i hc;rw[if_pos ⟨hc.1,hc.2.1,hc.2.2.1,JX hc.2.2.2 n 0⟩];simp at h;subst h;rw[Ky]
     simp at h
   simp at h
end
end Go.Tp
namespace Go.Tp
def jc:ac->Option al
 | .dat (.flat v)=>some (.flat v)
 | .dat (.slice es)=>some (.slice es)
 | .own es=>some (.slice es)
 | _=>none
def mS:Nat->List ac->Option (List al)
 | 0,_=>some []
 | n+1,a::r=>(match jc a with|some d=>(match mS n r with|some l=>some (d::l)|none=>none)|none=>none)
 | _+1,[]=>none
def CM (n len:Nat) (ob:Option aM):Option (Nat×List al):=
 match ob with
 | some (.cells cs)=>(match Nat.ble len 4294967296 with
  | true=>(match mS len cs with|some (e::es)=>some (n,e::es)|_=>none)
  | false=>none)
 | _=>none
def rowOf (a:ac):Option (Nat×Nat):=
 match a with
 | .win (.out n) 1 0 len=>some (n,len)
 | _=>none
def xd (a:ac) (heap:List (Name×aM)):Option (Nat×List al):=
 match rowOf a with
 | some x=>CM x.1 x.2 (dV (.out x.1) heap)
 | none=>none
def CN (t:Nat) (s:aa):Option aa:=
 match xd (bn s.tmps t) s.heap with
 | some (n,es)=>some {s with tmps:=s.tmps.set t (.dat (.slice es)),heap:=iV (.out n) s.heap }
 | none=>none
def fw (G:bw) (s s2:aa):Prop:=
 ∀(w:World) (R:Own) (N:Name->Option Nat) (tmps:List Value) (bsT bsL bsH bsF:List Nat),cZ G w R N tmps s undef .undef [] bsT bsL bsH bsF->
  ∃R' N' bsT' bsL' bsH',cZ G w R' N' tmps s2 undef .undef [] bsT' bsL' bsH' bsF/\bm w R w R' bsF/\(∀o b,N (.out o)=some b->N' (.out o)=some b)
theorem fw.refl (G:bw) (s:aa):fw G s s:=fun _ R N _ bsT bsL bsH _ h=>⟨R,N,bsT,bsL,bsH,h,aY _,fun _ _ h=>h⟩
theorem fw.trans {G:bw} {s s2 s3:aa} (h:fw G s s2) (k:fw G s2 s3):fw G s s3:=fun w R N tmps bsT bsL bsH bsF hr=>by
 obtain⟨R1,N1,t1,l1,h1,q1,q2,q3⟩:=h w R N tmps bsT bsL bsH bsF hr;obtain⟨R2,N2,t2,l2,h2,p1,p2,p3⟩:=k w R1 N1 tmps t1 l1 h1 bsF q1;exact⟨R2,N2,t2,l2,h2,p1,q2.trans p2,fun o b ho=>p3 o b (q3 o b ho)⟩
theorem qW:∀{n:Nat} {cs:List ac} {es:List al},mS n cs=some es->es.length=n/\∀(i:Nat) (d:al),es[i]?=some d->∃a,cs[i]?=some a/\jc a=some d
 | 0,_,es,h=>by simp[mS] at h;subst h;simp
 | n+1,[],es,h=>by simp[mS] at h
 | n+1,a::r,es,h=>by
  unfold mS at h
  split at h
  ·rename_i d hd
   split at h
   ·rename_i l hl;simp at h;subst h;obtain⟨h1,h2⟩:=qW hl;refine⟨by simp[h1],fun i d' hi=>?_⟩
    cases i with
    | zero=>simp at hi;subst hi;exact⟨a,rfl,hd⟩
    | succ i=>simpa using h2 i d' (by simpa using hi)
   simp at h
  simp at h
theorem pG {w:World} {R:Own} {N:Name->Option Nat} {a:ac} {d:al} (h:jc a=some d) {v:Value} {bs:List Nat} (hr:ai w R N a v bs):eF w R v d/\d.cells.length=1:=by
 unfold jc at h
 split at h
 ·simp at h;subst h;exact⟨(cj hr).2,rfl⟩
 ·simp at h;subst h;exact⟨(cj hr).2,rfl⟩
 ·simp at h;subst h;exact⟨(cd hr).rep,rfl⟩
 simp at h
theorem LX {G:bw} {t:Nat} {s s2:aa} (h:CN t s=some s2):fw G s s2:=by
 unfold CN at h
 split at h
 rotate_left
 ·simp at h
 rename_i n es hv;simp only[Option.some.injEq] at h;subst h;unfold xd at hv
 split at hv
 rotate_left
 ·simp at hv
 rename_i x hx;obtain⟨m,len⟩:=x;have hwin:bn s.tmps t=.win (.out m) 1 0 len:=by
  unfold rowOf at hx
  split at hx
  ·rename_i n' len' h';simp only[Option.some.injEq,Prod.mk.injEq] at hx;obtain⟨rfl,rfl⟩:=hx;exact h'
  simp at hx
 dsimp only at hv;unfold CM at hv
 split at hv
 rotate_left
 ·simp at hv
 rename_i cs hob
 split at hv
 rotate_left
 ·simp at hv
 rename_i hlen;have hlen:=Nat.le_of_ble_eq_true hlen
 split at hv
 rotate_left
 ·simp at hv
 rename_i e0 es0 hcd;simp only[Option.some.injEq,Prod.mk.injEq] at hv;obtain⟨rfl,rfl⟩:=hv;obtain⟨hel,hcs⟩:=qW hcd;intro w R N tmps bsT bsL bsH bsF hr;have htg:=va hwin (by simp);obtain⟨v,bs0,g1,g2,_⟩:=dM hr.tmps htg;simp only[ai] at g2;obtain⟨_,b,cap,hb,rfl,hcap,_,hblt,hrow⟩:=g2;obtain⟨pre,b',b1,post,e1,hb',hobj,_,bs',hdel,hsub⟩:=aj.ki hr.heap hob
 have:b'=b:=by simp only[outs] at hb';rw[hb] at hb';simpa using hb'.symm
 subst this;obtain⟨vs,elem,sp,hblk,hrv,hRv,_⟩:=hobj;obtain⟨R',hR'⟩:∃R':Own,R'=fun c off=>c≠b'/\R c off:=⟨_,rfl⟩
 have hstep:Step w R w R':=⟨rfl,rfl,rfl,Nat.le_refl _,fun c _ hno=>⟨rfl,fun off h=>by subst hR';exact hno off h.2⟩,fun c off _ hno=>⟨fun h=>by subst hR';exact hno h.2,rfl⟩,fun _ _=>rfl⟩;have hk:∀bs,b'∉bs->bm w R w R' bs:=fun bs hbs=>⟨hstep,fun c hc _=>⟨rfl,fun off h=>by subst hR';exact⟨fun e=>hbs (e ▸ hc),h⟩⟩⟩
 have hnd:=hr.nodup;simp only[List.nil_append] at hnd;subst e1;have hp:(bsT++(bsL++((pre++(b'::b1)++post)++bsF))).Perm (b'::(b1++(bsT++(bsL++((pre++post)++bsF))))):=by
  rw[List.perm_iff_count];intro q;simp only[List.count_append,List.count_cons];omega
 have hnd2:=List.nodup_cons.1 (hp.nodup_iff.1 hnd);have hno:=hnd2.1;simp only[List.mem_append,not_or] at hno;obtain⟨_,n1,n2,⟨n3,n3'⟩,n4⟩:=hno;have n5:b'∉bs':=fun hm=>by
  rcases List.mem_append.1 (hsub.subset hm) with h|h
  ·exact n3 h
  exact n3' h
 have hrep:eF w R' (.slice (some ⟨b',0,none⟩) len cap) (.slice (e0::es0)):=by
  have hl:(e0::es0).length=len:=hel;rw[←hl];have hcell:∀i,i < (e0::es0).length->∃a x bx,cs[i]?=some a/\jc a=some (e0::es0)[i]! /\ vs[i]?=some x/\ai w R (outs N) a x bx:=by
   intro i hi;obtain⟨a,ha,hd⟩:=hcs i _ (List.getElem?_eq_getElem hi);obtain⟨x,bx,q1,q2,_⟩:=dM hrv (qj ha);exact⟨a,x,bx,ha,by rw[hd,getElem!_pos _ i hi],by rw[←Array.getElem?_toList];exact q1,q2⟩
  refine .slice b' 0 cap 1 _ (fun i _=>vs[i]?.getD default) (by omega) ?_ (by rw[hl];exact hcap) (by rw[hl];simp only[lim];omega) ?_ ?_
  ·intro e he;obtain⟨i,hi,rfl⟩:=List.getElem_of_mem he;obtain⟨a,x,bx,_,hd,_,hx⟩:=hcell i hi;rw[getElem!_pos _ i hi] at hd;exact (pG hd hx).2
  ·intro i j hi hj;obtain⟨a,x,bx,_,hd,hvx,hx⟩:=hcell i hi
   have:j=0:=by omega
   subst this;refine⟨?_,fun h=>by subst hR';exact h.1 rfl⟩;rw[cell_of_row w b' _ vs elem (0,0) hblk];simp[hvx]
  ·intro i j e c he hc;have hi:i < (e0::es0).length:=(List.getElem?_eq_some_iff.1 he).1;obtain⟨a,x,bx,_,hd,hvx,hx⟩:=hcell i hi;have hee:(e0::es0)[i]! = e:=by
    rw[getElem!_pos _ i hi];rw[List.getElem?_eq_getElem hi] at he;simpa using he
   rw[hee] at hd;obtain⟨k1,k2⟩:=pG hd hx;have hc':c=e:=by
    unfold jc at hd
    split at hd
    all_goals first
     |(simp at hd;subst hd;cases j with
      | zero=>simpa [al.cells] using hc.symm
      | succ j=>simp[al.cells] at hc)
     |simp at hd
   subst hc';rw[hvx];exact k1.step hstep
 obtain⟨bsT2,p1,p2⟩:=mF (a:=.dat (.slice (e0::es0))) (v:=.slice (some ⟨b',0,none⟩) len cap) (b:=[]) (X:=bsL++(bs'++bsF)) t (hr.tmps.keep (hk bsT n1)) (bR (d:=.slice (e0::es0)) hrep) (by
  have h2:=(List.nodup_append.1 hnd2.2).2.1;rw[List.nil_append];refine List.Nodup.sublist ?_ h2;exact List.Sublist.append (.refl _) (List.Sublist.append (.refl _) (List.Sublist.append hsub (.refl _))))
 have hsame:tmps.set t (.slice (some ⟨b',0,none⟩) len cap)=tmps:=by
  apply List.ext_getElem?
  intro j;rw[List.getElem?_set]
  split
  ·rename_i hj;subst hj;split
   ·exact g1.symm
   rename_i hl;rw[List.getElem?_eq_none (by omega)]
  rfl
 rw[hsame] at p1;exact⟨R',N,bsT2,bsL,bs',⟨aI _,p1,hr.locs.keep (hk bsL n2),hdel.keep (hk bs' n5),by simpa using p2,hr.next,fun g cs hg=>(hr.glob g cs hg).step hstep,hr.frame⟩,hk bsF n4,fun _ _ h=>h⟩
theorem IA {G:bw} (ns:List Name) (s:aa):fw G s (uI false ns s []).1:=by
 intro w R N tmps bsT bsL bsH bsF hr;have hr0:cZ G w R N tmps s (.tuple ([]:List Value).toArray) (.tup []) [] bsT bsL bsH bsF:=⟨by simp[ai,ah],hr.tmps,hr.locs,hr.heap,hr.nodup,hr.next,hr.glob,hr.frame⟩;have he:uI false ns s []=((uI false ns s []).1,(uI false ns s []).2):=rfl;obtain⟨R',N',bsV',bsT',bsL',bsH',h1,h2,h3,_⟩:=nk he hr0;refine⟨R',N',bsT',bsL',bsH',⟨aI _,h1.tmps,h1.locs,h1.heap,?_,h1.next,h1.glob,h1.frame⟩,h2,h3⟩
 have:=h1.nodup
 simpa using (List.nodup_append.1 this).2.1
end Go.Tp
