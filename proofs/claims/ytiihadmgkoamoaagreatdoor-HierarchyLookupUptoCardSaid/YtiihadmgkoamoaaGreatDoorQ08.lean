/- HierarchyLookup returns true and changes nothing, for arguments of bulk at most 1048576 (the card of the second form; conditions: those of the given row). Names are shortened by a program, for the claim's bound. Part 8. -/
import Derived.Test.YtiihadmgkoamoaaGreatDoorCards
import Derived.Test.YtiihadmgkoamoaaGreatDoorTie
import Derived.WalkKit
import Derived.ProofKit
import Derived.OpenShut
import Derived.Deep.DeepHandedRow
import Derived.Deep.DeepWitnessRowRef
import Derived.Test.YtiihadmgkoamoaaGreatDoorQ07
set_option linter.unusedVariables false
set_option linter.unusedSimpArgs false
set_option maxRecDepth 100000
set_option maxHeartbeats 4000000
namespace Go.Proofs.YtiihadmgkoamoaaGreatDoor
open Go.Tp
def Ey (k:Int) (nm:List UInt8) (ix:Int) (la:List aq):List ac:=[iv k,.dat (sb nm),iv ix,.dat (sl la)]
theorem O3 (l:Nat) (k:Int) (nm:List UInt8) (ix:Int) (la:List aq) :
  sS (env au.aI) 32 [.ptr (.loc l) 0,.dat (.agg [i64 k,sb nm,i64 ix,sl la])] (some (.cells (Ey 0 [] 0 [])))=some ⟨.undef,.set (.cells (Ey k nm ix la))⟩:=by
 rcases la with _|⟨x,la⟩ <;> kernel_rfl
theorem Gn (t:Bool) (l:Nat) (k:Int) (nm:List UInt8) (ix:Int) (la:List aq) :
  lr (env au.aI) t 32 [.ptr (.loc l) 0] (some (.cells (Ey k nm ix la)))=some ⟨.dat (.agg [i64 k,sb nm,i64 ix,sl la]),.keep⟩:=by
 cases t <;> rcases la with _|⟨x,la⟩ <;> kernel_rfl
def HR:List UInt8:=[85,110,100,101,99,108,97,114,101,100]
theorem aaD {l m ds ds2 es:List aq} {i k j1 j2:Int} {name r:List UInt8} {H H1 H2 H3 H4:Heap} {t:Ty} {d0 d1 d e:aZ} {c1 c2 c3 c4 c5:Bool}
  (h1:ag 9 [.dat (.slice l)] (.own ds)) (h2:KC 10 [.dat (.slice ds)] [] 0 (XQ ⟨.tup [hP,rP 3,bv true],H,4⟩))
  (h7:KC 20 [rP 3] H 4 (XQ ⟨.own es,H,4⟩))
  (m1:ag 13 [iv i,iv (Int.ofNat es.length)] (iv j1)) (i1:aJ (env au.aI) 23 [.dat (.slice es),.dat (.flat (.int .i64 j1))]=some ⟨.ref d0.cells,.keep⟩)
  (m2:ag 13 [iv k,iv (Int.ofNat es.length)] (iv j2)) (i2:aJ (env au.aI) 23 [.dat (.slice es),.dat (.flat (.int .i64 j2))]=some ⟨.ref d1.cells,.keep⟩)
  (l1:KC 35 [hP,.dat (sb d0.nm)] H 4 (XQ ⟨.tup [.dat d.enc,bv c1],H,4⟩)) (l2:KC 36 [rP 3,.dat (sb d0.nm)] H 4 (XQ ⟨.tup [.dat d.enc,bv c1],H,4⟩))
  (l3:KC 35 [hP,.dat (sb name)] H 4 (XQ ⟨.tup [.dat e.enc,bv c2],H,4⟩)) (l4:KC 36 [rP 3,.dat (sb name)] H 4 (XQ ⟨.tup [.dat e.enc,bv c2],H,4⟩))
  (hn1:KC 15 [.dat (.slice m)] H 4 (XQ ⟨.ptr (.out 4) 0,H1,5⟩)) (hn2:KC 15 [.dat (.slice m)] H1 5 (XQ ⟨.ptr (.out 5) 0,H2,6⟩))
  (hx:KC 28 [.ptr (.out 5) 0,.own ds] H2 6 (XQ ⟨.own ds2,H3,6⟩))
  (h6:KC 14 [.ptr (.out 4) 0,.dat (.slice ds2),iv 1] H3 6 (XQ ⟨.dat t.enc,H4,6⟩))
  (he:ag 37 [.dat d.enc,.dat d.enc] (bv true))
  (a1:KC 25 [hP,.dat (sb d0.nm),.dat (sb d1.nm)] H4 6 (XQ ⟨bv c3,H4,6⟩)) (a2:KC 38 [rP 3,.dat (sb d0.nm),.dat (sb d1.nm)] H4 6 (XQ ⟨bv c3,H4,6⟩))
  (a3:KC 25 [hP,.dat (sb ru),.dat (sb d0.nm)] H4 6 (XQ ⟨bv true,H4,6⟩)) (a4:KC 25 [hP,.dat (sb d0.nm),.dat (sb HR)] H4 6 (XQ ⟨bv false,H4,6⟩))
  (a5:KC 25 [hP,.dat (sb name),.dat (sb d0.nm)] H4 6 (XQ ⟨bv c4,H4,6⟩)) (a6:KC 38 [rP 3,.dat (sb name),.dat (sb d0.nm)] H4 6 (XQ ⟨bv c4,H4,6⟩))
  (k1:KC 39 [hP,.dat t.enc] H4 6 (XQ ⟨bv c5,H4,6⟩)) (k2:KC 40 [rP 3,.dat t.enc] H4 6 (XQ ⟨bv c5,H4,6⟩))
  (f1:KC 41 [hP,.dat (sb d0.nm)] H4 6 (XQ ⟨.dat (sb r),H4,6⟩)) (f2:KC 42 [rP 3,.dat (sb d0.nm)] H4 6 (XQ ⟨.dat (sb r),H4,6⟩)) :
  KC 7 [.dat (.slice l),.dat (.slice m),iv i,iv k,.dat (sb name)] [] 0 (XQ ⟨bv true,H4,6⟩):=by
 have hc:=X5;have hq:=hU r;obtain⟨dn,ar,⟨k,tn,ix,la⟩,con,fl⟩:=d0;obtain⟨dn1,ar1,⟨k1',tn1,ix1,la1⟩,con1,fl1⟩:=d1;obtain⟨dn2,ar2,⟨k2',tn2,ix2,la2⟩,con2,fl2⟩:=d;obtain⟨dn3,ar3,⟨k3',tn3,ix3,la3⟩,con3,fl3⟩:=e;have q1:=cG 18 dn2 ar2 k2' tn2 ix2 (ax la2) con2 (aN fl2);have q2:=iP true 18 dn2 ar2 k2' tn2 ix2 (ax la2) con2 (aN fl2);have q3:=iP false 18 dn2 ar2 k2' tn2 ix2 (ax la2) con2 (aN fl2);have p1:=cG 20 dn2 ar2 k2' tn2 ix2 (ax la2) con2 (aN fl2);have p2:=iP true 20 dn2 ar2 k2' tn2 ix2 (ax la2) con2 (aN fl2);have p3:=iP false 20 dn2 ar2 k2' tn2 ix2 (ax la2) con2 (aN fl2);have r1:=cG 22 dn3 ar3 k3' tn3 ix3 (ax la3) con3 (aN fl3);have r2:=cG 24 dn3 ar3 k3' tn3 ix3 (ax la3) con3 (aN fl3);obtain⟨tk,tm,ti,ta⟩:=t;have s12:=O3 26 tk tm ti (ax ta);have s13:=Gn true 26 tk tm ti (ax ta);have s14:=Gn false 26 tk tm ti (ax ta);refine aY [152] [48,56,100018,100020,100022,100024,100026,94,95,138,141] (x:=fL.of Tryz.f7 aaw Y5) (by kernel_rfl) ?_;refine on h1 ?_;refine oh h2 ?_;refine on hc ?_;refine oh h7 ?_;refine on m1 ?_;refine oo i1 ?_;refine on m2 ?_;refine oo i2 ?_;refine oh l1 ?_;refine oo q1 ?_;refine oh l2 ?_;refine oo q1 ?_;refine oh l3 ?_;refine oo r1 ?_;refine oh l4 ?_;refine oo r1 ?_;refine oh hn1 ?_;refine oh hn2 ?_;refine oh hx ?_;refine oh h6 ?_;refine oo s12 ?_
 cases c1 <;>
 ·refine oo q2 ?_;refine oo q2 ?_;refine on he ?_
  cases c2 <;>
  ·refine oh a1 ?_;refine oh a2 ?_
   cases c3 <;>
   ·refine oh a3 ?_;refine oh a4 ?_;refine oh a5 ?_;refine oh a6 ?_
    cases c4 <;>
    ·refine oo s13 ?_;refine oo s13 ?_;refine oh k1 ?_;refine oh k2 ?_
     cases c5 <;>
     ·refine oh f1 ?_;refine oh f2 ?_;refine ob hq ?_;exact fi
theorem NY {l:List aZ}:∀(i:Nat) {o:aZ},o∈eU (l.take i)->o∈cT∨o∈l:=by
 intro i
 induction i with
 | zero=>intro o h;exact .inl h
 | succ i ih=>
  intro o h
  cases hg:l[i]? with
  | none=>rw[List.take_of_length_le (by have:=List.getElem?_eq_none_iff.1 hg;omega)] at h;rw[List.take_of_length_le (by have:=List.getElem?_eq_none_iff.1 hg;omega)] at ih;exact ih h
  | some d=>
   rw[ng hg] at h
   rcases qe (eU (l.take i)) d with e|⟨e,_⟩
   ·rw[e] at h;exact ih h
   rw[e] at h
   rcases List.mem_append.1 h with h|h
   ·exact ih h
   rw[List.mem_singleton.1 h];exact .inr (List.mem_of_getElem? hg)
theorem UY {l:List aZ} (hl:∀d∈l,DOk d):aF (eU l) HR=none:=by
 cases hf:aF (eU l) HR with
 | none=>rfl
 | some o=>
  exfalso
  obtain⟨ho,hn⟩:=eZ hf;have hm:=@NY l l.length o;rw[List.take_length] at hm;have key0:∀b∈cT.map aZ.nm,dv b HR=false:=by decide
  have key:∀b∈JE,dv b HR=false:=by decide
  have h1:dv o.nm HR=false:=by
   rcases hm ho with h|h
   ·exact key0 _ (List.mem_map.2 ⟨o,h,rfl⟩)
   exact key _ (hl o h).nm
  rw[hn,hU] at h1;simp at h1
theorem Yg {ds:List aZ} {a b:List UInt8} (h:aF ds b=none):Ot ds a b=false:=by
 unfold Ot;rw[wo,h]
theorem Sk {l m:List Int} (hl:l.length < 10000000) (hm:m.length < 10000000) (i k:Int) (name:List UInt8) :
  ∃(H:Heap) (q:Nat),KC 7 [.dat (.slice (l.map iN)),.dat (.slice (m.map iN)),iv i,iv k,.dat (sb name)] [] 0 (XQ ⟨bv true,H,q⟩):=by
 obtain⟨mm,hGD,hmm,h1⟩:=Xs hl;have hfine:∀d∈iB++mm,d.cX:=fun d hd=>(hGD.each d hd).cX
 have hb:iB.length=8:=rfl;have hlen:(iB++mm).length<=12:=by rw[List.length_append,hb];omega
 obtain⟨tl,h2⟩:=Xr hfine (by omega);have hok:=El hfine (iB++mm).length;have hdl:=AT (iB++mm).length (iB++mm);have hup:=TJ (iB++mm);have hsm:=XN (iB++mm);have hund:=UY hGD.each;rw[List.take_length] at hok hdl;obtain⟨m2,k5,hGD2,hm2,_,hx0⟩:=LZ hm hGD (by omega) (Nat.zero_le _);have hlen2:((iB++mm)++m2).length<=16:=by rw[List.length_append];omega
 obtain⟨t,k4,hgt,hct⟩:=(LW (P:=fun _ _=>True) (ds:=(iB++mm)++m2) hm (by omega) (fun d hd=>by obtain⟨n,e1,e2⟩:=(hGD2.each d hd).ar;exact⟨n,e1,by omega,trivial⟩) (fun _ _=>trivial) trivial m.length 0 (Nat.zero_le _) (by omega)).2.2 3 1 (by omega) (by omega) (by omega);have htf:=AE hm hgt;generalize eU (iB++mm)=D at *;have hn1:=IZ 4 (hF 3 (aK D)++hH 2 D tl) (Tc (l:=m.map iN)) rfl rfl;have hn2:=IZ 5 (jW 4 (m.map iN) 0++(hF 3 (aK D)++hH 2 D tl)) (Tc (l:=m.map iN)) rfl rfl;have hx:=U7 5 6 (jW 4 (m.map iN) 0++(hF 3 (aK D)++hH 2 D tl)) hx0 (args2:=[.ptr (.out 5) 0,.own (aK (iB++mm))]) rfl rfl rfl;have h6:=O4 4 6 (jW 5 (m.map iN) (Int.ofNat k5)) (hF 3 (aK D)++hH 2 D tl) (VP hct) (args2:=[.ptr (.out 4) 0,.dat (.slice (aK ((iB++mm)++m2))),iv (Int.ofNat 1)]) rfl rfl rfl;have onR0:∀{g:FuncId} {args:List ac} {v:ac},eB g (rP 0::args) (aK D) v->dt 1 args=false->fO (fun _=>3) args=args->eN (gv (fun _=>3) 1 4) v=v->
   KC g (rP 3::args) (hF 3 (aK D)++hH 2 D tl) 4 (XQ ⟨v,hF 3 (aK D)++hH 2 D tl,4⟩):=by
  intro g args v h ha he hv;exact qB (args:=rP 0::args) 3 4 [] (hH 2 D tl) h (by show (du 1 (rP 0)||dt 1 args)=false;rw[ha];rfl) (by show eN (fun _=>3) (rP 0)::fO (fun _=>3) args=_;rw[he];rfl) hv
 have onH0:∀{g:FuncId} {args:List ac} {v:ac},oH g args D tl v->dt 3 args=false->fO (Ov 2) args=args->eN (gv (Ov 2) 3 4) v=v->
   KC g args (hF 3 (aK D)++hH 2 D tl) 4 (XQ ⟨v,hF 3 (aK D)++hH 2 D tl,4⟩):=by
  intro g args v h ha he hv;exact nG ha he hv (hF 3 (aK D)) h
 have onR:∀{g:FuncId} {args:List ac} {v:ac},eB g (rP 0::args) (aK D) v->dt 1 args=false->fO (fun _=>3) args=args->eN (gv (fun _=>3) 1 6) v=v->
   KC g (rP 3::args) (jW 5 (m.map iN) (Int.ofNat k5)++(jW 4 (m.map iN) (Int.ofNat k4)++(hF 3 (aK D)++hH 2 D tl))) 6 (XQ ⟨v,jW 5 (m.map iN) (Int.ofNat k5)++(jW 4 (m.map iN) (Int.ofNat k4)++(hF 3 (aK D)++hH 2 D tl)),6⟩):=by
  intro g args v h ha he hv;exact qB (args:=rP 0::args) 3 6 (jW 5 (m.map iN) (Int.ofNat k5)++jW 4 (m.map iN) (Int.ofNat k4)) (hH 2 D tl) h (by show (du 1 (rP 0)||dt 1 args)=false;rw[ha];rfl) (by show eN (fun _=>3) (rP 0)::fO (fun _=>3) args=_;rw[he];rfl) hv
 have onH:∀{g:FuncId} {args:List ac} {v:ac},oH g args D tl v->dt 3 args=false->fO (Ov 2) args=args->eN (gv (Ov 2) 3 6) v=v->
   KC g args (jW 5 (m.map iN) (Int.ofNat k5)++(jW 4 (m.map iN) (Int.ofNat k4)++(hF 3 (aK D)++hH 2 D tl))) 6 (XQ ⟨v,jW 5 (m.map iN) (Int.ofNat k5)++(jW 4 (m.map iN) (Int.ofNat k4)++(hF 3 (aK D)++hH 2 D tl)),6⟩):=by
  intro g args v h ha he hv;exact nG ha he hv (jW 5 (m.map iN) (Int.ofNat k5)++(jW 4 (m.map iN) (Int.ofNat k4)++hF 3 (aK D))) h
 have h7:=onR0 (g:=20) (args:=[]) (v:=.own (aK D)) (Dq (ds:=D) (by omega)) rfl rfl rfl;have hpos:0 < D.length:=List.length_pos_iff.2 hok.ne;obtain⟨j,hj,hjl⟩:=Lm i hpos;obtain⟨j2,hj2,hjl2⟩:=Lm k hpos;have m1:=LX i (m:=(aK D).length) (by rw[bi];exact hpos) (by rw[bi];omega);have m2':=LX k (m:=(aK D).length) (by rw[bi];exact hpos) (by rw[bi];omega);rw[bi,hj,←bi] at m1;rw[bi,hj2,←bi] at m2';have hg:D[j]?=some D[j]:=List.getElem?_eq_getElem hjl;have hg2:D[j2]?=some D[j2]:=List.getElem?_eq_getElem hjl2;have i1:=uh hg;have i2:=uh hg2;have hmem:D[j]∈D:=List.getElem_mem hjl;generalize D[j]=d0 at i1 hmem;generalize D[j2]=d1 at i2;have hdec:fj (aF D d0.nm)=true:=by
  cases hf:aF D d0.nm with
  | some o=>rfl
  | none=>
   exfalso
   have key:∀{L:List aZ},d0∈L->aF L d0.nm≠none:=by
    intro L
    induction L with
    | nil=>intro h;simp at h
    | cons e r ih=>
     intro h;unfold aF
     cases he:dv d0.nm e.nm with
     | true=>simp
     | false=>
      rcases List.mem_cons.1 h with rfl|h
      ·rw[hU] at he;simp at he
      exact ih h
   exact key hmem hf
 have l1:=onH0 (Hy (tl:=tl) hok.cX d0.nm) rfl rfl rfl;have l2:=onR0 (args:=[.dat (sb d0.nm)]) (jN (ds:=D) d0.nm (by omega)) rfl rfl rfl;have l3:=onH0 (Hy (tl:=tl) hok.cX name) rfl rfl rfl;have l4:=onR0 (args:=[.dat (sb name)]) (jN (ds:=D) name (by omega)) rfl rfl rfl;have he:=zN (o:=iZ (aF D d0.nm)) (Hg hok.cX d0.nm);rw[aZ.eq_iff.2 rfl] at he;have a1:=onH (Mh (tl:=tl) hup d0.nm d1.nm) rfl rfl rfl;have a2:=onR (args:=[.dat (sb d0.nm),.dat (sb d1.nm)]) (YR hup (by omega) d0.nm d1.nm) rfl rfl rfl;have a3:=onH (Mh (tl:=tl) hup ru d0.nm) rfl rfl rfl;have e3:Ot D ru d0.nm=true:=by
  cases hf:aF D d0.nm with
  | none=>rw[hf] at hdec;simp[fj] at hdec
  | some o=>exact EI hup (D.length+1) (tB D d0.nm) hf
 rw[e3] at a3;have a4:=onH (Mh (tl:=tl) hup d0.nm HR) rfl rfl rfl;rw[Yg hund] at a4;have a5:=onH (Mh (tl:=tl) hup name d0.nm) rfl rfl rfl;have a6:=onR (args:=[.dat (sb name),.dat (sb d0.nm)]) (YR hup (by omega) name d0.nm) rfl rfl rfl;have hts:t.size < 1000000000:=by have:=htf.1;omega
 have k1:=onH (yH D tl t hts) rfl rfl rfl;have k2:=onR (args:=[.dat t.enc]) (yi (ds:=D) (by omega) t hts) rfl rfl rfl;have f1:=onH (agU (tl:=tl) hok.cX hsm (by omega) hdec) rfl rfl rfl;have f2:=onR (args:=[.dat (sb d0.nm)]) (agz hok.cX hsm (by omega) hdec) rfl rfl rfl;exact⟨_,_,aaD h1 h2 h7 m1 i1 m2' i2 l1 l2 l3 l4 hn1 hn2 hx h6 he a1 a2 a3 a4 a5 a6 k1 k2 f1 f2⟩
theorem I4 {l m:List Int} (hl:l.length < 10000000) (hm:m.length < 10000000) (i k:Int) (name:List UInt8) :
  ∃r:ew,r.val=bv true/\KC 7 [.dat (.slice (l.map iN)),.dat (.slice (m.map iN)),iv i,iv k,.dat (sb name)] [] 0 (XQ r):=by
 obtain⟨H,q,h⟩:=Sk hl hm i k name;exact⟨_,rfl,h⟩
end Go.Proofs.YtiihadmgkoamoaaGreatDoor
namespace Go.Proofs.YtiihadmgkoamoaaGreatDoor
open Go.ChangeShapes Go.WideShapes Go.ChangeAt Go.RowKit Go.Tp
open Go.ChangeMaps (open_string shut_string)
theorem own:ownKnob Tryz.prog.godebug=none:=by kernel_rfl
theorem kids:Kids Tryz.prog (· < Tryz.prog.types.size):=kids_rows (by kernel_rfl) (by kernel_rfl)
theorem full:∀t e,t < Tryz.prog.types.size->Tryz.prog.underlying t=some (.slice e)->0 < Tryz.prog.cellsOf e:=slices_full_of Tryz.prog (by kernel_rfl)
theorem gE:Tryz.prog.globalNamed "telpher/telmake.extraNames"=some 0:=by kernel_rfl
theorem gL:Tryz.prog.globalNamed "telpher/telmake.leafNames"=some 1:=by kernel_rfl
theorem gP:Tryz.prog.globalNamed "telpher/hierarchy.reserved"=some 2:=by kernel_rfl
theorem gT:Tryz.prog.globalNamed "telpher/typeterm.reserved"=some 4:=by kernel_rfl
theorem Ta {W:World} (h:laidMetH Tryz.prog Rows.hierarchyLookupUptoRow.laid W):∀g cs,cJ g=some cs->dX W xa g 0 cs:=by
 have h':laidMet Tryz.prog Rows.hierarchyLookupUptoRow.laid W:=h;obtain⟨ps,⟨_,_,_,_,_,_,_,_,_,_,⟨_,_,_,_,_,_,_,_,_,_,⟨_,_,_,_,_,_,_,_,_,_,⟨g1,t1,cs1,fuel1,p1,q1,a1,a2,a3,a4,⟨g2,t2,cs2,fuel2,p2,q2,b1,b2,b3,b4,⟨g3,t3,cs3,fuel3,p3,q3,c1,c2,c3,c4,⟨g4,t4,cs4,fuel4,p4,q4,d1,d2,d3,d4,_,_⟩,_⟩,_⟩,_⟩,_⟩,_⟩,_⟩,_⟩:=h';intro g cs hg;unfold cJ at hg
 split at hg
 ·obtain rfl:=Option.some.inj hg;exact qO (l:=iT) gE (by kernel_rfl) Tryz.underlying60 Tryz.underlying9 (by kernel_rfl) (by decide) ⟨g3,t3,cs3,fuel3,p3,c1,c2,c3,c4⟩
 ·obtain rfl:=Option.some.inj hg;exact qO (l:=gw) gL (by kernel_rfl) Tryz.underlying60 Tryz.underlying9 (by kernel_rfl) (by decide) ⟨g4,t4,cs4,fuel4,p4,d1,d2,d3,d4⟩
 ·obtain rfl:=Option.some.inj hg;exact qO (l:=oW) gP (by kernel_rfl) Tryz.underlying60 Tryz.underlying9 (by kernel_rfl) (by decide) ⟨g2,t2,cs2,fuel2,p2,b1,b2,b3,b4⟩
 ·obtain rfl:=Option.some.inj hg;exact qO (l:=oW) gT (by kernel_rfl) Tryz.underlying60 Tryz.underlying9 (by kernel_rfl) (by decide) ⟨g1,t1,cs1,fuel1,p1,a1,a2,a3,a4⟩
 simp at hg
theorem one_le {H:Type} (d:DataW H):1<=Rows.uptoBulk d:=by
 cases d with
 | lit l=>cases l <;> simp[Rows.uptoBulk]
 | nil=>simp[Rows.uptoBulk]
 | ptr d=>simp[Rows.uptoBulk]
 | slice elems spare=>simp[Rows.uptoBulk]
 | agg parts=>simp[Rows.uptoBulk]
 | iface t d=>simp[Rows.uptoBulk]
 | map entries=>simp[Rows.uptoBulk]
 | held h=>simp[Rows.uptoBulk]
theorem Gm {H:Type}:∀l:List (DataW H),l.length<=Rows.uptoBulkAll l
 | []=>by simp[Rows.uptoBulkAll]
 | x::r=>by
  have h1:=one_le x;have h2:=Gm r;simp only[Rows.uptoBulkAll,List.length_cons];omega
theorem Ci {H:Type} {d:DataW H}:∀{l:List (DataW H)},d∈l->Rows.uptoBulk d<=Rows.uptoBulkAll l
 | [],h=>by cases h
 | x::r,h=>by
  simp only[Rows.uptoBulkAll]
  rcases List.mem_cons.1 h with e|h
  ·subst e;omega
  have:=Ci h;omega
theorem Mj {H:Type} {l els rest:List (DataW H)} (hk:Rows.uptoSmall H l=true) (hm:DataW.slice els rest∈l):els.length<=1048576:=by
 have h:Rows.uptoBulkAll l<=1048576:=of_decide_eq_true hk;have h1:=Ci hm;have h2:=Gm els;simp only[Rows.uptoBulk] at h1;omega
theorem Vp {W:World} {R:Own} {N:Name->Option Nat} {s:ByteArray} (h:s.size<=maxLen):al W R N (.dat (sb s.data.toList)) (.string s) []:=by
 have e:(ByteArray.mk ⟨s.data.toList⟩)=s:=by cases s;rfl
 unfold sb;rw[e];refine bF (v:=.string s) ?_;simp only[bE,decide_eq_true_eq];unfold maxLen at h;omega
set_option maxRecDepth 100000 in
theorem TW (H:Type) (enc:TypeId×Value->H) (W:World) (base:Nat) (args:Array Value) (ds gs:List (DataW H)) (before:List MemPlace)
  (hval:∀(j:Nat) t v,Tryz.f7.params[j]?=some t->args[j]?=some v->Value.okWide Tryz.prog W .any base t v)
  (hW:DataW.Whole enc Tryz.prog Tryz.f7.params.toList Rows.hierarchyLookupSpec.vars false W args.toList ds gs before) (hL:laidMetH Tryz.prog Rows.hierarchyLookupUptoRow.laid W) (hk:Rows.uptoSmall H (ds++gs)=true) :
  Calls Tryz.prog 7 args W fun e W'=>∃v,e=.returned v/\Rows.hierarchyLookupSpec.post enc Tryz.prog Tryz.f7 false true false false W args v W':=by
 have hW':=hW;obtain⟨p,q,hA0,hV,rfl,hfz,hnd⟩:=hW;have hA:DataW.TrodAll enc Tryz.prog W 0 (fun _=>true) true Tryz.f7.params.toList args.toList ds p:=hA0;have hAk:=hA;rw[Tryz.params7] at hA hval;obtain⟨v0,vs0,d0,ds0,p0,q0,hargs,rfl,rfl,h0,r0⟩:=trodAll_cons hA;obtain⟨v1,vs1,d1,ds1,p1,q1,rfl,rfl,rfl,h1,r1⟩:=trodAll_cons r0;obtain⟨v2,vs2,d2,ds2,p2,q2,rfl,rfl,rfl,h2,r2⟩:=trodAll_cons r1;obtain⟨v3,vs3,d3,ds3,p3,q3,rfl,rfl,rfl,h3,r3⟩:=trodAll_cons r2;obtain⟨v4,vs4,d4,ds4,p4,q4,rfl,rfl,rfl,h4,r4⟩:=trodAll_cons r3;obtain⟨rfl,rfl,rfl⟩:=trodAll_nil r4;obtain rfl:args=#[v0,v1,v2,v3,v4]:=by cases args;simp_all
 obtain⟨rfl,rfl⟩:=trodVars_none hV;obtain⟨a0,len0,cap0,hv0⟩:=okWide_slice Tryz.underlying22 (hval 0 22 v0 rfl rfl);obtain⟨l0,hd0,hr0⟩:=HC (outs fun _=>none) Tryz.underlying22 Tryz.underlying3 (by kernel_rfl) (by rw[hv0];rfl) h0;obtain⟨a1,len1,cap1,hv1⟩:=okWide_slice Tryz.underlying22 (hval 1 22 v1 rfl rfl);obtain⟨l1,hd1,hr1⟩:=HC (outs fun _=>none) Tryz.underlying22 Tryz.underlying3 (by kernel_rfl) (by rw[hv1];rfl) h1;obtain⟨n2,rfl,rfl,rfl,hw2⟩:=open_int Tryz.underlying3 (hval 2 3 v2 rfl rfl) h2;obtain⟨n3,rfl,rfl,rfl,hw3⟩:=open_int Tryz.underlying3 (hval 3 3 v3 rfl rfl) h3;obtain⟨s4,rfl,rfl,rfl,hm4⟩:=open_string Tryz.underlying9 (hval 4 9 v4 rfl rfl) h4;have hb0:l0.length<=1048576:=by
  rcases hd0 with⟨_,e⟩|⟨els,rest,e,e2⟩
  ·rw[e];simp
  rw[←e2];exact Mj (rest:=rest) hk (by rw[←e];simp)
 have hb1:l1.length<=1048576:=by
  rcases hd1 with⟨_,e⟩|⟨els,rest,e,e2⟩
  ·rw[e];simp
  rw[←e2];exact Mj (rest:=rest) hk (by rw[←e];simp)
 obtain⟨r,hr,hcall⟩:=I4 (by omega:l0.length < 10000000) (by omega:l1.length < 10000000) n2 n3 s4.data.toList;refine (wb W (args:=[v0,v1,.int .i64 n2,.int .i64 n3,.string s4]) (aH (b1:=[]) (b2:=[]) (hr0 (by unfold lim;omega)) (aH (b1:=[]) (b2:=[]) (hr1 (by unfold lim;omega)) (aH (b1:=[]) (b2:=[]) (bF (v:=.int .i64 n2) hw2) (aH (b1:=[]) (b2:=[]) (bF (v:=.int .i64 n3) hw3) (aH (b1:=[]) (b2:=[]) (Vp hm4) aX))))) hcall hr (Ta hL)).mono ?_;rintro e W' ⟨rfl,hkp,hB⟩;refine⟨_,rfl,?_⟩;simp only[List.append_nil] at hW' hAk;have hargs:=DataW.TrodAll.respare (spare':=fun b=>decide (b < W.heap.size)) kids full (by rw[Tryz.params7];decide) (yQ hB hAk) (fun p hp=>by simpa using hW'.lt p hp);refine⟨_,_,_,[],_,[],hW',?_,hargs,rfl,World.keptBut_mono (fun p hp=>hp.elim) hkp,fun h=>by cases h⟩;exact trodAll_cons_mk (shut_bool Tryz.underlying4 _) trodAll_mk0
def ad1:List Int:=[0,1,28,2,29,14,24,3,30,22,20,15,25,17,4,8,31,27,13,23,21,19,16,7,26,12,18,6,11,5,10,9]
def ad0:List Int:=[0,1,56,2,57,49,28,3,61,58,42,50,38,29,17,4,62,47,59,36,45,43,51,22,53,39,33,30,24,18,12,5,63,55,48,27,60,41,37,16,46,35,44,21,52,32,23,11,54,26,40,15,34,20,31,10,25,14,19,9,13,8,7,6]
def Qw:Nat->Int->List Int
 | 0,_=>[]
 | n+1,k=>k::Qw n (k*10)
noncomputable def vI (os:Os):World:=
 let N:=(World.settled Tryz.prog os).heap.size
 let strs (l:List (List UInt8)):Array Value:=(l.map fun b=>Value.string ⟨⟨b⟩⟩).toArray
 let w0:=World.holding Tryz.prog os ⟨#[.cells (strs iT) 9,.cells (strs gw) 9,.cells (strs oW) 9,.cells (strs oW) 9],#[],[]⟩
 let put (h:Array Obj) (g:Nat) (cs:Array Value):Array Obj:=h.modify g fun
  | .cells _ t frozen=>.cells cs t frozen
  | o=>o
 let h1:=put w0.heap 0 #[.slice (some ⟨N,0,none⟩) 4 4]
 let h2:=put h1 1 #[.slice (some ⟨N+1,0,none⟩) 4 4]
 let h3:=put h2 2 #[.slice (some ⟨N+2,0,none⟩) 5 5]
 let h4:=put h3 4 #[.slice (some ⟨N+3,0,none⟩) 5 5]
 let ints (k:IntKind) (l:List Int):Array Value:=(l.map fun i=>Value.int k i).toArray
 let h5:=put h4 3 (ints .u64 (Qw 20 1))
 let h6:=put h5 5 (ints .u8 ad1)
 let h7:=put h6 6 (ints .u8 ad0)
 {w0 with heap:=h7 }
theorem SQ (os:Os) (args:Array Value):laidMet Tryz.prog Rows.hierarchyLookupUptoRow.laid ((vI os).forCall (fun _ _=>0) ⟨#[],args,[]⟩).memory:=
 laidMet_of_run' 8 (by kernel_rfl) (by kernel_rfl)
noncomputable def OJ:Array Value:=#[.slice none 0 0,.slice none 0 0,.int .i64 0,.int .i64 0,.string .empty]
theorem reads (os:Os) {H:Type} (enc:TypeId×Value->H):∃places,DataW.whole enc Tryz.prog ((vI os).forCall (fun _ _=>0) ⟨#[],OJ,[]⟩).memory Tryz.f7.params.toList Rows.hierarchyLookupSpec.vars false OJ.toList 8=some ([.nil,.nil,.lit (.int .i64 0),.lit (.int .i64 0),.lit (.string [])],[],places):=
 ⟨[],by kernel_rfl⟩
set_option maxRecDepth 100000 in
theorem lifted (os:Os) (started:os.Started) (H:Type) (enc:TypeId×Value->H) (F:Stop.Interp) :
  ReturnsInHanded {} Tryz.checked os 7 .any ((Rows.OpenSpec.upto Rows.hierarchyLookupSpec).preRow enc Tryz.prog Tryz.f7 Rows.hierarchyLookupUptoRow.domain false Rows.hierarchyLookupUptoRow.laid) (((Rows.OpenSpec.upto Rows.hierarchyLookupSpec).at F).post enc Tryz.prog Tryz.f7 false true false false):=by
 obtain⟨places,hx⟩:=reads os enc;refine returnsInHanded_of_row (C:=Tryz.checked) (s:=(Rows.OpenSpec.upto Rows.hierarchyLookupSpec)) own started (by kernel_rfl) Tryz.func7
  (witness_row_atRef (enc:=enc) (C:=Tryz.checked) false (vI os) OJ rfl (by kernel_rfl) (by kernel_rfl) (by kernel_rfl)
   (OpenSpec.preRow_of_cond 8 hx (by kernel_rfl) (fun k hk=>by cases hk;kernel_rfl) (by kernel_rfl) (SQ os _))) ?_
 intro W base args ds gs before hval hW _ hcond _ hL _ _;exact TW H enc W base args ds gs before hval hW hL (hcond _ rfl)
end Go.Proofs.YtiihadmgkoamoaaGreatDoor
namespace Go.Proofs.YtiihadmgkoamoaaGreatDoor
open Go.ChangeShapes Go.WideShapes Go.ChangeAt Go.RowKit Go.Tp
set_option maxHeartbeats 4000000 in
set_option maxRecDepth 100000 in
theorem said:Rows.HierarchyLookupUptoSaid:=
 OpenClaim.holds_of_cond 7 Tryz.f7 rfl rfl rfl rfl rfl rfl rfl ⟨rfl,rfl,rfl,rfl,rfl⟩ rfl rfl rfl rfl rfl (by as_aux_lemma=>kernel_rfl) Tryz.func7 (by as_aux_lemma=>kernel_rfl)
  (of_decide_eq_true (by as_aux_lemma=>kernel_rfl)) (by unfold Func.isWrapper;first|(rw[if_pos (by decide +kernel)];kernel_rfl)|(rw[if_neg (by decide +kernel)];exact⟨rfl,rfl⟩))
  (fun os started H enc _ F=>by rw[OpenClaim.pre_eq_preRow];exact lifted os started H enc F)
set_option maxRecDepth 100000 in
theorem plain (f:FuncId) (fn:Func) (hf:Tryz.pinned.checked.prog.funcNamed "telpher/tellaw3.HierarchyLookup"=some f) (hfn:Tryz.pinned.checked.prog.funcs[f]?=some fn) :
  true=Tryz.pinned.checked.prog.looks []/\∀(j:Nat) t,fn.params[j]?=some t->Tryz.pinned.checked.prog.wantsStandIn t=false:=by
 obtain rfl:f=7:=Option.some.inj ((show Tryz.prog.funcNamed "telpher/tellaw3.HierarchyLookup"=some 7 by kernel_rfl).symm.trans hf) |>.symm
 obtain rfl:fn=Tryz.f7:=(Option.some.inj (Tryz.func7.symm.trans hfn)).symm;refine⟨by kernel_rfl,fun j t ht=>?_⟩;rw[Tryz.params7] at ht;have w3:Tryz.prog.wantsStandIn 3=false:=by kernel_rfl
 have w9:Tryz.prog.wantsStandIn 9=false:=by kernel_rfl
 have w22:Tryz.prog.wantsStandIn 22=false:=by kernel_rfl
 have hm:=Array.mem_of_getElem? ht;have key:∀x∈([22,22,3,3,9]:List Nat),x=22∨x=3∨x=9:=by decide
 have h3:=key t (by simpa using hm)
 rcases h3 with rfl|rfl|rfl
 ·exact w22
 ·exact w3
 exact w9
theorem hierarchyLookup_card:Rows.HierarchyLookupUptoCardSaid:=
 Claim7.holds_tied_plain_at .later [] _ _ _ _ said (fun _ h=>by cases h) (by kernel_rfl) (fun _ h=>by cases h) hierarchyLookupUpto_row_tie rfl ⟨rfl,rfl⟩ (by kernel_rfl) rfl plain (by kernel_rfl)
end Go.Proofs.YtiihadmgkoamoaaGreatDoor
#print axioms Go.Proofs.YtiihadmgkoamoaaGreatDoor.hierarchyLookup_card
