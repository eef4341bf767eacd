/- Part 6 of what the last text proves. -/
import Derived.Test.YtmpmgmmcaghacaaGreatDoorQ05
set_option linter.unusedVariables false
set_option linter.unusedSimpArgs false
open Int (ofNat)
set_option maxRecDepth 100000
set_option maxHeartbeats 4000000
namespace Go.Proofs.YtmpmgmmcaghacaaGreatDoor
open Go.Tp
noncomputable abbrev aa1:=Tryz.f43.ntmps
noncomputable abbrev sJ:=Tryz.f137.ntmps
noncomputable abbrev afp:=Tryz.f80.ntmps
noncomputable abbrev aaI:=Tryz.f46.ntmps
noncomputable abbrev age:=Tryz.f79.ntmps
noncomputable abbrev nZ:=Tryz.f181.ntmps
noncomputable abbrev og:=Tryz.f106.ntmps
noncomputable abbrev fN:=Tryz.f153.ntmps
noncomputable abbrev jW:=Tryz.f109.ntmps
noncomputable abbrev An:=Tryz.f87.ntmps
noncomputable abbrev iG:=Tryz.f70.ntmps
def hWd (k:Name) (a:List ak):Heap:=[(k,.cells [.own a])]
theorem amT {n:Int} {a:List ak}:KC 74 [bv false,iv n,.ptr (.out 0) 0] (hWd (.out 0) a) 1 (XQ ⟨.tup [],hWd (.out 0) a,1⟩):=by
 refine co [] [] (x:=.of Tryz.f74 VC XK) ?_;exact fi
theorem alL {n:Int} {b a:List ak} {d e:List UInt8} (i:ae 42 [iv n] (.dat (sb d))) (k:Ny ba .add 9 [.dat (sb [115]),.dat (sb d)]=some ⟨.dat (sb e),.keep⟩) (A:bB ba false 70 [.own b,.dat (.slice [sb e])] none=some ⟨.own a,.keep⟩) :
  KC 74 [bv true,iv n,.ptr (.out 0) 0] (hWd (.out 0) b) 1 (XQ ⟨.tup [],hWd (.out 0) a,1⟩):=by
 refine co [] [9,11] (x:=.of Tryz.f74 VC XK) ?_;exact on i (oo k (oo A fi))
noncomputable def hIT:Hints:=⟨bV,VI,bi,rowsOf bi 43⟩
section
def fnW (n:Name):ac:=.fn (.func 74) [] [.ptr n 0]
def am2 (a:List ac):ab:=⟨[(1,.ptr (.loc 1) 0)],[(.loc 1,.cells a)],[],0⟩
def am1 (a:List ac) (s:kG):ab:=⟨[(3,.ptr (.loc 3) 0),(1,.ptr (.loc 1) 0)],[(.loc 3,.cells (cS s)),(.loc 1,.cells a)],[],0⟩
def amZ (a:List ac) (s:kG) (b:List ak):ab:=⟨[(5,.ptr (.loc 5) 0),(3,.ptr (.loc 3) 0),(1,.ptr (.loc 1) 0)],[(.loc 5,.cells [.own b]),(.loc 3,.cells (cS s)),(.loc 1,.cells a)],[],0⟩
def amY (a:List ac) (s:kG) (b:List ak):ab:=⟨[(6,fnW (.loc 5)),(5,.ptr (.loc 5) 0),(3,.ptr (.loc 3) 0),(1,.ptr (.loc 1) 0)],[(.loc 5,.cells [.own b]),(.loc 3,.cells (cS s)),(.loc 1,.cells a)],[],0⟩
def afO (a:List ac) (s:kG) (b:List ak):ab:=⟨[(6,fnW (.out 0)),(5,.ptr (.out 0) 0),(3,.ptr (.loc 3) 0),(1,.ptr (.loc 1) 0)],[(.loc 3,.cells (cS s)),(.loc 1,.cells a)],hWd (.out 0) b,1⟩
variable {C I a b d g k m x:Int} {T:ej} {c n t:List UInt8} {f j:List ak} {s:kG} {u:Bool} {y:ak}
theorem aoZ {f:ak} (h:dj f) (i:dj y) (e:T .normal ((am2 (cX g d a b m n f k t x y C I c)).al aa1)) :
  KD (du Tryz.f43 0) T ((⟨rG 0 [.dat (eH g d a b m n f k t x y C I c)],[],[],0⟩:ab).al aa1):=by
 have j:=@bw g d a b m n _ k t x _ C I c h i;exact aq [] [1] (H:=hIT) (live:=XR) (oo j (oe e))
theorem in_1 {f:Int} {i:ak} {g:List UInt8} {c:Bool} (h:ae 58 [iv f] (.tup [.dat s.enc,bv c])) (e:T .normal ((am1 (cX f d a b m n i k t x y C I g) s).al aa1)) :
  KD (du Tryz.f43 1) T ((am2 (cX f d a b m n i k t x y C I g)).al aa1):=by
 obtain⟨w,o,p,q,r,u,v,z,A,B,j,l⟩:=s;exact aq [] [] (H:=hIT) (live:=XR) (on h (oe e))
theorem aoY {f:ak} (e:T .normal ((amZ (cX g d a b m n f k t x y C I c) s [sb s.w]).al aa1)) :
  KD (du Tryz.f43 2) T ((am1 (cX g d a b m n f k t x y C I c) s).al aa1):=by
 obtain⟨w,j,l,o,p,q,r,u,v,z,h,i⟩:=s;refine aq [] [] (H:=hIT) (live:=XR) ?_;exact oe e
theorem aoX {f:ak} {ws:List ak} (e:T .normal ((amY (cX g d a b m n f k t x y C I c) s ws).al aa1)) :
  KD (du Tryz.f43 3) T ((amZ (cX g d a b m n f k t x y C I c) s ws).al aa1):=by
 obtain⟨w,j,l,o,p,q,r,u,v,z,h,i⟩:=s;refine aq [] [] (H:=hIT) (live:=XR) ?_;exact oe e
theorem aoW {i:Int} {g:ak} (h:KC 74 [bv s.dst,iv d,.ptr (.out 0) 0] (hWd (.out 0) j) 1 (XQ ⟨.tup [],hWd (.out 0) f,1⟩)) (e:T .normal ((afO (cX i d a b m n g k t x y C I c) s f).al aa1)) :
  KD (du Tryz.f43 4) T ((amY (cX i d a b m n g k t x y C I c) s j).al aa1):=by
 obtain⟨w,p,q,r,u,v,z,A,B,D,l,o⟩:=s;exact aq [] [] (H:=hIT) (live:=XR) (oh h (oe e))
def afN (a:List ac) (s:kG) (b:List ak) (u:Bool):ab:=⟨[(7,bv u),(6,fnW (.out 0)),(5,.ptr (.out 0) 0),(3,.ptr (.loc 3) 0),(1,.ptr (.loc 1) 0)],[(.loc 3,.cells (cS s)),(.loc 1,.cells a)],hWd (.out 0) b,1⟩
def agN (a:List ac) (b:List ak):ab:=⟨[(6,fnW (.out 0)),(5,.ptr (.out 0) 0),(1,.ptr (.loc 1) 0)],[(.loc 1,.cells a)],hWd (.out 0) b,1⟩
theorem aoV {f:ak} {h:List ak} (e:T .normal ((afN (cX g d a b m n f k t x y C I c) s h false).al aa1)) :
  KD (du Tryz.f43 5) T ((afO (cX g d a b m n f k t x y C I c) s h).al aa1):=by
 obtain⟨w,l,o,p,q,r,u,v,z,A,i,j⟩:=s;refine aq [] [] (H:=hIT) (live:=XR) ?_;exact oe e
theorem anE {f:Int} {g:ak} {i:List ak} (h:aB f 3=false) (e:T .normal ((dead 28 (afN (cX f d a b m n g k t x y C I c) s i u)).al aa1)) :
  KD (du Tryz.f43 6) T ((afN (cX f d a b m n g k t x y C I c) s i u).al aa1):=by
 obtain⟨w,o,p,q,r,v,z,A,B,D,j,l⟩:=s;exact aq [28] [] (H:=hIT) (live:=XR) (ob h (oe e))
theorem anD {j:ak} {o:List ak} {l:List UInt8} {v:Bool} (h:aB g 3=true) (i:ap ba 70 [.dat (.slice (encS Po)),.dat (.flat (.int .i64 m))]=some ⟨.ref [sb l],.keep⟩) (p:aB m 5=v) (A:bB ba false 70 [.own o,.dat (.slice [sb l])] none=some ⟨.own f,.keep⟩) (e:T .normal ((afN (cX g d a b m n j k t x y C I c) s f v).al aa1)) :
  KD (du Tryz.f43 6) T ((afN (cX g d a b m n j k t x y C I c) s o u).al aa1):=by
 obtain⟨w,z,B,D,E,F,G,J,K,L,q,r⟩:=s;refine aq [28,39] [33,36] (H:=hIT) (live:=XR) (ob h (oo i (oo A (ob p ?_))))
 cases v <;>
 ·exact oe e
theorem aoU {i:Int} {g:ak} (h:KC 74 [bv s.a,iv a,.ptr (.out 0) 0] (hWd (.out 0) j) 1 (XQ ⟨.tup [],hWd (.out 0) f,1⟩)) (e:T .normal ((afN (cX i d a b m n g k t x y C I c) s f u).al aa1)) :
  KD (du Tryz.f43 7) T ((afN (cX i d a b m n g k t x y C I c) s j u).al aa1):=by
 obtain⟨w,p,q,r,v,z,A,B,D,E,l,o⟩:=s;exact aq [] [] (H:=hIT) (live:=XR) (oh h (oe e))
theorem anC {f:ak} {h e:List ak}   (A:bB ba false 70 [.own h,.dat (.slice [sb n])] none=some ⟨.own e,.keep⟩) (E:s.nm=true->T .normal ((afN (cX g d a b m n f k t x y C I c) s e u).al aa1)) (F:s.nm=false->T .normal ((dead 47 (afN (cX g d a b m n f k t x y C I c) s h u)).al aa1)) :
  KD (du Tryz.f43 8) T ((afN (cX g d a b m n f k t x y C I c) s h u).al aa1):=by
 obtain⟨w,o,p,q,r,l,v,z,B,D,i,j⟩:=s
 cases l
 ·refine aq [] [] (H:=hIT) (live:=XR) ?_;exact oe (F rfl)
 exact aq [] [52] (H:=hIT) (live:=XR) (oo A (oe (E rfl)))
theorem aoT {i:Int} {g:ak} (h:KC 74 [bv (s.b&&!u),iv b,.ptr (.out 0) 0] (hWd (.out 0) j) 1 (XQ ⟨.tup [],hWd (.out 0) f,1⟩)) (e:T .normal ((afO (cX i d a b m n g k t x y C I c) s f).al aa1)) :
  KD (du Tryz.f43 9) T ((afN (cX i d a b m n g k t x y C I c) s j u).al aa1):=by
 obtain⟨w,q,r,p,v,z,A,B,D,E,l,o⟩:=s
 cases p
 ·exact aq [] [] (H:=hIT) (live:=XR) (oh h (oe e))
 cases u <;>
 ·exact aq [] [] (H:=hIT) (live:=XR) (oh h (oe e))
theorem alx {e:Int} {j:ak} {l:List ak} {d:List UInt8} {v:Bool} (h:aB g 3=v) (i:ae 42 [iv m] (.dat (sb d))) (A:bB ba false 70 [.own l,.dat (.slice [sb d])] none=some ⟨.own f,.keep⟩) (E:(s.im&&!v)=true->T .normal ((afO (cX g e a b m n j k t x y C I c) s f).al aa1)) (F:(s.im&&!v)=false->T .normal ((dead 69 (afO (cX g e a b m n j k t x y C I c) s l)).al aa1)) :
  KD (du Tryz.f43 10) T ((afO (cX g e a b m n j k t x y C I c) s l).al aa1):=by
 obtain⟨w,r,u,z,q,B,D,G,J,K,o,p⟩:=s
 cases q
 ·refine aq [] [] (H:=hIT) (live:=XR) ?_;exact oe (F rfl)
 cases v
 ·exact aq [68] [75] (H:=hIT) (live:=XR) (ox h (on i (oo A (oe (E rfl)))))
 exact aq [68] [] (H:=hIT) (live:=XR) (ox h (oe (F rfl)))
theorem alw {j e:Int} {h:ak} {l:List ak} {d:List UInt8} (g:dj y) (i:ae 75 [.dat (.agg [i64 k,sb t,i64 x,y])] (.dat (sb d))) (A:bB ba false 70 [.own l,.dat (.slice [sb d])] none=some ⟨.own f,.keep⟩) (E:s.ty=true->T .normal ((afO (cX j e a b m n h k t x y C I c) s f).al aa1)) (F:s.ty=false->T .normal ((dead 77 (afO (cX j e a b m n h k t x y C I c) s l)).al aa1)) :
  KD (du Tryz.f43 11) T ((afO (cX j e a b m n h k t x y C I c) s l).al aa1):=by
 obtain⟨w,u,v,z,B,D,G,q,J,K,o,p⟩:=s
 rcases g with rfl|⟨r,rfl⟩ <;>
 ·cases q
  ·refine aq [] [] (H:=hIT) (live:=XR) ?_;exact oe (F rfl)
  exact aq [] [83] (H:=hIT) (live:=XR) (on i (oo A (oe (E rfl))))
theorem alv {h e:Int} {g:ak} {d:List UInt8} (i:ae 76 [.dat (lI C I c)] (.dat (sb d))) (A:bB ba false 70 [.own j,.dat (.slice [sb d])] none=some ⟨.own f,.keep⟩) (E:s.con=true->T .normal ((agN (cX h e a b m n g k t x y C I c) f).al aa1)) (F:s.con=false->T .normal ((dead 85 (agN (cX h e a b m n g k t x y C I c) j)).al aa1)) :
  KD (du Tryz.f43 12) T ((afO (cX h e a b m n g k t x y C I c) s j).al aa1):=by
 obtain⟨w,q,r,u,v,z,B,D,p,G,l,o⟩:=s
 cases p
 ·refine aq [] [] (H:=hIT) (live:=XR) ?_;exact oe (F rfl)
 exact aq [] [91] (H:=hIT) (live:=XR) (on i (oo A (oe (E rfl))))
theorem anF {a:List ak} {r:List UInt8} (j:ae 77 [.dat (.slice a),.dat (sb [32])] (.dat (sb r))) (e:T .ret ((⟨[(2,.dat (sb r))],[],hWd (.out 0) a,1⟩:ab).al aa1)) :
  KD (kc Tryz.f43 14) T ((⟨[(5,.ptr (.out 0) 0)],[],hWd (.out 0) a,1⟩:ab).al aa1):=by
 exact aq [] [] (H:=hIT) (live:=XR) (on j (oe e))
end
def XF (c:Bool) (r m:Int):Int:=match c with|true=>an .i64 (r+m)|false=>r
variable {K M P k r v:Int} {S l:List ak} {b:List UInt8} {c:Bool}
theorem Tg {n m:Int} (h:aB m 0=false):Ny ba .rem 3 [iv n,iv m]=some ⟨iv (n.tmod m),.keep⟩:=by
 have a:Ny ba .rem 3 [iv n,iv m]=XC (if aB m 0=true then none else some (.int .i64 (n.tmod m))):=by kernel_rfl
 rw[a,h];rfl
theorem XE {n m:Int} (a:Ny ba .rem 3 [iv n,iv m]=some ⟨iv (n.tmod m),.keep⟩) (b:aF (n.tmod m) 0=c):ae 28 [iv n,iv m] (iv (XF c (n.tmod m) m)):=by
 refine co [9] [7] (x:=.of Tryz.f28 P8 QE) ?_;refine oo a (ob b ?_)
 cases c <;>
 ·exact fi
theorem V1 (n:Int) {m:Nat} (k:0 < m) (d:m < 1000000000):ae 28 [iv n,iv (ofNat m)] (iv (n % ofNat m)):=by
 have h:=XE (n:=n) (m:=ofNat m) (Tg (by rw[cN,beq_eq_false_iff_ne];grind)) rfl;have e:XF (aF (n.tmod (ofNat m)) 0) (n.tmod (ofNat m)) (ofNat m)=n % ofNat m:=by
  have o:(0:Int) < ofNat m:=by grind
  have g:=Int.emod_nonneg n (show ofNat m≠0 by omega);have i:=Int.emod_lt_of_pos n o;have f:ofNat m < 1000000000:=by grind
  rw[dA];have T:=Int.tmod_eq_emod (a:=n) (b:=ofNat m);generalize ofNat m=M at *;generalize n % M=q at *;rw[T];unfold XF
  split at T
  ·grind
  rename_i c;rw[if_neg c];rw[decide_eq_true (by omega)];dsimp only;rw[cQ,wrap_i64 (by omega) (by omega)];omega
 grind
def cW (l:List ak) (k:Int):Heap:=[(.out 0,.cells [.dat (.slice l),iv k])]
def cq:ac:=.ptr (.out 0) 0
theorem V2:KC 10 [.dat (.slice l)] [] 0 (XQ ⟨cq,cW l 0,1⟩):=by
 refine co [] [] (x:=.of Tryz.f10 P8 QH) ?_;exact fi
theorem KX {l:List ak} {k n x r:Int} {c:Bool} (a:aF k (ofNat l.length)=c) (b:c=true->ap ba 22 [.dat (.slice l),.dat (.flat (.int .i64 (an .i64 (an .i64 (k+1) - 1))))]=some ⟨.ref [iN x],.keep⟩) (f:ae 28 [iv x,iv n] (iv r)) :
  KC 32 [cq,iv n] (cW l k) 1 (XQ ⟨iv (match c with|true=>r|false=>0),cW l (match c with|true=>an .i64 (k+1)|false=>k),1⟩):=by
 refine co [14] [31] (x:=.of Tryz.f32 PB QC) ?_;refine ox a ?_
 cases c
 ·exact fi
 exact oo (b rfl) (on f fi)
theorem aR {l:List Int} {k:Nat} {n:Nat} (f:l.length < 1000000000) (c:k<=l.length) (N:0 < n) (d:n < 1000000000) :
  ∃r K:Nat,(r < n/\k<=K/\K<=l.length/\(0 < r->k < K))/\KC 32 [cq,iv (ofNat n)] (cW (l.map iN) (ofNat k)) 1 (XQ ⟨iv (ofNat r),cW (l.map iN) (ofNat K),1⟩):=by
 by_cases a:k < l.length
 ·have g:an .i64 (ofNat k+1)=ofNat (k+1):=bb (by omega);have e:an .i64 (ofNat (k+1) - 1)=ofNat k:=by
   rw[cQ,show ofNat (k+1) - 1=ofNat k by simp];exact wrap_i64 (by grind) (by grind)
  have o:=Int.emod_nonneg l[k] (show ofNat n≠0 from fun h=>absurd (Int.ofNat.inj (h.trans (show (0:Int)=ofNat 0 from rfl))) (by omega));have b:=Int.emod_lt_of_pos l[k] (show (0:Int) < ofNat n from Int.ofNat_lt.2 N);refine⟨(l[k] % ofNat n).toNat,k+1,⟨(Int.toNat_lt o).2 b,by omega,by omega,fun _=>by omega⟩,?_⟩;have h:=@KX (l.map iN) (ofNat k) (ofNat n) (l[k]) (l[k] % ofNat n) true (by rw[gv,List.length_map,decide_eq_true a]) (fun _=>by grind[wb]) (V1 _ N d);grind
 refine⟨0,k,⟨N,by omega,by omega,fun h=>by omega⟩,?_⟩;exact @KX (l.map iN) (ofNat k) (ofNat n) 0 0 false (by rw[gv,List.length_map,decide_eq_false a]) (fun h=>by grind) (by have:=V1 0 N d;simp_all)
theorem C2 (i:Int):ae 95 [iv i] (.dat (Ty.mk 5 [] i []).enc):=by
 refine co [] [] (x:=.of Tryz.f95 P8 Qv) ?_;exact fi
theorem C3:ae 104 [] (.dat (Ty.mk 0 [] 0 []).enc):=by
 refine co [] [] (x:=.of Tryz.f104 P8 Eo) ?_;exact fi
theorem Ux:ae 140 [] (.dat (Ty.mk 1 [] 0 []).enc):=by
 refine co [] [] (x:=.of Tryz.f140 P8 Eo) ?_;exact fi
theorem qq (n:List UInt8):ae 96 [.dat (sb n),.dat nl] (.dat (Ty.mk 2 n 0 []).enc):=by
 refine co [] [] (x:=.of Tryz.f96 P8 Qu) ?_;exact fi
theorem AO (n:List UInt8) (x:ak) (l:List ak):ae 96 [.dat (sb n),.dat (.slice (x::l))] (.dat (.agg [i64 2,sb n,i64 0,.slice (x::l)])):=by
 refine co [] [] (x:=.of Tryz.f96 P8 Qu) ?_;exact fi
theorem LK (x:ak) (l:List ak):ae 138 [.dat (.slice (x::l))] (.dat (.agg [i64 4,sb [],i64 0,.slice (x::l)])):=by
 refine co [] [] (x:=.of Tryz.f138 P8 Qv) ?_;exact fi
theorem qs (t u:Ty):ae 139 [.dat t.enc,.dat u.enc] (.dat (Ty.mk 6 [] 0 [t,u]).enc):=by
 refine co [] [] (x:=.of Tryz.f139 P8 Ls) ?_;obtain⟨k,l,m,i⟩:=t
 rcases i with _|⟨b,c⟩
 ·obtain⟨n,o,p,j⟩:=u
  rcases j with _|⟨q,r⟩ <;>
  ·exact fi
 obtain⟨d,e,f,a⟩:=u
 rcases a with _|⟨g,h⟩ <;>
 ·exact fi
theorem Ro {L:List (List UInt8)} {i:Nat} (h:L[i]?=some b):(encS L)[i]?=some (sb b):=by simp[encS,h,sb]
noncomputable def tiS:TI:=match Go.Tp.elemOf ba 70 with|some t=>t|none=>default
theorem Wz:Go.Tp.elemOf ba 70=some tiS:=by kernel_rfl
theorem Fa:tiS.size=1:=by kernel_rfl
theorem uB {L:List (List UInt8)} {i:Nat} (h:L[i]?=some b):ap ba 70 [.dat (.slice (encS L)),.dat (.flat (.int .i64 (ofNat i)))]=some ⟨.ref [sb b],.keep⟩:=
 pd Wz rfl (Ro h) (by rfl) (by decide)
theorem VU {l:List vh} {i:Nat} {t:vh} (h:l[i]?=some t):ap ba 112 [.dat (.slice (lJ l)),.dat (.flat (.int .i64 (ofNat i)))]=some ⟨.ref t.cells,.keep⟩:=
 pd WA rfl (Rt h) (by exact ZB t) (by decide)
theorem Qk (a:KC 32 [cq,iv (an .i64 (ofNat S.length+4))] (cW l k) 1 (XQ ⟨iv r,cW l K,1⟩)) (c:aF r 4=true)
  (i:ap ba 70 [.dat (.slice (encS lq)),.dat (.flat (.int .i64 r))]=some ⟨.ref [sb b],.keep⟩) :
  KC 137 [cq,.dat (.slice S),iv P,iv v] (cW l k) 1 (XQ ⟨.dat (Ty.mk 2 b 0 []).enc,cW l K,1⟩):=by
 have f:=qq b;refine co [19] [22] (x:=.of Tryz.f137 Af uh) ?_;exact oh a (ob c (oo i (on f fi)))
noncomputable def QY:Hints:=⟨bV,Af,bi,rowsOf bi 137⟩
def XG (lo:Heap) (n:List UInt8) (a:List Ty):Heap:=(.loc 11,.cells [iv 2,.dat (sb n),iv 0,abQ a])::lo
def Ji (c:List ac):Heap:=[(.loc 10,.cells c),(.loc 8,.cells [iv 0,.dat (sb []),iv 0,.dat nl])]
def Oe (lo:Heap) (l S:List ak) (P v K i:Int):ab:=⟨[(12,iv i),(11,.ptr (.loc 11) 0),(10,.ptr (.loc 10) 0),(8,.ptr (.loc 8) 0),(0,cq),(1,.dat (.slice S)),(2,iv P),(3,iv v)],lo,cW l K,1⟩
def Vq (lo:Heap) (l S:List ak) (P v K i:Int):ab:=⟨[(36,bv false),(12,iv i),(11,.ptr (.loc 11) 0),(10,.ptr (.loc 10) 0),(8,.ptr (.loc 8) 0),(0,cq),(1,.dat (.slice S)),(2,iv P),(3,iv v)],lo,cW l K,1⟩
theorem Qg {h u i j x:Int} {n o:List UInt8} {g:Bool} {k m:List ak} {c:List Ty} {t:Ty} (a:aF i u=true)
  (b:KC 173 [cq,.dat (.slice S),iv (an .i64 (P - 1)),iv v] (cW l K) 1 (XQ ⟨.dat t.enc,cW l h,1⟩)) (w:c.length < 1000000000) {T:ej}
  (e:T .normal ((Oe (XG (Ji (cellsD n u j o x k g m)) n (c++[t])) l S P v h (an .i64 (i+1))).al sJ)) :
  KD (roundOf Tryz.f137 0) T ((Oe (XG (Ji (cellsD n u j o x k g m)) n c) l S P v K i).al sJ):=by
 have f:=U5 (t:=t) w;rcases c with _|⟨d,r⟩ <;>
 ·refine aq [36] [48] (H:=QY) (live:=uh) (ob a (oh b ?_));obtain⟨p,q,s,y⟩:=t;exact oo f (oe e)
theorem TC {u i f x:Int} {n t:List UInt8} {g h:List ak} {b:List Ty} (a:aF i u=false) {T:ej}
  (e:T (.exit 0) ((Vq (XG (Ji (cellsD n u f t x g c h)) n b) l S P v K i).al sJ)) :
  KD (roundOf Tryz.f137 0) T ((Oe (XG (Ji (cellsD n u f t x g c h)) n b) l S P v K i).al sJ):=by
 rcases b with _|⟨d,r⟩ <;>
 ·exact aq [36] [] (H:=QY) (live:=uh) (ob a (oe e))
theorem Ql {n g:List UInt8} {u f d ie:Int} {la lb:List ak} {h:List Ty} (a:KC 32 [cq,iv (an .i64 (ofNat S.length+4))] (cW l k) 1 (XQ ⟨iv r,cW l K,1⟩)) (b:aF r 4=false)
  (i:ap ba 112 [.dat (.slice S),.dat (.flat (.int .i64 (an .i64 (r - 4))))]=some ⟨.ref [sb n,i64 u,i64 f,sb g,i64 d,sl la,bl c,sl lb],.keep⟩)
  (j:KD (.loop (roundOf Tryz.f137 0)) (fun e s=>e=.exit 0/\s=(Vq (XG (Ji (cellsD n u f g d la c lb)) n h) l S P v M ie).al sJ) ((Oe (XG (Ji (cellsD n u f g d la c lb)) n []) l S P v K 0).al sJ)) :
  KC 137 [cq,.dat (.slice S),iv P,iv v] (cW l k) 1 (XQ ⟨.dat (Ty.mk 2 n 0 h).enc,cW l M,1⟩):=by
 have m:=SV 10 n u f g d la c lb
 rcases h with _|⟨t,h⟩ <;>
 ·refine co [19] [28,100010] (x:=.of Tryz.f137 Af uh) ?_;refine oh a (ob b (oo i (oo m ?_)));refine lo j ?_;rintro o s ⟨rfl,rfl⟩;refine⟨_,rfl,?_⟩;exact fi
theorem U3 {i:Int} (a:KC 32 [cq,iv 6] (cW l k) 1 (XQ ⟨iv r,cW l K,1⟩)) (b:aF r 2=true) (f:aF 0 v=true) (g:KC 32 [cq,iv v] (cW l K) 1 (XQ ⟨iv i,cW l M,1⟩)) :
  KC 173 [cq,.dat (.slice S),iv P,iv v] (cW l k) 1 (XQ ⟨.dat (Ty.mk 5 [] i []).enc,cW l M,1⟩):=by
 have G:=C2 i;refine co [14,17] [] (x:=.of Tryz.f173 qa oy) ?_;exact oh a (ob b (ob f (oh g (on G fi))))
theorem Sd {i:Int} {q:Bool} (a:KC 32 [cq,iv 6] (cW l k) 1 (XQ ⟨iv r,cW l K,1⟩)) (d:aF r 2=q) (f:aF 0 v=c) (e:q=true->c=false) (D:aF 0 P=false) (g:KC 32 [cq,iv 4] (cW l K) 1 (XQ ⟨iv i,cW l M,1⟩))
  (h:ap ba 70 [.dat (.slice (encS lq)),.dat (.flat (.int .i64 i))]=some ⟨.ref [sb b],.keep⟩) :
  KC 173 [cq,.dat (.slice S),iv P,iv v] (cW l k) 1 (XQ ⟨.dat (Ty.mk 2 b 0 []).enc,cW l M,1⟩):=by
 have G:=qq b
 cases q
 ·refine co [14,25] [29] (x:=.of Tryz.f173 qa oy) ?_;exact oh a (ob d (ox D (oh g (oo h (on G fi)))))
 obtain rfl:=e rfl;refine co [14,17,25] [29] (x:=.of Tryz.f173 qa oy) ?_;exact oh a (ob d (ob f (ox D (oh g (oo h (on G fi))))))
theorem Nt {t:Ty} {q d:Bool} (a:KC 32 [cq,iv 6] (cW l k) 1 (XQ ⟨iv r,cW l K,1⟩)) (b:aF r 2=q) (f:aF 0 v=d) (e:q=true->d=false) (D:aF 0 P=true) (g:aF r 4=true)
  (G:KC 137 [cq,.dat (.slice S),iv P,iv v] (cW l K) 1 (XQ ⟨.dat t.enc,cW l M,1⟩)) :
  KC 173 [cq,.dat (.slice S),iv P,iv v] (cW l k) 1 (XQ ⟨.dat t.enc,cW l M,1⟩):=by
 obtain⟨i,j,h,c⟩:=t
 cases q
 ·rcases c with _|⟨x,c⟩ <;>
  ·refine co [14,25,34] [] (x:=.of Tryz.f173 qa oy) ?_;exact oh a (ob b (ox D (ob g (oh G fi))))
 obtain rfl:=e rfl
 rcases c with _|⟨x,c⟩ <;>
 ·refine co [14,17,25,34] [] (x:=.of Tryz.f173 qa oy) ?_;exact oh a (ob b (ob f (ox D (ob g (oh G fi)))))
theorem Sb {t:Ty} (a:KC 32 [cq,iv 6] (cW l k) 1 (XQ ⟨iv r,cW l K,1⟩)) (b:aF r 2=false) (D:aF 0 P=true) (g:aF r 4=false)
  (G:KC 94 [cq,.dat (.slice S),iv (an .i64 (P - 1)),iv 0] (cW l K) 1 (XQ ⟨.dat t.enc,cW l M,1⟩)) :
  KC 173 [cq,.dat (.slice S),iv P,iv v] (cW l k) 1 (XQ ⟨.dat t.enc,cW l M,1⟩):=by
 obtain⟨e,f,d,c⟩:=t
 rcases c with _|⟨x,c⟩ <;>
 ·refine co [14,25,34] [] (x:=.of Tryz.f173 qa oy) ?_;exact oh a (ob b (ox D (ob g (oh G fi))))
section
def ahq (u:ak) (n:Nat) (a:List ak) (i:Int):ab:=⟨[(95,iv i),(94,iv (ofNat n)),(93,.dat u),(6,fnW (.out 0)),(5,.ptr (.out 0) 0)],[],hWd (.out 0) a,1⟩
def agu (u:ak) (n:Nat) (a:List ak) (i:Int):ab:=⟨[(96,bv false),(95,iv i),(94,iv (ofNat n)),(93,.dat u),(6,fnW (.out 0)),(5,.ptr (.out 0) 0)],[],hWd (.out 0) a,1⟩
theorem ajO {g c:List ak} {T:ej} {l:List Int} {t:Int} {i:Nat} (d:i < (l.map iN).length) (f:l[i]?=some t) (h:KC 74 [bv true,iv t,.ptr (.out 0) 0] (hWd (.out 0) g) 1 (XQ ⟨.tup [],hWd (.out 0) c,1⟩))
  (e:T .normal ((ahq (.slice (l.map iN)) (l.map iN).length c (an .i64 (ofNat i+1))).al aa1)) :
  KD (roundOf Tryz.f43 0) T ((ahq (.slice (l.map iN)) (l.map iN).length g (ofNat i)).al aa1):=by
 have a:=br d;have b:=wb f;generalize l.map iN=j at *;exact aq [96] [97] (H:=hIT) (live:=XR) (ob a (oo b (oh h (oe e))))
theorem aib {b:List ak} {T:ej} {u:ak} {n:Nat} (e:T (.exit 0) ((agu u n b (ofNat n)).al aa1)) :
  KD (roundOf Tryz.f43 0) T ((ahq u n b (ofNat n)).al aa1):=by
 have a:=cj (i:=n) (L:=n) (by omega);exact aq [96] [] (H:=hIT) (live:=XR) (ob a (oe e))
def am0 (a:List ak):ab:=⟨[(5,.ptr (.out 0) 0)],[],hWd (.out 0) a,1⟩
theorem alu {i f a b m:Int} {n:List UInt8} {k:Int} {t:List UInt8} {x:Int} {y:ak} {C I:Int} {c:List UInt8} {g d:List ak} {T:ej} {l:List ak} (h:KD (.loop (roundOf Tryz.f43 0)) (fun e q=>e=.exit 0/\q=(agu (.slice l) l.length d (ofNat l.length)).al aa1) ((ahq (.slice l) l.length g (ofNat 0)).al aa1))
  (e:T .normal ((agu (.slice l) l.length d (ofNat l.length)).al aa1)) :
  KD (du Tryz.f43 13) T ((agN (cX i f a b m n (.slice l) k t x y C I c) g).al aa1):=by
 refine aq [] [] (H:=hIT) (live:=XR) ?_;refine lo h ?_;rintro j s ⟨rfl,rfl⟩;refine⟨_,rfl,?_⟩;exact oe e
theorem al6 {g f a b m:Int} {n:List UInt8} {k:Int} {t:List UInt8} {x:Int} {y:ak} {C I:Int} {c:List UInt8} {d:List ak} {T:ej} (l:KD (.loop (roundOf Tryz.f43 0)) (fun e q=>e=.exit 0/\q=(agu nl 0 d (ofNat 0)).al aa1) ((ahq nl 0 d (ofNat 0)).al aa1))
  (e:T .normal ((agu nl 0 d (ofNat 0)).al aa1)) :
  KD (du Tryz.f43 13) T ((agN (cX g f a b m n nl k t x y C I c) d).al aa1):=by
 refine aq [] [] (H:=hIT) (live:=XR) ?_;refine lo l ?_;rintro h s ⟨rfl,rfl⟩;refine⟨_,rfl,?_⟩;exact oe e
end
def slS (n:Int):List UInt8:=[115]++Go.Lib.itoa n
def adr (c:Bool) (w:List UInt8):List (List UInt8):=match c with|true=>[w]|false=>[]
def aeG (m:Int):List UInt8:=match Po[m.toNat]? with|some w=>w|none=>[]
theorem afM {a:List (List UInt8)} {b:List UInt8} (h:a.length < 1000000):bB ba false 70 [.own (a.map sb),.dat (.slice [sb b])] none=some ⟨.own ((a++[b]).map sb),.keep⟩:=by
 rw[List.map_append];refine uX (i:=tiS) (ds:=[sb b]) (k:=0) Wz rfl Fa rfl ?_ (by kernel_rfl) ?_ ?_ ?_ (by simp)
 ·exact kM (fun d D=>by obtain⟨x,_,rfl⟩:=List.mem_map.1 D;rfl)
 ·have c:tiS.bytes<=1000:=fD (by kernel_rfl);simp
  calc (a.length+1)*tiS.bytes<=1000000000*1000:=Nat.mul_le_mul (by omega) c
   _<=140737488355328:=by decide
 ·simp[lim];omega
 have e:fy (a.map sb++[sb b])=false:=by
  cases a with
  | nil=>rfl
  | cons x r=>rfl
 unfold jr;rw[e]
def smI (n:Int):Prop:=-1000000<=n/\n<=1000000
theorem agX (c:Bool) {n:Int} (h:smI n) {ws:List (List UInt8)} (b:ws.length < 1000000) :
  KC 74 [bv c,iv n,.ptr (.out 0) 0] (hWd (.out 0) (ws.map sb)) 1 (XQ ⟨.tup [],hWd (.out 0) ((ws++adr c (slS n)).map sb),1⟩):=by
 obtain⟨o,d⟩:=h
 cases c with
 | false=>
  grind[adr,amT]
 | true=>
  have l:=ahw (n:=n) (by omega) (by omega);exact alL (agp (by omega) (by omega)) (aaa (a:=[115]) (by grind)) (afM b)
section
abbrev IT (k:Nat) (s a:ab):Prop:=KD (du Tryz.f43 k) (fun e q=>e=.normal/\q=a.al aa1) (s.al aa1)
variable {op dst a b im:Int} {nm:List UInt8} {dx:ak} {k:Int} {tn:List UInt8} {ix:Int} {dt:ak} {ck ci:Int} {cs:List UInt8} {s:kG} {u:Bool} {ws:List (List UInt8)} (hw:ws.length < 1000)
include hw
theorem aoS (i:aB op 3=true->∃n:Nat,im=ofNat n/\n < 8):IT 6 (afN (cX op dst a b im nm dx k tn ix dt ck ci cs) s (ws.map sb) false) (afN (cX op dst a b im nm dx k tn ix dt ck ci cs) s ((ws++adr (aB op 3) (aeG im)).map sb) (aB op 3&&aB im 5)):=by
 cases h:aB op 3 with
 | true=>
  obtain⟨n,rfl,N⟩:=i h;have J:Po[n]?=some (aeG (ofNat n)):=by
   show Po[n]?=some (match Po[n]? with|some w=>w|none=>[]);rw[List.getElem?_eq_getElem (show n < Po.length from N)]
  exact anD h (uB J) rfl (afM (by omega)) ⟨rfl,rfl⟩
 | false=>
  rw[show ws++adr false (aeG im)=ws from List.append_nil ws];exact jT 234 (anE h ⟨rfl,rfl⟩) (by kernel_rfl)
theorem aoR:IT 8 (afN (cX op dst a b im nm dx k tn ix dt ck ci cs) s (ws.map sb) u) (afN (cX op dst a b im nm dx k tn ix dt ck ci cs) s ((ws++adr s.nm nm).map sb) u):=by
 cases h:s.nm with
 | true=>exact anC (afM (by omega)) (fun _=>⟨rfl,rfl⟩) (fun f=>absurd (h.symm.trans f) (by decide))
 | false=>
  rw[show ws++adr false nm=ws from List.append_nil ws];exact jT 234 (anC (afM (by omega)) (fun f=>absurd (h.symm.trans f) (by decide)) (fun _=>⟨rfl,rfl⟩)) (by kernel_rfl)
theorem anB (d:smI im):IT 10 (afO (cX op dst a b im nm dx k tn ix dt ck ci cs) s (ws.map sb)) (afO (cX op dst a b im nm dx k tn ix dt ck ci cs) s ((ws++adr (s.im&&!aB op 3) (Go.Lib.itoa im)).map sb)):=by
 obtain⟨o,q⟩:=d;have l:=agp (i:=im) (by omega) (by omega)
 cases h:(s.im&&!aB op 3) with
 | true=>exact alx rfl l (afM (by omega)) (fun _=>⟨rfl,rfl⟩) (fun g=>absurd (h.symm.trans g) (by decide))
 | false=>
  rw[show ws++adr false (Go.Lib.itoa im)=ws from List.append_nil ws];exact jT 106 (alx rfl l (afM (by omega)) (fun g=>absurd (h.symm.trans g) (by decide)) (fun _=>⟨rfl,rfl⟩)) (by kernel_rfl)
theorem anA {d:List UInt8} (g:dj dt) (i:ae 75 [.dat (.agg [i64 k,sb tn,i64 ix,dt])] (.dat (sb d))):IT 11 (afO (cX op dst a b im nm dx k tn ix dt ck ci cs) s (ws.map sb)) (afO (cX op dst a b im nm dx k tn ix dt ck ci cs) s ((ws++adr s.ty d).map sb)):=by
 cases h:s.ty with
 | true=>exact alw g i (afM (by omega)) (fun _=>⟨rfl,rfl⟩) (fun j=>absurd (h.symm.trans j) (by decide))
 | false=>
  rw[show ws++adr false d=ws from List.append_nil ws];exact jT 106 (alw g i (afM (by omega)) (fun j=>absurd (h.symm.trans j) (by decide)) (fun _=>⟨rfl,rfl⟩)) (by kernel_rfl)
theorem anz {d:List UInt8} (i:ae 76 [.dat (lI ck ci cs)] (.dat (sb d))):IT 12 (afO (cX op dst a b im nm dx k tn ix dt ck ci cs) s (ws.map sb)) (agN (cX op dst a b im nm dx k tn ix dt ck ci cs) ((ws++adr s.con d).map sb)):=by
 cases h:s.con with
 | true=>exact alv i (afM (by omega)) (fun _=>⟨rfl,rfl⟩) (fun g=>absurd (h.symm.trans g) (by decide))
 | false=>
  rw[show ws++adr false d=ws from List.append_nil ws];exact jT 98 (alv i (afM (by omega)) (fun g=>absurd (h.symm.trans g) (by decide)) (fun _=>⟨rfl,rfl⟩)) (by kernel_rfl)
theorem al7 {u:List Int} (s:∀n∈u,smI n) (l:u.length < 1000) :
  KD (.loop (roundOf Tryz.f43 0)) (fun e q=>e=.exit 0/\q=(agu (.slice (u.map iN)) (u.map iN).length ((ws++u.map slS).map sb) (ofNat (u.map iN).length)).al aa1)
   ((ahq (.slice (u.map iN)) (u.map iN).length (ws.map sb) (ofNat 0)).al aa1):=by
 refine bm (St:=fun i=>(ahq (.slice (u.map iN)) (u.map iN).length ((ws++(u.take i).map slS).map sb) (ofNat i)).al aa1) (u.map iN).length ?_ ?_ (i:=0) (Nat.zero_le _) |> (fun h=>by rwa [show ws++(u.take 0).map slS=ws from List.append_nil ws] at h)
 ·intro i b;have a:i < u.length:=by grind
  have T:u[i]?=some u[i]:=List.getElem?_eq_getElem a;have c:=s _ (List.getElem_mem a);generalize u[i]=t at T c;have d:an .i64 (ofNat i+1)=ofNat (i+1):=bb (by omega);have e:ws++(u.take (i+1)).map slS=(ws++(u.take i).map slS)++[slS t]:=by
   rw[List.take_add_one,T];simp
  refine ajO b T (agX true c (ws:=ws++(u.take i).map slS) (by grind)) ?_;rw[d,e];exact rfl
 have e:=@aib ((ws++u.map slS).map sb) (xU (fun _=>False) (fun e q=>e=.exit 0/\q=(agu (.slice (u.map iN)) (u.map iN).length ((ws++u.map slS).map sb) (ofNat (u.map iN).length)).al aa1)) (.slice (u.map iN)) ((u.map iN).length) ⟨rfl,rfl⟩;grind
theorem anx {z:Bool} {u:List Int} (s:∀n∈u,smI n) (g:u.length < 1000):IT 13 (agN (cX op dst a b im nm (sx z (u.map iN)) k tn ix dt ck ci cs) (ws.map sb)) (am0 ((ws++u.map slS).map sb)):=by
 have h:=al7 hw s g
 cases u with
 | nil=>
  cases z
  ·rw[show ws++([]:List Int).map slS=ws from List.append_nil ws];refine jT 32 (al6 ?_ ⟨rfl,rfl⟩) (by kernel_rfl);refine bm (St:=fun i=>(ahq nl 0 (ws.map sb) (ofNat i)).al aa1) 0 (fun i f=>absurd f (by omega)) ?_ (i:=0) (Nat.le_refl _);exact aib ⟨rfl,rfl⟩
  exact jT 32 (alu (l:=[]) h ⟨rfl,rfl⟩) (by kernel_rfl)
 | cons x r=>exact jT 32 (alu h ⟨rfl,rfl⟩) (by kernel_rfl)
end
variable {k:Int} {l:List ak} {n:List UInt8}
theorem akm {b:Int} (a:aB k 0=true):ae 80 [.dat (.agg [i64 k,sb n,i64 b,sl l])] (.dat (sb ak1)):=by
 refine iS [8] [] (x:=qS.of Tryz.f80 P8 aeI) (by kernel_rfl) ?_
 rcases l with _|⟨c,d⟩ <;>
 ·exact ob a fi
theorem ail {b:Int} (o:aB k 0=false) (a:aB k 1=true):ae 80 [.dat (.agg [i64 k,sb n,i64 b,sl l])] (.dat (sb ag0)):=by
 refine iS [8,10] [] (x:=qS.of Tryz.f80 P8 aeI) (by kernel_rfl) ?_
 rcases l with _|⟨c,d⟩ <;>
 ·exact ob o (ob a fi)
theorem akl {d:List UInt8} {b:Int} (o:aB k 0=false) (a:aB k 1=false) (G:aB k 5=true) (i:ae 78 [iv b] (.dat (sb d))) (c:Ny ba .add 9 [.dat (sb [36]),.dat (sb d)]=some ⟨.dat (sb ([36]++d)),.keep⟩):ae 80 [.dat (.agg [i64 k,sb n,i64 b,sl l])] (.dat (sb ([36]++d))):=by
 refine iS [8,10,12] [16] (x:=qS.of Tryz.f80 P8 aeI) (by kernel_rfl) ?_
 rcases l with _|⟨e,f⟩ <;>
 ·exact ob o (ob a (ob G (on i (oo c fi))))
theorem ai3 {c:Int} (o:aB k 0=false) (a:aB k 1=false) (G:aB k 5=false) (b:aB k 2=true):ae 80 [.dat (.agg [i64 k,sb n,i64 c,nl])] (.dat (sb n)):=by
 exact iS [8,10,12,18] [] (x:=qS.of Tryz.f80 P8 aeI) (by kernel_rfl) (ob o (ob a (ob G (ob b fi))))
noncomputable def hRX:Hints:=⟨bV,P8,bi,rowsOf bi 80⟩
def aho (lo:Heap) (s:List UInt8) (i:Int):ab:=⟨[(4,iv i),(3,.dat (sb s)),(1,.ptr (.loc 1) 0)],lo,[],0⟩
def agM (lo:Heap) (s:List UInt8) (i:Int):ab:=⟨[(36,bv false),(4,iv i),(3,.dat (sb s)),(1,.ptr (.loc 1) 0)],lo,[],0⟩
theorem ai1 {k:Int} {n:List UInt8} {g:Int} {x:ak} {c:List ak} {l:List Ty} {t:Ty} {i:Nat} {s d:List UInt8} (p:ax l=x::c) (m:i < (ax l).length) (q:l[i]?=some t)
  (j:ae 80 [.dat t.enc] (.dat (sb d))) (o:Ny ba .add 9 [.dat (sb [32]),.dat (sb d)]=some ⟨.dat (sb ([32]++d)),.keep⟩)
  (f:Ny ba .add 9 [.dat (sb s),.dat (sb ([32]++d))]=some ⟨.dat (sb (s++([32]++d))),.keep⟩) {T:ej}
  (e:T .normal ((aho (kr 1 k n g (.slice (x::c))) (s++([32]++d)) (an .i64 (ofNat i+1))).al afp)) :
  KD (roundOf Tryz.f80 0) T ((aho (kr 1 k n g (.slice (x::c))) s (ofNat i)).al afp):=by
 have a:=br m;have b:=pF q;rw[p] at a b;obtain⟨K,u,r,h⟩:=t
 rcases h with _|⟨Q,v⟩ <;>
 ·exact aq [36] [43,46,47] (H:=hRX) (live:=aeI) (ob a (oo b (on j (oo o (oo f (oe e))))))
theorem akj {k:Int} {n s:List UInt8} {b:Int} {l:List ak} {T:ej} (e:T (.exit 1) ((agM (kr 1 k n b (sl l)) s (ofNat l.length)).al afp)) :
  KD (roundOf Tryz.f80 0) T ((aho (kr 1 k n b (sl l)) s (ofNat l.length)).al afp):=by
 have a:=cj (i:=l.length) (L:=l.length) (by omega)
 rcases l with _|⟨x,l⟩
 ·refine aq [] [] (H:=hRX) (live:=aeI) ?_;exact oe e
 exact aq [36] [] (H:=hRX) (live:=aeI) (ob a (oe e))
theorem ai4 {r:List UInt8} {h:Int} {c d:Bool} (o:aB k 0=false) (a:aB k 1=false) (G:aB k 5=false) (b:aB k 2=false) (f:aB k 3=c) (g:aB k 4=d)
  (j:KD (.loop (roundOf Tryz.f80 0)) (fun e p=>e=.exit 1/\p=(agM (kr 1 k n h (sl l)) r (ofNat l.length)).al afp) ((aho (kr 1 k n h (sl l)) ([40]++agD c d) (ofNat 0)).al afp))
  (i:Ny ba .add 9 [.dat (sb r),.dat (sb [41])]=some ⟨.dat (sb (r++[41])),.keep⟩) :
  ae 80 [.dat (.agg [i64 k,sb n,i64 h,sl l])] (.dat (sb (r++[41]))):=by
 cases c
 ·cases d <;>
  ·rcases l with _|⟨x,l⟩ <;>
   ·refine iS [8,10,12,18,29,31] [49] (x:=qS.of Tryz.f80 P8 aeI) (by kernel_rfl) (ob o (ob a (ob G (ob b (ob f (ob g ?_))))));refine lo j ?_;rintro m s ⟨rfl,rfl⟩;refine⟨_,rfl,?_⟩;exact oo i fi
 rcases l with _|⟨x,l⟩ <;>
 ·refine iS [8,10,12,18,29] [49] (x:=qS.of Tryz.f80 P8 aeI) (by kernel_rfl) (ob o (ob a (ob G (ob b (ob f ?_)))));refine lo j ?_;rintro m s ⟨rfl,rfl⟩;refine⟨_,rfl,?_⟩;exact oo i fi
theorem aim {r:List UInt8} {d:Int} {x:ak} (o:aB k 0=false) (a:aB k 1=false) (G:aB k 5=false) (b:aB k 2=true) (f:aB k 3=false) (g:aB k 4=false)
  (c:Ny ba .add 9 [.dat (sb [40]),.dat (sb n)]=some ⟨.dat (sb ([40]++n)),.keep⟩)
  (i:KD (.loop (roundOf Tryz.f80 0)) (fun e j=>e=.exit 1/\j=(agM (kr 1 k n d (sl (x::l))) r (ofNat (x::l).length)).al afp) ((aho (kr 1 k n d (sl (x::l))) ([40]++n) (ofNat 0)).al afp))
  (h:Ny ba .add 9 [.dat (sb r),.dat (sb [41])]=some ⟨.dat (sb (r++[41])),.keep⟩) :
  ae 80 [.dat (.agg [i64 k,sb n,i64 d,.slice (x::l)])] (.dat (sb (r++[41]))):=by
 refine iS [8,10,12,18] [27,49] (x:=qS.of Tryz.f80 P8 aeI) (by kernel_rfl) (ob o (ob a (ob G (ob b (oo c ?_)))));refine lo i ?_;rintro m s ⟨rfl,rfl⟩;refine⟨_,rfl,?_⟩;exact oo h fi
mutual
def Ty.vk:Ty->Prop
 | .mk k _ _ l=>((aB k 3||(aB k 4||aB k 6))=!(aB k 2)∨(aB k 0||(aB k 1||aB k 5))=true)/\vkL l
def vkL:List Ty->Prop
 | []=>True
 | t::r=>t.vk/\vkL r
end
theorem ai2 {c:Int->List UInt8} {f:Int} {s:List UInt8} {l:List Ty} (d:l.length < 1000000000)
  (y:∀t∈l,(t.txt c).length < 100000000->ae 80 [.dat t.enc] (.dat (sb (t.txt c)))) (N:(s++acg c l).length < 100000000) :
  KD (.loop (roundOf Tryz.f80 0)) (fun e g=>e=.exit 1/\g=(agM (kr 1 k n f (sl (ax l))) (s++acg c l) (ofNat (ax l).length)).al afp) ((aho (kr 1 k n f (sl (ax l))) s (ofNat 0)).al afp):=by
 simp at N;refine bm (St:=fun i=>(aho (kr 1 k n f (sl (ax l))) (s++acg c (l.take i)) (ofNat i)).al afp) (ax l).length ?_ ?_ (i:=0) (Nat.zero_le _) |> (fun h=>by simpa [acg] using h)
 ·intro i u;obtain⟨t,T,v⟩:=get_mem u;obtain⟨x,q,m⟩:∃x q,ax l=x::q:=by cases l with|nil=>grind|cons a r=>exact⟨_,_,rfl⟩
  have j:=ahT c l (i+1);rw[afE T] at j;simp only[List.length_append,List.length_singleton] at j;have w:an .i64 (ofNat i+1)=ofNat (i+1):=bb (by grind);have o:=aaa (a:=[32]) (b:=t.txt c) (by grind);have p:=aaa (a:=s++acg c (l.take i)) (b:=[32]++t.txt c) (by grind);have e:=@ai1 k n f _ _ _ _ _ _ _ m u T (y t v (by omega)) o p (xU (fun g=>g=(aho (kr 1 k n f (sl (ax l))) (s++acg c (l.take (i+1))) (ofNat (i+1))).al afp)
   (fun e g=>e=.exit 1/\g=(agM (kr 1 k n f (sl (ax l))) (s++acg c l) (ofNat (ax l).length)).al afp)) (by
    rw[m,w,afE T];simp only[List.append_assoc];rfl)
  rw[m];rw[m] at e;exact e
 have e:=@akj k n (s++acg c l) f (ax l) (xU (fun _=>False) (fun e g=>e=.exit 1/\g=(agM (kr 1 k n f (sl (ax l))) (s++acg c l) (ofNat (ax l).length)).al afp)) ⟨rfl,rfl⟩;simp_all[aH]
mutual
theorem alo {c:Int->List UInt8} {p:Int->Prop} (i:∀d:Int,p d->ae 78 [iv d] (.dat (sb (c d)))):∀t:Ty,t.thin->t.vix p->t.vk->(t.txt c).length < 100000000->ae 80 [.dat t.enc] (.dat (sb (t.txt c)))
 | .mk k n d l,s,g,V,N=>by
  simp only[Ty.thin] at s;simp only[Ty.vix] at g;simp only[Ty.vk] at V;have m:=ai6 i l s.2 g.2 V.2;rw[Ty.txt] at N ⊢
  cases o:aB k 0 with
  | true=>exact akm o
  | false=>
   rw[o] at N
   cases a:aB k 1 with
   | true=>exact ail o a
   | false=>
    rw[a] at N
    cases G:aB k 5 with
    | true=>
     rw[G] at N;have N:([36]++c d).length < 100000000:=N;exact akl o a G (i d (g.1 G)) (aaa (by simp only[List.length_append] at N;omega))
    | false=>
     rw[G] at N;have f:(aB k 3||(aB k 4||aB k 6))=!(aB k 2):=by
      rcases V.1 with h|h
      ·exact h
      rw[o,a,G] at h;exact absurd h (by decide)
     cases e:(aB k 3||(aB k 4||aB k 6)) with
     | true=>
      rw[e] at N f;have b:aB k 2=false:=by simpa using f.symm
      have N:(([40]++agD (aB k 3) (aB k 4))++acg c l++[41]).length < 100000000:=N;rw[List.length_append] at N;exact ai4 o a G b rfl rfl (ai2 s.1 m (by omega)) (aaa (by simp only[List.length_singleton] at N ⊢;omega))
     | false=>
      rw[e] at N f;have b:aB k 2=true:=by simpa using f.symm
      simp only[Bool.or_eq_false_iff] at e
      cases l with
      | nil=>exact ai3 o a G b
      | cons x r=>
       have N:(([40]++n)++acg c (x::r)++[41]).length < 100000000:=N;rw[List.length_append] at N;have j:=N;rw[List.length_append,List.length_append] at j;exact aim o a G b e.1 e.2.1 (aaa (by omega)) (ai2 (l:=x::r) s.1 m (by omega)) (aaa (by simp only[List.length_singleton] at N ⊢;omega))
theorem ai6 {c:Int->List UInt8} {p:Int->Prop} (i:∀d:Int,p d->ae 78 [iv d] (.dat (sb (c d)))):∀l:List Ty,tt l->ahi p l->vkL l->∀t∈l,(t.txt c).length < 100000000->ae 80 [.dat t.enc] (.dat (sb (t.txt c)))
 | [],_,_,_,t,T,_=>by simp at T
 | x::r,s,g,V,t,T,N=>by
  simp only[tt] at s;simp only[ahi] at g;simp only[vkL] at V
  rcases List.mem_cons.1 T with a|T
  ·rw[a] at N ⊢;exact alo i x s.1 g.1 V.1 N
  exact ai6 i r s.2 g.2 V.2 t T N
end
mutual
def Ty.sm:Ty->Prop
 | .mk k n x l=>n.length<=24/\(aB k 5=true->aF x 0=false/\aF 200 x=false)/\((aB k 3||(aB k 4||aB k 6))=!(aB k 2)∨(aB k 0||(aB k 1||aB k 5))=true)/\smL l
def smL:List Ty->Prop
 | []=>True
 | t::r=>t.sm/\smL r
end
theorem agS {b:List UInt8} (h:isIdent b=true):b.length<=24:=by
 cases b <;> simp_all[isIdent]
theorem aks {x:Int} {l:List Ty} (h:vQ k n x l=true):n.length<=24:=by
 grind[vQ,wq,agS,Rm]
theorem akt {x:Int} {l:List Ty} (h:vQ k n x l=true) (G:aB k 5=true):aF x 0=false/\aF 200 x=false:=by
 grind[wq,vQ]
theorem aip {x:Int} {l:List Ty} (h:vQ k n x l=true):(aB k 3||(aB k 4||aB k 6))=!(aB k 2)∨(aB k 0||(aB k 1||aB k 5))=true:=by
 grind[vQ,wq]
mutual
theorem ahj:∀t:Ty,t.valid=true->t.sm
 | .mk k n x l,h=>by
  rw[Ty.valid,Bool.and_eq_true] at h;exact⟨aks h.1,akt h.1,aip h.1,agK l (by grind)⟩
theorem agK:∀l:List Ty,pA l=false->smL l
 | [],_=>trivial
 | t::r,h=>by
  rw[pA,Bool.or_eq_false_iff] at h;exact⟨ahj t (by grind),agK r h.2⟩
end
mutual
theorem alm:∀t:Ty,t.sm->t.vk
 | .mk k n x l,h=>by
  exact⟨h.2.2.1,aiX l h.2.2.2⟩
theorem aiX:∀l:List Ty,smL l->vkL l
 | [],_=>trivial
 | t::r,h=>by
  exact⟨alm t h.1,aiX r h.2⟩
end
theorem air (a b:Bool):(agD a b).length<=6:=by cases a <;> cases b <;> decide
theorem als {x:Int} (h:aF x 0=false/\aF 200 x=false):smI x:=by
 rw[dA,dA] at h;simp only[decide_eq_false_iff_not] at h;exact⟨by omega,by omega⟩
theorem ab8 {n:Int} (h:smI n):(Go.Lib.itoa n).length<=21:=ahw (by have:=h.1;omega) (by have:=h.2;omega)
mutual
theorem aiY:∀t:Ty,t.sm->t.vix smI
 | .mk k n x l,h=>by
  exact⟨fun G=>als (h.2.1 G),ahW l h.2.2.2⟩
theorem ahW:∀l:List Ty,smL l->ahi smI l
 | [],_=>trivial
 | t::r,h=>by
  exact⟨aiY t h.1,ahW r h.2⟩
end
mutual
theorem ahS:∀t:Ty,t.sm->(t.txt Go.Lib.itoa).length+1<=30*t.size
 | .mk k n x l,h=>by
  have c:=ahk l h.2.2.2;have a:=h.1;have f:=air (aB k 3) (aB k 4);rw[Ty.txt,Ty.size]
  cases aB k 0 with
  | true=>grind[ak1]
  | false=>
   cases aB k 1 with
   | true=>simp[ag0];omega
   | false=>
    cases G:aB k 5 with
    | true=>
     have b:=ab8 (als (h.2.1 G));grind
    | false=>
     grind
theorem ahk:∀l:List Ty,smL l->(acg Go.Lib.itoa l).length<=30*aQ l
 | [],_=>by simp[acg]
 | t::r,h=>by
  have a:=ahS t h.1;have b:=ahk r h.2;grind[acg,aQ]
end
theorem alC {t:Ty} (h:aB t.validate 0=true):t.size<=200/\t.sm:=by
 have a:=wq h;unfold Ty.validate at a
 split at a
 ·grind
 rename_i g;simp only[Bool.or_eq_false_iff] at g;refine⟨?_,?_⟩
 ·have:=g.1
  rw[show (200:Int)=ofNat 200 from rfl,gv] at this;grind
 grind[ahj]
theorem akg {u:Bool} {t:Ty} (h:tyP u t=true):t.thin/\t.vix smI/\t.vk/\(t.txt Go.Lib.itoa).length < 10000:=by
 have b:t.size<=200/\t.sm:=by
  unfold tyP at h
  split at h
  ·grind[alC]
  rw[UM.1 h];exact⟨by simp[Ty.size,aQ],by simp[Ty.sm,smL,aB]⟩
 have a:=ahS t b.2;grind[DG,aiY,alm]
def aft:List (List UInt8)->List UInt8
 | []=>[]
 | [w]=>w
 | w::r=>w++([32]++aft r)
theorem ahU:∀a:List (List UInt8),yV (a.map sb)=some (a.map fun w=>⟨⟨w⟩⟩)
 | []=>rfl
 | w::r=>by
  show (match yV (r.map sb) with|some l=>some ((⟨⟨w⟩⟩:ByteArray)::l)|none=>none)=_;rw[ahU r];rfl
theorem aia:∀a:List (List UInt8),uu [32] (a.map fun w=>⟨⟨w⟩⟩)=aft a
 | []=>rfl
 | [w]=>rfl
 | w::v::r=>by
  show w++([32]++uu [32] ((v::r).map fun w=>⟨⟨w⟩⟩))=_;rw[aia (v::r)];rfl
theorem af9 {B:Nat}:∀{ws:List (List UInt8)},(∀w∈ws,w.length<=B)->(aft ws).length<=ws.length*(B+1)
 | [],_=>by simp[aft]
 | [w],h=>by grind[aft]
 | w::v::r,h=>by
  have a:=h w (by simp);have b:=af9 (ws:=v::r) (fun x c=>h x (List.mem_cons_of_mem _ c));show (w++([32]++aft (v::r))).length<=_;simp only[List.length_append,List.length_cons,List.length_nil,Nat.add_mul] at b ⊢;omega
theorem amF {ws:List (List UInt8)} (h:(aft ws).length<=140737488355328) (b:ws.length<=140737488355328):ae 77 [.dat (.slice (ws.map sb)),.dat (sb [32])] (.dat (sb (aft ws))):=by
 refine Ud 77 _ [] 0 _ ?_;show (match yV (ws.map sb) with
   | some a=>(match Nat.ble (uu [32] a).length 140737488355328&&Nat.ble a.length 140737488355328 with
    | true=>some (⟨.dat (.flat (.string ⟨⟨uu [32] a⟩⟩)),[],0⟩:eX)
    | false=>none)
   | none=>none)=_
 rw[ahU];simp only[aia,List.length_map];rw[gC h,gC b];rfl
structure PrI (x:Ins):Prop where
 prim:aB x.op 3=true->∃n:Nat,x.im=ofNat n/\n < 8
 dst:smI x.dst
 a:smI x.a
 b:smI x.b
 im:smI x.im
 ci:smI x.ci
 ar:∀n∈x.ar,smI n
 arl:x.ar.length<=6
 ty:x.ty.thin/\x.ty.vix smI/\x.ty.vk/\(x.ty.txt Go.Lib.itoa).length < 10000
 cs:x.cs∈H5
 nm:x.nm.length<=24
def Ins.wds (x:Ins) (s:kG):List (List UInt8):=
 ([s.w]++adr s.dst (slS x.dst)++adr (aB x.op 3) (aeG x.im)++adr s.a (slS x.a)++adr s.nm x.nm++adr (s.b&&!(aB x.op 3&&aB x.im 5)) (slS x.b)
  ++ adr (s.im&&!aB x.op 3) (Go.Lib.itoa x.im)++adr s.ty (x.ty.txt Go.Lib.itoa)++adr s.con (agb x.ck x.ci x.cs))++x.ar.map slS
def Ins.txt (x:Ins):List UInt8:=aft (x.wds (lU (eO x.op)))
theorem ahv (c:Bool) (w:List UInt8):(adr c w).length<=1:=by cases c <;> simp[adr]
theorem aej {c:Bool} {w v:List UInt8} (h:v∈adr c w):v=w:=by cases c <;> simp[adr] at h;grind
theorem aln (a:Int):(lU (eO a)).w.length<=20:=by
 unfold eO
 split
 ·unfold ki
  split <;> decide
 decide
theorem ahC {ck I:Int} {c:List UInt8} (h:smI I) (d:c∈H5):(agb ck I c).length<=100:=by
 have a:=ab8 h;have b:(aja c).length<=100:=by
  have:∀s∈H5,(aja s).length<=100:=by decide
  grind
 unfold agb
 split
 ·omega
 split
 ·cases aB I 1 <;> decide
 split
 ·grind
 decide
theorem ahR {x:Ins} (h:PrI x) {s:kG} (j:s.w.length<=20):∀w∈x.wds s,w.length<=10000:=by
 intro w d;have c:∀{n:Int},smI n->(slS n).length<=100:=fun N=>by have:=ab8 N;simp only[slS,List.length_append,List.length_singleton];omega
 have i:(aeG x.im).length<=100:=by
  unfold aeG
  split
  ·rename_i w h
   have:∀s∈Po,s.length<=100:=by decide
   exact this w (List.mem_of_getElem? h)
  simp
 have a:=ahC (ck:=x.ck) h.ci h.cs;have b:=h.ty.2.2.2;have f:=h.nm;have g:=ab8 h.im;simp only[Ins.wds,List.mem_append,List.mem_singleton,List.mem_map] at d
 rcases d with ((((((((e|e)|e)|e)|e)|e)|e)|e)|e)|⟨n,N,e⟩
 ·rw[e];omega
 ·rw[aej e];have:=c h.dst;omega
 ·rw[aej e];omega
 ·rw[aej e];have:=c h.a;omega
 ·rw[aej e];omega
 ·rw[aej e];have:=c h.b;omega
 ·rw[aej e];omega
 ·rw[aej e];omega
 ·rw[aej e];omega
 rw[←e];have:=c (h.ar n N);omega
theorem ak3 (x:Ins) (s:kG) (h:x.ar.length<=6):(x.wds s).length<=15:=by
 unfold Ins.wds;simp only[List.length_append,List.length_singleton,List.length_map];grind[ahv]
theorem ahD {x:Ins} (h:PrI x):ae 43 [.dat x.enc] (.dat (sb x.txt)):=by
 have L:=af9 (ahR h (aln x.op));have G:=ak3 x (lU (eO x.op)) h.arl;have q:=amF (ws:=x.wds (lU (eO x.op))) (by have:=Nat.mul_le_mul_right (10000+1) G;omega) (by omega);have K:=uT x.op;have H:=an9 (fun B J=>agp (i:=B) (by have:=J.1;omega) (by have:=J.2;omega)) x.ty h.ty.1 h.ty.2.1 (by have:=h.ty.2.2.2;omega);have hC:=@aoe x.ck x.ci x.cs (by have:=h.ci.1;omega) (by have:=h.ci.2;omega) h.cs;obtain⟨g,p,M,d,z,N,y,e,_,_,_⟩:=h;unfold Ins.txt;clear L G;generalize lU (eO x.op)=s at *;generalize aft (x.wds s)=r at q ⊢;unfold Ins.wds at q;generalize x.ty.txt Go.Lib.itoa=D at H q;obtain⟨l,f,a,b,j,n,F,u,⟨k,t,B,E⟩,C,I,c⟩:=x;have e:u.length<=6:=e;have A:KC 43 [.dat (eH l f a b j n (sx F (u.map iN)) k t B (sl (ax E)) C I c)] [] 0 (XQ ⟨.dat (sb r),hWd (.out 0) ((([s.w]++adr s.dst (slS f)++adr (aB l 3) (aeG j)++adr s.a (slS a)++adr s.nm n++adr (s.b&&!(aB l 3&&aB j 5)) (slS b)
  ++ adr (s.im&&!aB l 3) (Go.Lib.itoa j)++adr s.ty D++adr s.con (agb C I c))++u.map slS).map sb),1⟩):=by
  refine Ht (x:=qS.of Tryz.f43 VI XR) (by kernel_rfl) (fn0:=Tryz.f43) rfl (by kernel_rfl) ?_;have o:=ahv;have O:=o s.dst (slS f);have P:=o (aB l 3) (aeG j);have Q:=o s.a (slS a);have R:=o s.nm n;have S:=o (s.b&&!(aB l 3&&aB j 5)) (slS b);have T:=o (s.im&&!aB l 3) (Go.Lib.itoa j);have U:=o s.ty D;have V:=o s.con (agb C I c);refine di (by kernel_rfl) (aoZ (dq F (u.map iN)) (dr (ax E)) ⟨rfl,rfl⟩) ?_;refine di (by kernel_rfl) (in_1 K ⟨rfl,rfl⟩) ?_;refine di (by kernel_rfl) (aoY ⟨rfl,rfl⟩) ?_;refine di (by kernel_rfl) (aoX (ws:=[s.w].map sb) ⟨rfl,rfl⟩) ?_;refine di (by kernel_rfl) (aoW (agX s.dst p (by simp)) ⟨rfl,rfl⟩) ?_;refine di (by kernel_rfl) (aoV ⟨rfl,rfl⟩) ?_;refine di (by kernel_rfl) (aoS (by simp only[List.length_append,List.length_singleton];omega) g) ?_;refine di (by kernel_rfl) (aoU (agX s.a M (by simp only[List.length_append,List.length_singleton];omega)) ⟨rfl,rfl⟩) ?_;refine di (by kernel_rfl) (aoR (by simp only[List.length_append,List.length_singleton];omega)) ?_;refine di (by kernel_rfl) (aoT (agX _ d (by simp only[List.length_append,List.length_singleton];omega)) ⟨rfl,rfl⟩) ?_;refine di (by kernel_rfl) (anB (by simp only[List.length_append,List.length_singleton];omega) z) ?_;refine di (by kernel_rfl) (anA (by simp only[List.length_append,List.length_singleton];omega) (dr (ax E)) H) ?_;refine di (by kernel_rfl) (anz (by simp only[List.length_append,List.length_singleton];omega) hC) ?_
  refine di (by kernel_rfl) (anx (by simp only[List.length_append,List.length_singleton];omega) y (by omega)) ?_;exact anF q ⟨rfl,_,rfl,by kernel_rfl⟩
 refine ay.rn A ?_;rintro v w m ⟨rfl,rfl,rfl⟩;exact⟨[],rfl,rfl,rfl,rfl,rfl⟩
noncomputable def hRq:Hints:=⟨bV,ah5,bi,rowsOf bi 46⟩
def amV (a:List ac):ab:=⟨[(1,.ptr (.loc 1) 0)],[(.loc 1,.cells a)],[],0⟩
def amU (a:List ac) (D A B K:List UInt8):ab:=⟨[(6,.dat (sb K)),(5,.dat (sb B)),(4,.dat (sb A)),(3,.dat (sb D)),(1,.ptr (.loc 1) 0)],[(.loc 1,.cells a)],[],0⟩
def aek (a:List ac) (D A B K R Y:List UInt8):ab:=⟨[(8,.dat (sb Y)),(7,.dat (sb R)),(6,.dat (sb K)),(5,.dat (sb B)),(4,.dat (sb A)),(3,.dat (sb D)),(1,.ptr (.loc 1) 0)],[(.loc 1,.cells a)],[],0⟩
section
variable {A B D K R Y c n t:List UInt8} {C I a b d k m x:Int} {T:ej} {f y:ak}
theorem aoH {g:Int} (h:dj f) (i:dj y) (e:T .normal ((amV (cX g d a b m n f k t x y C I c)).al aaI)) :
  KD (du Tryz.f46 0) T ((⟨rG 0 [.dat (eH g d a b m n f k t x y C I c)],[],[],0⟩:ab).al aaI):=by
 have j:=@bw g d a b m n _ k t x _ C I c h i;exact aq [] [1] (H:=hRq) (live:=abU) (oo j (oe e))
theorem aoG {l:Int} {h:ak} {E F i j:List UInt8} (o:ae 45 [iv d] (.dat (sb E))) (p:ae 45 [iv a] (.dat (sb F))) (f:ae 45 [iv b] (.dat (sb i))) (g:ae 45 [iv m] (.dat (sb j)))
  (q:Ny ba .add 9 [.dat (sb [32,115]),.dat (sb E)]=some ⟨.dat (sb D),.keep⟩) (r:Ny ba .add 9 [.dat (sb [32,115]),.dat (sb F)]=some ⟨.dat (sb A),.keep⟩)
  (M:Ny ba .add 9 [.dat (sb [32,115]),.dat (sb i)]=some ⟨.dat (sb B),.keep⟩) (s:Ny ba .add 9 [.dat (sb [32]),.dat (sb j)]=some ⟨.dat (sb K),.keep⟩)
  (e:T .normal ((amU (cX l d a b m n h k t x y C I c) D A B K).al aaI)) :
  KD (du Tryz.f46 1) T ((amV (cX l d a b m n h k t x y C I c)).al aaI):=by
 exact aq [] [13,17,21,25] (H:=hRq) (live:=abU) (on o (oo q (on p (oo r (on f (oo M (on g (oo s (oe e)))))))))
theorem aoF {g:Int} {E:List UInt8} (h:dj f) (i:dj y) (j:ae 79 [.dat f,.dat (sb [115])] (.dat (sb R))) (l:ae 80 [.dat (.agg [i64 k,sb t,i64 x,y])] (.dat (sb E))) (o:Ny ba .add 9 [.dat (sb [32]),.dat (sb E)]=some ⟨.dat (sb Y),.keep⟩)
  (e:T .normal ((aek (cX g d a b m n f k t x y C I c) D A B K R Y).al aaI)) :
  KD (du Tryz.f46 2) T ((amU (cX g d a b m n f k t x y C I c) D A B K).al aaI):=by
 rcases h with rfl|⟨p,rfl⟩ <;> rcases i with rfl|⟨q,rfl⟩ <;>
 ·exact aq [] [32] (H:=hRq) (live:=abU) (on j (on l (oo o (oe e))))
theorem aoP {g:ak} {f:Int} {C:List UInt8} (h:ae 81 [.dat (lI f I c)] (.dat (sb C))) (i:Ny ba .add 9 [.dat (sb [99,111,110,115,116]),.dat (sb D)]=some ⟨.dat (sb ([99,111,110,115,116]++D)),.keep⟩) (j:Ny ba .add 9 [.dat (sb ([99,111,110,115,116]++D)),.dat (sb [32])]=some ⟨.dat (sb ([99,111,110,115,116]++D++[32])),.keep⟩) (M:Ny ba .add 9 [.dat (sb ([99,111,110,115,116]++D++[32])),.dat (sb C)]=some ⟨.dat (sb ([99,111,110,115,116]++D++[32]++C)),.keep⟩) (e:T .ret ((⟨[(2,.dat (sb ([99,111,110,115,116]++D++[32]++C)))],[],[],0⟩:ab).al aaI)) :
  KD (kc Tryz.f46 3) T ((aek (cX 1 d a b m n g k t x y f I c) D A B K R Y).al aaI):=by
 exact aq [] [38,39,43] (H:=hRq) (live:=abU) (oo i (oo j (on h (oo M (oe e)))))
theorem aoO (g:Ny ba .add 9 [.dat (sb [109,111,118,101]),.dat (sb D)]=some ⟨.dat (sb ([109,111,118,101]++D)),.keep⟩) (h:Ny ba .add 9 [.dat (sb ([109,111,118,101]++D)),.dat (sb A)]=some ⟨.dat (sb ([109,111,118,101]++D++A)),.keep⟩) (e:T .ret ((⟨[(2,.dat (sb ([109,111,118,101]++D++A)))],[],[],0⟩:ab).al aaI)) :
  KD (kc Tryz.f46 3) T ((aek (cX 2 d a b m n f k t x y C I c) D A B K R Y).al aaI):=by
 exact aq [] [47,49] (H:=hRq) (live:=abU) (oo g (oo h (oe e)))
theorem aoN (g:Ny ba .add 9 [.dat (sb [110,101,119]),.dat (sb D)]=some ⟨.dat (sb ([110,101,119]++D)),.keep⟩) (h:Ny ba .add 9 [.dat (sb ([110,101,119]++D)),.dat (sb Y)]=some ⟨.dat (sb ([110,101,119]++D++Y)),.keep⟩) (M:Ny ba .add 9 [.dat (sb ([110,101,119]++D++Y)),.dat (sb R)]=some ⟨.dat (sb ([110,101,119]++D++Y++R)),.keep⟩) (e:T .ret ((⟨[(2,.dat (sb ([110,101,119]++D++Y++R)))],[],[],0⟩:ab).al aaI)) :
  KD (kc Tryz.f46 3) T ((aek (cX 4 d a b m n f k t x y C I c) D A B K R Y).al aaI):=by
 exact aq [] [71,73,75] (H:=hRq) (live:=abU) (oo g (oo h (oo M (oe e))))
theorem aoM (g:Ny ba .add 9 [.dat (sb [103,101,116]),.dat (sb D)]=some ⟨.dat (sb ([103,101,116]++D)),.keep⟩) (h:Ny ba .add 9 [.dat (sb ([103,101,116]++D)),.dat (sb A)]=some ⟨.dat (sb ([103,101,116]++D++A)),.keep⟩) (M:Ny ba .add 9 [.dat (sb ([103,101,116]++D++A)),.dat (sb [32])]=some ⟨.dat (sb ([103,101,116]++D++A++[32])),.keep⟩) (i:Ny ba .add 9 [.dat (sb ([103,101,116]++D++A++[32])),.dat (sb n)]=some ⟨.dat (sb ([103,101,116]++D++A++[32]++n)),.keep⟩) (e:T .ret ((⟨[(2,.dat (sb ([103,101,116]++D++A++[32]++n)))],[],[],0⟩:ab).al aaI)) :
  KD (kc Tryz.f46 3) T ((aek (cX 5 d a b m n f k t x y C I c) D A B K R Y).al aaI):=by
 exact aq [] [79,81,82,85] (H:=hRq) (live:=abU) (oo g (oo h (oo M (oo i (oe e)))))
theorem aoL (g:Ny ba .add 9 [.dat (sb [115,101,116]),.dat (sb A)]=some ⟨.dat (sb ([115,101,116]++A)),.keep⟩) (h:Ny ba .add 9 [.dat (sb ([115,101,116]++A)),.dat (sb [32])]=some ⟨.dat (sb ([115,101,116]++A++[32])),.keep⟩) (M:Ny ba .add 9 [.dat (sb ([115,101,116]++A++[32])),.dat (sb n)]=some ⟨.dat (sb ([115,101,116]++A++[32]++n)),.keep⟩) (i:Ny ba .add 9 [.dat (sb ([115,101,116]++A++[32]++n)),.dat (sb B)]=some ⟨.dat (sb ([115,101,116]++A++[32]++n++B)),.keep⟩) (e:T .ret ((⟨[(2,.dat (sb ([115,101,116]++A++[32]++n++B)))],[],[],0⟩:ab).al aaI)) :
  KD (kc Tryz.f46 3) T ((aek (cX 6 d a b m n f k t x y C I c) D A B K R Y).al aaI):=by
 exact aq [] [89,90,93,95] (H:=hRq) (live:=abU) (oo g (oo h (oo M (oo i (oe e)))))
theorem aoK (g:Ny ba .add 9 [.dat (sb [116,117,112,108,101]),.dat (sb D)]=some ⟨.dat (sb ([116,117,112,108,101]++D)),.keep⟩) (h:Ny ba .add 9 [.dat (sb ([116,117,112,108,101]++D)),.dat (sb R)]=some ⟨.dat (sb ([116,117,112,108,101]++D++R)),.keep⟩) (e:T .ret ((⟨[(2,.dat (sb ([116,117,112,108,101]++D++R)))],[],[],0⟩:ab).al aaI)) :
  KD (kc Tryz.f46 3) T ((aek (cX 7 d a b m n f k t x y C I c) D A B K R Y).al aaI):=by
 exact aq [] [99,101] (H:=hRq) (live:=abU) (oo g (oo h (oe e)))
theorem aoJ (g:Ny ba .add 9 [.dat (sb [101,108,101,109,101,110,116]),.dat (sb D)]=some ⟨.dat (sb ([101,108,101,109,101,110,116]++D)),.keep⟩) (h:Ny ba .add 9 [.dat (sb ([101,108,101,109,101,110,116]++D)),.dat (sb A)]=some ⟨.dat (sb ([101,108,101,109,101,110,116]++D++A)),.keep⟩) (M:Ny ba .add 9 [.dat (sb ([101,108,101,109,101,110,116]++D++A)),.dat (sb K)]=some ⟨.dat (sb ([101,108,101,109,101,110,116]++D++A++K)),.keep⟩) (e:T .ret ((⟨[(2,.dat (sb ([101,108,101,109,101,110,116]++D++A++K)))],[],[],0⟩:ab).al aaI)) :
  KD (kc Tryz.f46 3) T ((aek (cX 8 d a b m n f k t x y C I c) D A B K R Y).al aaI):=by
 exact aq [] [105,107,109] (H:=hRq) (live:=abU) (oo g (oo h (oo M (oe e))))
theorem aoI (g:Ny ba .add 9 [.dat (sb [105,115,105,110,115,116,97,110,99,101]),.dat (sb D)]=some ⟨.dat (sb ([105,115,105,110,115,116,97,110,99,101]++D)),.keep⟩) (h:Ny ba .add 9 [.dat (sb ([105,115,105,110,115,116,97,110,99,101]++D)),.dat (sb A)]=some ⟨.dat (sb ([105,115,105,110,115,116,97,110,99,101]++D++A)),.keep⟩) (M:Ny ba .add 9 [.dat (sb ([105,115,105,110,115,116,97,110,99,101]++D++A)),.dat (sb Y)]=some ⟨.dat (sb ([105,115,105,110,115,116,97,110,99,101]++D++A++Y)),.keep⟩) (e:T .ret ((⟨[(2,.dat (sb ([105,115,105,110,115,116,97,110,99,101]++D++A++Y)))],[],[],0⟩:ab).al aaI)) :
  KD (kc Tryz.f46 3) T ((aek (cX 9 d a b m n f k t x y C I c) D A B K R Y).al aaI):=by
 exact aq [] [113,115,117] (H:=hRq) (live:=abU) (oo g (oo h (oo M (oe e))))
theorem ani (g:Ny ba .add 9 [.dat (sb [99,97,108,108]),.dat (sb D)]=some ⟨.dat (sb ([99,97,108,108]++D)),.keep⟩) (h:Ny ba .add 9 [.dat (sb ([99,97,108,108]++D)),.dat (sb [32])]=some ⟨.dat (sb ([99,97,108,108]++D++[32])),.keep⟩) (M:Ny ba .add 9 [.dat (sb ([99,97,108,108]++D++[32])),.dat (sb n)]=some ⟨.dat (sb ([99,97,108,108]++D++[32]++n)),.keep⟩) (i:Ny ba .add 9 [.dat (sb ([99,97,108,108]++D++[32]++n)),.dat (sb R)]=some ⟨.dat (sb ([99,97,108,108]++D++[32]++n++R)),.keep⟩) (e:T .ret ((⟨[(2,.dat (sb ([99,97,108,108]++D++[32]++n++R)))],[],[],0⟩:ab).al aaI)) :
  KD (kc Tryz.f46 3) T ((aek (cX 10 d a b m n f k t x y C I c) D A B K R Y).al aaI):=by
 exact aq [] [121,122,125,127] (H:=hRq) (live:=abU) (oo g (oo h (oo M (oo i (oe e)))))
theorem anh (g:Ny ba .add 9 [.dat (sb [108,97,116,101,115,116]),.dat (sb D)]=some ⟨.dat (sb ([108,97,116,101,115,116]++D)),.keep⟩) (h:Ny ba .add 9 [.dat (sb ([108,97,116,101,115,116]++D)),.dat (sb [32])]=some ⟨.dat (sb ([108,97,116,101,115,116]++D++[32])),.keep⟩) (M:Ny ba .add 9 [.dat (sb ([108,97,116,101,115,116]++D++[32])),.dat (sb n)]=some ⟨.dat (sb ([108,97,116,101,115,116]++D++[32]++n)),.keep⟩) (i:Ny ba .add 9 [.dat (sb ([108,97,116,101,115,116]++D++[32]++n)),.dat (sb R)]=some ⟨.dat (sb ([108,97,116,101,115,116]++D++[32]++n++R)),.keep⟩) (e:T .ret ((⟨[(2,.dat (sb ([108,97,116,101,115,116]++D++[32]++n++R)))],[],[],0⟩:ab).al aaI)) :
  KD (kc Tryz.f46 3) T ((aek (cX 11 d a b m n f k t x y C I c) D A B K R Y).al aaI):=by
 exact aq [] [131,132,135,137] (H:=hRq) (live:=abU) (oo g (oo h (oo M (oo i (oe e)))))
theorem ang (g:Ny ba .add 9 [.dat (sb [106,117,109,112]),.dat (sb K)]=some ⟨.dat (sb ([106,117,109,112]++K)),.keep⟩) (e:T .ret ((⟨[(2,.dat (sb ([106,117,109,112]++K)))],[],[],0⟩:ab).al aaI)) :
  KD (kc Tryz.f46 3) T ((aek (cX 12 d a b m n f k t x y C I c) D A B K R Y).al aaI):=by
 exact aq [] [141] (H:=hRq) (live:=abU) (oo g (oe e))
theorem anf (g:Ny ba .add 9 [.dat (sb [98,114,97,110,99,104]),.dat (sb A)]=some ⟨.dat (sb ([98,114,97,110,99,104]++A)),.keep⟩) (h:Ny ba .add 9 [.dat (sb ([98,114,97,110,99,104]++A)),.dat (sb K)]=some ⟨.dat (sb ([98,114,97,110,99,104]++A++K)),.keep⟩) (e:T .ret ((⟨[(2,.dat (sb ([98,114,97,110,99,104]++A++K)))],[],[],0⟩:ab).al aaI)) :
  KD (kc Tryz.f46 3) T ((aek (cX 13 d a b m n f k t x y C I c) D A B K R Y).al aaI):=by
 exact aq [] [145,147] (H:=hRq) (live:=abU) (oo g (oo h (oe e)))
theorem ane  (e:T .ret ((⟨[(2,.dat (sb ([116,105,99,107])))],[],[],0⟩:ab).al aaI)) :
  KD (kc Tryz.f46 3) T ((aek (cX 14 d a b m n f k t x y C I c) D A B K R Y).al aaI):=by
 refine aq [] [] (H:=hRq) (live:=abU) ?_;exact oe e
theorem anc (g:Ny ba .add 9 [.dat (sb [111,117,116,112,117,116]),.dat (sb A)]=some ⟨.dat (sb ([111,117,116,112,117,116]++A)),.keep⟩) (e:T .ret ((⟨[(2,.dat (sb ([111,117,116,112,117,116]++A)))],[],[],0⟩:ab).al aaI)) :
  KD (kc Tryz.f46 3) T ((aek (cX 15 d a b m n f k t x y C I c) D A B K R Y).al aaI):=by
 exact aq [] [153] (H:=hRq) (live:=abU) (oo g (oe e))
theorem anb (g:Ny ba .add 9 [.dat (sb [102,97,105,108]),.dat (sb A)]=some ⟨.dat (sb ([102,97,105,108]++A)),.keep⟩) (e:T .ret ((⟨[(2,.dat (sb ([102,97,105,108]++A)))],[],[],0⟩:ab).al aaI)) :
  KD (kc Tryz.f46 3) T ((aek (cX 16 d a b m n f k t x y C I c) D A B K R Y).al aaI):=by
 exact aq [] [157] (H:=hRq) (live:=abU) (oo g (oe e))
theorem ana (g:Ny ba .add 9 [.dat (sb [101,100,105,116]),.dat (sb K)]=some ⟨.dat (sb ([101,100,105,116]++K)),.keep⟩) (e:T .ret ((⟨[(2,.dat (sb ([101,100,105,116]++K)))],[],[],0⟩:ab).al aaI)) :
  KD (kc Tryz.f46 3) T ((aek (cX 17 d a b m n f k t x y C I c) D A B K R Y).al aaI):=by
 exact aq [] [161] (H:=hRq) (live:=abU) (oo g (oe e))
theorem am9  (e:T .ret ((⟨[(2,.dat (sb ([112,97,117,115,101])))],[],[],0⟩:ab).al aaI)) :
  KD (kc Tryz.f46 3) T ((aek (cX 18 d a b m n f k t x y C I c) D A B K R Y).al aaI):=by
 refine aq [] [] (H:=hRq) (live:=abU) ?_;exact oe e
theorem am8 (g:Ny ba .add 9 [.dat (sb [114,101,116,117,114,110]),.dat (sb A)]=some ⟨.dat (sb ([114,101,116,117,114,110]++A)),.keep⟩) (e:T .ret ((⟨[(2,.dat (sb ([114,101,116,117,114,110]++A)))],[],[],0⟩:ab).al aaI)) :
  KD (kc Tryz.f46 3) T ((aek (cX 19 d a b m n f k t x y C I c) D A B K R Y).al aaI):=by
 exact aq [] [167] (H:=hRq) (live:=abU) (oo g (oe e))
theorem am7 (g:Ny ba .add 9 [.dat (sb [101,110,116,101,114]),.dat (sb K)]=some ⟨.dat (sb ([101,110,116,101,114]++K)),.keep⟩) (e:T .ret ((⟨[(2,.dat (sb ([101,110,116,101,114]++K)))],[],[],0⟩:ab).al aaI)) :
  KD (kc Tryz.f46 3) T ((aek (cX 20 d a b m n f k t x y C I c) D A B K R Y).al aaI):=by
 exact aq [] [171] (H:=hRq) (live:=abU) (oo g (oe e))
theorem am6  (e:T .ret ((⟨[(2,.dat (sb ([108,101,97,118,101])))],[],[],0⟩:ab).al aaI)) :
  KD (kc Tryz.f46 3) T ((aek (cX 21 d a b m n f k t x y C I c) D A B K R Y).al aaI):=by
 refine aq [] [] (H:=hRq) (live:=abU) ?_;exact oe e
theorem am5 (g:Ny ba .add 9 [.dat (sb [105,110,118,111,107,101]),.dat (sb D)]=some ⟨.dat (sb ([105,110,118,111,107,101]++D)),.keep⟩) (h:Ny ba .add 9 [.dat (sb ([105,110,118,111,107,101]++D)),.dat (sb K)]=some ⟨.dat (sb ([105,110,118,111,107,101]++D++K)),.keep⟩) (M:Ny ba .add 9 [.dat (sb ([105,110,118,111,107,101]++D++K)),.dat (sb R)]=some ⟨.dat (sb ([105,110,118,111,107,101]++D++K++R)),.keep⟩) (e:T .ret ((⟨[(2,.dat (sb ([105,110,118,111,107,101]++D++K++R)))],[],[],0⟩:ab).al aaI)) :
  KD (kc Tryz.f46 3) T ((aek (cX 22 d a b m n f k t x y C I c) D A B K R Y).al aaI):=by
 exact aq [] [175,177,179] (H:=hRq) (live:=abU) (oo g (oo h (oo M (oe e))))
theorem am3 {f:Int} {g:ak} {d:List UInt8} (i:qP ba 125 [.dat (.agg (encS Po)),.dat (.flat (.int .i64 m))]=some ⟨.dat (sb d),.keep⟩) (h:aB m 5=true) (j:Ny ba .add 9 [.dat (sb [112,114,105,109]),.dat (sb D)]=some ⟨.dat (sb ([112,114,105,109]++D)),.keep⟩) (l:Ny ba .add 9 [.dat (sb ([112,114,105,109]++D)),.dat (sb [32])]=some ⟨.dat (sb ([112,114,105,109]++D++[32])),.keep⟩) (M:Ny ba .add 9 [.dat (sb ([112,114,105,109]++D++[32])),.dat (sb d)]=some ⟨.dat (sb ([112,114,105,109]++D++[32]++d)),.keep⟩) (o:Ny ba .add 9 [.dat (sb ([112,114,105,109]++D++[32]++d)),.dat (sb A)]=some ⟨.dat (sb ([112,114,105,109]++D++[32]++d++A)),.keep⟩) (p:Ny ba .add 9 [.dat (sb ([112,114,105,109]++D++[32]++d++A)),.dat (sb [])]=some ⟨.dat (sb ([112,114,105,109]++D++[32]++d++A++[])),.keep⟩) (e:T .ret ((⟨[(2,.dat (sb ([112,114,105,109]++D++[32]++d++A++[])))],[],[],0⟩:ab).al aaI)) :
  KD (kc Tryz.f46 3) T ((aek (cX 3 f a b m n g k t x y C I c) D A B K R Y).al aaI):=by
 exact aq [58] [55,60,61,63,65,67] (H:=hRq) (live:=abU) (oo i (ob h (oo j (oo l (oo M (oo o (oo p (oe e))))))))
theorem am4 {f:Int} {g:ak} {d:List UInt8} (i:qP ba 125 [.dat (.agg (encS Po)),.dat (.flat (.int .i64 m))]=some ⟨.dat (sb d),.keep⟩) (h:aB m 5=false) (j:Ny ba .add 9 [.dat (sb [112,114,105,109]),.dat (sb D)]=some ⟨.dat (sb ([112,114,105,109]++D)),.keep⟩) (l:Ny ba .add 9 [.dat (sb ([112,114,105,109]++D)),.dat (sb [32])]=some ⟨.dat (sb ([112,114,105,109]++D++[32])),.keep⟩) (M:Ny ba .add 9 [.dat (sb ([112,114,105,109]++D++[32])),.dat (sb d)]=some ⟨.dat (sb ([112,114,105,109]++D++[32]++d)),.keep⟩) (o:Ny ba .add 9 [.dat (sb ([112,114,105,109]++D++[32]++d)),.dat (sb A)]=some ⟨.dat (sb ([112,114,105,109]++D++[32]++d++A)),.keep⟩) (p:Ny ba .add 9 [.dat (sb ([112,114,105,109]++D++[32]++d++A)),.dat (sb B)]=some ⟨.dat (sb ([112,114,105,109]++D++[32]++d++A++B)),.keep⟩) (e:T .ret ((⟨[(2,.dat (sb ([112,114,105,109]++D++[32]++d++A++B)))],[],[],0⟩:ab).al aaI)) :
  KD (kc Tryz.f46 3) T ((aek (cX 3 f a b m n g k t x y C I c) D A B K R Y).al aaI):=by
 exact aq [58] [55,60,61,63,65,67] (H:=hRq) (live:=abU) (oo i (ob h (oo j (oo l (oo M (oo o (oo p (oe e))))))))
end
theorem aO (t:Bool) (l:Nat) {p s:Int} {c d:ak} (a:dj c) (b:dj d):eB ba t 26 [.ptr (.loc l) 0] (some (.cells (cC p s c d)))=some ⟨.dat (aN p s c d),.keep⟩:=by
 cases t <;> rcases a with rfl|⟨E,rfl⟩ <;> rcases b with rfl|⟨F,rfl⟩ <;> kernel_rfl
theorem QJ (t:Bool) (l:Nat) {f d a b m:Int} {n:List UInt8} {e:ak} {k:Int} {g:List UInt8} {x:Int} {y:ak} {C I:Int} {c:List UInt8} (h:dj e) (i:dj y):eB ba t 45 [.ptr (.loc l) 0] (some (.cells (cX f d a b m n e k g x y C I c)))=some ⟨.dat (eH f d a b m n e k g x y C I c),.keep⟩:=by
 cases t <;> rcases h with rfl|⟨E,rfl⟩ <;> rcases i with rfl|⟨F,rfl⟩ <;> kernel_rfl
theorem bD (t:Bool) (l:Nat) {i d a b m:Int} {n:List UInt8} {e:ak} {k:Int} {f:List UInt8} {x:Int} {y:ak} {C I:Int} {c:List UInt8} (g:dj e) (h:dj y):eB ba t 40 [.ptr (.loc l) 7] (some (.cells (cX i d a b m n e k f x y C I c)))=some ⟨.dat (.agg [i64 k,sb f,i64 x,y]),.keep⟩:=by
 cases t <;> rcases g with rfl|⟨E,rfl⟩ <;> rcases h with rfl|⟨F,rfl⟩ <;> kernel_rfl
theorem bg (t:Bool) (l:Nat) {h d a b m:Int} {n:List UInt8} {e:ak} {k:Int} {i:List UInt8} {x:Int} {y:ak} {C I:Int} {c:List UInt8} (f:dj e) (g:dj y):eB ba t 43 [.ptr (.loc l) 11] (some (.cells (cX h d a b m n e k i x y C I c)))=some ⟨.dat (lI C I c),.keep⟩:=by
 cases t <;> rcases f with rfl|⟨E,rfl⟩ <;> rcases g with rfl|⟨F,rfl⟩ <;> kernel_rfl
variable {C I a b d i k m p x:Int} {T:ej} {c q:Bool} {l:List Ty} {n s:List UInt8} {t:Ty} {y:ak}
theorem Wb {sl:Int} {d1 d2:ak} (S:dj d1) (T:dj d2) {h:ak} {t:List UInt8} {e:Int} {c:List UInt8} (A:dj h) (B:dj y) {s:kG} {z r D E F H u v:Bool}
  (o:ae 58 [iv i] (.tup [.dat s.enc,bv z])) (J:ae 97 [.dat (aN p sl d1 d2),.dat (eH i d a b m n h k t e y C I c),.dat s.enc] (bv r)) (K:ae 98 [.dat (aN p sl d1 d2),.dat (eH i d a b m n h k t e y C I c)] (bv q))
  (f:ae 99 [.dat (sb n)] (bv D)) (g:jP n []=E) (G:ae 100 [.dat (.agg [i64 k,sb t,i64 e,y])] (bv F)) (U:ae 101 [.dat (.agg [i64 k,sb t,i64 e,y])] (bv H))
  (L:ae 102 [.dat (lI C I c)] (bv u)) (M:aB C 0=v) :
  ae 67 [.dat (aN p sl d1 d2),.dat (eH i d a b m n h k t e y C I c)] (bv (z&&(r&&(q&&((if s.nm=true then D else E)&&((if s.ty=true then F else H)&&(u&&(s.con||v)))))))):=by
 have N:=aS (p:=p) (s:=sl) S T;have O:=@bw i d a b m n h k t e y C I c A B;have j:=aO false 2 (p:=p) (s:=sl) S T;have l:=@QJ false 3 i d a b m n h k t e y C I c A B;have P:=@bD false 3 i d a b m n h k t e y C I c A B;have Q:=@bg false 3 i d a b m n h k t e y C I c A B;clear S T A B;obtain⟨w,s1,s2,s3,s4,Z,s6,V,R,s9,W,Y⟩:=s
 cases Z
 ·cases V
  ·refine co [45,78] [2,3,17,18,24,25,63,69] (x:=.of Tryz.f67 P8 Ax) ?_;refine oo N (oo O (on o ?_))
   cases z
   ·exact fi
   refine oo j (oo l (on J ?_))
   cases r
   ·exact fi
   refine oo j (oo l (on K ?_))
   cases q
   ·exact fi
   refine ox g ?_
   cases E
   ·exact fi
   refine oo P (on U ?_)
   cases H
   ·exact fi
   refine oo Q (on L ?_)
   cases u
   ·exact fi
   cases R
   ·refine ob M ?_
    cases v <;>
    ·exact fi
   exact fi
  refine co [45,78] [2,3,17,18,24,25,53,69] (x:=.of Tryz.f67 P8 Ax) ?_;refine oo N (oo O (on o ?_))
  cases z
  ·exact fi
  refine oo j (oo l (on J ?_))
  cases r
  ·exact fi
  refine oo j (oo l (on K ?_))
  cases q
  ·exact fi
  refine ox g ?_
  cases E
  ·exact fi
  refine oo P (on G ?_)
  cases F
  ·exact fi
  refine oo Q (on L ?_)
  cases u
  ·exact fi
  cases R
  ·refine ob M ?_
   cases v <;>
   ·exact fi
  exact fi
 cases V
 ·refine co [78] [2,3,17,18,24,25,63,69] (x:=.of Tryz.f67 P8 Ax) ?_;refine oo N (oo O (on o ?_))
  cases z
  ·exact fi
  refine oo j (oo l (on J ?_))
  cases r
  ·exact fi
  refine oo j (oo l (on K ?_))
  cases q
  ·exact fi
  refine on f ?_
  cases D
  ·exact fi
  refine oo P (on U ?_)
  cases H
  ·exact fi
  refine oo Q (on L ?_)
  cases u
  ·exact fi
  cases R
  ·refine ob M ?_
   cases v <;>
   ·exact fi
  exact fi
 refine co [78] [2,3,17,18,24,25,53,69] (x:=.of Tryz.f67 P8 Ax) ?_;refine oo N (oo O (on o ?_))
 cases z
 ·exact fi
 refine oo j (oo l (on J ?_))
 cases r
 ·exact fi
 refine oo j (oo l (on K ?_))
 cases q
 ·exact fi
 refine on f ?_
 cases D
 ·exact fi
 refine oo P (on G ?_)
 cases F
 ·exact fi
 refine oo Q (on L ?_)
 cases u
 ·exact fi
 cases R
 ·refine ob M ?_
  cases v <;>
  ·exact fi
 exact fi
def Ins.con (x:Ins):Prop:=x.cs∈H5/\(-1000000<=x.ci/\x.ci<=1000000)/\(-1000000<=x.im/\x.im<=1000000)
theorem ahm (h:s∈H5):s.length < 1000000000:=by
 have:∀s∈H5,s.length < 1000000000:=by decide
 grind
def Ins.gN (x:Ins):Prop:=x.ty.gN/\x.ar.length < 1000000000/\x.con
theorem ER {p sl:Int} {j d:List ak} (z:Bool) {x:Ins} (h:x.gN) :
  ae 67 [.dat (aN p sl (.slice j) (sx z d)),.dat x.enc] (bv (iJ (ofNat j.length) (ofNat d.length) sl x)):=by
 obtain⟨T,A,F⟩:=h;have o:=uT x.op;have w:=@adK p sl (.slice j) (sx z d) (.inr ⟨_,rfl⟩) (dq z d) x (lU (eO x.op)) A;have y:=@adL p sl j d z x;have f:=Dj x.nm;have G:=RR (J1 x.ty (by have:=T.1;omega)) (J4 (t:=x.ty) (by have:=T.1;omega) T.2);have B:=ET (UY x.ty (.mk 0 [] 0 []) (by have:=T.1;omega));have D:=UZ (k:=x.ck) (i:=x.ci) (ahm F.1);obtain⟨g,n,a,b,m,nm,v,u,⟨k,r,q,l⟩,C,I,c⟩:=x;have E:=Wb (d1:=.slice j) (d2:=sx z d) (.inr ⟨_,rfl⟩) (dq z d) (dq v (u.map iN)) (dr (ax l)) o w y f rfl G B D rfl;have e:iJ (ofNat j.length) (ofNat d.length) sl ⟨g,n,a,b,m,nm,v,u,⟨k,r,q,l⟩,C,I,c⟩=(shS (eO g)&&(Ge sl ⟨g,n,a,b,m,nm,v,u,⟨k,r,q,l⟩,C,I,c⟩ (lU (eO g))&&(GL (ofNat j.length) (ofNat d.length) g m&&((if (lU (eO g)).nm=true then isIdent nm else jP nm [])&&((if (lU (eO g)).ty=true then (aB (Ty.mk k r q l).validate 0&&LD (Ty.mk k r q l).fv) else NC (Ty.mk k r q l) (.mk 0 [] 0 []))&&(mN C I c&&((lU (eO g)).con||aB C 0))))))):=by
  unfold iJ
  cases H:eO g with
  | none=>rfl
  | some s=>rfl
 rw[e];exact E
theorem ahN (w:List UInt8) (r:List (List UInt8)):aft (w::r)=w++r.flatMap (fun v=>32::v):=by
 induction r generalizing w <;> grind[aft]
def sD (n:Int):List UInt8:=[32,115]++Go.Lib.itoa n
def sK (n:Int):List UInt8:=[32]++Go.Lib.itoa n
def sR (l:List Int):List UInt8:=l.flatMap sD
theorem ai0 (l:List Int):(l.map slS).flatMap (fun v=>32::v)=sR l:=by
 induction l with
 | nil=>rfl
 | cons n r a=>
  rw[List.map_cons,List.flatMap_cons,a];rfl
def Ins.rest (x:Ins) (s:kG):List UInt8:=(adr s.dst (slS x.dst)++adr (aB x.op 3) (aeG x.im)++adr s.a (slS x.a)++adr s.nm x.nm++adr (s.b&&!(aB x.op 3&&aB x.im 5)) (slS x.b)
  ++ adr (s.im&&!aB x.op 3) (Go.Lib.itoa x.im)++adr s.ty (x.ty.txt Go.Lib.itoa)++adr s.con (agb x.ck x.ci x.cs)).flatMap (fun v=>32::v)
theorem alE {x:Ins} {s:kG} (h:eO x.op=some s):x.txt=s.w++(x.rest s++sR x.ar):=by
 simp_all[Ins.txt,Ins.wds,Ins.rest,lU,ahN,ai0]
def Ins.rtx (x:Ins) (n:Nat):List UInt8:=
 let D:=sD x.dst;let A:=sD x.a;let B:=sD x.b;let K:=sK x.im;let R:=sR x.ar;let Y:=[32]++x.ty.txt Go.Lib.itoa
 match n with
 | 1=>[99,111,110,115,116]++D++[32]++agb x.ck x.ci x.cs
 | 2=>[109,111,118,101]++D++A
 | 3=>[112,114,105,109]++D++[32]++aeG x.im++A++(match aB x.im 5 with|true=>[]|false=>B)
 | 4=>[110,101,119]++D++Y++R
 | 5=>[103,101,116]++D++A++[32]++x.nm
 | 6=>[115,101,116]++A++[32]++x.nm++B
 | 7=>[116,117,112,108,101]++D++R
 | 8=>[101,108,101,109,101,110,116]++D++A++K
 | 9=>[105,115,105,110,115,116,97,110,99,101]++D++A++Y
 | 10=>[99,97,108,108]++D++[32]++x.nm++R
 | 11=>[108,97,116,101,115,116]++D++[32]++x.nm++R
 | 12=>[106,117,109,112]++K
 | 13=>[98,114,97,110,99,104]++A++K
 | 14=>[116,105,99,107]
 | 15=>[111,117,116,112,117,116]++A
 | 16=>[102,97,105,108]++A
 | 17=>[101,100,105,116]++K
 | 18=>[112,97,117,115,101]
 | 19=>[114,101,116,117,114,110]++A
 | 20=>[101,110,116,101,114]++K
 | 21=>[108,101,97,118,101]
 | _=>[105,110,118,111,107,101]++D++K++R
theorem alO {x:Ins} {n:Nat} {s:kG} (O:x.op=ofNat n) (h:1<=n) (i:n<=22) (d:ki n=some s) (A:s.ar=false->x.ar=[]):x.txt=x.rtx n:=by
 have f:eO x.op=some s:=by rw[O];exact d
 rw[alE f];obtain⟨l,g,a,b,m,k,j,u,o,C,I,c⟩:=x;simp only at O A;subst O;clear f;have e:n=1∨n=2∨n=3∨n=4∨n=5∨n=6∨n=7∨n=8∨n=9∨n=10∨n=11∨n=12∨n=13∨n=14∨n=15∨n=16∨n=17∨n=18∨n=19∨n=20∨n=21∨n=22:=by omega
 clear h i
 rcases e with rfl|rfl|rfl|rfl|rfl|rfl|rfl|rfl|rfl|rfl|rfl|rfl|rfl|rfl|rfl|rfl|rfl|rfl|rfl|rfl|rfl|rfl <;>
 ·simp only[ki,Option.some.injEq] at d;subst d
  first
  |obtain rfl:=A rfl
   simp[Ins.rest,Ins.rtx,adr,cN,slS,sD,sK,sR,List.flatMap_cons,List.flatMap_append]
   try cases G:(m==5) <;> simp
  |simp[Ins.rest,Ins.rtx,adr,cN,slS,sD,sK,sR,List.flatMap_cons,List.flatMap_append]
theorem agn {n sl:Int} {u:Bool} (h:fB n sl u=true) (s:sl<=1000000):smI n:=by
 unfold fB at h;simp only[cN,dA,Bool.or_eq_true,Bool.and_eq_true,beq_iff_eq,Bool.not_eq_true',decide_eq_false_iff_not,decide_eq_true_eq] at h;grind[smI]
theorem ahI {z y sl:Int} {x:Ins} (w:x.gN) (h:iJ z y sl x=true) (B:sl<=200):PrI x/\∃(n:Nat) (s:kG),x.op=ofNat n/\1<=n/\n<=22/\ki n=some s/\(s.ar=false->x.ar=[]):=by
 unfold iJ at h
 split at h
 ·grind
 rename_i s p;simp only[Bool.and_eq_true] at h;obtain⟨e,c,v,q,t,_⟩:=h;obtain⟨n,a,b,f,g⟩:=pT p;unfold Ge at e;simp only[Bool.and_eq_true,Bool.not_eq_true'] at e;obtain⟨A,d,i,D,r,hB⟩:=e;obtain⟨j,k,l⟩:=w.2.2;refine⟨⟨?_,agn D (by omega),agn r (by omega),agn hB (by omega),l,k,fun m u=>agn (List.all_eq_true.1 A m u) (by omega),?_,akg q,j,?_⟩,n,s,a,b,f,g,?_⟩
 ·intro O;have O:=wq O;rw[O] at c;unfold GL at c;rw[if_neg (by decide),if_pos (by decide)] at c;simp only[Bool.and_eq_true,Bool.not_eq_true',dA,decide_eq_false_iff_not] at c;exact⟨x.im.toNat,by grind,by omega⟩
 ·unfold Jo at i;rw[show (6:Int)=ofNat 6 from rfl,gv] at i;grind
 ·grind[agS,Rm]
 intro o;unfold Jo at d;rw[show (0:Int)=ofNat 0 from rfl,A0] at d;grind
noncomputable def hNN:Hints:=⟨bV,P8,bi,rowsOf bi 79⟩
def aiL (l:List ak) (s:List UInt8) (i:Int):ab:=⟨[(6,iv i),(5,.dat (sb s)),(0,.dat (.slice l)),(1,.dat (sb [115]))],[],[],0⟩
def aiK (l:List ak) (s:List UInt8) (i:Int):ab:=⟨[(10,bv false),(6,iv i),(5,.dat (sb s)),(0,.dat (.slice l)),(1,.dat (sb [115]))],[],[],0⟩
theorem ajz {c:List ak} {t:Int} {i:Nat} {d:List UInt8} (a:aF (ofNat i) (ofNat c.length)=true) (b:ap ba 22 [.dat (.slice c),.dat (.flat (.int .i64 (ofNat i)))]=some ⟨.ref [iN t],.keep⟩)
  (N:ae 45 [iv t] (.dat (sb d))) (f:Ny ba .add 9 [.dat (sb [32,115]),.dat (sb d)]=some ⟨.dat (sb ([32,115]++d)),.keep⟩) (K:Ny ba .add 9 [.dat (sb s),.dat (sb ([32,115]++d))]=some ⟨.dat (sb (s++([32,115]++d))),.keep⟩) (e:T .normal ((aiL c (s++([32,115]++d)) (an .i64 (ofNat i+1))).al age)) :
  KD (roundOf Tryz.f79 0) T ((aiL c s (ofNat i)).al age):=by
 exact aq [10] [18,21,22] (H:=hNN) (live:=ag4) (ob a (oo b (on N (oo f (oo K (oe e))))))
theorem aku {b:List ak} {s:List UInt8} {T:ej} (e:T (.exit 0) ((aiK b s (ofNat b.length)).al age)) :
  KD (roundOf Tryz.f79 0) T ((aiL b s (ofNat b.length)).al age):=by
 have a:=cj (i:=b.length) (L:=b.length) (by omega);exact aq [10] [] (H:=hNN) (live:=ag4) (ob a (oe e))
theorem akv {a:List ak} {r:List UInt8} (l:KD (.loop (roundOf Tryz.f79 0)) (fun e q=>e=.exit 0/\q=(aiK a r (ofNat a.length)).al age) ((aiL a [] (ofNat 0)).al age)) :
  ae 79 [.dat (.slice a),.dat (sb [115])] (.dat (sb r)):=by
 refine iS [] [] (x:=qS.of Tryz.f79 P8 ag4) (by kernel_rfl) ?_;refine lo l ?_;rintro b s ⟨rfl,rfl⟩;refine⟨_,rfl,?_⟩;exact fi
theorem agv {n:Int} (h:smI n):(sD n).length<=23:=by
 grind[ab8,sD]
theorem ahH:∀{l:List Int},(∀n∈l,smI n)->(sR l).length<=23*l.length
 | [],_=>by simp[sR]
 | n::r,h=>by
  have a:=agv (h n (by simp));have b:=ahH (l:=r) (fun m c=>h m (List.mem_cons_of_mem _ c));grind[sR]
theorem afB {n:Int} (h:smI n):ae 45 [iv n] (.dat (sb (Go.Lib.itoa n))):=ann (by have:=h.1;omega) (by have:=h.2;omega)
theorem alV {z:Bool} {l:List Int} (h:∀n∈l,smI n) (o:l.length < 1000000):ae 79 [.dat (sx z (l.map iN)),.dat (sb [115])] (.dat (sb (sR l))):=by
 have d:ae 79 [.dat (.slice (l.map iN)),.dat (sb [115])] (.dat (sb (sR l))):=by
  refine akv ?_;refine bm (St:=fun i=>(aiL (l.map iN) (sR (l.take i)) (ofNat i)).al age) (l.map iN).length ?_ ?_ (i:=0) (Nat.zero_le _)
  ·intro i k;have c:i < l.length:=by grind
   have T:l[i]?=some l[i]:=List.getElem?_eq_getElem c;have f:=h _ (List.getElem_mem c);have g:=br k;have j:=wb T;have e:∀t,l[i]?=some t->sR (l.take (i+1))=sR (l.take i)++sD t:=by
    intro t T;rw[List.take_add_one,T];simp[sR]
   have e:=e _ T;have b:=ahH (l:=l.take i) (fun n N=>h n (List.mem_of_mem_take N));have Q:=ab8 f;rw[List.length_take] at b;generalize l[i]=t at *;have m:an .i64 (ofNat i+1)=ofNat (i+1):=bb (by omega);refine ajz g j (afB f) (aaa (by grind)) (aaa (by grind)) ?_;rw[m];rw[e];rfl
  have e:=@aku (l.map iN) (sR l) (xU (fun _=>False) (fun e q=>e=.exit 0/\q=(aiK (l.map iN) (sR l) (ofNat (l.map iN).length)).al age)) ⟨rfl,rfl⟩;grind
 cases l with
 | nil=>cases z with
  | true=>exact d
  | false=>exact dE _ _ _ _ _ (by kernel_rfl)
 | cons a r=>exact d
def aoh (p:Nat):Prop:=qP ba 125 [.dat (.agg (encS Po)),.dat (.flat (.int .i64 (ofNat p)))]=some ⟨.dat (sb (aeG (ofNat p))),.keep⟩
theorem agk (p:Nat) (h:qP ba 125 [.dat (.agg (encS Po)),.dat (.flat (.int .i64 (ofNat p)))]=some ⟨.dat (sb (aeG (ofNat p))),.keep⟩):aoh p:=h
theorem aiw:∀p:Nat,p < 8->aoh p
 | 0,_=>agk 0 (by kernel_rfl)
 | 1,_=>agk 1 (by kernel_rfl)
 | 2,_=>agk 2 (by kernel_rfl)
 | 3,_=>agk 3 (by kernel_rfl)
 | 4,_=>agk 4 (by kernel_rfl)
 | 5,_=>agk 5 (by kernel_rfl)
 | 6,_=>agk 6 (by kernel_rfl)
 | 7,_=>agk 7 (by kernel_rfl)
 | n+8,h=>by omega
abbrev aoC (w:List UInt8):ab:=⟨[(2,.dat (sb w))],[],[],0⟩
theorem anl {j f a b m:Int} {n:List UInt8} {g:ak} {k:Int} {t:List UInt8} {h:Int} {y:ak} {C I:Int} {c e R w:List UInt8} (l:dj g) (o:dj y) (D:smI f) (p:smI a) (d:smI b) (i:smI m)
  (q:ae 79 [.dat g,.dat (sb [115])] (.dat (sb R))) (r:ae 80 [.dat (.agg [i64 k,sb t,i64 h,y])] (.dat (sb e))) (u:e.length < 1000000)
  (s:∀T:Exit->aa->Prop,T .ret ((aoC w).al aaI)->KD (kc Tryz.f46 3) T ((aek (cX j f a b m n g k t h y C I c) (sD f) (sD a) (sD b) (sK m) R ([32]++e)).al aaI)) :
  ae 46 [.dat (eH j f a b m n g k t h y C I c)] (.dat (sb w)):=by
 have v:=ab8 D;have z:=ab8 p;have B:=ab8 d;have E:=ab8 i;have A:KC 46 [.dat (eH j f a b m n g k t h y C I c)] [] 0 (XQ ⟨.dat (sb w),[],0⟩):=by
  refine Ht (x:=qS.of Tryz.f46 ah5 abU) (by kernel_rfl) (fn0:=Tryz.f46) rfl (by kernel_rfl) ?_;refine di (by kernel_rfl) (aoH l o ⟨rfl,rfl⟩) ?_;refine di (by kernel_rfl) (aoG (afB D) (afB p) (afB d) (afB i) (aaa (by grind)) (aaa (by grind)) (aaa (by grind)) (aaa (by grind)) ⟨rfl,rfl⟩) ?_;refine di (by kernel_rfl) (aoF l o q r (aaa (by grind)) ⟨rfl,rfl⟩) ?_;exact s _ ⟨rfl,_,rfl,by kernel_rfl⟩
 grind
theorem ahr {x:Ins} (h:PrI x) {n:Nat} {s:kG} (O:x.op=ofNat n) (o:1<=n) (q:n<=22) (H:ki n=some s) (i:s.ar=false->x.ar=[]):ae 46 [.dat x.enc] (.dat (sb x.txt)):=by
 rw[alO O o q H i];have hR:=alV (z:=x.az) h.ar (by have:=h.arl;omega);have N:=alo (fun F r=>af8 (n:=F) (by have:=r.1;omega) (by have:=r.2;omega)) x.ty h.ty.1 h.ty.2.1 h.ty.2.2.1 (by have:=h.ty.2.2.2;omega);have hC:=@ano x.ck x.ci x.cs (by have:=h.ci.1;omega) (by have:=h.ci.2;omega) h.cs;have Z:=ahC (ck:=x.ck) h.ci h.cs;have lR:=ahH h.ar;have lD:=agv h.dst;have V:=agv h.a;have W:=agv h.b;have lK:(sK x.im).length<=22:=by have:=ab8 h.im;simp only[sK,List.length_append,List.length_cons,List.length_nil];omega
 obtain⟨g,l,P,d,E,S,_,j,⟨_,_,_,lY⟩,_,lN⟩:=h;obtain⟨op,y,a,b,m,nm,M,u,⟨k,t,F,L⟩,ck,I,c⟩:=x;simp only at O lR j Z lD V W lK lN g;subst O;clear H i;have Q:n=1∨n=2∨n=3∨n=4∨n=5∨n=6∨n=7∨n=8∨n=9∨n=10∨n=11∨n=12∨n=13∨n=14∨n=15∨n=16∨n=17∨n=18∨n=19∨n=20∨n=21∨n=22:=by omega
 clear o q;have f:=fun (w:List UInt8) (U)=>@anl (ofNat n) _ _ _ _ nm _ _ _ _ _ ck I c _ _ w (dq M (u.map iN)) (dr (ax L)) l P d E hR N (by omega) U
 simp only[Ins.rtx];generalize (Ty.mk k t F L).txt Go.Lib.itoa=Y at *;generalize sR u=R at *;generalize sD y=D at *;generalize sD a=A at *;generalize sD b=B at *;generalize sK m=K at *;generalize agb ck I c=C at *
 rcases Q with rfl|rfl|rfl|rfl|rfl|rfl|rfl|rfl|rfl|rfl|rfl|rfl|rfl|rfl|rfl|rfl|rfl|rfl|rfl|rfl|rfl|rfl
 ·exact f _ (fun T e=>aoP hC (aaa (by simp only[List.length_append,List.length_cons,List.length_nil];omega)) (aaa (by simp only[List.length_append,List.length_cons,List.length_nil];omega)) (aaa (by simp only[List.length_append,List.length_cons,List.length_nil];omega)) e)
 ·exact f _ (fun T e=>aoO (aaa (by simp only[List.length_append,List.length_cons,List.length_nil];omega)) (aaa (by simp only[List.length_append,List.length_cons,List.length_nil];omega)) e)
 ·obtain⟨p,rfl,G⟩:=g rfl;have J:Po[p]?=some (aeG (ofNat p)):=by
   show Po[p]?=some (match Po[p]? with|some w=>w|none=>[]);rw[List.getElem?_eq_getElem (show p < Po.length from G)]
  have lP:(aeG (ofNat p)).length<=100:=by
   have:∀s∈Po,s.length<=100:=by decide
   exact this _ (List.mem_of_getElem? J)
  have r:=aiw p G;refine f _ (fun T e=>?_)
  cases v:aB (ofNat p) 5 with
  | true=>rw[v] at e;exact am3 r v (aaa (by simp only[List.length_append,List.length_cons,List.length_nil];omega)) (aaa (by simp only[List.length_append,List.length_cons,List.length_nil];omega)) (aaa (by simp only[List.length_append,List.length_cons,List.length_nil];omega)) (aaa (by simp only[List.length_append,List.length_cons,List.length_nil];omega)) (aaa (by simp only[List.length_append,List.length_cons,List.length_nil];omega)) e
  | false=>rw[v] at e;exact am4 r v (aaa (by simp only[List.length_append,List.length_cons,List.length_nil];omega)) (aaa (by simp only[List.length_append,List.length_cons,List.length_nil];omega)) (aaa (by simp only[List.length_append,List.length_cons,List.length_nil];omega)) (aaa (by simp only[List.length_append,List.length_cons,List.length_nil];omega)) (aaa (by simp only[List.length_append,List.length_cons,List.length_nil];omega)) e
 ·exact f _ (fun T e=>aoN (aaa (by simp only[List.length_append,List.length_cons,List.length_nil];omega)) (aaa (by simp only[List.length_append,List.length_cons,List.length_nil];omega)) (aaa (by simp only[List.length_append,List.length_cons,List.length_nil];omega)) e)
 ·exact f _ (fun T e=>aoM (aaa (by simp only[List.length_append,List.length_cons,List.length_nil];omega)) (aaa (by simp only[List.length_append,List.length_cons,List.length_nil];omega)) (aaa (by simp only[List.length_append,List.length_cons,List.length_nil];omega)) (aaa (by simp only[List.length_append,List.length_cons,List.length_nil];omega)) e)
 ·exact f _ (fun T e=>aoL (aaa (by simp only[List.length_append,List.length_cons,List.length_nil];omega)) (aaa (by simp only[List.length_append,List.length_cons,List.length_nil];omega)) (aaa (by simp only[List.length_append,List.length_cons,List.length_nil];omega)) (aaa (by simp only[List.length_append,List.length_cons,List.length_nil];omega)) e)
 ·exact f _ (fun T e=>aoK (aaa (by simp only[List.length_append,List.length_cons,List.length_nil];omega)) (aaa (by simp only[List.length_append,List.length_cons,List.length_nil];omega)) e)
 ·exact f _ (fun T e=>aoJ (aaa (by simp only[List.length_append,List.length_cons,List.length_nil];omega)) (aaa (by simp only[List.length_append,List.length_cons,List.length_nil];omega)) (aaa (by simp only[List.length_append,List.length_cons,List.length_nil];omega)) e)
 ·exact f _ (fun T e=>aoI (aaa (by simp only[List.length_append,List.length_cons,List.length_nil];omega)) (aaa (by simp only[List.length_append,List.length_cons,List.length_nil];omega)) (aaa (by simp only[List.length_append,List.length_cons,List.length_nil];omega)) e)
 ·exact f _ (fun T e=>ani (aaa (by simp only[List.length_append,List.length_cons,List.length_nil];omega)) (aaa (by simp only[List.length_append,List.length_cons,List.length_nil];omega)) (aaa (by simp only[List.length_append,List.length_cons,List.length_nil];omega)) (aaa (by simp only[List.length_append,List.length_cons,List.length_nil];omega)) e)
 ·exact f _ (fun T e=>anh (aaa (by simp only[List.length_append,List.length_cons,List.length_nil];omega)) (aaa (by simp only[List.length_append,List.length_cons,List.length_nil];omega)) (aaa (by simp only[List.length_append,List.length_cons,List.length_nil];omega)) (aaa (by simp only[List.length_append,List.length_cons,List.length_nil];omega)) e)
 ·exact f _ (fun T e=>ang (aaa (by simp only[List.length_append,List.length_cons,List.length_nil];omega)) e)
 ·exact f _ (fun T e=>anf (aaa (by simp only[List.length_append,List.length_cons,List.length_nil];omega)) (aaa (by simp only[List.length_append,List.length_cons,List.length_nil];omega)) e)
 ·exact f _ (fun T e=>ane  e)
 ·exact f _ (fun T e=>anc (aaa (by simp only[List.length_append,List.length_cons,List.length_nil];omega)) e)
 ·exact f _ (fun T e=>anb (aaa (by simp only[List.length_append,List.length_cons,List.length_nil];omega)) e)
 ·exact f _ (fun T e=>ana (aaa (by simp only[List.length_append,List.length_cons,List.length_nil];omega)) e)
 ·exact f _ (fun T e=>am9  e)
 ·exact f _ (fun T e=>am8 (aaa (by simp only[List.length_append,List.length_cons,List.length_nil];omega)) e)
 ·exact f _ (fun T e=>am7 (aaa (by simp only[List.length_append,List.length_cons,List.length_nil];omega)) e)
 ·exact f _ (fun T e=>am6  e)
 exact f _ (fun T e=>am5 (aaa (by simp only[List.length_append,List.length_cons,List.length_nil];omega)) (aaa (by simp only[List.length_append,List.length_cons,List.length_nil];omega)) (aaa (by simp only[List.length_append,List.length_cons,List.length_nil];omega)) e)
theorem Cw {s:List Int}:jc s x≠[]:=by
 grind[jc,GK]
theorem OM {u:Nat} {s:List Int} (h:s≠[]):eP k x u s≠[]:=by
 grind[eP,Cw]
mutual
theorem adC:∀(t:Ty) (u:Nat) {s:List Int},s≠[]->t.cf u s≠[]
 | .mk k n x l,u,s,h=>by exact EP l u (OM h)
theorem EP {k:Int}:∀(l:List Ty) {j:Nat} (u:Nat) {s:List Int},s≠[]->se k l j u s≠[]
 | [],j,u,s,h=>by exact h
 | t::r,j,u,s,h=>by exact EP r u (adC t _ h)
end
mutual
theorem Dh:∀(t:Ty) (u:Nat),LD (t.cf u [])=t.closed u
 | .mk k n x l,u=>by
  rw[Ty.cf,Ty.closed]
  cases c:aB k 5 with
  | false=>
   have e:eP k x u []=[]:=by grind[eP]
   rw[e,Bool.false_and,Bool.not_false,Bool.true_and];exact sZ l u 0
  | true=>
   cases J:aF x (ofNat u) with
   | true=>
    have e:eP k x u []=[]:=by grind[eP]
    rw[e,Bool.not_true,Bool.and_false,Bool.not_false,Bool.true_and];exact sZ l u 0
   | false=>
    have e:eP k x u []≠[]:=by grind[eP,Cw]
    have b:=EP (k:=k) l (j:=0) u e;cases h:se k l 0 u (eP k x u []) with
    | nil=>grind
    | cons _ _=>rfl
theorem sZ {k:Int}:∀(l:List Ty) (u j:Nat),LD (se k l j u [])=fA k j l u
 | [],u,j=>by rfl
 | t::r,u,j=>by
  rw[se,fA];have h:=Dh t (u+ey k j)
  cases a:t.closed (u+ey k j) with
  | true=>
   have e:t.cf (u+ey k j) []=[]:=by grind[LD]
   rw[e,Bool.true_and];exact sZ r u (j+1)
  | false=>
   grind[LD,EP]
end
theorem CC (h:t.gN):ae 108 [.dat t.enc] (bv (t.closed 0)):=by
 rw[←Dh t 0];exact FY h.1 h.2
noncomputable def hRP:Hints:=⟨bV,P8,bi,rowsOf bi 181⟩
def stP (lo:Heap) (i:Int):ab:=⟨[(3,iv i),(1,.ptr (.loc 1) 0)],lo,[],0⟩
def aaZ (lo:Heap) (i:Int):ab:=⟨[(15,bv false),(3,iv i),(1,.ptr (.loc 1) 0)],lo,[],0⟩
def aa0:ab:=⟨[(2,bv false)],[],[],0⟩
theorem OJ {i:Nat} (h:i < (ax l).length) (j:l[i]?=some t) (e:ae 181 [.dat t.enc] (bv c))
  (E:c=true->T .normal ((stP (kr 1 k n x (.slice (ax l))) (an .i64 (ofNat i+1))).al nZ)) (F:c=false->T .ret (aa0.al nZ)) :
  KD (roundOf Tryz.f181 0) T ((stP (kr 1 k n x (.slice (ax l))) (ofNat i)).al nZ):=by
 have a:=br h;have g:=pF j;generalize ax l=p at *;obtain⟨K,o,m,f⟩:=t
 rcases f with _|⟨b,d⟩ <;>
 ·refine aq [15] [21] (H:=hRP) (live:=uc) (ob a (oo g (on e ?_)))
  cases c
  ·exact oe (F rfl)
  exact oe (E rfl)
theorem S9 {l:List ak} (e:T (.exit 0) ((aaZ (kr 1 k n b (sl l)) (ofNat l.length)).al nZ)) :
  KD (roundOf Tryz.f181 0) T ((stP (kr 1 k n b (sl l)) (ofNat l.length)).al nZ):=by
 have a:=cj (i:=l.length) (L:=l.length) (by omega)
 rcases l with _|⟨x,l⟩
 ·refine aq [] [] (H:=hRP) (live:=uc) ?_;exact oe e
 exact aq [15] [] (H:=hRP) (live:=uc) (ob a (oe e))
theorem Xm {l:List ak} {f d:Bool} (G:aB k 5=c) (g:ae 108 [.dat (.agg [i64 k,sb n,i64 a,sl l])] (bv f)) (b:aB k 2=q)
  (h:KD (.loop (roundOf Tryz.f181 0)) (fun e s=>(e=.exit 0/\d=false/\s=(aaZ (kr 1 k n a (sl l)) (ofNat l.length)).al nZ)∨(e=.ret/\d=true/\s=aa0.al nZ)) ((stP (kr 1 k n a (sl l)) (ofNat 0)).al nZ)) :
  ae 181 [.dat (.agg [i64 k,sb n,i64 a,sl l])] (bv (c||f||(q&&!d))):=by
 rcases l with _|⟨x,l⟩ <;>
 ·cases q <;>
  ·refine co [6,27] [] (x:=.of Tryz.f181 P8 uc) ?_;refine ob G ?_
   cases c
   ·refine on g ?_
    cases f
    ·refine lo h ?_;rintro i s (⟨rfl,rfl,rfl⟩|⟨rfl,rfl,rfl⟩)
     ·refine⟨_,rfl,?_⟩;exact ob b fi
     refine⟨_,rfl,?_⟩;exact fi
    exact fi
   exact fi
theorem Bw {i:Nat} (h:l[i]?=some t):gT (l.drop i)=(!t.plain||gT (l.drop (i+1))):=by rw[kT h,gT]
mutual
theorem Tn:∀t:Ty,t.gN->ae 181 [.dat t.enc] (bv t.plain)
 | .mk k n x l,h=>by
  have e:=CC h;obtain⟨a,b⟩:=h;simp only[Ty.size] at a;have q:=zR l (by omega) b.2;have m:=gw l;refine Xm rfl e rfl ?_;refine cV (St:=fun i=>(stP (kr 1 k n x (sl (ax l))) (ofNat i)).al nZ) (fun i=>gT l=gT (l.drop i)) (ax l).length ?_ ?_ (i:=0) (Nat.zero_le _) rfl
  ·intro i d f;obtain⟨t,T,o⟩:=get_mem d;have D:=Bw T;rw[←f] at D;have g:=nR d;have p:an .i64 (ofNat i+1)=ofNat (i+1):=bb (by grind);have e:=q t o;rw[g];generalize t.plain=c at e D;refine OJ d T e ?_ ?_
   ·rintro rfl;rw[p];exact⟨rfl,D⟩
   rintro rfl;exact .inr ⟨rfl,D,rfl⟩
  intro f;refine S9 (.inl ⟨rfl,?_,rfl⟩);grind[aH,gT]
theorem zR:∀l:List Ty,aQ l < 100000000->fg l->∀t∈l,ae 181 [.dat t.enc] (bv t.plain)
 | [],_,_,t,T=>by grind
 | u::r,h,j,t,T=>by
  simp only[aQ] at h;rcases List.mem_cons.1 T with a|T
  ·rw[a];exact Tn u ⟨by omega,j.1⟩
  exact zR r (by omega) j.2 t T
end
theorem FN:HI (fun n=>Bm (jA n) (X 149 [GC n] [] 0)) 256=true:=by kernel_rfl
theorem O3 (c:UInt8):ae 149 [GC c.toNat] (bv (jA c.toNat)):=dE _ _ _ _ _ (qD (rC FN _ c.toNat_lt))
theorem Mp:HI (fun n=>Bm (B6 n) (X 150 [GC n] [] 0)) 256=true:=by kernel_rfl
theorem Xw (c:UInt8):ae 150 [GC c.toNat] (bv (B6 c.toNat)):=dE _ _ _ _ _ (qD (rC Mp _ c.toNat_lt))
noncomputable def hRI:Hints:=⟨bV,P8,bi,rowsOf bi 106⟩
def stJ (b:List UInt8) (i:Int):ab:=⟨[(3,iv i),(0,.dat (sb b))],[],[],0⟩
def aa2 (b:List UInt8) (i:Int):ab:=⟨[(21,bv false),(3,iv i),(0,.dat (sb b))],[],[],0⟩
def aa3:ab:=⟨[(2,bv false)],[],[],0⟩
theorem Ms {b:List UInt8} {c:UInt8} {i:Nat} {e d:Bool} {L:Int} (j:ofNat b.length=L) (a:aF (ofNat i) (ofNat b.length)=true) (h:qP ba 9 [.dat (sb b),.dat (.flat (.int .i64 (ofNat i)))]=some ⟨GC c.toNat,.keep⟩) (f:ae 150 [GC c.toNat] (bv e)) (g:aB (ofNat c.toNat) 45=d)
  (E:(e&&!d)=true->T .normal ((stJ b (an .i64 (ofNat i+1))).al og)) (F:(e&&!d)=false->T .ret (aa3.al og)) :
  KD (roundOf Tryz.f106 0) T ((stJ b (ofNat i)).al og):=by
 refine aq [21,33] [26,32] (H:=hRI) (live:=um) (ob a (oo h (on f ?_)))
 cases e
 ·exact oe (F rfl)
 refine oo h (ob g ?_)
 cases d
 ·exact oe (E rfl)
 exact oe (F rfl)
theorem ON {b:List UInt8} (e:T (.exit 0) ((aa2 b (ofNat b.length)).al og)) :
  KD (roundOf Tryz.f106 0) T ((stJ b (ofNat b.length)).al og):=by
 have a:=cj (i:=b.length) (L:=b.length) (by omega);exact aq [21] [] (H:=hRI) (live:=um) (ob a (oe e))
theorem Td {b:List UInt8} {c:UInt8} {p a:Bool} (g:aF 24 (ofNat (c::b).length)=p) (f:ae 149 [GC c.toNat] (bv q))
  (l:p=false->KD (.loop (roundOf Tryz.f106 0)) (fun e s=>(e=.exit 0/\a=true/\s=(aa2 (c::b) (ofNat (c::b).length)).al og)∨(e=.ret/\a=false/\s=aa3.al og)) ((stJ (c::b) (ofNat 0)).al og)) :
  ae 106 [.dat (sb (c::b))] (bv (!p&&q&&a)):=by
 have h:=nK (b:=c::b) (i:=0) rfl
 cases p
 ·have d:=l rfl;refine co [10] [14] (x:=.of Tryz.f106 P8 um) ?_;refine ob g (oo h (on f ?_))
  cases q
  ·exact fi
  refine lo d ?_;rintro j s (⟨rfl,rfl,rfl⟩|⟨rfl,rfl,rfl⟩) <;>
  ·refine⟨_,rfl,?_⟩;exact fi
 refine co [10] [] (x:=.of Tryz.f106 P8 um) ?_;exact ob g fi
theorem Tc:ae 106 [.dat (sb [])] (bv false):=dE _ _ _ _ _ (by kernel_rfl)
theorem yj (b:List UInt8):ae 106 [.dat (sb b)] (bv (isIdent b)):=by
 cases b with
 | nil=>exact Tc
 | cons c b=>
  have f:=O3 c;have e:isIdent (c::b)=(!aF 24 (ofNat (c::b).length)&&jA c.toNat&&(c::b).all (fun c=>eg c.toNat)):=by
   have F:Nat.ble (b.length+1) 24=!aF 24 (ofNat (c::b).length):=by
    rw[show (24:Int)=ofNat 24 from rfl,gv]
    by_cases h:24 < (c::b).length
    ·rw[decide_eq_true h];simp at h ⊢;rw[Bool.eq_false_iff,ne_eq,Nat.ble_eq];omega
    rw[decide_eq_false h];simp at h ⊢;omega
   show (Nat.ble (b.length+1) 24&&jA c.toNat&&(c::b).all (fun c=>eg c.toNat))=_;rw[F]
  rw[e];refine Td rfl f (fun g=>?_);have a:(c::b).length < 1000:=by
   rw[show (24:Int)=ofNat 24 from rfl,gv] at g;simp only[decide_eq_false_iff_not] at g;omega
  obtain⟨l,k⟩:∃l,l=c::b:=⟨_,rfl⟩;rw[←k] at a ⊢;clear k g e f;refine cV (St:=fun i=>(stJ l (ofNat i)).al og) (fun i=>l.all (fun c=>eg c.toNat)=(l.drop i).all (fun c=>eg c.toNat)) l.length ?_ ?_ (i:=0) (Nat.zero_le _) rfl
  ·intro i j d;have T:l[i]?=some l[i]:=List.getElem?_eq_getElem j;generalize l[i]=t at T;have D:(l.drop i).all (fun c=>eg c.toNat)=(eg t.toNat&&(l.drop (i+1)).all (fun c=>eg c.toNat)):=by rw[kT T];rfl
   rw[←d] at D;have m:an .i64 (ofNat i+1)=ofNat (i+1):=bb (by omega);have F:eg t.toNat=(B6 t.toNat&&!(aB (ofNat t.toNat) 45)):=by
    show (!Nat.beq t.toNat 45&&B6 t.toNat)=(B6 t.toNat&&!(Nat.beq t.toNat 45));rw[Bool.and_comm]
   rw[F] at D;refine Ms rfl (br j) (nK T) (Xw t) rfl ?_ ?_
   ·intro h;rw[h] at D;rw[m];exact⟨rfl,D⟩
   intro h;rw[h] at D;exact .inr ⟨rfl,D,rfl⟩
  intro d;rw[List.drop_length] at d;exact ON (.inl ⟨rfl,d,rfl⟩)
theorem abO (b:List UInt8):ae 180 [.dat (sb b)] (bv (aeh b)):=by
 have e:aeh b=(jP b [65,110,121]||jP b [78,101,118,101,114]||jP b [116,117,112,108,101]||jP b [117,110,105,111,110]||jP b [101,120,105,115,116,115]):=by
  grind[aeh,tG]
 rw[e];generalize a:jP b [65,110,121]=p;generalize i:jP b [78,101,118,101,114]=q;generalize f:jP b [116,117,112,108,101]=c;generalize g:jP b [117,110,105,111,110]=d;generalize G:jP b [101,120,105,115,116,115]=h;refine co [4,7,11,15,19] [] (x:=.of Tryz.f180 P8 QH) ?_;refine ob a ?_
 cases p
 ·refine ob i ?_
  cases q
  ·refine ob f ?_
   cases c
   ·refine ob g ?_
    cases d
    ·refine ob G ?_
     cases h <;>
     ·exact fi
    exact fi
   exact fi
  exact fi
 exact fi
theorem dL {j:Int} (h:k≠j):aB k j=false:=by rw[cN];grind
theorem kinds (k:Int) {p d e h i:Bool} (o:aB k 0=c) (a:aB k 1=p) (b:aB k 2=q) (f:aB k 3=d) (g:aB k 4=e) (G:aB k 5=h) (u:aB k 6=i) :
  (c=true/\p=false/\q=false/\d=false/\e=false/\h=false/\i=false)∨(c=false/\p=true/\q=false/\d=false/\e=false/\h=false/\i=false)∨(c=false/\p=false/\q=true/\d=false/\e=false/\h=false/\i=false)∨(c=false/\p=false/\q=false/\d=true/\e=false/\h=false/\i=false)∨(c=false/\p=false/\q=false/\d=false/\e=true/\h=false/\i=false)∨(c=false/\p=false/\q=false/\d=false/\e=false/\h=true/\i=false)∨(c=false/\p=false/\q=false/\d=false/\e=false/\h=false/\i=true)∨(c=false/\p=false/\q=false/\d=false/\e=false/\h=false/\i=false):=by
 subst o a b f g G u
 by_cases j:k=0
 ·subst j;exact .inl ⟨rfl,rfl,rfl,rfl,rfl,rfl,rfl⟩
 by_cases l:k=1
 ·subst l;exact .inr (.inl ⟨rfl,rfl,rfl,rfl,rfl,rfl,rfl⟩)
 by_cases m:k=2
 ·subst m;exact .inr (.inr (.inl ⟨rfl,rfl,rfl,rfl,rfl,rfl,rfl⟩))
 grind[dL]
noncomputable def Z7:Hints:=⟨bV,P8,bi,rowsOf bi 153⟩
def Sn (j:Nat) (lo:Heap) (n:Nat) (i:Int):ab:=⟨[(j,iv i),(3,iv (ofNat n)),(1,.ptr (.loc 1) 0)],lo,[],0⟩
def N6 (q j:Nat) (lo:Heap) (n:Nat) (i:Int):ab:=⟨[(q,bv false),(j,iv i),(3,iv (ofNat n)),(1,.ptr (.loc 1) 0)],lo,[],0⟩
def SW:ab:=⟨[(2,bv false)],[],[],0⟩
theorem Mr {i:Nat} (f:i < (ax l).length) (g:l[i]?=some t) (e:ae 181 [.dat t.enc] (bv c))
  (E:c=true->T .normal ((Sn 4 (kr 1 k n x (.slice (ax l))) (ax l).length (an .i64 (ofNat i+1))).al fN)) (F:c=false->T .ret (SW.al fN)) :
  KD (roundOf Tryz.f153 0) T ((Sn 4 (kr 1 k n x (.slice (ax l))) (ax l).length (ofNat i)).al fN):=by
 have a:=br f;have j:=pF g;generalize ax l=p at *;obtain⟨K,o,m,h⟩:=t
 rcases h with _|⟨b,d⟩ <;>
 ·refine aq [65] [71] (H:=Z7) (live:=dH) (ob a (oo j (on e ?_)))
  cases c
  ·exact oe (F rfl)
  exact oe (E rfl)
theorem OD {l:List ak} (e:T (.exit 1) ((N6 65 4 (kr 1 k n b (sl l)) l.length (ofNat l.length)).al fN)) :
  KD (roundOf Tryz.f153 0) T ((Sn 4 (kr 1 k n b (sl l)) l.length (ofNat l.length)).al fN):=by
 have a:=cj (i:=l.length) (L:=l.length) (by omega)
 rcases l with _|⟨x,l⟩
 ·refine aq [] [] (H:=Z7) (live:=dH) ?_;exact oe e
 exact aq [65] [] (H:=Z7) (live:=dH) (ob a (oe e))
theorem Mq {i:Nat} (f:i < (ax l).length) (g:l[i]?=some t) (e:ae 153 [.dat t.enc] (bv c))
  (E:c=true->T .normal ((Sn 5 (kr 1 k n x (.slice (ax l))) (ax l).length (an .i64 (ofNat i+1))).al fN)) (F:c=false->T .ret (SW.al fN)) :
  KD (roundOf Tryz.f153 1) T ((Sn 5 (kr 1 k n x (.slice (ax l))) (ax l).length (ofNat i)).al fN):=by
 have a:=br f;have j:=pF g;generalize ax l=p at *;obtain⟨K,o,m,h⟩:=t
 rcases h with _|⟨b,d⟩ <;>
 ·refine aq [97] [103] (H:=Z7) (live:=dH) (ob a (oo j (on e ?_)))
  cases c
  ·exact oe (F rfl)
  exact oe (E rfl)
theorem OC {l:List ak} (e:T (.exit 3) ((N6 97 5 (kr 1 k n b (sl l)) l.length (ofNat l.length)).al fN)) :
  KD (roundOf Tryz.f153 1) T ((Sn 5 (kr 1 k n b (sl l)) l.length (ofNat l.length)).al fN):=by
 have a:=cj (i:=l.length) (L:=l.length) (by omega)
 rcases l with _|⟨x,l⟩
 ·refine aq [] [] (H:=Z7) (live:=dH) ?_;exact oe e
 exact aq [97] [] (H:=Z7) (live:=dH) (ob a (oe e))
theorem WT {u:Int} {cp L:Bool} (O:ae 106 [.dat (sb n)] (bv (isIdent n))) (R:ae 180 [.dat (sb n)] (bv (aeh n))) (J:gT l=cp) (m:l=[]->L=false)
  (v:∀t r,l=t::r->ae 108 [.dat t.enc] (bv (ik l)))
  (K:KD (.loop (roundOf Tryz.f153 0)) (fun e s=>(e=.exit 1/\cp=false/\s=(N6 65 4 (kr 1 k n u (sl (ax l))) (ax l).length (ofNat (ax l).length)).al fN)∨(e=.ret/\cp=true/\s=SW.al fN)) ((Sn 4 (kr 1 k n u (sl (ax l))) (ax l).length (ofNat 0)).al fN))
  (j:KD (.loop (roundOf Tryz.f153 1)) (fun e s=>(e=.exit 3/\L=false/\s=(N6 97 5 (kr 1 k n u (sl (ax l))) (ax l).length (ofNat (ax l).length)).al fN)∨(e=.ret/\L=true/\s=SW.al fN)) ((Sn 5 (kr 1 k n u (sl (ax l))) (ax l).length (ofNat 0)).al fN)) :
  ae 153 [.dat (Ty.mk k n u l).enc] (bv (vQ k n u l&&!L)):=by
 unfold vQ;rw[J];clear J;generalize ik l=fc at v;generalize isIdent n=I at O;generalize aeh n=U at R;generalize o:aB k 0=c0;generalize a:aB k 1=p;generalize b:aB k 2=c2;generalize f:aB k 3=c3;generalize g:aB k 4=c4;generalize G:aB k 5=c5;generalize E:aB k 6=c6;generalize N:jP n []=c;generalize h:aB u 0=d;generalize z:aF 6 (ofNat (ax l).length)=S;generalize D:aF (ofNat (ax l).length) 2=Y;generalize w:aB (ofNat (ax l).length) 0=V;generalize C:aB (ofNat (ax l).length) 2=F;generalize P:aF u 0=x0;generalize Q:aF 200 u=x2;have W:=kinds k o a b f g G E
 rcases l with _|⟨t,r⟩
 ·have M:=m rfl;subst M;have z6:S=false:=z.symm;have z2:Y=true:=D.symm;have T:V=true:=w.symm;have y2:F=false:=C.symm;subst z6;subst z2;subst T;subst y2;have A:=j.mono (Q':=fun e s=>e=.exit 3/\s=(N6 97 5 (kr 1 k n u (sl (ax []))) (ax []).length (ofNat (ax []).length)).al fN) (by
   rintro e s (⟨q1,_,q2⟩|⟨_,q,_⟩)
   ·exact⟨q1,q2⟩
   simp at q)
  clear v m z D w C j
  rcases W with⟨rfl,rfl,rfl,rfl,rfl,rfl,rfl⟩|⟨rfl,rfl,rfl,rfl,rfl,rfl,rfl⟩|⟨rfl,rfl,rfl,rfl,rfl,rfl,rfl⟩|⟨rfl,rfl,rfl,rfl,rfl,rfl,rfl⟩|⟨rfl,rfl,rfl,rfl,rfl,rfl,rfl⟩|⟨rfl,rfl,rfl,rfl,rfl,rfl,rfl⟩|⟨rfl,rfl,rfl,rfl,rfl,rfl,rfl⟩|⟨rfl,rfl,rfl,rfl,rfl,rfl,rfl⟩
  ·refine co [11,15,20,24,30] [] (x:=.of Tryz.f153 P8 dH) ?_;refine ox b (ox N ?_)
   cases c
   ·exact fi
   refine ox G (ox h ?_)
   cases d
   ·exact fi
   exact ob o fi
  ·refine co [11,15,20,24,30,31] [] (x:=.of Tryz.f153 P8 dH) ?_;refine ox b (ox N ?_)
   cases c
   ·exact fi
   refine ox G (ox h ?_)
   cases d
   ·exact fi
   exact ob o (ob a fi)
  ·refine co [11,20,24,30,31,35,49] [] (x:=.of Tryz.f153 P8 dH) ?_;refine ox b (ox G (ox h ?_))
   cases d
   ·exact fi
   refine ob o (ob a (ob G (ob b (on O ?_))))
   cases I
   ·exact fi
   refine on R ?_
   cases U
   ·refine lo K ?_;rintro B s (⟨rfl,rfl,rfl⟩|⟨rfl,rfl,rfl⟩)
    ·refine⟨_,rfl,?_⟩;refine lo A ?_;rintro B s ⟨rfl,rfl⟩;refine⟨_,rfl,?_⟩;exact fi
    refine⟨_,rfl,?_⟩;exact fi
   exact fi
  ·refine co [11,15,20,24,30,31,35,49,76] [] (x:=.of Tryz.f153 P8 dH) ?_;refine ox b (ox N ?_)
   cases c
   ·exact fi
   refine ox G (ox h ?_)
   cases d
   ·exact fi
   refine ob o (ob a (ob G (ob b (ob f ?_))));refine lo A ?_;rintro B s ⟨rfl,rfl⟩;refine⟨_,rfl,?_⟩;exact fi
  ·refine co [11,15,20,24,30,31,35,49,76,80] [] (x:=.of Tryz.f153 P8 dH) ?_;refine ox b (ox N ?_)
   cases c
   ·exact fi
   refine ox G (ox h ?_)
   cases d
   ·exact fi
   exact ob o (ob a (ob G (ob b (ob f (ob g fi)))))
  ·refine co [11,15,20,30,31,35,41,46] [] (x:=.of Tryz.f153 P8 dH) ?_;refine ox b (ox N ?_)
   cases c
   ·exact fi
   refine ox G (ob o (ob a (ob G (ox P ?_))))
   cases x0
   ·refine ox Q ?_
    cases x2 <;>
    ·exact fi
   exact fi
  ·refine co [11,15,20,24,30,31,35,49,76,80,84] [] (x:=.of Tryz.f153 P8 dH) ?_;refine ox b (ox N ?_)
   cases c
   ·exact fi
   refine ox G (ox h ?_)
   cases d
   ·exact fi
   exact ob o (ob a (ob G (ob b (ob f (ob g (ob E fi))))))
  refine co [11,15,20,24,30,31,35,49,76,80,84] [] (x:=.of Tryz.f153 P8 dH) ?_;refine ox b (ox N ?_)
  cases c
  ·exact fi
  refine ox G (ox h ?_)
  cases d
  ·exact fi
  exact ob o (ob a (ob G (ob b (ob f (ob g (ob E fi))))))
 have H:=v t r rfl;have T:V=false:=w.symm;subst T;have g0:=pF (l:=t::r) (i:=0) rfl;clear v m w;obtain⟨tk,tn,ad,Z⟩:=t
 rcases Z with _|⟨y,Z⟩ <;>
 ·rcases W with⟨rfl,rfl,rfl,rfl,rfl,rfl,rfl⟩|⟨rfl,rfl,rfl,rfl,rfl,rfl,rfl⟩|⟨rfl,rfl,rfl,rfl,rfl,rfl,rfl⟩|⟨rfl,rfl,rfl,rfl,rfl,rfl,rfl⟩|⟨rfl,rfl,rfl,rfl,rfl,rfl,rfl⟩|⟨rfl,rfl,rfl,rfl,rfl,rfl,rfl⟩|⟨rfl,rfl,rfl,rfl,rfl,rfl,rfl⟩|⟨rfl,rfl,rfl,rfl,rfl,rfl,rfl⟩
  ·refine co [11,15,20,24,30] [] (x:=.of Tryz.f153 P8 dH) ?_;refine ox b (ox N ?_)
   cases c
   ·exact fi
   refine ox G (ox h ?_)
   cases d
   ·exact fi
   exact ob o fi
  ·refine co [11,15,20,24,30,31] [] (x:=.of Tryz.f153 P8 dH) ?_;refine ox b (ox N ?_)
   cases c
   ·exact fi
   refine ox G (ox h ?_)
   cases d
   ·exact fi
   exact ob o (ob a fi)
  ·refine co [11,20,24,30,31,35,49,61] [] (x:=.of Tryz.f153 P8 dH) ?_;refine ox b (ox G (ox h ?_))
   cases d
   ·exact fi
   refine ob o (ob a (ob G (ob b (on O ?_))))
   cases I
   ·exact fi
   refine on R ?_
   cases U
   ·refine ob z ?_
    cases S
    ·refine lo K ?_;rintro B s (⟨rfl,rfl,rfl⟩|⟨rfl,rfl,rfl⟩)
     ·refine⟨_,rfl,?_⟩;refine lo j ?_;rintro B s (⟨rfl,rfl,rfl⟩|⟨rfl,rfl,rfl⟩) <;>
      ·refine⟨_,rfl,?_⟩;exact fi
     refine⟨_,rfl,?_⟩;exact fi
    exact fi
   exact fi
  ·refine co [11,15,20,24,30,31,35,49,76,78] [] (x:=.of Tryz.f153 P8 dH) ?_;refine ox b (ox N ?_)
   cases c
   ·exact fi
   refine ox G (ox h ?_)
   cases d
   ·exact fi
   refine ob o (ob a (ob G (ob b (ob f (ob z ?_)))))
   cases S
   ·refine lo j ?_;rintro B s (⟨rfl,rfl,rfl⟩|⟨rfl,rfl,rfl⟩) <;>
    ·refine⟨_,rfl,?_⟩;exact fi
   exact fi
  ·refine co [11,15,20,24,30,31,35,49,76,80,82] [] (x:=.of Tryz.f153 P8 dH) ?_;refine ox b (ox N ?_)
   cases c
   ·exact fi
   refine ox G (ox h ?_)
   cases d
   ·exact fi
   refine ob o (ob a (ob G (ob b (ob f (ob g (ob D ?_))))))
   cases Y
   ·refine lo j ?_;rintro B s (⟨rfl,rfl,rfl⟩|⟨rfl,rfl,rfl⟩) <;>
    ·refine⟨_,rfl,?_⟩;exact fi
   exact fi
  ·refine co [11,15,20,30,31,35] [] (x:=.of Tryz.f153 P8 dH) ?_;refine ox b (ox N ?_)
   cases c
   ·exact fi
   exact ox G (ob o (ob a (ob G fi)))
  ·refine co [11,15,20,24,30,31,35,49,76,80,84,86] [90] (x:=.of Tryz.f153 P8 dH) ?_;refine ox b (ox N ?_)
   cases c
   ·exact fi
   refine ox G (ox h ?_)
   cases d
   ·exact fi
   refine ob o (ob a (ob G (ob b (ob f (ob g (ob E (ox C ?_)))))))
   cases F
   ·exact fi
   refine oo g0 (on H ?_)
   cases fc
   ·exact fi
   refine lo j ?_;rintro B s (⟨rfl,rfl,rfl⟩|⟨rfl,rfl,rfl⟩) <;>
   ·refine⟨_,rfl,?_⟩;exact fi
  refine co [11,15,20,24,30,31,35,49,76,80,84] [] (x:=.of Tryz.f153 P8 dH) ?_;refine ox b (ox N ?_)
  cases c
  ·exact fi
  refine ox G (ox h ?_)
  cases d
  ·exact fi
  exact ob o (ob a (ob G (ob b (ob f (ob g (ob E fi))))))
theorem Kc {i:Nat} (h:l[i]?=some t):pA (l.drop i)=(!t.valid||pA (l.drop (i+1))):=by rw[kT h,pA]
mutual
theorem O1:∀t:Ty,t.gN->ae 153 [.dat t.enc] (bv t.valid)
 | .mk k n x l,h=>by
  obtain⟨a,b⟩:=h;simp only[Ty.size] at a;simp only[Ty.fY] at b;have v:=Kz l (by omega) b.2;have q:=zR l (by omega) b.2;have s:=gw l;have j:∀t r,l=t::r->ae 108 [.dat t.enc] (bv (ik l)):=by
   rintro t r rfl;simp only[aQ] at a;simp only[fg] at b;exact CC ⟨by omega,b.2.1⟩
  rw[Ty.valid];refine WT (cp:=gT l) (yj n) (abO n) rfl (by rintro rfl;rw[pA]) j ?_ ?_
  ·refine cV (St:=fun i=>(Sn 4 (kr 1 k n x (sl (ax l))) (ax l).length (ofNat i)).al fN) (fun i=>gT l=gT (l.drop i)) (ax l).length ?_ ?_ (i:=0) (Nat.zero_le _) rfl
   ·intro i d f;obtain⟨t,T,m⟩:=get_mem d;have D:=Bw T;rw[←f] at D;have g:=nR d;have o:an .i64 (ofNat i+1)=ofNat (i+1):=bb (by rw[aH] at d;omega);have e:=q t m;rw[g];generalize t.plain=c at e D;refine Mr d T e ?_ ?_
    ·rintro rfl;rw[o];exact⟨rfl,D⟩
    rintro rfl;exact .inr ⟨rfl,D,rfl⟩
   intro f;refine OD (.inl ⟨rfl,?_,rfl⟩);rw[f,aH,List.drop_length,gT]
  refine cV (St:=fun i=>(Sn 5 (kr 1 k n x (sl (ax l))) (ax l).length (ofNat i)).al fN) (fun i=>pA l=pA (l.drop i)) (ax l).length ?_ ?_ (i:=0) (Nat.zero_le _) rfl
  ·intro i d f;obtain⟨t,T,m⟩:=get_mem d;have D:=Kc T;rw[←f] at D;have g:=nR d;have o:an .i64 (ofNat i+1)=ofNat (i+1):=bb (by rw[aH] at d;omega);have e:=v t m;rw[g];generalize t.valid=c at e D;refine Mq d T e ?_ ?_
   ·rintro rfl;rw[o];exact⟨rfl,D⟩
   rintro rfl;exact .inr ⟨rfl,D,rfl⟩
  intro f;refine OC (.inl ⟨rfl,?_,rfl⟩);rw[f,aH,List.drop_length,pA]
theorem Kz:∀l:List Ty,aQ l < 100000000->fg l->∀t∈l,ae 153 [.dat t.enc] (bv t.valid)
 | [],_,_,t,T=>by simp at T
 | u::r,h,p,t,T=>by
  simp only[aQ] at h;simp only[fg] at p
  rcases List.mem_cons.1 T with a|T
  ·rw[a];exact O1 u ⟨by omega,p.1⟩
  exact Kz r (by omega) p.2 t T
end
def HR (b a c:Bool):Int:=match b||a with|true=>4|false=>(match c with|true=>0|false=>2)
theorem SG (t:Ty):t.validate=HR (aF 200 (ofNat t.size)) (aF 12 (ofNat t.depth)) t.valid:=by
 unfold Ty.validate HR
 grind
theorem abj {e:List UInt8} {l:List ak} {n:Int} {h g:Bool} (a:ae 151 [.dat (.agg [i64 k,sb e,i64 d,sl l])] (iv n)) (N:aF 200 n=h) (b:ae 152 [.dat (.agg [i64 k,sb e,i64 d,sl l])] (iv m)) (i:aF 12 m=g)
  (f:ae 153 [.dat (.agg [i64 k,sb e,i64 d,sl l])] (bv c)):ae 107 [.dat (.agg [i64 k,sb e,i64 d,sl l])] (iv (HR h g c)):=by
 rcases l with _|⟨x,l⟩ <;>
 ·refine co [6,10] [] (x:=.of Tryz.f107 P8 Lw) ?_;refine on a (ob N ?_)
  cases h
  ·refine on b (ob i ?_)
   cases g
   ·refine on f ?_
    cases c <;>
    ·exact fi
   exact fi
  exact fi
theorem IA (h:t.gN):ae 107 [.dat t.enc] (iv t.validate):=by
 have a:=O2 t (by have:=h.1;omega);have b:=KG t (by have:=h.1;omega);have f:=O1 t h;obtain⟨k,n,x,l⟩:=t;exact abj a rfl b rfl f
theorem jy {e n sl:Int} {c d:ak} (g:dj c) (h:dj d):ae 105 [.dat (aN e sl c d),iv n] (bv (eo n sl)):=by
 have i:=aS (p:=e) (s:=sl) g h;unfold eo;generalize a:aF n 0=f;generalize b:aF n sl=q;refine co [6,11] [2] (x:=.of Tryz.f105 P8 Lx) ?_;refine oo i (ox a ?_)
 cases f
 ·refine ob b ?_
  cases q <;>
  ·exact fi
 exact fi
noncomputable def VY:Hints:=⟨bV,P8,bi,rowsOf bi 109⟩
def Mb (k i:Int) (s:List UInt8) (j:Int):ab:=⟨[(3,iv j),(1,.ptr (.loc 1) 0)],K9 k i s,[],0⟩
def N9 (q:Nat) (k i:Int) (s:List UInt8):ab:=⟨[(q,bv false),(3,iv (ofNat s.length)),(1,.ptr (.loc 1) 0)],K9 k i s,[],0⟩
def Oa:ab:=⟨[(2,bv false)],[],[],0⟩
theorem Iw {j:Nat} {c:UInt8} {r Q:Bool} (a:aF (ofNat j) (ofNat s.length)=true) (b:qP ba 9 [.dat (sb s),.dat (.flat (.int .i64 (ofNat j)))]=some ⟨GC c.toNat,.keep⟩)
  (f:aF (ofNat c.toNat) 32=r) (g:aF 126 (ofNat c.toNat)=Q) (E:(!r&&!Q)=true->T .normal ((Mb k i s (an .i64 (ofNat j+1))).al jW)) (F:(!r&&!Q)=false->T .ret (Oa.al jW)) :
  KD (roundOf Tryz.f109 0) T ((Mb k i s (ofNat j)).al jW):=by
 refine aq [37,44,50] [43,49] (H:=VY) (live:=uj) (ob a (oo b (ob f ?_)))
 cases r
 ·refine oo b (ob g ?_)
  cases Q
  ·exact oe (E rfl)
  exact oe (F rfl)
 exact oe (F rfl)
theorem Mw (E:T (.exit 0) ((N9 37 k i s).al jW)) :
  KD (roundOf Tryz.f109 0) T ((Mb k i s (ofNat s.length)).al jW):=by
 have a:=cj (i:=s.length) (L:=s.length) (by omega);exact aq [37] [] (H:=VY) (live:=uj) (ob a (oe E))
theorem Mv (N:s.length < 1000000000) :
  KD (.loop (roundOf Tryz.f109 0)) (fun e q=>(e=.exit 0/\s.all (fun c=>eQ c.toNat)=true/\q=(N9 37 k i s).al jW)∨(e=.ret/\s.all (fun c=>eQ c.toNat)=false/\q=Oa.al jW)) ((Mb k i s (ofNat 0)).al jW):=by
 refine cV (St:=fun j=>(Mb k i s (ofNat j)).al jW) (fun j=>s.all (fun c=>eQ c.toNat)=(s.drop j).all (fun c=>eQ c.toNat)) s.length ?_ ?_ (i:=0) (Nat.zero_le _) rfl
 ·intro j d b;have J:s[j]?=some s[j]:=List.getElem?_eq_getElem d;have D:(s.drop j).all (fun c=>eQ c.toNat)=(eQ s[j].toNat&&(s.drop (j+1)).all (fun c=>eQ c.toNat)):=by rw[List.drop_eq_getElem_cons d];rfl
  have f:an .i64 (ofNat j+1)=ofNat (j+1):=bb (by omega);generalize s[j]=c at J D;have w:eQ c.toNat=(!aF (ofNat c.toNat) 32&&!aF 126 (ofNat c.toNat)):=rfl;rw[←b,w] at D;refine Iw (br d) (nK J) rfl rfl ?_ ?_
  ·intro h;rw[h] at D;rw[f];exact⟨rfl,D⟩
  intro h;rw[h] at D;exact .inr ⟨rfl,D,rfl⟩
 intro b;have a:s.all (fun c=>eQ c.toNat)=true:=by grind
 exact Mw (.inl ⟨rfl,a,rfl⟩)
theorem OU {p m n h r u t d:Bool} (o:aB k 0=c) (a:aB k 1=p) (b:aB k 2=m) (f:aB k 3=n) (g:aB i 0=h) (G:aB i 1=r) (v:jP s []=u) (w:aF 2000 (ofNat s.length)=t)
  (l:KD (.loop (roundOf Tryz.f109 0)) (fun e q=>(e=.exit 0/\d=true/\q=(N9 37 k i s).al jW)∨(e=.ret/\d=false/\q=Oa.al jW)) ((Mb k i s (ofNat 0)).al jW)) :
  ae 109 [.dat (lI k i s)] (bv (if (!n&&!u)=true then false else if (!p&&(!m&&!h))=true then false else if d=false then false else if (c||p)=true then true else if m=true then h||r else if n=true then !t else false)):=by
 cases u
 ·refine co [11,21,55,56,25,58,61,65,30,68,72,15] [] (x:=.of Tryz.f109 P8 uj) ?_;refine ox f ?_
  cases n
  ·exact ox v fi
  refine ox a ?_
  cases p
  ·refine ox b ?_
   cases m
   ·refine ox g ?_
    cases h
    ·exact fi
    refine lo l ?_;rintro j s (⟨rfl,rfl,rfl⟩|⟨rfl,rfl,rfl⟩)
    ·refine⟨_,rfl,?_⟩;refine ob o ?_
     cases c
     ·refine ob a (ob b (ob f (ox w ?_)))
      cases t <;>
      ·exact fi
     exact fi
    refine⟨_,rfl,?_⟩;exact fi
   refine lo l ?_;rintro j s (⟨rfl,rfl,rfl⟩|⟨rfl,rfl,rfl⟩)
   ·refine⟨_,rfl,?_⟩;refine ob o ?_
    cases c
    ·refine ob a (ob b (ob g ?_))
     cases h
     ·refine ob G ?_
      cases r <;>
      ·exact fi
     exact fi
    exact fi
   refine⟨_,rfl,?_⟩;exact fi
  refine lo l ?_;rintro j s (⟨rfl,rfl,rfl⟩|⟨rfl,rfl,rfl⟩)
  ·refine⟨_,rfl,?_⟩;refine ob o ?_
   cases c
   ·exact ob a fi
   exact fi
  refine⟨_,rfl,?_⟩;exact fi
 refine co [11,21,55,56,25,58,61,65,30,68,72,15] [] (x:=.of Tryz.f109 P8 uj) ?_;refine ox f ?_
 cases n
 ·refine ox v (ox a ?_)
  cases p
  ·refine ox b ?_
   cases m
   ·refine ox g ?_
    cases h
    ·exact fi
    refine lo l ?_;rintro j s (⟨rfl,rfl,rfl⟩|⟨rfl,rfl,rfl⟩)
    ·refine⟨_,rfl,?_⟩;refine ob o ?_
     cases c
     ·exact ob a (ob b (ob f fi))
     exact fi
    refine⟨_,rfl,?_⟩;exact fi
   refine lo l ?_;rintro j s (⟨rfl,rfl,rfl⟩|⟨rfl,rfl,rfl⟩)
   ·refine⟨_,rfl,?_⟩;refine ob o ?_
    cases c
    ·refine ob a (ob b (ob g ?_))
     cases h
     ·refine ob G ?_
      cases r <;>
      ·exact fi
     exact fi
    exact fi
   refine⟨_,rfl,?_⟩;exact fi
  refine lo l ?_;rintro j s (⟨rfl,rfl,rfl⟩|⟨rfl,rfl,rfl⟩)
  ·refine⟨_,rfl,?_⟩;refine ob o ?_
   cases c
   ·exact ob a fi
   exact fi
  refine⟨_,rfl,?_⟩;exact fi
 refine ox a ?_
 cases p
 ·refine ox b ?_
  cases m
  ·refine ox g ?_
   cases h
   ·exact fi
   refine lo l ?_;rintro j s (⟨rfl,rfl,rfl⟩|⟨rfl,rfl,rfl⟩)
   ·refine⟨_,rfl,?_⟩;refine ob o ?_
    cases c
    ·refine ob a (ob b (ob f (ox w ?_)))
     cases t <;>
     ·exact fi
    exact fi
   refine⟨_,rfl,?_⟩;exact fi
  refine lo l ?_;rintro j s (⟨rfl,rfl,rfl⟩|⟨rfl,rfl,rfl⟩)
  ·refine⟨_,rfl,?_⟩;refine ob o ?_
   cases c
   ·refine ob a (ob b (ob g ?_))
    cases h
    ·refine ob G ?_
     cases r <;>
     ·exact fi
    exact fi
   exact fi
  refine⟨_,rfl,?_⟩;exact fi
 refine lo l ?_;rintro j s (⟨rfl,rfl,rfl⟩|⟨rfl,rfl,rfl⟩)
 ·refine⟨_,rfl,?_⟩;refine ob o ?_
  cases c
  ·exact ob a fi
  exact fi
 refine⟨_,rfl,?_⟩;exact fi
theorem DZ (N:s.length < 1000000000):ae 109 [.dat (lI k i s)] (bv (sY k i s)):=OU rfl rfl rfl rfl rfl rfl rfl rfl (Mv N)
noncomputable def hVE:Hints:=⟨bV,KO,bi,rowsOf bi 87⟩
def abZ (k i:Int) (s:List UInt8):Heap:=[(.loc 3,.cells [iv 0,iv 0,.dat (sb []),.dat nl]),(.loc 2,.cells [iv k,iv i,.dat (sb s),.dat nl])]
def SX (k i:Int) (s:List UInt8):ab:=⟨[(5,iv 0),(3,.ptr (.loc 3) 0),(2,.ptr (.loc 2) 0)],abZ k i s,[],0⟩
def N7 (q:Nat) (k i:Int) (s:List UInt8):ab:=⟨[(q,bv false),(5,iv 0),(3,.ptr (.loc 3) 0),(2,.ptr (.loc 2) 0)],abZ k i s,[],0⟩
theorem SF (E:T (.exit 0) ((N7 38 k i s).al An)) :
  KD (roundOf Tryz.f87 0) T ((SX k i s).al An):=by
 refine aq [] [] (H:=hVE) (live:=Jl) ?_;exact oe E
theorem SE :
  KD (.loop (roundOf Tryz.f87 0)) (fun e q=>e=.exit 0/\q=(N7 38 k i s).al An) ((SX k i s).al An):=by
 refine bm (St:=fun _=>(SX k i s).al An) 0 (fun i a=>absurd a (by omega)) ?_ (i:=0) (Nat.le_refl _);exact SF ⟨rfl,rfl⟩
theorem Wc {p d:Bool} (a:aB k 0=p) (b:aB i 0=c) (f:jP s []=d)
  (l:KD (.loop (roundOf Tryz.f87 0)) (fun e q=>e=.exit 0/\q=(N7 38 k i s).al An) ((SX k i s).al An)) :
  ae 87 [.dat (lI k i s),.dat (lI 0 0 [])] (bv (p&&(c&&d))):=by
 refine co [10,16,23] [] (x:=.of Tryz.f87 KO Jl) ?_;refine ox a ?_
 cases p
 ·exact fi
 refine ox b ?_
 cases c
 ·exact fi
 refine ox f ?_
 cases d
 ·exact fi
 refine lo l ?_;rintro g s ⟨rfl,rfl⟩;refine⟨_,rfl,?_⟩;exact fi
theorem vF:ae 87 [.dat (lI k i s),.dat (lI 0 0 [])] (bv (B5 k i s)):=Wc rfl rfl rfl SE
def cU (s:kG):List ac:=[bv s.dst,bv s.a,bv s.b,bv s.im,bv s.nm,bv s.ar,bv s.ty,bv s.con]
noncomputable def hRV:Hints:=⟨bV,cF,bi,rowsOf bi 70⟩
def ab1 (q a b:List ac):Heap:=[(.loc 5,.cells b),(.loc 3,.cells a),(.loc 2,.cells q)]
def BJ (q a b:List ac) (i:Int):ab:=⟨[(6,iv i),(5,.ptr (.loc 5) 0),(3,.ptr (.loc 3) 0),(2,.ptr (.loc 2) 0)],ab1 q a b,[],0⟩
def Cn (q a b:List ac) (i:Int):ab:=⟨[(142,bv false),(6,iv i),(5,.ptr (.loc 5) 0),(3,.ptr (.loc 3) 0),(2,.ptr (.loc 2) 0)],ab1 q a b,[],0⟩
def N8:ab:=⟨[(4,bv false)],[],[],0⟩
theorem OE {u:List Int} {t sl r:Int} {f g:ak} (j:dj f) (l:dj g) {v:List UInt8} {h:List UInt8} {s:kG} {i:Nat} (o:i < (u.map iN).length) (q:u[i]?=some t)
  (e:ae 105 [.dat (aN p sl f g),iv t] (bv c))
  (E:c=true->T .normal ((BJ (cC p sl f g) (cX r d a b m n (.slice (u.map iN)) k v x y C I h) (cU s) (an .i64 (ofNat i+1))).al iG)) (F:c=false->T .ret (N8.al iG)) :
  KD (roundOf Tryz.f70 0) T ((BJ (cC p sl f g) (cX r d a b m n (.slice (u.map iN)) k v x y C I h) (cU s) (ofNat i)).al iG):=by
 have w:=br o;have z:=wb q;have A:=aO false 2 (p:=p) (s:=sl) j l;generalize u.map iN=B at *;refine aq [142] [145,149] (H:=hRV) (live:=bu) (ob w (oo A (oo z (on e ?_))))
 cases c
 ·exact oe (F rfl)
 exact oe (E rfl)
theorem S7 {d:List ak} {sl h:Int} {f g:ak} {e:Int} {t:List UInt8} {c:List UInt8} {s:kG}
  (E:T (.exit 0) ((Cn (cC p sl f g) (cX h e a b m n (.slice d) k t x y C I c) (cU s) (ofNat d.length)).al iG)) :
  KD (roundOf Tryz.f70 0) T ((BJ (cC p sl f g) (cX h e a b m n (.slice d) k t x y C I c) (cU s) (ofNat d.length)).al iG):=by
 have j:=cj (i:=d.length) (L:=d.length) (by omega);exact aq [142] [] (H:=hRV) (live:=bu) (ob j (oe E))
theorem OH {sl g:Int} {e f:ak} {t:List UInt8} {c:List UInt8} {s:kG}
  (E:T (.exit 0) ((Cn (cC p sl e f) (cX g d a b m n nl k t x y C I c) (cU s) 0).al iG)) :
  KD (roundOf Tryz.f70 0) T ((BJ (cC p sl e f) (cX g d a b m n nl k t x y C I c) (cU s) 0).al iG):=by
 refine aq [] [] (H:=hRV) (live:=bu) ?_;exact oe E
theorem Kt {u:List Int} (N:u.length < 1000000000) {p sl r:Int} {g h:ak} (w:dj g) (z:dj h) {d a b m:Int} {o:List UInt8} {k:Int} {v:List UInt8} {x:Int} {y:ak} {C I:Int} {j:List UInt8} {s:kG} :
  KD (.loop (roundOf Tryz.f70 0)) (fun e q=>(e=.exit 0/\u.all (fun n=>eo n sl)=true/\q=(Cn (cC p sl g h) (cX r d a b m o (.slice (u.map iN)) k v x y C I j) (cU s) (ofNat (u.map iN).length)).al iG)∨(e=.ret/\u.all (fun n=>eo n sl)=false/\q=N8.al iG))
   ((BJ (cC p sl g h) (cX r d a b m o (.slice (u.map iN)) k v x y C I j) (cU s) 0).al iG):=by
 refine cV (St:=fun i=>(BJ (cC p sl g h) (cX r d a b m o (.slice (u.map iN)) k v x y C I j) (cU s) (ofNat i)).al iG) (fun i=>u.all (fun n=>eo n sl)=(u.drop i).all (fun n=>eo n sl)) (u.map iN).length ?_ ?_ (i:=0) (Nat.zero_le _) rfl
 ·intro i D l;have f:i < u.length:=by grind
  have T:u[i]?=some (u[i]):=List.getElem?_eq_getElem f;have A:(u.drop i).all (fun n=>eo n sl)=(eo u[i] sl&&(u.drop (i+1)).all (fun n=>eo n sl)):=by rw[List.drop_eq_getElem_cons f];rfl
  generalize u[i]=t at T A;rw[←l] at A;have B:=@jy p t sl _ _ w z;generalize eo t sl=c at B A;have F:an .i64 (ofNat i+1)=ofNat (i+1):=bb (by omega);refine OE w z D T B ?_ ?_
  ·rintro rfl;rw[F];exact⟨rfl,A⟩
  rintro rfl;exact .inr ⟨rfl,A,rfl⟩
 intro l;have E:u.all (fun n=>eo n sl)=true:=by
  grind
 exact S7 (.inl ⟨rfl,E,rfl⟩)
theorem OG {p sl h:Int} {f g:ak} {d a b m:Int} {n:List UInt8} {k:Int} {t:List UInt8} {x:Int} {y:ak} {C I:Int} {c:List UInt8} {s:kG} :
  KD (.loop (roundOf Tryz.f70 0)) (fun e q=>e=.exit 0/\q=(Cn (cC p sl f g) (cX h d a b m n nl k t x y C I c) (cU s) 0).al iG)
   ((BJ (cC p sl f g) (cX h d a b m n nl k t x y C I c) (cU s) 0).al iG):=by
 refine bm (St:=fun _=>(BJ (cC p sl f g) (cX h d a b m n nl k t x y C I c) (cU s) 0).al iG) 0 (fun i j=>absurd j (by omega)) ?_ (i:=0) (Nat.le_refl _);exact OH ⟨rfl,rfl⟩
def rvF (s:kG) (a:Int) (r t e u v w x y z k l m d n q o p b c f g h i j:Bool):Bool:=
 ((s.dst||r)&&((s.a||t)&&((s.b||e)&&((s.im||u)&&((s.nm||v)&&((s.ar||!w)&&((s.ty||x)&&(s.con||y)))))))) &&
 (((!(s.dst&&!k)&&(!(s.a&&!l)&&(!(s.b&&!m)&&!z)))&&d)&&(((!s.nm||n)&&((!s.ty||(q&&o))&&(!s.con||p))) &&
 (if (aB a 12||aB a 13)=true then !b&&i else if aB a 3=true then !c&&(!f&&(!h||e)) else if aB a 8=true then !b&&g else if aB a 17=true then !b&&j else if (aB a 20||aB a 22)=true then !c else true)))
def BE (n:Nat):Prop:=∀{p sl:Int} {h:List ak} {g:ak} (_:dj g) {i:List ak} {f a b m:Int} {j:List UInt8} {k:Int} {t:List UInt8} {x:Int} {y:ak} {C I:Int} {c:List UInt8} (_:dj y) {K L M N O P Q R S A B D d E J G H l s u v w z o:Bool} {F:Int},
  aB f 0=K->aB a 0=L->aB b 0=M->aB m 0=N->jP j []=O->aF 0 (ofNat i.length)=P->aF 6 (ofNat i.length)=S->ae 104 [] (.dat (Ty.mk 0 [] 0 []).enc)->ae 86 [.dat (.agg [i64 k,sb t,i64 x,y]),.dat (Ty.mk 0 [] 0 []).enc] (bv Q)->ae 87 [.dat (lI C I c),.dat (lI 0 0 [])] (bv R)->
  ae 105 [.dat (aN p sl (.slice h) g),iv f] (bv A)->ae 105 [.dat (aN p sl (.slice h) g),iv a] (bv B)->ae 105 [.dat (aN p sl (.slice h) g),iv b] (bv D)->
  ae 106 [.dat (sb j)] (bv E)->ae 107 [.dat (.agg [i64 k,sb t,i64 x,y])] (iv F)->aB F 0=J->ae 108 [.dat (.agg [i64 k,sb t,i64 x,y])] (bv G)->ae 109 [.dat (lI C I c)] (bv H)->
  aF m 0=l->aF m 1=s->aF 7 m=u->aF m 6=v->aB m 5=w->aF m (ofNat h.length)=z->(∀r,g=.slice r->aF m (ofNat r.length)=o)->(g=nl->o=l)->
  KD (.loop (roundOf Tryz.f70 0)) (fun e q=>(e=.exit 0/\d=true/\q=(Cn (cC p sl (.slice h) g) (cX (ofNat n) f a b m j (.slice i) k t x y C I c) (cU (lU (ki n))) (ofNat i.length)).al iG)∨(e=.ret/\d=false/\q=N8.al iG)) ((BJ (cC p sl (.slice h) g) (cX (ofNat n) f a b m j (.slice i) k t x y C I c) (cU (lU (ki n))) 0).al iG)->
  ae 70 [.dat (aN p sl (.slice h) g),.dat (eH (ofNat n) f a b m j (.slice i) k t x y C I c)] (bv (rvF (lU (ki n)) (ofNat n) K L M N O P Q R S A B D d E J G H l s u v w z o))
def BF (n:Nat):Prop:=∀{p sl:Int} {h:List ak} {g:ak} (_:dj g) {f a b m:Int} {i:List UInt8} {k:Int} {t:List UInt8} {x:Int} {y:ak} {C I:Int} {c:List UInt8} (_:dj y) {J K L M N O P Q R z A B d D H F G j r s u v w l:Bool} {E:Int},
  aB f 0=J->aB a 0=K->aB b 0=L->aB m 0=M->jP i []=N->O=false->R=false->d=true->ae 104 [] (.dat (Ty.mk 0 [] 0 []).enc)->ae 86 [.dat (.agg [i64 k,sb t,i64 x,y]),.dat (Ty.mk 0 [] 0 []).enc] (bv P)->ae 87 [.dat (lI C I c),.dat (lI 0 0 [])] (bv Q)->
  ae 105 [.dat (aN p sl (.slice h) g),iv f] (bv z)->ae 105 [.dat (aN p sl (.slice h) g),iv a] (bv A)->ae 105 [.dat (aN p sl (.slice h) g),iv b] (bv B)->
  ae 106 [.dat (sb i)] (bv D)->ae 107 [.dat (.agg [i64 k,sb t,i64 x,y])] (iv E)->aB E 0=H->ae 108 [.dat (.agg [i64 k,sb t,i64 x,y])] (bv F)->ae 109 [.dat (lI C I c)] (bv G)->
  aF m 0=j->aF m 1=r->aF 7 m=s->aF m 6=u->aB m 5=v->aF m (ofNat h.length)=w->(∀o,g=.slice o->aF m (ofNat o.length)=l)->(g=nl->l=j)->
  KD (.loop (roundOf Tryz.f70 0)) (fun e q=>e=.exit 0/\q=(Cn (cC p sl (.slice h) g) (cX (ofNat n) f a b m i nl k t x y C I c) (cU (lU (ki n))) 0).al iG) ((BJ (cC p sl (.slice h) g) (cX (ofNat n) f a b m i nl k t x y C I c) (cU (lU (ki n))) 0).al iG)->
  ae 70 [.dat (aN p sl (.slice h) g),.dat (eH (ofNat n) f a b m i nl k t x y C I c)] (bv (rvF (lU (ki n)) (ofNat n) J K L M N O P Q R z A B d D H F G j r s u v w l))
theorem OF {sl f:Int} {i j:ak} (l:dj i) (o:dj j) {h:ak} {t:List UInt8} {w:Int} {c:List UInt8} (q:dj h) (r:dj y) {g c2:Bool} (u:aF f 1=g) (B:aF 22 f=c2) (e:g=false->c2=true) (v:ae 62 [iv f] (.dat kG.zero.use)) :
  ae 70 [.dat (aN p sl i j),.dat (eH f d a b m n h k t w y C I c)] (bv false):=by
 have z:=aS (p:=p) (s:=sl) l o;have A:=@bw f d a b m n h k t w _ C I c q r;cases g
 ·obtain rfl:=e rfl;refine co [12,16] [2,3] (x:=.of Tryz.f70 cF bu) ?_;exact oo z (oo A (on v (ob u (ob B fi))))
 refine co [12] [2,3] (x:=.of Tryz.f70 cF bu) ?_;exact oo z (oo A (on v (ob u fi)))
theorem abB:BE 1:=by
 intro p sl j W h g e a b m n k t i y C I c f z1 P Q R S T U z8 V z t2 t3 d w1 w5 w3 L Z i1 i2 i3 i4 i5 i6 w2 u1 A B D E F H J G u8 K v2 v3 x1 x2 x5 x3 M y0 y1 y2 y3 y4 y5 N O l;have o:=fa 1 (by decide) (by decide);clear N O;have q:=@aS p sl (.slice j) _ (.inr ⟨_,rfl⟩) h;have r:=@bw (ofNat 1) e a b m n (.slice g) k t i _ C I c (.inr ⟨_,rfl⟩) f;have u:=@aO false 2 p sl (.slice j) _ (.inr ⟨_,rfl⟩) h;have v:=@bD false 3 (ofNat 1) e a b m n (.slice g) k t i y C I c (.inr ⟨_,rfl⟩) f;have w:=@bg false 3 (ofNat 1) e a b m n (.slice g) k t i y C I c (.inr ⟨_,rfl⟩) f;clear h f;refine co [33,43,53,63,74,136] [2,3,83,104,182] (x:=.of Tryz.f70 cF bu) ?_;refine oo q (oo r (on o (ox A ?_)))
 cases P
 ·exact fi
 refine ox B ?_
 cases Q
 ·exact fi
 refine ox D ?_
 cases R
 ·exact fi
 refine ox E ?_
 cases S
 ·exact fi
 refine ob F ?_
 cases T
 ·refine oo v (on J (on G ?_))
  cases U
  ·exact fi
  refine oo u (on K ?_)
  cases z
  ·exact fi
  refine ob H ?_
  cases V
  ·refine lo l ?_;rintro Y s (⟨rfl,rfl,rfl⟩|⟨rfl,rfl,rfl⟩)
   ·refine⟨_,rfl,?_⟩;refine oo w (on M ?_)
    cases L <;>
    ·exact fi
   refine⟨_,rfl,?_⟩;exact fi
  exact fi
 exact fi
theorem abC:BF 1:=by
 intro p sl i U g e a b m n k t h y C I c f z1 P Q R S z6 T z8 z9 w t2 t3 d w1 w5 w3 L W Y Z i3 i4 i5 i6 w2 u1 z A B D E G J H F u8 K v2 v3 x1 x2 x5 x3 M y0 y1 y2 y3 y4 y5 N O l;subst E G J;have j:=fa 1 (by decide) (by decide);clear N O;have o:=@aS p sl (.slice i) _ (.inr ⟨_,rfl⟩) g;have q:=@bw (ofNat 1) e a b m n nl k t h _ C I c (.inl rfl) f;have r:=@aO false 2 p sl (.slice i) _ (.inr ⟨_,rfl⟩) g;have u:=@bD false 3 (ofNat 1) e a b m n nl k t h y C I c (.inl rfl) f;have v:=@bg false 3 (ofNat 1) e a b m n nl k t h y C I c (.inl rfl) f;clear g f;refine co [33,43,53,63] [2,3,83,104,182] (x:=.of Tryz.f70 cF bu) ?_;refine oo o (oo q (on j (ox z ?_)))
 cases P
 ·exact fi
 refine ox A ?_
 cases Q
 ·exact fi
 refine ox B ?_
 cases R
 ·exact fi
 refine ox D ?_
 cases S
 ·exact fi
 refine oo u (on H (on F ?_))
 cases T
 ·exact fi
 refine oo r (on K ?_)
 cases w
 ·exact fi
 refine lo l ?_;rintro V s ⟨rfl,rfl⟩;refine⟨_,rfl,?_⟩;refine oo v (on M ?_)
 cases L <;>
 ·exact fi
theorem abz:BE 2:=by
 intro p sl j W h g e a b m n k t i y C I c f z1 z2 P Q R S T U V z A t3 d w1 w5 w3 w4 Z i1 i2 i3 i4 i5 i6 w2 u1 u2 B D E F J K G H L M v3 x1 x2 x5 x3 x4 y0 y1 y2 y3 y4 y5 N O l;have q:=fa 2 (by decide) (by decide);clear N O;have r:=@aS p sl (.slice j) _ (.inr ⟨_,rfl⟩) h;have u:=@bw (ofNat 2) e a b m n (.slice g) k t i _ C I c (.inr ⟨_,rfl⟩) f;have o:=@aO false 2 p sl (.slice j) _ (.inr ⟨_,rfl⟩) h;have v:=@bD false 3 (ofNat 2) e a b m n (.slice g) k t i y C I c (.inr ⟨_,rfl⟩) f;have w:=@bg false 3 (ofNat 2) e a b m n (.slice g) k t i y C I c (.inr ⟨_,rfl⟩) f;clear h f;refine co [43,53,63,74,136] [2,3,83,95,104,114] (x:=.of Tryz.f70 cF bu) ?_;refine oo r (oo u (on q (ox B ?_)))
 cases P
 ·exact fi
 refine ox D ?_
 cases Q
 ·exact fi
 refine ox E ?_
 cases R
 ·exact fi
 refine ob F ?_
 cases S
 ·refine oo v (on K (on G ?_))
  cases T
  ·exact fi
  refine oo w (on H ?_)
  cases U
  ·exact fi
  refine oo o (on L ?_)
  cases z
  ·exact fi
  refine oo o (on M ?_)
  cases A
  ·exact fi
  refine ob J ?_
  cases V
  ·refine lo l ?_;rintro Y s (⟨rfl,rfl,rfl⟩|⟨rfl,rfl,rfl⟩) <;>
   ·refine⟨_,rfl,?_⟩;exact fi
  exact fi
 exact fi
theorem abA:BF 2:=by
 intro p sl i U g e a b m n k t h y C I c f z1 z2 P Q R z6 S T z9 w z t3 d w1 w5 w3 w4 W Y Z i3 i4 i5 i6 w2 u1 u2 A B D E H K J F G L M v3 x1 x2 x5 x3 x4 y0 y1 y2 y3 y4 y5 N O l;subst E H K;have o:=fa 2 (by decide) (by decide);clear N O;have q:=@aS p sl (.slice i) _ (.inr ⟨_,rfl⟩) g;have r:=@bw (ofNat 2) e a b m n nl k t h _ C I c (.inl rfl) f;have j:=@aO false 2 p sl (.slice i) _ (.inr ⟨_,rfl⟩) g;have u:=@bD false 3 (ofNat 2) e a b m n nl k t h y C I c (.inl rfl) f;have v:=@bg false 3 (ofNat 2) e a b m n nl k t h y C I c (.inl rfl) f;clear g f;refine co [43,53,63] [2,3,83,95,104,114] (x:=.of Tryz.f70 cF bu) ?_;refine oo q (oo r (on o (ox A ?_)))
 cases P
 ·exact fi
 refine ox B ?_
 cases Q
 ·exact fi
 refine ox D ?_
 cases R
 ·exact fi
 refine oo u (on J (on F ?_))
 cases S
 ·exact fi
 refine oo v (on G ?_)
 cases T
 ·exact fi
 refine oo j (on L ?_)
 cases w
 ·exact fi
 refine oo j (on M ?_)
 cases z
 ·exact fi
 refine lo l ?_;rintro V s ⟨rfl,rfl⟩;refine⟨_,rfl,?_⟩;exact fi
theorem abx:BE 3:=by
 intro p sl o d2 h g e a b m n k t i y C I c f z1 z2 W z4 Y Z z7 z8 z9 D E F d w1 w5 w3 w4 i0 r u i3 v i5 i6 w2 u1 u2 G u4 H J M N K L O P Q x1 x2 x5 x3 x4 y0 R S y3 T y5 U V l;have q:=fa 3 (by decide) (by decide);clear U V;have w:=@aS p sl (.slice o) _ (.inr ⟨_,rfl⟩) h;have z:=@bw (ofNat 3) e a b m n (.slice g) k t i _ C I c (.inr ⟨_,rfl⟩) f;have j:=@aO false 2 p sl (.slice o) _ (.inr ⟨_,rfl⟩) h;have A:=@bD false 3 (ofNat 3) e a b m n (.slice g) k t i y C I c (.inr ⟨_,rfl⟩) f;have B:=@bg false 3 (ofNat 3) e a b m n (.slice g) k t i y C I c (.inr ⟨_,rfl⟩) f;clear h f;refine co [63,74,136,207,211,216,220] [2,3,83,95,104,114,125] (x:=.of Tryz.f70 cF bu) ?_;refine oo w (oo z (on q (ox H ?_)))
 cases Y
 ·exact fi
 refine ob J ?_
 cases Z
 ·refine oo A (on N (on K ?_))
  cases z7
  ·exact fi
  refine oo B (on L ?_)
  cases z8
  ·exact fi
  refine oo j (on O ?_)
  cases D
  ·exact fi
  refine oo j (on P ?_)
  cases E
  ·exact fi
  refine oo j (on Q ?_)
  cases F
  ·exact fi
  refine ob M ?_
  cases z9
  ·refine lo l ?_;rintro ex s (⟨rfl,rfl,rfl⟩|⟨rfl,rfl,rfl⟩)
   ·refine⟨_,rfl,?_⟩;refine ox R ?_
    cases r
    ·refine ox S ?_
     cases u
     ·refine ox T ?_
      cases v
      ·exact fi
      refine ob G ?_
      cases W <;>
      ·exact fi
     exact fi
    exact fi
   refine⟨_,rfl,?_⟩;exact fi
  exact fi
 exact fi
theorem aby:BF 3:=by
 intro p sl j d2 g e a b m n k t h y C I c f z1 z2 W z4 Y z6 Z z8 z9 B D E d w1 w5 w3 w4 i0 q r i3 u i5 i6 w2 u1 u2 F u4 G H L N M J K O P Q x1 x2 x5 x3 x4 y0 R S y3 T y5 U V l;subst H L N;have o:=fa 3 (by decide) (by decide);clear U V;have v:=@aS p sl (.slice j) _ (.inr ⟨_,rfl⟩) g;have w:=@bw (ofNat 3) e a b m n nl k t h _ C I c (.inl rfl) f;have i:=@aO false 2 p sl (.slice j) _ (.inr ⟨_,rfl⟩) g;have z:=@bD false 3 (ofNat 3) e a b m n nl k t h y C I c (.inl rfl) f;have A:=@bg false 3 (ofNat 3) e a b m n nl k t h y C I c (.inl rfl) f;clear g f;refine co [63,207,211,216,220] [2,3,83,95,104,114,125] (x:=.of Tryz.f70 cF bu) ?_;refine oo v (oo w (on o (ox G ?_)))
 cases Y
 ·exact fi
 refine oo z (on M (on J ?_))
 cases Z
 ·exact fi
 refine oo A (on K ?_)
 cases z8
 ·exact fi
 refine oo i (on O ?_)
 cases B
 ·exact fi
 refine oo i (on P ?_)
 cases D
 ·exact fi
 refine oo i (on Q ?_)
 cases E
 ·exact fi
 refine lo l ?_;rintro ex s ⟨rfl,rfl⟩;refine⟨_,rfl,?_⟩;refine ox R ?_
 cases q
 ·refine ox S ?_
  cases r
  ·refine ox T ?_
   cases u
   ·exact fi
   refine ob F ?_
   cases W <;>
   ·exact fi
  exact fi
 exact fi
theorem abv:BE 4:=by
 intro p sl j W h g e a b m n k t i y C I c f z1 Q R S T z6 z7 U V z t2 t3 d w1 K J w4 Z i1 i2 i3 i4 i5 i6 w2 u1 A B D E u6 G ua u7 F H v2 v3 x1 L N M x4 y0 y1 y2 y3 y4 y5 O P l;have q:=fa 4 (by decide) (by decide);clear O P;have r:=@aS p sl (.slice j) _ (.inr ⟨_,rfl⟩) h;have u:=@bw (ofNat 4) e a b m n (.slice g) k t i _ C I c (.inr ⟨_,rfl⟩) f;have v:=@aO false 2 p sl (.slice j) _ (.inr ⟨_,rfl⟩) h;have o:=@bD false 3 (ofNat 4) e a b m n (.slice g) k t i y C I c (.inr ⟨_,rfl⟩) f;have w:=@bg false 3 (ofNat 4) e a b m n (.slice g) k t i y C I c (.inr ⟨_,rfl⟩) f;clear h f;refine co [33,43,53,63,136,168] [2,3,95,104,166,171] (x:=.of Tryz.f70 cF bu) ?_;refine oo r (oo u (on q (ox A ?_)))
 cases Q
 ·exact fi
 refine ox B ?_
 cases R
 ·exact fi
 refine ox D ?_
 cases S
 ·exact fi
 refine ox E ?_
 cases T
 ·exact fi
 refine oo w (on F ?_)
 cases U
 ·exact fi
 refine oo v (on H ?_)
 cases z
 ·exact fi
 refine ob G ?_
 cases V
 ·refine lo l ?_;rintro Y s (⟨rfl,rfl,rfl⟩|⟨rfl,rfl,rfl⟩)
  ·refine⟨_,rfl,?_⟩;refine oo o (on L (ox N ?_))
   cases K
   ·exact fi
   refine oo o (on M ?_)
   cases J <;>
   ·exact fi
  refine⟨_,rfl,?_⟩;exact fi
 exact fi
theorem abw:BF 4:=by
 intro p sl i W g e a b m n k t h y C I c f z1 R S T U z6 z7 V z9 w t2 t3 d w1 L K w4 Z i1 i2 i3 i4 i5 i6 w2 u1 z A B D E G H ua u7 F J v2 v3 x1 M O N x4 y0 y1 y2 y3 y4 y5 P Q l;subst E G H;have o:=fa 4 (by decide) (by decide);clear P Q;have q:=@aS p sl (.slice i) _ (.inr ⟨_,rfl⟩) g;have r:=@bw (ofNat 4) e a b m n nl k t h _ C I c (.inl rfl) f;have u:=@aO false 2 p sl (.slice i) _ (.inr ⟨_,rfl⟩) g;have j:=@bD false 3 (ofNat 4) e a b m n nl k t h y C I c (.inl rfl) f;have v:=@bg false 3 (ofNat 4) e a b m n nl k t h y C I c (.inl rfl) f;clear g f;refine co [33,43,53,63,168] [2,3,95,104,166,171] (x:=.of Tryz.f70 cF bu) ?_;refine oo q (oo r (on o (ox z ?_)))
 cases R
 ·exact fi
 refine ox A ?_
 cases S
 ·exact fi
 refine ox B ?_
 cases T
 ·exact fi
 refine ox D ?_
 cases U
 ·exact fi
 refine oo v (on F ?_)
 cases V
 ·exact fi
 refine oo u (on J ?_)
 cases w
 ·exact fi
 refine lo l ?_;rintro Y s ⟨rfl,rfl⟩;refine⟨_,rfl,?_⟩;refine oo j (on M (ox O ?_))
 cases L
 ·exact fi
 refine oo j (on N ?_)
 cases K <;>
 ·exact fi
theorem abt:BE 5:=by
 intro p sl j W h g e a b m n k t i y C I c f z1 z2 Q R z5 S T U V z A t3 d M w5 w3 w4 Z i1 i2 i3 i4 i5 i6 w2 u1 u2 B D u5 E H J F G K L v3 N x2 x5 x3 x4 y0 y1 y2 y3 y4 y5 O P l;have q:=fa 5 (by decide) (by decide);clear O P;have r:=@aS p sl (.slice j) _ (.inr ⟨_,rfl⟩) h;have u:=@bw (ofNat 5) e a b m n (.slice g) k t i _ C I c (.inr ⟨_,rfl⟩) f;have o:=@aO false 2 p sl (.slice j) _ (.inr ⟨_,rfl⟩) h;have v:=@bD false 3 (ofNat 5) e a b m n (.slice g) k t i y C I c (.inr ⟨_,rfl⟩) f;have w:=@bg false 3 (ofNat 5) e a b m n (.slice g) k t i y C I c (.inr ⟨_,rfl⟩) f;clear h f;refine co [43,53,74,136] [2,3,83,95,104,114] (x:=.of Tryz.f70 cF bu) ?_;refine oo r (oo u (on q (ox B ?_)))
 cases Q
 ·exact fi
 refine ox D ?_
 cases R
 ·exact fi
 refine ob E ?_
 cases S
 ·refine oo v (on J (on F ?_))
  cases T
  ·exact fi
  refine oo w (on G ?_)
  cases U
  ·exact fi
  refine oo o (on K ?_)
  cases z
  ·exact fi
  refine oo o (on L ?_)
  cases A
  ·exact fi
  refine ob H ?_
  cases V
  ·refine lo l ?_;rintro Y s (⟨rfl,rfl,rfl⟩|⟨rfl,rfl,rfl⟩)
   ·refine⟨_,rfl,?_⟩;refine on N ?_
    cases M <;>
    ·exact fi
   refine⟨_,rfl,?_⟩;exact fi
  exact fi
 exact fi
theorem abu:BF 5:=by
 intro p sl i U g e a b m n k t h y C I c f z1 z2 Q R z5 z6 S T z9 w z t3 d M w5 w3 w4 W Y Z i3 i4 i5 i6 w2 u1 u2 A B u5 D G J H E F K L v3 N x2 x5 x3 x4 y0 y1 y2 y3 y4 y5 O P l;subst D G J;have o:=fa 5 (by decide) (by decide);clear O P;have q:=@aS p sl (.slice i) _ (.inr ⟨_,rfl⟩) g;have r:=@bw (ofNat 5) e a b m n nl k t h _ C I c (.inl rfl) f;have j:=@aO false 2 p sl (.slice i) _ (.inr ⟨_,rfl⟩) g;have u:=@bD false 3 (ofNat 5) e a b m n nl k t h y C I c (.inl rfl) f;have v:=@bg false 3 (ofNat 5) e a b m n nl k t h y C I c (.inl rfl) f;clear g f;refine co [43,53] [2,3,83,95,104,114] (x:=.of Tryz.f70 cF bu) ?_;refine oo q (oo r (on o (ox A ?_)))
 cases Q
 ·exact fi
 refine ox B ?_
 cases R
 ·exact fi
 refine oo u (on H (on E ?_))
 cases S
 ·exact fi
 refine oo v (on F ?_)
 cases T
 ·exact fi
 refine oo j (on K ?_)
 cases w
 ·exact fi
 refine oo j (on L ?_)
 cases z
 ·exact fi
 refine lo l ?_;rintro V s ⟨rfl,rfl⟩;refine⟨_,rfl,?_⟩;refine on N ?_
 cases M <;>
 ·exact fi
theorem abq:BE 6:=by
 intro p sl j W h g e a b m n k t i y C I c f Q z2 z3 R z5 S T U V t1 z A d M w5 w3 w4 Z i1 i2 i3 i4 i5 i6 w2 B u2 u3 D u5 E H J F G v1 K L N x2 x5 x3 x4 y0 y1 y2 y3 y4 y5 O P l;have q:=fa 6 (by decide) (by decide);clear O P;have r:=@aS p sl (.slice j) _ (.inr ⟨_,rfl⟩) h;have u:=@bw (ofNat 6) e a b m n (.slice g) k t i _ C I c (.inr ⟨_,rfl⟩) f;have o:=@aO false 2 p sl (.slice j) _ (.inr ⟨_,rfl⟩) h;have v:=@bD false 3 (ofNat 6) e a b m n (.slice g) k t i y C I c (.inr ⟨_,rfl⟩) f;have w:=@bg false 3 (ofNat 6) e a b m n (.slice g) k t i y C I c (.inr ⟨_,rfl⟩) f;clear h f;refine co [24,53,74,136] [2,3,83,95,114,125] (x:=.of Tryz.f70 cF bu) ?_;refine oo r (oo u (on q (ox B ?_)))
 cases Q
 ·exact fi
 refine ox D ?_
 cases R
 ·exact fi
 refine ob E ?_
 cases S
 ·refine oo v (on J (on F ?_))
  cases T
  ·exact fi
  refine oo w (on G ?_)
  cases U
  ·exact fi
  refine oo o (on K ?_)
  cases z
  ·exact fi
  refine oo o (on L ?_)
  cases A
  ·exact fi
  refine ob H ?_
  cases V
  ·refine lo l ?_;rintro Y s (⟨rfl,rfl,rfl⟩|⟨rfl,rfl,rfl⟩)
   ·refine⟨_,rfl,?_⟩;refine on N ?_
    cases M <;>
    ·exact fi
   refine⟨_,rfl,?_⟩;exact fi
  exact fi
 exact fi
theorem abr:BF 6:=by
 intro p sl i U g e a b m n k t h y C I c f Q z2 z3 R z5 z6 S T z9 t1 w z d M w5 w3 w4 W Y Z i3 i4 i5 i6 w2 A u2 u3 B u5 D G J H E F v1 K L N x2 x5 x3 x4 y0 y1 y2 y3 y4 y5 O P l;subst D G J;have o:=fa 6 (by decide) (by decide);clear O P;have q:=@aS p sl (.slice i) _ (.inr ⟨_,rfl⟩) g;have r:=@bw (ofNat 6) e a b m n nl k t h _ C I c (.inl rfl) f;have j:=@aO false 2 p sl (.slice i) _ (.inr ⟨_,rfl⟩) g;have u:=@bD false 3 (ofNat 6) e a b m n nl k t h y C I c (.inl rfl) f;have v:=@bg false 3 (ofNat 6) e a b m n nl k t h y C I c (.inl rfl) f;clear g f;refine co [24,53] [2,3,83,95,114,125] (x:=.of Tryz.f70 cF bu) ?_;refine oo q (oo r (on o (ox A ?_)))
 cases Q
 ·exact fi
 refine ox B ?_
 cases R
 ·exact fi
 refine oo u (on H (on E ?_))
 cases S
 ·exact fi
 refine oo v (on F ?_)
 cases T
 ·exact fi
 refine oo j (on K ?_)
 cases w
 ·exact fi
 refine oo j (on L ?_)
 cases z
 ·exact fi
 refine lo l ?_;rintro V s ⟨rfl,rfl⟩;refine⟨_,rfl,?_⟩;refine on N ?_
 cases M <;>
 ·exact fi
theorem abo:BE 7:=by
 intro p sl j U h g e a b m n k t i y C I c f z1 N O P Q z6 R S T z t2 t3 d w1 w5 w3 w4 W Y Z i3 i4 i5 i6 w2 u1 A B D E u6 H J F G K v2 v3 x1 x2 x5 x3 x4 y0 y1 y2 y3 y4 y5 L M l;have o:=fa 7 (by decide) (by decide);clear L M;have q:=@aS p sl (.slice j) _ (.inr ⟨_,rfl⟩) h;have r:=@bw (ofNat 7) e a b m n (.slice g) k t i _ C I c (.inr ⟨_,rfl⟩) f;have u:=@aO false 2 p sl (.slice j) _ (.inr ⟨_,rfl⟩) h;have v:=@bD false 3 (ofNat 7) e a b m n (.slice g) k t i y C I c (.inr ⟨_,rfl⟩) f;have w:=@bg false 3 (ofNat 7) e a b m n (.slice g) k t i y C I c (.inr ⟨_,rfl⟩) f;clear h f;refine co [33,43,53,63,136] [2,3,83,95,104] (x:=.of Tryz.f70 cF bu) ?_;refine oo q (oo r (on o (ox A ?_)))
 cases N
 ·exact fi
 refine ox B ?_
 cases O
 ·exact fi
 refine ox D ?_
 cases P
 ·exact fi
 refine ox E ?_
 cases Q
 ·exact fi
 refine oo v (on J (on F ?_))
 cases R
 ·exact fi
 refine oo w (on G ?_)
 cases S
 ·exact fi
 refine oo u (on K ?_)
 cases z
 ·exact fi
 refine ob H ?_
 cases T
 ·refine lo l ?_;rintro V s (⟨rfl,rfl,rfl⟩|⟨rfl,rfl,rfl⟩) <;>
  ·refine⟨_,rfl,?_⟩;exact fi
 exact fi
theorem abp:BF 7:=by
 intro p sl i U g e a b m n k t h y C I c f z1 O P Q R z6 S T z9 w t2 t3 d w1 w5 w3 w4 W Y Z i3 i4 i5 i6 w2 u1 z A B D E H K J F G L v2 v3 x1 x2 x5 x3 x4 y0 y1 y2 y3 y4 y5 M N l;subst E H K;have j:=fa 7 (by decide) (by decide);clear M N;have o:=@aS p sl (.slice i) _ (.inr ⟨_,rfl⟩) g;have q:=@bw (ofNat 7) e a b m n nl k t h _ C I c (.inl rfl) f;have r:=@aO false 2 p sl (.slice i) _ (.inr ⟨_,rfl⟩) g;have u:=@bD false 3 (ofNat 7) e a b m n nl k t h y C I c (.inl rfl) f;have v:=@bg false 3 (ofNat 7) e a b m n nl k t h y C I c (.inl rfl) f;clear g f;refine co [33,43,53,63] [2,3,83,95,104] (x:=.of Tryz.f70 cF bu) ?_;refine oo o (oo q (on j (ox z ?_)))
 cases O
 ·exact fi
 refine ox A ?_
 cases P
 ·exact fi
 refine ox B ?_
 cases Q
 ·exact fi
 refine ox D ?_
 cases R
 ·exact fi
 refine oo u (on J (on F ?_))
 cases S
 ·exact fi
 refine oo v (on G ?_)
 cases T
 ·exact fi
 refine oo r (on L ?_)
 cases w
 ·exact fi
 refine lo l ?_;rintro V s ⟨rfl,rfl⟩;refine⟨_,rfl,?_⟩;exact fi
theorem abm:BE 8:=by
 intro p sl j Z h g e a b m n k t i y C I c f z1 z2 S z4 T U V W Y B D t3 d w1 w5 w3 w4 r i1 i2 u i4 i5 i6 w2 u1 u2 E u4 F G K L H J M N v3 x1 x2 x5 x3 x4 O y1 y2 P y4 y5 Q R l;have q:=fa 8 (by decide) (by decide);clear Q R;have v:=@aS p sl (.slice j) _ (.inr ⟨_,rfl⟩) h;have w:=@bw (ofNat 8) e a b m n (.slice g) k t i _ C I c (.inr ⟨_,rfl⟩) f;have o:=@aO false 2 p sl (.slice j) _ (.inr ⟨_,rfl⟩) h;have z:=@bD false 3 (ofNat 8) e a b m n (.slice g) k t i y C I c (.inr ⟨_,rfl⟩) f;have A:=@bg false 3 (ofNat 8) e a b m n (.slice g) k t i y C I c (.inr ⟨_,rfl⟩) f;clear h f;refine co [43,63,74,136,227,231] [2,3,83,95,104,114] (x:=.of Tryz.f70 cF bu) ?_;refine oo v (oo w (on q (ox E ?_)))
 cases S
 ·exact fi
 refine ox F ?_
 cases T
 ·exact fi
 refine ob G ?_
 cases U
 ·refine oo z (on L (on H ?_))
  cases V
  ·exact fi
  refine oo A (on J ?_)
  cases W
  ·exact fi
  refine oo o (on M ?_)
  cases B
  ·exact fi
  refine oo o (on N ?_)
  cases D
  ·exact fi
  refine ob K ?_
  cases Y
  ·refine lo l ?_;rintro ex s (⟨rfl,rfl,rfl⟩|⟨rfl,rfl,rfl⟩)
   ·refine⟨_,rfl,?_⟩;refine ox O ?_
    cases r
    ·refine ob P ?_
     cases u <;>
     ·exact fi
    exact fi
   refine⟨_,rfl,?_⟩;exact fi
  exact fi
 exact fi
theorem abn:BF 8:=by
 intro p sl i W g e a b m n k t h y C I c f z1 z2 S z4 T z6 U V z9 A B t3 d w1 w5 w3 w4 q Z i2 r i4 i5 i6 w2 u1 u2 D u4 E F J L K G H M N v3 x1 x2 x5 x3 x4 O y1 y2 P y4 y5 Q R l;subst F J L;have o:=fa 8 (by decide) (by decide);clear Q R;have u:=@aS p sl (.slice i) _ (.inr ⟨_,rfl⟩) g;have v:=@bw (ofNat 8) e a b m n nl k t h _ C I c (.inl rfl) f;have j:=@aO false 2 p sl (.slice i) _ (.inr ⟨_,rfl⟩) g;have w:=@bD false 3 (ofNat 8) e a b m n nl k t h y C I c (.inl rfl) f;have z:=@bg false 3 (ofNat 8) e a b m n nl k t h y C I c (.inl rfl) f;clear g f;refine co [43,63,227,231] [2,3,83,95,104,114] (x:=.of Tryz.f70 cF bu) ?_;refine oo u (oo v (on o (ox D ?_)))
 cases S
 ·exact fi
 refine ox E ?_
 cases T
 ·exact fi
 refine oo w (on K (on G ?_))
 cases U
 ·exact fi
 refine oo z (on H ?_)
 cases V
 ·exact fi
 refine oo j (on M ?_)
 cases A
 ·exact fi
 refine oo j (on N ?_)
 cases B
 ·exact fi
 refine lo l ?_;rintro Y s ⟨rfl,rfl⟩;refine⟨_,rfl,?_⟩;refine ox O ?_
 cases q
 ·refine ob P ?_
  cases r <;>
  ·exact fi
 exact fi
theorem abk:BE 9:=by
 intro p sl j Z h g e a b m n k t i y C I c f z1 z2 S T U V z7 W Y z A t3 d w1 M L w4 i0 i1 i2 i3 i4 i5 i6 w2 u1 u2 B D E F H ua u7 G J K v3 x1 N P O x4 y0 y1 y2 y3 y4 y5 Q R l;have r:=fa 9 (by decide) (by decide);clear Q R;have u:=@aS p sl (.slice j) _ (.inr ⟨_,rfl⟩) h;have v:=@bw (ofNat 9) e a b m n (.slice g) k t i _ C I c (.inr ⟨_,rfl⟩) f;have o:=@aO false 2 p sl (.slice j) _ (.inr ⟨_,rfl⟩) h;have q:=@bD false 3 (ofNat 9) e a b m n (.slice g) k t i y C I c (.inr ⟨_,rfl⟩) f;have w:=@bg false 3 (ofNat 9) e a b m n (.slice g) k t i y C I c (.inr ⟨_,rfl⟩) f;clear h f;refine co [43,53,63,74,136,168] [2,3,95,104,114,166,171] (x:=.of Tryz.f70 cF bu) ?_;refine oo u (oo v (on r (ox B ?_)))
 cases S
 ·exact fi
 refine ox D ?_
 cases T
 ·exact fi
 refine ox E ?_
 cases U
 ·exact fi
 refine ob F ?_
 cases V
 ·refine oo w (on G ?_)
  cases W
  ·exact fi
  refine oo o (on J ?_)
  cases z
  ·exact fi
  refine oo o (on K ?_)
  cases A
  ·exact fi
  refine ob H ?_
  cases Y
  ·refine lo l ?_;rintro ex s (⟨rfl,rfl,rfl⟩|⟨rfl,rfl,rfl⟩)
   ·refine⟨_,rfl,?_⟩;refine oo q (on N (ox P ?_))
    cases M
    ·exact fi
    refine oo q (on O ?_)
    cases L <;>
    ·exact fi
   refine⟨_,rfl,?_⟩;exact fi
  exact fi
 exact fi
theorem abl:BF 9:=by
 intro p sl i W g e a b m n k t h y C I c f z1 z2 S T U z6 z7 V z9 w z t3 d w1 M L w4 Z i1 i2 i3 i4 i5 i6 w2 u1 u2 A B D E G H ua u7 F J K v3 x1 N P O x4 y0 y1 y2 y3 y4 y5 Q R l;subst E G H;have q:=fa 9 (by decide) (by decide);clear Q R;have r:=@aS p sl (.slice i) _ (.inr ⟨_,rfl⟩) g;have u:=@bw (ofNat 9) e a b m n nl k t h _ C I c (.inl rfl) f;have j:=@aO false 2 p sl (.slice i) _ (.inr ⟨_,rfl⟩) g;have o:=@bD false 3 (ofNat 9) e a b m n nl k t h y C I c (.inl rfl) f;have v:=@bg false 3 (ofNat 9) e a b m n nl k t h y C I c (.inl rfl) f;clear g f;refine co [43,53,63,168] [2,3,95,104,114,166,171] (x:=.of Tryz.f70 cF bu) ?_;refine oo r (oo u (on q (ox A ?_)))
 cases S
 ·exact fi
 refine ox B ?_
 cases T
 ·exact fi
 refine ox D ?_
 cases U
 ·exact fi
 refine oo v (on F ?_)
 cases V
 ·exact fi
 refine oo j (on J ?_)
 cases w
 ·exact fi
 refine oo j (on K ?_)
 cases z
 ·exact fi
 refine lo l ?_;rintro Y s ⟨rfl,rfl⟩;refine⟨_,rfl,?_⟩;refine oo o (on N (ox P ?_))
 cases M
 ·exact fi
 refine oo o (on O ?_)
 cases L <;>
 ·exact fi
theorem Xi:BE 10:=by
 intro p sl j U h g e a b m n k t i y C I c f z1 O P Q z5 z6 R S T z t2 t3 d K w5 w3 w4 W Y Z i3 i4 i5 i6 w2 u1 A B D u5 u6 G H E F J v2 v3 L x2 x5 x3 x4 y0 y1 y2 y3 y4 y5 M N l;have o:=fa 10 (by decide) (by decide);clear M N;have q:=@aS p sl (.slice j) _ (.inr ⟨_,rfl⟩) h;have r:=@bw (ofNat 10) e a b m n (.slice g) k t i _ C I c (.inr ⟨_,rfl⟩) f;have u:=@aO false 2 p sl (.slice j) _ (.inr ⟨_,rfl⟩) h;have v:=@bD false 3 (ofNat 10) e a b m n (.slice g) k t i y C I c (.inr ⟨_,rfl⟩) f;have w:=@bg false 3 (ofNat 10) e a b m n (.slice g) k t i y C I c (.inr ⟨_,rfl⟩) f;clear h f;refine co [33,43,53,136] [2,3,83,95,104] (x:=.of Tryz.f70 cF bu) ?_;refine oo q (oo r (on o (ox A ?_)))
 cases O
 ·exact fi
 refine ox B ?_
 cases P
 ·exact fi
 refine ox D ?_
 cases Q
 ·exact fi
 refine oo v (on H (on E ?_))
 cases R
 ·exact fi
 refine oo w (on F ?_)
 cases S
 ·exact fi
 refine oo u (on J ?_)
 cases z
 ·exact fi
 refine ob G ?_
 cases T
 ·refine lo l ?_;rintro V s (⟨rfl,rfl,rfl⟩|⟨rfl,rfl,rfl⟩)
  ·refine⟨_,rfl,?_⟩;refine on L ?_
   cases K <;>
   ·exact fi
  refine⟨_,rfl,?_⟩;exact fi
 exact fi
theorem Xj:BF 10:=by
 intro p sl i U g e a b m n k t h y C I c f z1 P Q R z5 z6 S T z9 w t2 t3 d L w5 w3 w4 W Y Z i3 i4 i5 i6 w2 u1 z A B u5 D G J H E F K v2 v3 M x2 x5 x3 x4 y0 y1 y2 y3 y4 y5 N O l;subst D G J;have j:=fa 10 (by decide) (by decide);clear N O;have o:=@aS p sl (.slice i) _ (.inr ⟨_,rfl⟩) g;have q:=@bw (ofNat 10) e a b m n nl k t h _ C I c (.inl rfl) f;have r:=@aO false 2 p sl (.slice i) _ (.inr ⟨_,rfl⟩) g;have u:=@bD false 3 (ofNat 10) e a b m n nl k t h y C I c (.inl rfl) f;have v:=@bg false 3 (ofNat 10) e a b m n nl k t h y C I c (.inl rfl) f;clear g f;refine co [33,43,53] [2,3,83,95,104] (x:=.of Tryz.f70 cF bu) ?_;refine oo o (oo q (on j (ox z ?_)))
 cases P
 ·exact fi
 refine ox A ?_
 cases Q
 ·exact fi
 refine ox B ?_
 cases R
 ·exact fi
 refine oo u (on H (on E ?_))
 cases S
 ·exact fi
 refine oo v (on F ?_)
 cases T
 ·exact fi
 refine oo r (on K ?_)
 cases w
 ·exact fi
 refine lo l ?_;rintro V s ⟨rfl,rfl⟩;refine⟨_,rfl,?_⟩;refine on M ?_
 cases L <;>
 ·exact fi
theorem Xg:BE 11:=by
 intro p sl j U h g e a b m n k t i y C I c f z1 O P Q z5 z6 R S T z t2 t3 d K w5 w3 w4 W Y Z i3 i4 i5 i6 w2 u1 A B D u5 u6 G H E F J v2 v3 L x2 x5 x3 x4 y0 y1 y2 y3 y4 y5 M N l;have o:=fa 11 (by decide) (by decide);clear M N;have q:=@aS p sl (.slice j) _ (.inr ⟨_,rfl⟩) h;have r:=@bw (ofNat 11) e a b m n (.slice g) k t i _ C I c (.inr ⟨_,rfl⟩) f;have u:=@aO false 2 p sl (.slice j) _ (.inr ⟨_,rfl⟩) h;have v:=@bD false 3 (ofNat 11) e a b m n (.slice g) k t i y C I c (.inr ⟨_,rfl⟩) f;have w:=@bg false 3 (ofNat 11) e a b m n (.slice g) k t i y C I c (.inr ⟨_,rfl⟩) f;clear h f;refine co [33,43,53,136] [2,3,83,95,104] (x:=.of Tryz.f70 cF bu) ?_;refine oo q (oo r (on o (ox A ?_)))
 cases O
 ·exact fi
 refine ox B ?_
 cases P
 ·exact fi
 refine ox D ?_
 cases Q
 ·exact fi
 refine oo v (on H (on E ?_))
 cases R
 ·exact fi
 refine oo w (on F ?_)
 cases S
 ·exact fi
 refine oo u (on J ?_)
 cases z
 ·exact fi
 refine ob G ?_
 cases T
 ·refine lo l ?_;rintro V s (⟨rfl,rfl,rfl⟩|⟨rfl,rfl,rfl⟩)
  ·refine⟨_,rfl,?_⟩;refine on L ?_
   cases K <;>
   ·exact fi
  refine⟨_,rfl,?_⟩;exact fi
 exact fi
theorem Xh:BF 11:=by
 intro p sl i U g e a b m n k t h y C I c f z1 P Q R z5 z6 S T z9 w t2 t3 d L w5 w3 w4 W Y Z i3 i4 i5 i6 w2 u1 z A B u5 D G J H E F K v2 v3 M x2 x5 x3 x4 y0 y1 y2 y3 y4 y5 N O l;subst D G J;have j:=fa 11 (by decide) (by decide);clear N O;have o:=@aS p sl (.slice i) _ (.inr ⟨_,rfl⟩) g;have q:=@bw (ofNat 11) e a b m n nl k t h _ C I c (.inl rfl) f;have r:=@aO false 2 p sl (.slice i) _ (.inr ⟨_,rfl⟩) g;have u:=@bD false 3 (ofNat 11) e a b m n nl k t h y C I c (.inl rfl) f;have v:=@bg false 3 (ofNat 11) e a b m n nl k t h y C I c (.inl rfl) f;clear g f;refine co [33,43,53] [2,3,83,95,104] (x:=.of Tryz.f70 cF bu) ?_;refine oo o (oo q (on j (ox z ?_)))
 cases P
 ·exact fi
 refine ox A ?_
 cases Q
 ·exact fi
 refine ox B ?_
 cases R
 ·exact fi
 refine oo u (on H (on E ?_))
 cases S
 ·exact fi
 refine oo v (on F ?_)
 cases T
 ·exact fi
 refine oo r (on K ?_)
 cases w
 ·exact fi
 refine lo l ?_;rintro V s ⟨rfl,rfl⟩;refine⟨_,rfl,?_⟩;refine on M ?_
 cases L <;>
 ·exact fi
theorem Xe:BE 12:=by
 intro p sl j Y h g e a b m n k t i y C I c f P Q R z4 S T U V W t1 t2 t3 d w1 w5 w3 w4 q i1 i2 i3 i4 r i6 w2 A B D u4 E F J K G H v1 v2 v3 x1 x2 x5 x3 x4 L y1 y2 y3 y4 M N O l;have o:=fa 12 (by decide) (by decide);clear N O;have u:=@aS p sl (.slice j) _ (.inr ⟨_,rfl⟩) h;have v:=@bw (ofNat 12) e a b m n (.slice g) k t i _ C I c (.inr ⟨_,rfl⟩) f;have q3:=@aO false 2 p sl (.slice j) _ (.inr ⟨_,rfl⟩) h;have w:=@bD false 3 (ofNat 12) e a b m n (.slice g) k t i y C I c (.inr ⟨_,rfl⟩) f;have z:=@bg false 3 (ofNat 12) e a b m n (.slice g) k t i y C I c (.inr ⟨_,rfl⟩) f;clear h f;refine co [24,33,43,63,74,136,194,201] [2,3,83,95] (x:=.of Tryz.f70 cF bu) ?_;refine oo u (oo v (on o (ox A ?_)))
 cases P
 ·exact fi
 refine ox B ?_
 cases Q
 ·exact fi
 refine ox D ?_
 cases R
 ·exact fi
 refine ox E ?_
 cases S
 ·exact fi
 refine ob F ?_
 cases T
 ·refine oo w (on K (on G ?_))
  cases U
  ·exact fi
  refine oo z (on H ?_)
  cases V
  ·exact fi
  refine ob J ?_
  cases W
  ·refine lo l ?_;rintro Z s (⟨rfl,rfl,rfl⟩|⟨rfl,rfl,rfl⟩)
   ·refine⟨_,rfl,?_⟩;refine ox L ?_
    cases q
    ·refine ob M ?_
     cases r <;>
     ·exact fi
    exact fi
   refine⟨_,rfl,?_⟩;exact fi
  exact fi
 exact fi
theorem Xf:BF 12:=by
 intro p sl i V g e a b m n k t h y C I c f P Q R z4 S z6 T U z9 t1 t2 t3 d w1 w5 w3 w4 o Y Z i3 i4 q i6 w2 z A B u4 D E H K J F G v1 v2 v3 x1 x2 x5 x3 x4 L y1 y2 y3 y4 M N O l;subst E H K;have j:=fa 12 (by decide) (by decide);clear N O;have r:=@aS p sl (.slice i) _ (.inr ⟨_,rfl⟩) g;have u:=@bw (ofNat 12) e a b m n nl k t h _ C I c (.inl rfl) f;have q3:=@aO false 2 p sl (.slice i) _ (.inr ⟨_,rfl⟩) g;have v:=@bD false 3 (ofNat 12) e a b m n nl k t h y C I c (.inl rfl) f;have w:=@bg false 3 (ofNat 12) e a b m n nl k t h y C I c (.inl rfl) f;clear g f;refine co [24,33,43,63,194,201] [2,3,83,95] (x:=.of Tryz.f70 cF bu) ?_;refine oo r (oo u (on j (ox z ?_)))
 cases P
 ·exact fi
 refine ox A ?_
 cases Q
 ·exact fi
 refine ox B ?_
 cases R
 ·exact fi
 refine ox D ?_
 cases S
 ·exact fi
 refine oo v (on J (on F ?_))
 cases T
 ·exact fi
 refine oo w (on G ?_)
 cases U
 ·exact fi
 refine lo l ?_;rintro W s ⟨rfl,rfl⟩;refine⟨_,rfl,?_⟩;refine ox L ?_
 cases o
 ·refine ob M ?_
  cases q <;>
  ·exact fi
 exact fi
theorem Xc:BE 13:=by
 intro p sl j Z h g e a b m n k t i y C I c f R z2 S z4 T U V W Y t1 B t3 d w1 w5 w3 w4 q i1 i2 i3 i4 r i6 w2 D u2 E u4 F G K L H J v1 M v3 x1 x2 x5 x3 x4 N y1 y2 y3 y4 O P Q l;have o:=fa 13 (by decide) (by decide);clear P Q;have u:=@aS p sl (.slice j) _ (.inr ⟨_,rfl⟩) h;have v:=@bw (ofNat 13) e a b m n (.slice g) k t i _ C I c (.inr ⟨_,rfl⟩) f;have w:=@aO false 2 p sl (.slice j) _ (.inr ⟨_,rfl⟩) h;have z:=@bD false 3 (ofNat 13) e a b m n (.slice g) k t i y C I c (.inr ⟨_,rfl⟩) f;have A:=@bg false 3 (ofNat 13) e a b m n (.slice g) k t i y C I c (.inr ⟨_,rfl⟩) f;clear h f;refine co [24,43,63,74,136,194,201] [2,3,83,95,114] (x:=.of Tryz.f70 cF bu) ?_;refine oo u (oo v (on o (ox D ?_)))
 cases R
 ·exact fi
 refine ox E ?_
 cases S
 ·exact fi
 refine ox F ?_
 cases T
 ·exact fi
 refine ob G ?_
 cases U
 ·refine oo z (on L (on H ?_))
  cases V
  ·exact fi
  refine oo A (on J ?_)
  cases W
  ·exact fi
  refine oo w (on M ?_)
  cases B
  ·exact fi
  refine ob K ?_
  cases Y
  ·refine lo l ?_;rintro ex s (⟨rfl,rfl,rfl⟩|⟨rfl,rfl,rfl⟩)
   ·refine⟨_,rfl,?_⟩;refine ox N ?_
    cases q
    ·refine ob O ?_
     cases r <;>
     ·exact fi
    exact fi
   refine⟨_,rfl,?_⟩;exact fi
  exact fi
 exact fi
theorem Xd:BF 13:=by
 intro p sl i W g e a b m n k t h y C I c f R z2 S z4 T z6 U V z9 t1 A t3 d w1 w5 w3 w4 o Z i2 i3 i4 q i6 w2 B u2 D u4 E F J L K G H v1 M v3 x1 x2 x5 x3 x4 N y1 y2 y3 y4 O P Q l;subst F J L;have j:=fa 13 (by decide) (by decide);clear P Q;have r:=@aS p sl (.slice i) _ (.inr ⟨_,rfl⟩) g;have u:=@bw (ofNat 13) e a b m n nl k t h _ C I c (.inl rfl) f;have v:=@aO false 2 p sl (.slice i) _ (.inr ⟨_,rfl⟩) g;have w:=@bD false 3 (ofNat 13) e a b m n nl k t h y C I c (.inl rfl) f;have z:=@bg false 3 (ofNat 13) e a b m n nl k t h y C I c (.inl rfl) f;clear g f;refine co [24,43,63,194,201] [2,3,83,95,114] (x:=.of Tryz.f70 cF bu) ?_;refine oo r (oo u (on j (ox B ?_)))
 cases R
 ·exact fi
 refine ox D ?_
 cases S
 ·exact fi
 refine ox E ?_
 cases T
 ·exact fi
 refine oo w (on K (on G ?_))
 cases U
 ·exact fi
 refine oo z (on H ?_)
 cases V
 ·exact fi
 refine oo v (on M ?_)
 cases A
 ·exact fi
 refine lo l ?_;rintro Y s ⟨rfl,rfl⟩;refine⟨_,rfl,?_⟩;refine ox N ?_
 cases o
 ·refine ob O ?_
  cases q <;>
  ·exact fi
 exact fi
theorem Xa:BE 14:=by
 intro p sl j V h g e a b m n k t i y C I c f M N O P Q R S T U t1 t2 t3 d w1 w5 w3 w4 Y Z i2 i3 i4 i5 i6 w2 w z A B D E H J F G v1 v2 v3 x1 x2 x5 x3 x4 y0 y1 y2 y3 y4 y5 K L l;have o:=fa 14 (by decide) (by decide);clear K L;have q:=@aS p sl (.slice j) _ (.inr ⟨_,rfl⟩) h;have r:=@bw (ofNat 14) e a b m n (.slice g) k t i _ C I c (.inr ⟨_,rfl⟩) f;have q3:=@aO false 2 p sl (.slice j) _ (.inr ⟨_,rfl⟩) h;have u:=@bD false 3 (ofNat 14) e a b m n (.slice g) k t i y C I c (.inr ⟨_,rfl⟩) f;have v:=@bg false 3 (ofNat 14) e a b m n (.slice g) k t i y C I c (.inr ⟨_,rfl⟩) f;clear h f;refine co [24,33,43,53,63,74,136] [2,3,83,95] (x:=.of Tryz.f70 cF bu) ?_;refine oo q (oo r (on o (ox w ?_)))
 cases M
 ·exact fi
 refine ox z ?_
 cases N
 ·exact fi
 refine ox A ?_
 cases O
 ·exact fi
 refine ox B ?_
 cases P
 ·exact fi
 refine ox D ?_
 cases Q
 ·exact fi
 refine ob E ?_
 cases R
 ·refine oo u (on J (on F ?_))
  cases S
  ·exact fi
  refine oo v (on G ?_)
  cases T
  ·exact fi
  refine ob H ?_
  cases U
  ·refine lo l ?_;rintro W s (⟨rfl,rfl,rfl⟩|⟨rfl,rfl,rfl⟩) <;>
   ·refine⟨_,rfl,?_⟩;exact fi
  exact fi
 exact fi
theorem Xb:BF 14:=by
 intro p sl i T g e a b m n k t h y C I c f M N O P Q z6 R S z9 t1 t2 t3 d w1 w5 w3 w4 V W Y Z i4 i5 i6 w2 v w z A B D G J H E F v1 v2 v3 x1 x2 x5 x3 x4 y0 y1 y2 y3 y4 y5 K L l;subst D G J;have j:=fa 14 (by decide) (by decide);clear K L;have o:=@aS p sl (.slice i) _ (.inr ⟨_,rfl⟩) g;have q:=@bw (ofNat 14) e a b m n nl k t h _ C I c (.inl rfl) f;have q3:=@aO false 2 p sl (.slice i) _ (.inr ⟨_,rfl⟩) g;have r:=@bD false 3 (ofNat 14) e a b m n nl k t h y C I c (.inl rfl) f;have u:=@bg false 3 (ofNat 14) e a b m n nl k t h y C I c (.inl rfl) f;clear g f;refine co [24,33,43,53,63] [2,3,83,95] (x:=.of Tryz.f70 cF bu) ?_;refine oo o (oo q (on j (ox v ?_)))
 cases M
 ·exact fi
 refine ox w ?_
 cases N
 ·exact fi
 refine ox z ?_
 cases O
 ·exact fi
 refine ox A ?_
 cases P
 ·exact fi
 refine ox B ?_
 cases Q
 ·exact fi
 refine oo r (on H (on E ?_))
 cases R
 ·exact fi
 refine oo u (on F ?_)
 cases S
 ·exact fi
 refine lo l ?_;rintro U s ⟨rfl,rfl⟩;refine⟨_,rfl,?_⟩;exact fi
theorem W8:BE 15:=by
 intro p sl j W h g e a b m n k t i y C I c f O z2 P Q R S T U V t1 z t3 d w1 w5 w3 w4 Z i1 i2 i3 i4 i5 i6 w2 A u2 B D E F J K G H v1 L v3 x1 x2 x5 x3 x4 y0 y1 y2 y3 y4 y5 M N l;have o:=fa 15 (by decide) (by decide);clear M N;have q:=@aS p sl (.slice j) _ (.inr ⟨_,rfl⟩) h;have r:=@bw (ofNat 15) e a b m n (.slice g) k t i _ C I c (.inr ⟨_,rfl⟩) f;have u:=@aO false 2 p sl (.slice j) _ (.inr ⟨_,rfl⟩) h;have v:=@bD false 3 (ofNat 15) e a b m n (.slice g) k t i y C I c (.inr ⟨_,rfl⟩) f;have w:=@bg false 3 (ofNat 15) e a b m n (.slice g) k t i y C I c (.inr ⟨_,rfl⟩) f;clear h f;refine co [24,43,53,63,74,136] [2,3,83,95,114] (x:=.of Tryz.f70 cF bu) ?_;refine oo q (oo r (on o (ox A ?_)))
 cases O
 ·exact fi
 refine ox B ?_
 cases P
 ·exact fi
 refine ox D ?_
 cases Q
 ·exact fi
 refine ox E ?_
 cases R
 ·exact fi
 refine ob F ?_
 cases S
 ·refine oo v (on K (on G ?_))
  cases T
  ·exact fi
  refine oo w (on H ?_)
  cases U
  ·exact fi
  refine oo u (on L ?_)
  cases z
  ·exact fi
  refine ob J ?_
  cases V
  ·refine lo l ?_;rintro Y s (⟨rfl,rfl,rfl⟩|⟨rfl,rfl,rfl⟩) <;>
   ·refine⟨_,rfl,?_⟩;exact fi
  exact fi
 exact fi
theorem W9:BF 15:=by
 intro p sl i U g e a b m n k t h y C I c f O z2 P Q R z6 S T z9 t1 w t3 d w1 w5 w3 w4 W Y Z i3 i4 i5 i6 w2 z u2 A B D E H K J F G v1 L v3 x1 x2 x5 x3 x4 y0 y1 y2 y3 y4 y5 M N l;subst E H K;have j:=fa 15 (by decide) (by decide);clear M N;have o:=@aS p sl (.slice i) _ (.inr ⟨_,rfl⟩) g;have q:=@bw (ofNat 15) e a b m n nl k t h _ C I c (.inl rfl) f;have r:=@aO false 2 p sl (.slice i) _ (.inr ⟨_,rfl⟩) g;have u:=@bD false 3 (ofNat 15) e a b m n nl k t h y C I c (.inl rfl) f;have v:=@bg false 3 (ofNat 15) e a b m n nl k t h y C I c (.inl rfl) f;clear g f;refine co [24,43,53,63] [2,3,83,95,114] (x:=.of Tryz.f70 cF bu) ?_;refine oo o (oo q (on j (ox z ?_)))
 cases O
 ·exact fi
 refine ox A ?_
 cases P
 ·exact fi
 refine ox B ?_
 cases Q
 ·exact fi
 refine ox D ?_
 cases R
 ·exact fi
 refine oo u (on J (on F ?_))
 cases S
 ·exact fi
 refine oo v (on G ?_)
 cases T
 ·exact fi
 refine oo r (on L ?_)
 cases w
 ·exact fi
 refine lo l ?_;rintro V s ⟨rfl,rfl⟩;refine⟨_,rfl,?_⟩;exact fi
end Go.Proofs.YtmpmgmmcaghacaaGreatDoor
